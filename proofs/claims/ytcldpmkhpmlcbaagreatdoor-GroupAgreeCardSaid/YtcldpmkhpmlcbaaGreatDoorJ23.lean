/- Transactions that came in, opened: how they lie in memory; the tables of unicode/utf8, off the row's list. -/
import Derived.Test.YtcldpmkhpmlcbaaGreatDoorJ1
import Derived.Test.YtcldpmkhpmlcbaaGreatDoorJ21
import Derived.Test.YtcldpmkhpmlcbaaGreatDoorJ5
import Derived.Test.YtcldpmkhpmlcbaaGreatDoorRows
import Derived.Deep.Slices
import Derived.Lib.LaidU8T
import Derived.PinnedBridge
import Derived.MakeChecks
import Derived.Test.YtcldpmkhpmlcbaaGreatDoorJ17
import Derived.Test.YtcldpmkhpmlcbaaGreatDoorJ19
import Derived.Test.YtcldpmkhpmlcbaaGreatDoorJ22
set_option linter.unusedVariables false
set_option linter.unusedSimpArgs false
namespace Go.Proofs.YtcldpmkhpmlcbaaGreatDoor
open Go.ChangeShapes Go.WideShapes Go.ChangeAt Go.RowKit Go.Joins Go.Deep

theorem cells_id : Tryz.prog.cellsOf 34 = 2 := by kernel_rfl
theorem cells_val : Tryz.prog.cellsOf 66 = 3 := by kernel_rfl
theorem cells_rd : Tryz.prog.cellsOf 77 = 2 := by kernel_rfl
theorem cells_wr : Tryz.prog.cellsOf 79 = 4 := by kernel_rfl
theorem cells_txn : Tryz.prog.cellsOf 38 = 4 := by kernel_rfl
theorem cells_rds : Tryz.prog.cellsOf 35 = 1 := by kernel_rfl
theorem cells_wrs : Tryz.prog.cellsOf 36 = 1 := by kernel_rfl
theorem cells_u64 : Tryz.prog.cellsOf 39 = 1 := by kernel_rfl

theorem len_2 {α : Type} {l : List α} (h : l.length = 2) : ∃ a b, l = [a, b] := by
  match l, h with
  | [a, b], _ => exact ⟨a, b, rfl⟩
theorem len_3 {α : Type} {l : List α} (h : l.length = 3) : ∃ a b c, l = [a, b, c] := by
  match l, h with
  | [a, b, c], _ => exact ⟨a, b, c, rfl⟩
theorem len_4 {α : Type} {l : List α} (h : l.length = 4) : ∃ a b c d, l = [a, b, c, d] := by
  match l, h with
  | [a, b, c, d], _ => exact ⟨a, b, c, d, rfl⟩
section
variable {H : Type} {enc : TypeId × Value → H} {w : World} {base fuel : Nat} {sp : Nat → Bool} {held : Bool} {cs : List Value} {x : DataW H × List MemPlace}

theorem cells_int1 (h : DataW.trod enc Tryz.prog w base sp held fuel 3 cs = some x) : ∃ z : Int, cs = [.int .i64 z] ∧ -9223372036854775808 ≤ z ∧ z ≤ 9223372036854775807 := by
  obtain ⟨z, rfl, _, wz⟩ := DataW.trod_int Tryz.underlying3 h
  obtain ⟨h0, h1⟩ := bounds_i64 wz
  exact ⟨z, rfl, h0, h1⟩
theorem cells_u641 (h : DataW.trod enc Tryz.prog w base sp held fuel 39 cs = some x) : ∃ n : Nat, cs = [.int .u64 n] ∧ n < 18446744073709551616 := by
  obtain ⟨z, rfl, _, wz⟩ := DataW.trod_int Tryz.underlying39 h
  obtain ⟨h0, h1⟩ := bounds_u64 wz
  obtain ⟨n, rfl⟩ := Int.eq_ofNat_of_zero_le h0
  exact ⟨n, rfl, by omega⟩
theorem cells_str1 (h : DataW.trod enc Tryz.prog w base sp held fuel 9 cs = some x) : ∃ s : ByteArray, cs = [.string s] ∧ s.size ≤ 9223372036854775807 := by
  obtain ⟨s, rfl, _, hs⟩ := DataW.trod_string Tryz.underlying9 h
  exact ⟨s, rfl, le_max hs⟩
theorem id_cells (h : DataW.trod enc Tryz.prog w base sp held fuel 34 cs = some x) : ∃ s q : Int, cs = [.int .i64 s, .int .i64 q] ∧ -9223372036854775808 ≤ s ∧ s ≤ 9223372036854775807 ∧ -9223372036854775808 ≤ q ∧ q ≤ 9223372036854775807 := by
  obtain ⟨xs, n, _, _, hc, hl, hf⟩ := DataW.trod_struct Tryz.underlying34 h
  rw [cells_id] at hc
  obtain ⟨a, b, rfl⟩ := len_2 hc
  obtain ⟨u, v, rfl⟩ := len_2 (l := xs) hl
  have g0 := hf 0 _ rfl
  have g1 := hf 1 _ rfl
  simp [cells_int] at g0 g1
  obtain ⟨s, e0, h0, h1⟩ := cells_int1 g0
  obtain ⟨q, e1, h2, h3⟩ := cells_int1 g1
  simp at e0 e1
  subst e0 e1
  exact ⟨s, q, rfl, h0, h1, h2, h3⟩
theorem val_cells (h : DataW.trod enc Tryz.prog w base sp held fuel 66 cs = some x) : ∃ v : Val, cs = [.int .i64 v.kind, .int .u64 v.bits, .string v.text] ∧ v.Good := by
  obtain ⟨xs, n, _, _, hc, hl, hf⟩ := DataW.trod_struct Tryz.underlying66 h
  rw [cells_val] at hc
  obtain ⟨a, b, c, rfl⟩ := len_3 hc
  obtain ⟨u, v, y, rfl⟩ := len_3 (l := xs) hl
  have g0 := hf 0 _ rfl
  have g1 := hf 1 _ rfl
  have g2 := hf 2 _ rfl
  simp [cells_int, cells_u64, cells_str] at g0 g1 g2
  obtain ⟨k, e0, h0, h1⟩ := cells_int1 g0
  obtain ⟨m, e1, h2⟩ := cells_u641 g1
  obtain ⟨s, e2, h3⟩ := cells_str1 g2
  simp at e0 e1 e2
  subst e0 e1 e2
  exact ⟨⟨k, m, s⟩, rfl, h2, h3, h0, h1⟩
theorem rd_cells (h : DataW.trod enc Tryz.prog w base sp held fuel 77 cs = some x) : ∃ r : Rd, cs = [.string r.key, .int .u64 r.ver] ∧ r.key.size ≤ 9223372036854775807 ∧ r.ver < 18446744073709551616 := by
  obtain ⟨xs, n, _, _, hc, hl, hf⟩ := DataW.trod_struct Tryz.underlying77 h
  rw [cells_rd] at hc
  obtain ⟨a, b, rfl⟩ := len_2 hc
  obtain ⟨u, v, rfl⟩ := len_2 (l := xs) hl
  have g0 := hf 0 _ rfl
  have g1 := hf 1 _ rfl
  simp [cells_u64, cells_str] at g0 g1
  obtain ⟨s, e0, h0⟩ := cells_str1 g0
  obtain ⟨m, e1, h1⟩ := cells_u641 g1
  simp at e0 e1
  subst e0 e1
  exact ⟨⟨s, m⟩, rfl, h0, h1⟩
theorem wr_cells (h : DataW.trod enc Tryz.prog w base sp held fuel 79 cs = some x) : ∃ r : Wr, cs = [.string r.key, .int .i64 r.val.kind, .int .u64 r.val.bits, .string r.val.text] ∧ r.key.size ≤ 9223372036854775807 ∧ r.val.Good := by
  obtain ⟨xs, n, _, _, hc, hl, hf⟩ := DataW.trod_struct Tryz.underlying79 h
  rw [cells_wr] at hc
  obtain ⟨a, b, c, d, rfl⟩ := len_4 hc
  obtain ⟨u, v, rfl⟩ := len_2 (l := xs) hl
  have g0 := hf 0 _ rfl
  have g1 := hf 1 _ rfl
  simp [cells_val, cells_str] at g0 g1
  obtain ⟨s, e0, h0⟩ := cells_str1 g0
  obtain ⟨m, e1, h1⟩ := val_cells g1
  simp at e0 e1
  obtain ⟨e1, e2, e3⟩ := e1
  subst e0 e1 e2 e3
  exact ⟨⟨s, m⟩, rfl, h0, h1⟩

/-- A slice of elements of k cells, each of which reads as one of α. -/
theorem slice_cells {α : Type} [Inhabited α] {t e : TypeId} {k : Nat} {f : α → List Value} {q : α → Prop} (d : α) (hkp : 0 < k) (hd : ∀ a, (f a).length = k) (ht : Tryz.prog.underlying t = some (.slice e)) (hk : Tryz.prog.cellsOf e = k)
    (he : ∀ {fuel : Nat} {cs : List Value} {x : DataW H × List MemPlace}, DataW.trod enc Tryz.prog w base sp held fuel e cs = some x → ∃ a, cs = f a ∧ q a)
    (h : DataW.trod enc Tryz.prog w base sp held fuel t cs = some x) :
    ∃ (A : Option Addr) (l : List α) (cap : Nat), cs = [.slice A l.length cap] ∧ l.length ≤ cap ∧ cap ≤ maxLen ∧
      (∀ i, i < l.length → ∃ b off, A = some ⟨b, off, none⟩ ∧ ∀ j v, (f (l.getD i d))[j]? = some v → w.cell? ⟨b, off + i * k + j, none⟩ = some v) ∧ ∀ i, i < l.length → q (l.getD i d) := by
  rcases open_slice ht h with ⟨rfl, _⟩ | ⟨a, len, cap, m, n, D, Pl, rfl, hb, hl, hm, hmm, rfl, hx⟩
  · exact ⟨none, [], 0, rfl, Nat.le_refl _, Nat.zero_le _, fun i hi => absurd hi (Nat.not_lt_zero _), fun i hi => absurd hi (Nat.not_lt_zero _)⟩
  · have hlm : len ≤ m := by rw [hmm]; split <;> omega
    have each : ∀ i, i < len → ∃ y : α, w.cells? base (a.add (i * k)) k = some (f y) ∧ q y := by
      intro i hi
      obtain ⟨cs', h1, h2⟩ := hx i (by omega)
      rw [hk] at h1
      obtain ⟨y, rfl, hy⟩ := he h2
      exact ⟨y, h1, hy⟩
    obtain ⟨g, hg⟩ := choose_lt each
    have hlen : ((List.range len).map g).length = len := by simp
    have hget : ∀ i, i < len → ((List.range len).map g).getD i d = g i := fun i hi => by simp [List.getD_eq_getElem?_getD, hi]
    refine ⟨some a, (List.range len).map g, cap, by rw [hlen], by rw [hlen]; exact hl, hm, fun i hi => ?_, fun i hi => ?_⟩
    · rw [hlen] at hi
      obtain ⟨_, _, hc⟩ := World.cells?_some (hg i hi).1
      rw [hget i hi]
      obtain ⟨_, _, hcz⟩ := World.cells?_some (hg 0 (by omega)).1
      have hc0 := hcz 0 hkp
      obtain ⟨b, off, spot⟩ := a
      have hl0 : 0 < (f (g 0)).length := by rw [hd]; exact hkp
      rw [List.getElem?_eq_getElem hl0] at hc0
      have hspot : spot = none := by simpa [Addr.add] using World.cell?_spot hc0
      subst hspot
      refine ⟨b, off, rfl, fun j v hj => ?_⟩
      have hjk : j < k := by
        have := (List.getElem?_eq_some_iff.1 hj).1
        rw [hd] at this
        exact this
      have := hc j hjk
      rw [hj, Go.WideShapes.add_plain, Go.WideShapes.add_plain] at this
      exact this
    · rw [hlen] at hi
      rw [hget i hi]
      exact (hg i hi).2
theorem rds_cells (h : DataW.trod enc Tryz.prog w base sp held fuel 35 cs = some x) :
    ∃ (A : Option Addr) (l : List Rd) (cap : Nat), cs = [.slice A l.length cap] ∧ l.length ≤ cap ∧ cap ≤ maxLen ∧ RdsAt w A l ∧ ∀ i, i < l.length → (l.getD i noRd).key.size ≤ 9223372036854775807 ∧ (l.getD i noRd).ver < 18446744073709551616 := by
  obtain ⟨A, l, cap, rfl, h1, h2, h3, h4⟩ := slice_cells (k := 2) (f := fun r : Rd => [.string r.key, .int .u64 r.ver]) noRd (by omega) (fun _ => rfl) Tryz.underlying35 cells_rd rd_cells h
  refine ⟨A, l, cap, rfl, h1, h2, fun i hi => ?_, h4⟩
  obtain ⟨b, off, e, hc⟩ := h3 i hi
  exact ⟨b, off, e, hc 0 _ rfl, hc 1 _ rfl⟩
theorem wrs_cells (h : DataW.trod enc Tryz.prog w base sp held fuel 36 cs = some x) :
    ∃ (A : Option Addr) (l : List Wr) (cap : Nat), cs = [.slice A l.length cap] ∧ l.length ≤ cap ∧ cap ≤ maxLen ∧ WrsAt w A l ∧ ∀ i, i < l.length → (l.getD i noWr).key.size ≤ 9223372036854775807 ∧ (l.getD i noWr).val.Good := by
  obtain ⟨A, l, cap, rfl, h1, h2, h3, h4⟩ := slice_cells (k := 4) (f := fun r : Wr => [.string r.key, .int .i64 r.val.kind, .int .u64 r.val.bits, .string r.val.text]) noWr (by omega) (fun _ => rfl) Tryz.underlying36 cells_wr wr_cells h
  refine ⟨A, l, cap, rfl, h1, h2, fun i hi => ?_, h4⟩
  obtain ⟨b, off, e, hc⟩ := h3 i hi
  exact ⟨b, off, e, hc 0 _ rfl, hc 1 _ rfl, hc 2 _ rfl, hc 3 _ rfl⟩
theorem txn_cells (h : DataW.trod enc Tryz.prog w base sp held fuel 38 cs = some x) :
    ∃ (t : Tx) (A B : Option Addr) (ca cb : Nat), cs = [.int .i64 t.ses, .int .i64 t.seq, .slice A t.rds.length ca, .slice B t.wrs.length cb] ∧ TxAt w t A B ∧ t.rds.length ≤ ca ∧ t.wrs.length ≤ cb ∧ ∀ i, i < t.rds.length → (t.rds.getD i noRd).ver < 18446744073709551616 := by
  obtain ⟨xs, n, _, _, hc, hl, hf⟩ := DataW.trod_struct Tryz.underlying38 h
  rw [cells_txn] at hc
  obtain ⟨a, b, c, d, rfl⟩ := len_4 hc
  obtain ⟨u, v, y, rfl⟩ := len_3 (l := xs) hl
  have g0 := hf 0 _ rfl
  have g1 := hf 1 _ rfl
  have g2 := hf 2 _ rfl
  simp [cells_id, cells_rds, cells_wrs] at g0 g1 g2
  obtain ⟨s, q, e0, _⟩ := id_cells g0
  obtain ⟨A, l, ca, e1, h0, h1, hA, h2⟩ := rds_cells g1
  obtain ⟨B, m, cb, e2, h3, h4, hB, h5⟩ := wrs_cells g2
  simp at e0 e1 e2
  obtain ⟨e0, e3⟩ := e0
  subst e0 e1 e2 e3
  have q1 : l.length ≤ 9223372036854775807 := le_max (by omega)
  have q2 : m.length ≤ 9223372036854775807 := le_max (by omega)
  exact ⟨⟨s, q, l, m⟩, A, B, ca, cb, rfl, ⟨hA, hB, fun k hk => (h2 k hk).1, fun k hk => (h5 k hk).1, fun k hk => (h5 k hk).2, q1, q2⟩, h0, h3, fun k hk => (h2 k hk).2⟩
end
theorem tabs_of {laid : List (String × DataW Unit)} {w : World} (hp : (laid.all fun x => x.2.handleName?.isNone) = true) (h : laidMetH Tryz.prog laid w)
    (h1 : ("unicode/utf8.first", Rows.laid_unicode_utf8_first) ∈ laid) (h2 : ("unicode/utf8.acceptRanges", Rows.laid_unicode_utf8_acceptRanges) ∈ laid) : Tabs w := by
  rw [MakeChecks.laidMetH_plain _ _ _ hp] at h
  have r1 := Lib.laidMet.reads h h1
  have r2 := Lib.laidMet.reads h h2
  rw [show Rows.laid_unicode_utf8_first = Lib.firstData from Pinned.utf8First_eq] at r1
  exact utf8Tabs_of_readsT (U8Types.of196 Tryz.lays196) ⟨by kernel_rfl, by kernel_rfl, by kernel_rfl, by kernel_rfl, by kernel_rfl, by kernel_rfl, by kernel_rfl⟩ r1 r2
end Go.Proofs.YtcldpmkhpmlcbaaGreatDoor
/- Commands that came in, opened. -/
namespace Go.Proofs.YtcldpmkhpmlcbaaGreatDoor
open Go.ChangeShapes Go.WideShapes Go.ChangeAt Go.RowKit Go.Joins Go.Deep

section
variable {H : Type} {enc : TypeId × Value → H} {w : World} {base fuel : Nat} {sp : Nat → Bool} {held : Bool} {cs : List Value} {x : DataW H × List MemPlace}
end
/-- Commands in memory. -/
def CmdsAt (w : World) (S : Option Addr) (l : List CmdV) : Prop :=
  ∀ i, i < l.length → ∃ b off, S = some ⟨b, off, none⟩ ∧ CellRow w ⟨b, off + i * 10, none⟩ (l.getD i noCmd).vs ∧ TxAt w (l.getD i noCmd).t (l.getD i noCmd).A (l.getD i noCmd).B
theorem CmdsAt.later {w w' : World} {S : Option Addr} {l : List CmdV} (h : CmdsAt w S l) (hb : Below w.heap.size w w') : CmdsAt w' S l := fun i hi => by
  obtain ⟨b, off, e, h0, h1⟩ := h i hi
  exact ⟨b, off, e, h0.later hb, h1.later hb⟩
theorem CmdsAt.at' {w : World} {S : Option Addr} {l : List CmdV} (h : CmdsAt w S l) {k : Nat} (hk : k < l.length) : ∃ b off a, S = some ⟨b, off, none⟩ ∧ CellRow w ⟨b, off + k * 10, none⟩ a.vs ∧ TxAt w a.t a.A a.B ∧ Hid (l.getD k noCmd = a) := by
  obtain ⟨b, off, e, h0, h1⟩ := h k hk
  exact ⟨b, off, _, e, h0, h1, rfl⟩
instance : Inhabited CmdV := ⟨noCmd⟩
end Go.Proofs.YtcldpmkhpmlcbaaGreatDoor
/- Layer 17's few: are so many commands looked at? -/
namespace Go.Proofs.YtcldpmkhpmlcbaaGreatDoor
open Go.RowKit Go.Shelf

theorem cmd_agg {w : World} {b o : Nat} {a : CmdV} (h : CellRow w ⟨b, o, none⟩ a.vs) : w.cell? ⟨b, o, none⟩ = some (.int .i64 a.k) ∧ w.cell? ⟨b, o + 1, none⟩ = some (.int .i64 a.t.ses) ∧ w.cell? ⟨b, o + 2, none⟩ = some (.int .i64 a.t.seq) ∧ w.cell? ⟨b, o + 3, none⟩ = some (.slice a.A a.t.rds.length a.ca) ∧ w.cell? ⟨b, o + 4, none⟩ = some (.slice a.B a.t.wrs.length a.cb) ∧
    w.cell? ⟨b, o + 5, none⟩ = some (.int .i64 a.is) ∧ w.cell? ⟨b, o + 6, none⟩ = some (.int .i64 a.iq) ∧ w.cell? ⟨b, o + 7, none⟩ = some (.int .i64 a.g) ∧ w.cell? ⟨b, o + 8, none⟩ = some (.int .u64 (a.st : Int)) ∧ w.cell? ⟨b, o + 9, none⟩ = some (.bool a.y) := by
  have := fun j v hv => (by have := h j v hv; rwa [Go.WideShapes.add_plain] at this : w.cell? ⟨b, o + j, none⟩ = some v)
  exact ⟨this 0 _ rfl, this 1 _ rfl, this 2 _ rfl, this 3 _ rfl, this 4 _ rfl, this 5 _ rfl, this 6 _ rfl, this 7 _ rfl, this 8 _ rfl, this 9 _ rfl⟩
end Go.Proofs.YtcldpmkhpmlcbaaGreatDoor
/- GroupOnce: what holds while it runs. -/
namespace Go.Proofs.YtcldpmkhpmlcbaaGreatDoor
open Go.RowKit Go.Shelf Go.Maps

instance : Inhabited OutD := ⟨⟨0, 0, ⟨0, 0⟩, 0, false⟩⟩
def noOut : OutD := default
theorem flat6 : ∀ (l : List OutD) (k j : Nat), k < l.length → j < 6 → (outCells l)[k * 6 + j]? = (outV (l.getD k noOut))[j]?
  | [], k, j, h, _ => by simp at h
  | x :: l, 0, j, _, hj => by
    rw [outCells, List.flatMap_cons, Nat.zero_mul, Nat.zero_add, List.getElem?_append_left (by simp [outV]; omega)]
    rfl
  | x :: l, k + 1, j, h, hj => by
    have := flat6 l k j (by simpa using h) hj
    rw [outCells, List.flatMap_cons, List.getElem?_append_right (by simp [outV]; omega), show (outV x).length = 6 from rfl, show (k + 1) * 6 + j - 6 = k * 6 + j by omega]
    exact this
theorem outCells_len : ∀ l : List OutD, (outCells l).length = l.length * 6
  | [] => rfl
  | x :: l => by have := outCells_len l; rw [outCells, List.flatMap_cons, List.length_append, show (l.flatMap outV) = outCells l from rfl, this, List.length_cons]; simp [outV]; omega
/-- The six cells of an output. -/
def OutLies (w : World) (b o : Nat) (a : OutD) : Prop := w.cell? ⟨b, o, none⟩ = some (.int .i64 a.kind) ∧ w.cell? ⟨b, o + 1, none⟩ = some (.int .i64 a.dst) ∧ w.cell? ⟨b, o + 2, none⟩ = some (.int .i64 a.id.ses) ∧ w.cell? ⟨b, o + 3, none⟩ = some (.int .i64 a.id.seq) ∧ w.cell? ⟨b, o + 4, none⟩ = some (.int .u64 (a.stamp : Int)) ∧ w.cell? ⟨b, o + 5, none⟩ = some (.bool a.yes)
def OutsAt (w : World) (A : Option Addr) (l : List OutD) : Prop := ∀ k, k < l.length → ∃ b off, A = some ⟨b, off, none⟩ ∧ OutLies w b (off + k * 6) (l.getD k noOut)
theorem OutLies.later {w w' : World} {b o : Nat} {a : OutD} (h : OutLies w b o a) (hb : Below w.heap.size w w') : OutLies w' b o a := ⟨keep hb h.1, keep hb h.2.1, keep hb h.2.2.1, keep hb h.2.2.2.1, keep hb h.2.2.2.2.1, keep hb h.2.2.2.2.2⟩
theorem OutsAt.later {w w' : World} {A : Option Addr} {l : List OutD} (h : OutsAt w A l) (hb : Below w.heap.size w w') : OutsAt w' A l := fun k hk => by
  obtain ⟨b, off, e, hl⟩ := h k hk
  exact ⟨b, off, e, hl.later hb⟩
theorem OutsAt.at' {w : World} {A : Option Addr} {l : List OutD} (h : OutsAt w A l) {k : Nat} (hk : k < l.length) : ∃ b off a, A = some ⟨b, off, none⟩ ∧ OutLies w b (off + k * 6) a ∧ Hid (l.getD k noOut = a) := by
  obtain ⟨b, off, e, hl⟩ := h k hk
  exact ⟨b, off, _, e, hl, rfl⟩
theorem outs_of_own {w : World} {base : Nat} {v : Value} {l : List OutD} (h : w.ownsRow base 43 6 v l.length (outCells l)) : ∃ A cap, v = .slice A l.length cap ∧ OutsAt w A l := by
  rcases h.2 with ⟨rfl, h0⟩ | ⟨g, cap, cur, rfl, hfr, hh, hn, _, _, ht⟩
  · have hl : l = [] := by
      have := outCells_len l
      rw [h0] at this
      exact List.eq_nil_of_length_eq_zero (by simp at this; omega)
    subst hl
    exact ⟨none, 0, rfl, fun k hk => absurd hk (Nat.not_lt_zero _)⟩
  · refine ⟨some ⟨g, 0, none⟩, cap, rfl, fun k hk => ⟨g, 0, rfl, ?_⟩⟩
    have hc : ∀ j u, j < 6 → (outV (l.getD k noOut))[j]? = some u → w.cell? ⟨g, 0 + k * 6 + j, none⟩ = some u := fun j u hj hu => by
      have hlt : k * 6 + j < l.length * 6 := by omega
      have h1 : (cur.toList.take (l.length * 6))[k * 6 + j]? = (outCells l)[k * 6 + j]? := by rw [ht]
      rw [List.getElem?_take_of_lt hlt, flat6 l k j hk hj, hu] at h1
      simp only [World.cell?, hh, Nat.zero_add, Option.isSome_none, Bool.false_eq_true, if_false]
      rw [← Array.getElem?_toList, h1]
    exact ⟨hc 0 _ (by decide) rfl, hc 1 _ (by decide) rfl, hc 2 _ (by decide) rfl, hc 3 _ (by decide) rfl, hc 4 _ (by decide) rfl, hc 5 _ (by decide) rfl⟩
/-- A machine at work, and a row of the call's own that notes what was told. -/
structure OnceIn (w0 wr : World) (B p : Nat) (c : Cfg) (g : Int) (n : Nat) (lab : Nat → Lab) (x : MachD) (dv : Value) (ds : List OutD) : Prop where
  m : ∃ E ov os, GrAt wr B p c g n lab x E ov os
  d : wr.ownsRow B 43 6 dv ds.length (outCells ds)
  dl : ∀ b, dv.ownBlock = some b → lab b = .no
  ok : ∀ o ∈ ds, o.kind = 4 ∧ o.dst = -1 ∧ getM x.dc o.id = some (o.yes, o.stamp)
  b : Below w0.heap.size w0 wr
  hB : w0.heap.size ≤ B
section
variable {w0 wr wz : World} {B p n : Nat} {c : Cfg} {g : Int} {lab : Nat → Lab} {x : MachD} {dv : Value} {ds : List OutD}
theorem OnceIn.later (h : OnceIn w0 wr B p c g n lab x dv ds) (hb : Below wr.heap.size wr wz) : OnceIn w0 wz B p c g n lab x dv ds := by
  obtain ⟨E, ov, os, hm⟩ := h.m
  exact ⟨⟨E, ov, os, hm.later hb⟩, own_keep h.d hb, h.dl, h.ok, keepB h.b hb, h.hB⟩
/-- A command comes. -/
theorem OnceIn.apply (h : OnceIn w0 wr B p c g n lab x dv ds) {a : CmdV} {v : Value} (ha : ApPost wr wz B p c g n lab x a v) :
    ∃ lab' : Nat → Lab, OnceIn w0 wz B p c g (n + 2) lab' (applyM c g x a) dv ds ∧ OutRow wz B lab' v (applyO c g x a) ∧ (∀ o ∈ applyO c g x a, o.kind = 4 → o.dst = -1 ∧ getM (applyM c g x a).dc o.id = some (o.yes, o.stamp)) ∧ (applyO c g x a).length ≤ 5 * n + 20 := by
  obtain ⟨E, ov, os, hm⟩ := h.m
  obtain ⟨lab', E', ov', os', hO, hG, hS⟩ := ha
  have hs := apply_said hm.k a
  refine ⟨lab', ⟨⟨E', ov', os', hG⟩, hS.out.row h.d (fun b hb e => e (h.dl b hb)), fun b hb => ?_, fun o ho => ?_, ?_, h.hB⟩, hO, hs.2, applyO_len hm.k a⟩
  · rw [hS.ext b (own_lt h.d hb).2]; exact h.dl b hb
  · obtain ⟨h1, h2, h3⟩ := h.ok o ho
    exact ⟨h1, h2, hs.1 _ _ h3⟩
  · exact h.b.trans (hS.out.below h.b.size (fun k hk => Nat.le_trans h.hB (hm.lb k hk)))
/-- What was told is noted. -/
theorem OnceIn.push (h : OnceIn w0 wr B p c g n lab x dv ds) {v : Value} {os : List OutD} (hr : OutRow wr B lab v os) {o : Obj} {dv' : Value} {a : OutD} (hg : (wr.alloc o).grownBy wz dv.ownBlock) (hd : wz.ownsRow B 43 6 dv' (ds.length + 1) (outCells ds ++ outV a)) (hv : dv'.ownBlock = dv.ownBlock ∨ dv'.ownBlock = some (wr.alloc o).heap.size)
    (ha : a.kind = 4 ∧ a.dst = -1 ∧ getM x.dc a.id = some (a.yes, a.stamp)) : OnceIn w0 wz B p c g n lab x dv' (ds ++ [a]) ∧ OutRow wz B lab v os := by
  obtain ⟨E, ov, os0, hm⟩ := h.m
  have h1 := h.later (below1 wr o)
  obtain ⟨_, _, _, hm1⟩ := h1.m
  have ho : Out (fun k => dv.ownBlock = some k) (wr.alloc o) wz := Out.of_grown hg (fun k e => e)
  refine ⟨⟨⟨E, ov, os0, ?_⟩, ?_, fun b hb => ?_, fun o ho => ?_, ?_, h.hB⟩, ?_⟩
  · exact (hm.later (below1 wr o)).out ho (fun k hk e => hk (h.dl k e)) (fun k e => (own_lt h.d e).1)
  · rw [List.length_append, outCells_snoc]; exact hd
  · rcases hv with e | e
    · rw [e] at hb; exact h.dl b hb
    · rw [e] at hb
      injection hb with hb
      cases hl : lab b
      case no => rfl
      all_goals exact absurd (hm.lt b (by rw [hl]; intro z; cases z)) (by rw [← hb]; simp)
  · rcases List.mem_append.1 ho with ho | ho
    · exact h.ok o ho
    · rw [List.mem_singleton.1 ho]; exact ha
  · exact h1.b.grown hg h1.b.size (fun k e => Nat.le_trans h.hB (own_lt h.d e).1)
  · exact ⟨ho.row (own_keep hr.1 (below1 wr o)) (fun b e z => by have h2 := hr.2 b e; rw [h.dl b z] at h2; cases h2), hr.2⟩
end
end Go.Proofs.YtcldpmkhpmlcbaaGreatDoor
