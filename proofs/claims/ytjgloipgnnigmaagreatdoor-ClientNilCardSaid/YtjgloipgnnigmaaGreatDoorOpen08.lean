/- Transactions that came in, opened: how they lie in memory; the tables of unicode/utf8, off the row's list. -/
import Derived.Test.YtjgloipgnnigmaaGreatDoorModel08
import Derived.Test.YtjgloipgnnigmaaGreatDoorOpen07
import Derived.Test.YtjgloipgnnigmaaGreatDoorVal04
import Derived.Test.YtjgloipgnnigmaaGreatDoorRows
import Derived.Deep.Slices
import Derived.Lib.LaidU8T
import Derived.PinnedBridge
import Derived.MakeChecks
namespace Go.Proofs.YtjgloipgnnigmaaGreatDoor
open Go.ChangeShapes Go.WideShapes Go.ChangeAt Go.RowKit Go.Joins Go.Deep

theorem cells_id : Tryz.prog.cellsOf 33 = 2 := by kernel_rfl
theorem cells_val : Tryz.prog.cellsOf 28 = 3 := by kernel_rfl
theorem cells_rd : Tryz.prog.cellsOf 75 = 2 := by kernel_rfl
theorem cells_wr : Tryz.prog.cellsOf 112 = 4 := by kernel_rfl
theorem cells_txn : Tryz.prog.cellsOf 37 = 4 := by kernel_rfl
theorem cells_rds : Tryz.prog.cellsOf 34 = 1 := by kernel_rfl
theorem cells_wrs : Tryz.prog.cellsOf 35 = 1 := by kernel_rfl
theorem cells_u64 : Tryz.prog.cellsOf 26 = 1 := by kernel_rfl

theorem len_2 {α : Type} {l : List α} (h : l.length = 2) : ∃ a b, l = [a, b] := by
  match l, h with
  | [a, b], _ => exact ⟨a, b, rfl⟩
theorem len_3 {α : Type} {l : List α} (h : l.length = 3) : ∃ a b c, l = [a, b, c] := by
  match l, h with
  | [a, b, c], _ => exact ⟨a, b, c, rfl⟩
theorem len_4 {α : Type} {l : List α} (h : l.length = 4) : ∃ a b c d, l = [a, b, c, d] := by
  match l, h with
  | [a, b, c, d], _ => exact ⟨a, b, c, d, rfl⟩
section
variable {H : Type} {enc : TypeId × Value → H} {w : World} {base fuel : Nat} {sp : Nat → Bool} {held : Bool} {cs : List Value} {x : DataW H × List MemPlace}

theorem cells_int1 (h : DataW.trod enc Tryz.prog w base sp held fuel 3 cs = some x) : ∃ z : Int, cs = [.int .i64 z] ∧ -9223372036854775808 ≤ z ∧ z ≤ 9223372036854775807 := by
  obtain ⟨z, rfl, _, wz⟩ := DataW.trod_int Tryz.underlying3 h
  obtain ⟨h0, h1⟩ := bounds_i64 wz
  exact ⟨z, rfl, h0, h1⟩
theorem cells_u641 (h : DataW.trod enc Tryz.prog w base sp held fuel 26 cs = some x) : ∃ n : Nat, cs = [.int .u64 n] ∧ n < 18446744073709551616 := by
  obtain ⟨z, rfl, _, wz⟩ := DataW.trod_int Tryz.underlying26 h
  obtain ⟨h0, h1⟩ := bounds_u64 wz
  obtain ⟨n, rfl⟩ := Int.eq_ofNat_of_zero_le h0
  exact ⟨n, rfl, by omega⟩
theorem cells_str1 (h : DataW.trod enc Tryz.prog w base sp held fuel 9 cs = some x) : ∃ s : ByteArray, cs = [.string s] ∧ s.size ≤ 9223372036854775807 := by
  obtain ⟨s, rfl, _, hs⟩ := DataW.trod_string Tryz.underlying9 h
  exact ⟨s, rfl, le_max hs⟩
theorem id_cells (h : DataW.trod enc Tryz.prog w base sp held fuel 33 cs = some x) : ∃ s q : Int, cs = [.int .i64 s, .int .i64 q] ∧ -9223372036854775808 ≤ s ∧ s ≤ 9223372036854775807 ∧ -9223372036854775808 ≤ q ∧ q ≤ 9223372036854775807 := by
  obtain ⟨xs, n, _, _, hc, hl, hf⟩ := DataW.trod_struct Tryz.underlying33 h
  rw [cells_id] at hc
  obtain ⟨a, b, rfl⟩ := len_2 hc
  obtain ⟨u, v, rfl⟩ := len_2 (l := xs) hl
  have g0 := hf 0 _ rfl
  have g1 := hf 1 _ rfl
  simp [cells_int] at g0 g1
  obtain ⟨s, e0, h0, h1⟩ := cells_int1 g0
  obtain ⟨q, e1, h2, h3⟩ := cells_int1 g1
  simp at e0 e1
  subst e0 e1
  exact ⟨s, q, rfl, h0, h1, h2, h3⟩
theorem val_cells (h : DataW.trod enc Tryz.prog w base sp held fuel 28 cs = some x) : ∃ v : Val, cs = [.int .i64 v.kind, .int .u64 v.bits, .string v.text] ∧ v.Good := by
  obtain ⟨xs, n, _, _, hc, hl, hf⟩ := DataW.trod_struct Tryz.underlying28 h
  rw [cells_val] at hc
  obtain ⟨a, b, c, rfl⟩ := len_3 hc
  obtain ⟨u, v, y, rfl⟩ := len_3 (l := xs) hl
  have g0 := hf 0 _ rfl
  have g1 := hf 1 _ rfl
  have g2 := hf 2 _ rfl
  simp [cells_int, cells_u64, cells_str] at g0 g1 g2
  obtain ⟨k, e0, h0, h1⟩ := cells_int1 g0
  obtain ⟨m, e1, h2⟩ := cells_u641 g1
  obtain ⟨s, e2, h3⟩ := cells_str1 g2
  simp at e0 e1 e2
  subst e0 e1 e2
  exact ⟨⟨k, m, s⟩, rfl, h2, h3, h0, h1⟩
theorem rd_cells (h : DataW.trod enc Tryz.prog w base sp held fuel 75 cs = some x) : ∃ r : Rd, cs = [.string r.key, .int .u64 r.ver] ∧ r.key.size ≤ 9223372036854775807 ∧ r.ver < 18446744073709551616 := by
  obtain ⟨xs, n, _, _, hc, hl, hf⟩ := DataW.trod_struct Tryz.underlying75 h
  rw [cells_rd] at hc
  obtain ⟨a, b, rfl⟩ := len_2 hc
  obtain ⟨u, v, rfl⟩ := len_2 (l := xs) hl
  have g0 := hf 0 _ rfl
  have g1 := hf 1 _ rfl
  simp [cells_u64, cells_str] at g0 g1
  obtain ⟨s, e0, h0⟩ := cells_str1 g0
  obtain ⟨m, e1, h1⟩ := cells_u641 g1
  simp at e0 e1
  subst e0 e1
  exact ⟨⟨s, m⟩, rfl, h0, h1⟩
theorem wr_cells (h : DataW.trod enc Tryz.prog w base sp held fuel 112 cs = some x) : ∃ r : Wr, cs = [.string r.key, .int .i64 r.val.kind, .int .u64 r.val.bits, .string r.val.text] ∧ r.key.size ≤ 9223372036854775807 ∧ r.val.Good := by
  obtain ⟨xs, n, _, _, hc, hl, hf⟩ := DataW.trod_struct Tryz.underlying112 h
  rw [cells_wr] at hc
  obtain ⟨a, b, c, d, rfl⟩ := len_4 hc
  obtain ⟨u, v, rfl⟩ := len_2 (l := xs) hl
  have g0 := hf 0 _ rfl
  have g1 := hf 1 _ rfl
  simp [cells_val, cells_str] at g0 g1
  obtain ⟨s, e0, h0⟩ := cells_str1 g0
  obtain ⟨m, e1, h1⟩ := val_cells g1
  simp at e0 e1
  obtain ⟨e1, e2, e3⟩ := e1
  subst e0 e1 e2 e3
  exact ⟨⟨s, m⟩, rfl, h0, h1⟩

/-- A slice of elements of k cells, each of which reads as one of α. -/
theorem slice_cells {α : Type} [Inhabited α] {t e : TypeId} {k : Nat} {f : α → List Value} {q : α → Prop} (d : α) (hkp : 0 < k) (hd : ∀ a, (f a).length = k) (ht : Tryz.prog.underlying t = some (.slice e)) (hk : Tryz.prog.cellsOf e = k)
    (he : ∀ {fuel : Nat} {cs : List Value} {x : DataW H × List MemPlace}, DataW.trod enc Tryz.prog w base sp held fuel e cs = some x → ∃ a, cs = f a ∧ q a)
    (h : DataW.trod enc Tryz.prog w base sp held fuel t cs = some x) :
    ∃ (A : Option Addr) (l : List α) (cap : Nat), cs = [.slice A l.length cap] ∧ l.length ≤ cap ∧ cap ≤ maxLen ∧
      (∀ i, i < l.length → ∃ b off, A = some ⟨b, off, none⟩ ∧ ∀ j v, (f (l.getD i d))[j]? = some v → w.cell? ⟨b, off + i * k + j, none⟩ = some v) ∧ ∀ i, i < l.length → q (l.getD i d) := by
  rcases open_slice ht h with ⟨rfl, _⟩ | ⟨a, len, cap, m, n, D, Pl, rfl, hb, hl, hm, hmm, rfl, hx⟩
  · exact ⟨none, [], 0, rfl, Nat.le_refl _, Nat.zero_le _, fun i hi => absurd hi (Nat.not_lt_zero _), fun i hi => absurd hi (Nat.not_lt_zero _)⟩
  · have hlm : len ≤ m := by rw [hmm]; split <;> omega
    have each : ∀ i, i < len → ∃ y : α, w.cells? base (a.add (i * k)) k = some (f y) ∧ q y := by
      intro i hi
      obtain ⟨cs', h1, h2⟩ := hx i (by omega)
      rw [hk] at h1
      obtain ⟨y, rfl, hy⟩ := he h2
      exact ⟨y, h1, hy⟩
    obtain ⟨g, hg⟩ := choose_lt each
    have hlen : ((List.range len).map g).length = len := by simp
    have hget : ∀ i, i < len → ((List.range len).map g).getD i d = g i := fun i hi => by simp [List.getD_eq_getElem?_getD, hi]
    refine ⟨some a, (List.range len).map g, cap, by rw [hlen], by rw [hlen]; exact hl, hm, fun i hi => ?_, fun i hi => ?_⟩
    · rw [hlen] at hi
      obtain ⟨_, _, hc⟩ := World.cells?_some (hg i hi).1
      rw [hget i hi]
      obtain ⟨_, _, hcz⟩ := World.cells?_some (hg 0 (by omega)).1
      have hc0 := hcz 0 hkp
      obtain ⟨b, off, spot⟩ := a
      have hl0 : 0 < (f (g 0)).length := by rw [hd]; exact hkp
      rw [List.getElem?_eq_getElem hl0] at hc0
      have hspot : spot = none := by simpa [Addr.add] using World.cell?_spot hc0
      subst hspot
      refine ⟨b, off, rfl, fun j v hj => ?_⟩
      have hjk : j < k := by
        have := (List.getElem?_eq_some_iff.1 hj).1
        rw [hd] at this
        exact this
      have := hc j hjk
      rw [hj, Go.WideShapes.add_plain, Go.WideShapes.add_plain] at this
      exact this
    · rw [hlen] at hi
      rw [hget i hi]
      exact (hg i hi).2
theorem rds_cells (h : DataW.trod enc Tryz.prog w base sp held fuel 34 cs = some x) :
    ∃ (A : Option Addr) (l : List Rd) (cap : Nat), cs = [.slice A l.length cap] ∧ l.length ≤ cap ∧ cap ≤ maxLen ∧ RdsAt w A l ∧ ∀ i, i < l.length → (l.getD i noRd).key.size ≤ 9223372036854775807 ∧ (l.getD i noRd).ver < 18446744073709551616 := by
  obtain ⟨A, l, cap, rfl, h1, h2, h3, h4⟩ := slice_cells (k := 2) (f := fun r : Rd => [.string r.key, .int .u64 r.ver]) noRd (by omega) (fun _ => rfl) Tryz.underlying34 cells_rd rd_cells h
  refine ⟨A, l, cap, rfl, h1, h2, fun i hi => ?_, h4⟩
  obtain ⟨b, off, e, hc⟩ := h3 i hi
  exact ⟨b, off, e, hc 0 _ rfl, hc 1 _ rfl⟩
theorem wrs_cells (h : DataW.trod enc Tryz.prog w base sp held fuel 35 cs = some x) :
    ∃ (A : Option Addr) (l : List Wr) (cap : Nat), cs = [.slice A l.length cap] ∧ l.length ≤ cap ∧ cap ≤ maxLen ∧ WrsAt w A l ∧ ∀ i, i < l.length → (l.getD i noWr).key.size ≤ 9223372036854775807 ∧ (l.getD i noWr).val.Good := by
  obtain ⟨A, l, cap, rfl, h1, h2, h3, h4⟩ := slice_cells (k := 4) (f := fun r : Wr => [.string r.key, .int .i64 r.val.kind, .int .u64 r.val.bits, .string r.val.text]) noWr (by omega) (fun _ => rfl) Tryz.underlying35 cells_wr wr_cells h
  refine ⟨A, l, cap, rfl, h1, h2, fun i hi => ?_, h4⟩
  obtain ⟨b, off, e, hc⟩ := h3 i hi
  exact ⟨b, off, e, hc 0 _ rfl, hc 1 _ rfl, hc 2 _ rfl, hc 3 _ rfl⟩
theorem txn_cells (h : DataW.trod enc Tryz.prog w base sp held fuel 37 cs = some x) :
    ∃ (t : Tx) (A B : Option Addr) (ca cb : Nat), cs = [.int .i64 t.ses, .int .i64 t.seq, .slice A t.rds.length ca, .slice B t.wrs.length cb] ∧ TxAt w t A B ∧ t.rds.length ≤ ca ∧ t.wrs.length ≤ cb ∧ ∀ i, i < t.rds.length → (t.rds.getD i noRd).ver < 18446744073709551616 := by
  obtain ⟨xs, n, _, _, hc, hl, hf⟩ := DataW.trod_struct Tryz.underlying37 h
  rw [cells_txn] at hc
  obtain ⟨a, b, c, d, rfl⟩ := len_4 hc
  obtain ⟨u, v, y, rfl⟩ := len_3 (l := xs) hl
  have g0 := hf 0 _ rfl
  have g1 := hf 1 _ rfl
  have g2 := hf 2 _ rfl
  simp [cells_id, cells_rds, cells_wrs] at g0 g1 g2
  obtain ⟨s, q, e0, _⟩ := id_cells g0
  obtain ⟨A, l, ca, e1, h0, h1, hA, h2⟩ := rds_cells g1
  obtain ⟨B, m, cb, e2, h3, h4, hB, h5⟩ := wrs_cells g2
  simp at e0 e1 e2
  obtain ⟨e0, e3⟩ := e0
  subst e0 e1 e2 e3
  have q1 : l.length ≤ 9223372036854775807 := le_max (by omega)
  have q2 : m.length ≤ 9223372036854775807 := le_max (by omega)
  exact ⟨⟨s, q, l, m⟩, A, B, ca, cb, rfl, ⟨hA, hB, fun k hk => (h2 k hk).1, fun k hk => (h5 k hk).1, fun k hk => (h5 k hk).2, q1, q2⟩, h0, h3, fun k hk => (h2 k hk).2⟩
end
set_option maxRecDepth 100000 in
theorem open_txn {H : Type} {enc : TypeId × Value → H} {w : World} {b0 base : Nat} {sp : Nat → Bool} {held : Bool} {v : Value} {d : DataW H} {p : List MemPlace}
    (hv : Value.okWide Tryz.prog w .any b0 37 v) (h : DataW.Trod enc Tryz.prog w base sp held 37 v d p) :
    ∃ (t : Tx) (A B : Option Addr) (ca cb : Nat), v = txV t A B ca cb ∧ TxAt w t A B ∧ t.rds.length ≤ ca ∧ t.wrs.length ≤ cb ∧ ∀ i, i < t.rds.length → (t.rds.getD i noRd).ver < 18446744073709551616 := by
  obtain ⟨cs, rfl, _⟩ := okWide_struct Tryz.underlying37 hv
  obtain ⟨fuel, hf⟩ := h
  obtain ⟨t, A, B, ca, cb, e, h1, h2, h3, h4⟩ := txn_cells hf
  refine ⟨t, A, B, ca, cb, ?_, h1, h2, h3, h4⟩
  obtain ⟨l⟩ := cs
  have e' : l = _ := e
  rw [e']
  rfl

theorem tabs_of {laid : List (String × DataW Unit)} {w : World} (hp : (laid.all fun x => x.2.handleName?.isNone) = true) (h : laidMetH Tryz.prog laid w)
    (h1 : ("unicode/utf8.first", Rows.laid_unicode_utf8_first) ∈ laid) (h2 : ("unicode/utf8.acceptRanges", Rows.laid_unicode_utf8_acceptRanges) ∈ laid) : Tabs w := by
  rw [MakeChecks.laidMetH_plain _ _ _ hp] at h
  have r1 := Lib.laidMet.reads h h1
  have r2 := Lib.laidMet.reads h h2
  rw [show Rows.laid_unicode_utf8_first = Lib.firstData from Pinned.utf8First_eq] at r1
  exact utf8Tabs_of_readsT (U8Types.of196 Tryz.lays196) ⟨by kernel_rfl, by kernel_rfl, by kernel_rfl, by kernel_rfl, by kernel_rfl, by kernel_rfl, by kernel_rfl⟩ r1 r2
end Go.Proofs.YtjgloipgnnigmaaGreatDoor
