/- Transactions, and bytes, that came in, opened (no configuration): how they lie in memory; the tables of unicode/utf8, off the row's list. -/
import Derived.Test.YtfblemdpimbciaaDoorModel08
import Derived.Test.YtfblemdpimbciaaDoorProg
import Derived.Test.YtfblemdpimbciaaDoorCode02
import Derived.Lib.SmallJoins
import Derived.OpenShut
import Derived.Test.YtfblemdpimbciaaDoorVal04
import Derived.Test.YtfblemdpimbciaaDoorRows
import Derived.Deep.Slices
import Derived.Lib.LaidU8T
import Derived.PinnedBridge
import Derived.MakeChecks
namespace Go.Proofs.YtfblemdpimbciaaDoor
open Go.ChangeShapes Go.WideShapes Go.ChangeAt Go.RowKit Go.Joins Go.Deep

theorem le_max {n : Nat} (h : n ≤ maxLen) : n ≤ 9223372036854775807 := by unfold maxLen at h; omega
theorem cells_int : Tryd.prog.cellsOf 3 = 1 := by kernel_rfl
theorem cells_str : Tryd.prog.cellsOf 9 = 1 := by kernel_rfl

theorem cells_id : Tryd.prog.cellsOf 23 = 2 := by kernel_rfl
theorem cells_val : Tryd.prog.cellsOf 62 = 3 := by kernel_rfl
theorem cells_rd : Tryd.prog.cellsOf 60 = 2 := by kernel_rfl
theorem cells_wr : Tryd.prog.cellsOf 64 = 4 := by kernel_rfl
theorem cells_txn : Tryd.prog.cellsOf 27 = 4 := by kernel_rfl
theorem cells_rds : Tryd.prog.cellsOf 24 = 1 := by kernel_rfl
theorem cells_wrs : Tryd.prog.cellsOf 25 = 1 := by kernel_rfl
theorem cells_u64 : Tryd.prog.cellsOf 58 = 1 := by kernel_rfl

theorem len_2 {α : Type} {l : List α} (h : l.length = 2) : ∃ a b, l = [a, b] := by
  match l, h with
  | [a, b], _ => exact ⟨a, b, rfl⟩
theorem len_3 {α : Type} {l : List α} (h : l.length = 3) : ∃ a b c, l = [a, b, c] := by
  match l, h with
  | [a, b, c], _ => exact ⟨a, b, c, rfl⟩
theorem len_4 {α : Type} {l : List α} (h : l.length = 4) : ∃ a b c d, l = [a, b, c, d] := by
  match l, h with
  | [a, b, c, d], _ => exact ⟨a, b, c, d, rfl⟩
section
variable {H : Type} {enc : TypeId × Value → H} {w : World} {base fuel : Nat} {sp : Nat → Bool} {held : Bool} {cs : List Value} {x : DataW H × List MemPlace}

theorem cells_int1 (h : DataW.trod enc Tryd.prog w base sp held fuel 3 cs = some x) : ∃ z : Int, cs = [.int .i64 z] ∧ -9223372036854775808 ≤ z ∧ z ≤ 9223372036854775807 := by
  obtain ⟨z, rfl, _, wz⟩ := DataW.trod_int Tryd.underlying3 h
  obtain ⟨h0, h1⟩ := bounds_i64 wz
  exact ⟨z, rfl, h0, h1⟩
theorem cells_u641 (h : DataW.trod enc Tryd.prog w base sp held fuel 58 cs = some x) : ∃ n : Nat, cs = [.int .u64 n] ∧ n < 18446744073709551616 := by
  obtain ⟨z, rfl, _, wz⟩ := DataW.trod_int Tryd.underlying58 h
  obtain ⟨h0, h1⟩ := bounds_u64 wz
  obtain ⟨n, rfl⟩ := Int.eq_ofNat_of_zero_le h0
  exact ⟨n, rfl, by omega⟩
theorem cells_str1 (h : DataW.trod enc Tryd.prog w base sp held fuel 9 cs = some x) : ∃ s : ByteArray, cs = [.string s] ∧ s.size ≤ 9223372036854775807 := by
  obtain ⟨s, rfl, _, hs⟩ := DataW.trod_string Tryd.underlying9 h
  exact ⟨s, rfl, le_max hs⟩
theorem id_cells (h : DataW.trod enc Tryd.prog w base sp held fuel 23 cs = some x) : ∃ s q : Int, cs = [.int .i64 s, .int .i64 q] ∧ -9223372036854775808 ≤ s ∧ s ≤ 9223372036854775807 ∧ -9223372036854775808 ≤ q ∧ q ≤ 9223372036854775807 := by
  obtain ⟨xs, n, _, _, hc, hl, hf⟩ := DataW.trod_struct Tryd.underlying23 h
  rw [cells_id] at hc
  obtain ⟨a, b, rfl⟩ := len_2 hc
  obtain ⟨u, v, rfl⟩ := len_2 (l := xs) hl
  have g0 := hf 0 _ rfl
  have g1 := hf 1 _ rfl
  simp [cells_int] at g0 g1
  obtain ⟨s, e0, h0, h1⟩ := cells_int1 g0
  obtain ⟨q, e1, h2, h3⟩ := cells_int1 g1
  simp at e0 e1
  subst e0 e1
  exact ⟨s, q, rfl, h0, h1, h2, h3⟩
theorem val_cells (h : DataW.trod enc Tryd.prog w base sp held fuel 62 cs = some x) : ∃ v : Val, cs = [.int .i64 v.kind, .int .u64 v.bits, .string v.text] ∧ v.Good := by
  obtain ⟨xs, n, _, _, hc, hl, hf⟩ := DataW.trod_struct Tryd.underlying62 h
  rw [cells_val] at hc
  obtain ⟨a, b, c, rfl⟩ := len_3 hc
  obtain ⟨u, v, y, rfl⟩ := len_3 (l := xs) hl
  have g0 := hf 0 _ rfl
  have g1 := hf 1 _ rfl
  have g2 := hf 2 _ rfl
  simp [cells_int, cells_u64, cells_str] at g0 g1 g2
  obtain ⟨k, e0, h0, h1⟩ := cells_int1 g0
  obtain ⟨m, e1, h2⟩ := cells_u641 g1
  obtain ⟨s, e2, h3⟩ := cells_str1 g2
  simp at e0 e1 e2
  subst e0 e1 e2
  exact ⟨⟨k, m, s⟩, rfl, h2, h3, h0, h1⟩
theorem rd_cells (h : DataW.trod enc Tryd.prog w base sp held fuel 60 cs = some x) : ∃ r : Rd, cs = [.string r.key, .int .u64 r.ver] ∧ r.key.size ≤ 9223372036854775807 ∧ r.ver < 18446744073709551616 := by
  obtain ⟨xs, n, _, _, hc, hl, hf⟩ := DataW.trod_struct Tryd.underlying60 h
  rw [cells_rd] at hc
  obtain ⟨a, b, rfl⟩ := len_2 hc
  obtain ⟨u, v, rfl⟩ := len_2 (l := xs) hl
  have g0 := hf 0 _ rfl
  have g1 := hf 1 _ rfl
  simp [cells_u64, cells_str] at g0 g1
  obtain ⟨s, e0, h0⟩ := cells_str1 g0
  obtain ⟨m, e1, h1⟩ := cells_u641 g1
  simp at e0 e1
  subst e0 e1
  exact ⟨⟨s, m⟩, rfl, h0, h1⟩
theorem wr_cells (h : DataW.trod enc Tryd.prog w base sp held fuel 64 cs = some x) : ∃ r : Wr, cs = [.string r.key, .int .i64 r.val.kind, .int .u64 r.val.bits, .string r.val.text] ∧ r.key.size ≤ 9223372036854775807 ∧ r.val.Good := by
  obtain ⟨xs, n, _, _, hc, hl, hf⟩ := DataW.trod_struct Tryd.underlying64 h
  rw [cells_wr] at hc
  obtain ⟨a, b, c, d, rfl⟩ := len_4 hc
  obtain ⟨u, v, rfl⟩ := len_2 (l := xs) hl
  have g0 := hf 0 _ rfl
  have g1 := hf 1 _ rfl
  simp [cells_val, cells_str] at g0 g1
  obtain ⟨s, e0, h0⟩ := cells_str1 g0
  obtain ⟨m, e1, h1⟩ := val_cells g1
  simp at e0 e1
  obtain ⟨e1, e2, e3⟩ := e1
  subst e0 e1 e2 e3
  exact ⟨⟨s, m⟩, rfl, h0, h1⟩

/-- A slice of elements of k cells, each of which reads as one of α. -/
theorem slice_cells {α : Type} [Inhabited α] {t e : TypeId} {k : Nat} {f : α → List Value} {q : α → Prop} (d : α) (hkp : 0 < k) (hd : ∀ a, (f a).length = k) (ht : Tryd.prog.underlying t = some (.slice e)) (hk : Tryd.prog.cellsOf e = k)
    (he : ∀ {fuel : Nat} {cs : List Value} {x : DataW H × List MemPlace}, DataW.trod enc Tryd.prog w base sp held fuel e cs = some x → ∃ a, cs = f a ∧ q a)
    (h : DataW.trod enc Tryd.prog w base sp held fuel t cs = some x) :
    ∃ (A : Option Addr) (l : List α) (cap : Nat), cs = [.slice A l.length cap] ∧ l.length ≤ cap ∧ cap ≤ maxLen ∧
      (∀ i, i < l.length → ∃ b off, A = some ⟨b, off, none⟩ ∧ ∀ j v, (f (l.getD i d))[j]? = some v → w.cell? ⟨b, off + i * k + j, none⟩ = some v) ∧ ∀ i, i < l.length → q (l.getD i d) := by
  rcases open_slice ht h with ⟨rfl, _⟩ | ⟨a, len, cap, m, n, D, Pl, rfl, hb, hl, hm, hmm, rfl, hx⟩
  · exact ⟨none, [], 0, rfl, Nat.le_refl _, Nat.zero_le _, fun i hi => absurd hi (Nat.not_lt_zero _), fun i hi => absurd hi (Nat.not_lt_zero _)⟩
  · have hlm : len ≤ m := by rw [hmm]; split <;> omega
    have each : ∀ i, i < len → ∃ y : α, w.cells? base (a.add (i * k)) k = some (f y) ∧ q y := by
      intro i hi
      obtain ⟨cs', h1, h2⟩ := hx i (by omega)
      rw [hk] at h1
      obtain ⟨y, rfl, hy⟩ := he h2
      exact ⟨y, h1, hy⟩
    obtain ⟨g, hg⟩ := choose_lt each
    have hlen : ((List.range len).map g).length = len := by simp
    have hget : ∀ i, i < len → ((List.range len).map g).getD i d = g i := fun i hi => by simp [List.getD_eq_getElem?_getD, hi]
    refine ⟨some a, (List.range len).map g, cap, by rw [hlen], by rw [hlen]; exact hl, hm, fun i hi => ?_, fun i hi => ?_⟩
    · rw [hlen] at hi
      obtain ⟨_, _, hc⟩ := World.cells?_some (hg i hi).1
      rw [hget i hi]
      obtain ⟨_, _, hcz⟩ := World.cells?_some (hg 0 (by omega)).1
      have hc0 := hcz 0 hkp
      obtain ⟨b, off, spot⟩ := a
      have hl0 : 0 < (f (g 0)).length := by rw [hd]; exact hkp
      rw [List.getElem?_eq_getElem hl0] at hc0
      have hspot : spot = none := by simpa [Addr.add] using World.cell?_spot hc0
      subst hspot
      refine ⟨b, off, rfl, fun j v hj => ?_⟩
      have hjk : j < k := by
        have := (List.getElem?_eq_some_iff.1 hj).1
        rw [hd] at this
        exact this
      have := hc j hjk
      rw [hj, Go.WideShapes.add_plain, Go.WideShapes.add_plain] at this
      exact this
    · rw [hlen] at hi
      rw [hget i hi]
      exact (hg i hi).2
theorem rds_cells (h : DataW.trod enc Tryd.prog w base sp held fuel 24 cs = some x) :
    ∃ (A : Option Addr) (l : List Rd) (cap : Nat), cs = [.slice A l.length cap] ∧ l.length ≤ cap ∧ cap ≤ maxLen ∧ RdsAt w A l ∧ ∀ i, i < l.length → (l.getD i noRd).key.size ≤ 9223372036854775807 ∧ (l.getD i noRd).ver < 18446744073709551616 := by
  obtain ⟨A, l, cap, rfl, h1, h2, h3, h4⟩ := slice_cells (k := 2) (f := fun r : Rd => [.string r.key, .int .u64 r.ver]) noRd (by omega) (fun _ => rfl) Tryd.underlying24 cells_rd rd_cells h
  refine ⟨A, l, cap, rfl, h1, h2, fun i hi => ?_, h4⟩
  obtain ⟨b, off, e, hc⟩ := h3 i hi
  exact ⟨b, off, e, hc 0 _ rfl, hc 1 _ rfl⟩
theorem wrs_cells (h : DataW.trod enc Tryd.prog w base sp held fuel 25 cs = some x) :
    ∃ (A : Option Addr) (l : List Wr) (cap : Nat), cs = [.slice A l.length cap] ∧ l.length ≤ cap ∧ cap ≤ maxLen ∧ WrsAt w A l ∧ ∀ i, i < l.length → (l.getD i noWr).key.size ≤ 9223372036854775807 ∧ (l.getD i noWr).val.Good := by
  obtain ⟨A, l, cap, rfl, h1, h2, h3, h4⟩ := slice_cells (k := 4) (f := fun r : Wr => [.string r.key, .int .i64 r.val.kind, .int .u64 r.val.bits, .string r.val.text]) noWr (by omega) (fun _ => rfl) Tryd.underlying25 cells_wr wr_cells h
  refine ⟨A, l, cap, rfl, h1, h2, fun i hi => ?_, h4⟩
  obtain ⟨b, off, e, hc⟩ := h3 i hi
  exact ⟨b, off, e, hc 0 _ rfl, hc 1 _ rfl, hc 2 _ rfl, hc 3 _ rfl⟩
theorem txn_cells (h : DataW.trod enc Tryd.prog w base sp held fuel 27 cs = some x) :
    ∃ (t : Tx) (A B : Option Addr) (ca cb : Nat), cs = [.int .i64 t.ses, .int .i64 t.seq, .slice A t.rds.length ca, .slice B t.wrs.length cb] ∧ TxAt w t A B ∧ t.rds.length ≤ ca ∧ t.wrs.length ≤ cb ∧ ∀ i, i < t.rds.length → (t.rds.getD i noRd).ver < 18446744073709551616 := by
  obtain ⟨xs, n, _, _, hc, hl, hf⟩ := DataW.trod_struct Tryd.underlying27 h
  rw [cells_txn] at hc
  obtain ⟨a, b, c, d, rfl⟩ := len_4 hc
  obtain ⟨u, v, y, rfl⟩ := len_3 (l := xs) hl
  have g0 := hf 0 _ rfl
  have g1 := hf 1 _ rfl
  have g2 := hf 2 _ rfl
  simp [cells_id, cells_rds, cells_wrs] at g0 g1 g2
  obtain ⟨s, q, e0, _⟩ := id_cells g0
  obtain ⟨A, l, ca, e1, h0, h1, hA, h2⟩ := rds_cells g1
  obtain ⟨B, m, cb, e2, h3, h4, hB, h5⟩ := wrs_cells g2
  simp at e0 e1 e2
  obtain ⟨e0, e3⟩ := e0
  subst e0 e1 e2 e3
  have q1 : l.length ≤ 9223372036854775807 := le_max (by omega)
  have q2 : m.length ≤ 9223372036854775807 := le_max (by omega)
  exact ⟨⟨s, q, l, m⟩, A, B, ca, cb, rfl, ⟨hA, hB, fun k hk => (h2 k hk).1, fun k hk => (h5 k hk).1, fun k hk => (h5 k hk).2, q1, q2⟩, h0, h3, fun k hk => (h2 k hk).2⟩
end
set_option maxRecDepth 100000 in
theorem open_txn {H : Type} {enc : TypeId × Value → H} {w : World} {b0 base : Nat} {sp : Nat → Bool} {held : Bool} {v : Value} {d : DataW H} {p : List MemPlace}
    (hv : Value.okWide Tryd.prog w .any b0 27 v) (h : DataW.Trod enc Tryd.prog w base sp held 27 v d p) :
    ∃ (t : Tx) (A B : Option Addr) (ca cb : Nat), v = txV t A B ca cb ∧ TxAt w t A B ∧ t.rds.length ≤ ca ∧ t.wrs.length ≤ cb ∧ ∀ i, i < t.rds.length → (t.rds.getD i noRd).ver < 18446744073709551616 := by
  obtain ⟨cs, rfl, _⟩ := okWide_struct Tryd.underlying27 hv
  obtain ⟨fuel, hf⟩ := h
  obtain ⟨t, A, B, ca, cb, e, h1, h2, h3, h4⟩ := txn_cells hf
  refine ⟨t, A, B, ca, cb, ?_, h1, h2, h3, h4⟩
  obtain ⟨l⟩ := cs
  have e' : l = _ := e
  rw [e']
  rfl

theorem tabs_of {laid : List (String × DataW Unit)} {w : World} (hp : (laid.all fun x => x.2.handleName?.isNone) = true) (h : laidMetH Tryd.prog laid w)
    (h1 : ("unicode/utf8.first", Rows.laid_unicode_utf8_first) ∈ laid) (h2 : ("unicode/utf8.acceptRanges", Rows.laid_unicode_utf8_acceptRanges) ∈ laid) : Tabs w := by
  rw [MakeChecks.laidMetH_plain _ _ _ hp] at h
  have r1 := Lib.laidMet.reads h h1
  have r2 := Lib.laidMet.reads h h2
  rw [show Rows.laid_unicode_utf8_first = Lib.firstData from Pinned.utf8First_eq] at r1
  exact utf8Tabs_of_readsT (U8Types.of196 Tryd.lays196) ⟨by kernel_rfl, by kernel_rfl, by kernel_rfl, by kernel_rfl, by kernel_rfl, by kernel_rfl, by kernel_rfl⟩ r1 r2
theorem byte_cells {H : Type} {enc : TypeId × Value → H} {w : World} {base fuel : Nat} {sp : Nat → Bool} {held : Bool} {cs : List Value} {x : DataW H × List MemPlace}
    (h : DataW.trod enc Tryd.prog w base sp held fuel 5 cs = some x) : ∃ b : UInt8, cs = [.int .u8 (b.toNat : Int)] ∧ True := by
  obtain ⟨z, rfl, _, wz⟩ := DataW.trod_int Tryd.underlying5 h
  obtain ⟨h0, h1⟩ := bounds_u8 wz
  obtain ⟨n, rfl⟩ := Int.eq_ofNat_of_zero_le h0
  exact ⟨UInt8.ofNat n, by rw [UInt8.toNat_ofNat', show n % 2 ^ 8 = n by omega], trivial⟩
theorem cells_byte : Tryd.prog.cellsOf 5 = 1 := by kernel_rfl
set_option maxRecDepth 100000 in
theorem open_bytes {H : Type} {enc : TypeId × Value → H} {w : World} {b0 base : Nat} {sp : Nat → Bool} {held : Bool} {v : Value} {d : DataW H} {p : List MemPlace}
    (hv : Value.okWide Tryd.prog w .any b0 31 v) (h : DataW.Trod enc Tryd.prog w base sp held 31 v d p) :
    ∃ (A : Option Addr) (l : List UInt8) (ca : Nat), v = .slice A l.length ca ∧ BysAt w A l ∧ l.length ≤ ca ∧ l.length ≤ 9223372036854775807 := by
  obtain ⟨a0, len, cap, rfl⟩ := okWide_slice Tryd.underlying31 hv
  obtain ⟨fuel, hf⟩ := h
  obtain ⟨A, l, ca, e, h1, h2, h3, _⟩ := slice_cells (k := 1) (f := fun b : UInt8 => [.int .u8 (b.toNat : Int)]) 0 (by omega) (fun _ => rfl) Tryd.underlying31 cells_byte byte_cells hf
  have h5 := Nat.le_trans h1 h2
  refine ⟨A, l, ca, by simpa [Value.cells] using e, fun i hi => ?_, h1, by unfold maxLen at h5; omega⟩
  obtain ⟨b, off, e, hc⟩ := h3 i hi
  exact ⟨b, off, e, by have := hc 0 _ rfl; simpa using this⟩
end Go.Proofs.YtfblemdpimbciaaDoor
