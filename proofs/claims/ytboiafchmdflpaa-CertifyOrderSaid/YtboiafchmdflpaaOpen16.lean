/- Slices of ints, bools, bytes and votes that came in, opened. -/
import Derived.Test.YtboiafchmdflpaaLawOrder16
import Derived.Test.YtboiafchmdflpaaProg
import Derived.Lib.SmallJoins
import Derived.OpenShut
import Derived.Deep.Slices
namespace Go.Proofs.Ytboiafchmdflpaa
open Go.ChangeShapes Go.WideShapes Go.ChangeAt Go.RowKit Go.Joins Go.Deep

theorem le_max16 {n : Nat} (h : n ≤ maxLen) : n ≤ 9223372036854775807 := by unfold maxLen at h; omega
theorem cells_int : Try.prog.cellsOf 3 = 1 := by kernel_rfl
theorem cells_bool : Try.prog.cellsOf 4 = 1 := by kernel_rfl
theorem cells_u8 : Try.prog.cellsOf 5 = 1 := by kernel_rfl
theorem cells_vote : Try.prog.cellsOf 36 = 2 := by kernel_rfl
theorem len_2 {α : Type} {l : List α} (h : l.length = 2) : ∃ a b, l = [a, b] := by
  match l, h with
  | [a, b], _ => exact ⟨a, b, rfl⟩
section
variable {H : Type} {enc : TypeId × Value → H} {w : World} {base fuel : Nat} {sp : Nat → Bool} {held : Bool} {cs : List Value} {x : DataW H × List MemPlace}

/-- A slice of elements of k cells, each of which reads as one of α. -/
theorem slice_cells {α : Type} [Inhabited α] {t e : TypeId} {k : Nat} {f : α → List Value} {q : α → Prop} (d : α) (hkp : 0 < k) (hd : ∀ a, (f a).length = k) (ht : Try.prog.underlying t = some (.slice e)) (hk : Try.prog.cellsOf e = k)
    (he : ∀ {fuel : Nat} {cs : List Value} {x : DataW H × List MemPlace}, DataW.trod enc Try.prog w base sp held fuel e cs = some x → ∃ a, cs = f a ∧ q a)
    (h : DataW.trod enc Try.prog w base sp held fuel t cs = some x) :
    ∃ (A : Option Addr) (l : List α) (cap : Nat), cs = [.slice A l.length cap] ∧ l.length ≤ cap ∧ cap ≤ maxLen ∧
      (∀ i, i < l.length → ∃ b off, A = some ⟨b, off, none⟩ ∧ ∀ j v, (f (l.getD i d))[j]? = some v → w.cell? ⟨b, off + i * k + j, none⟩ = some v) ∧ ∀ i, i < l.length → q (l.getD i d) := by
  rcases open_slice ht h with ⟨rfl, _⟩ | ⟨a, len, cap, m, n, D, Pl, rfl, hb, hl, hm, hmm, rfl, hx⟩
  · exact ⟨none, [], 0, rfl, Nat.le_refl _, Nat.zero_le _, fun i hi => absurd hi (Nat.not_lt_zero _), fun i hi => absurd hi (Nat.not_lt_zero _)⟩
  · have hlm : len ≤ m := by rw [hmm]; split <;> omega
    have each : ∀ i, i < len → ∃ y : α, w.cells? base (a.add (i * k)) k = some (f y) ∧ q y := by
      intro i hi
      obtain ⟨cs', h1, h2⟩ := hx i (by omega)
      rw [hk] at h1
      obtain ⟨y, rfl, hy⟩ := he h2
      exact ⟨y, h1, hy⟩
    obtain ⟨g, hg⟩ := choose_lt each
    have hlen : ((List.range len).map g).length = len := by simp
    have hget : ∀ i, i < len → ((List.range len).map g).getD i d = g i := fun i hi => by simp [List.getD_eq_getElem?_getD, hi]
    refine ⟨some a, (List.range len).map g, cap, by rw [hlen], by rw [hlen]; exact hl, hm, fun i hi => ?_, fun i hi => ?_⟩
    · rw [hlen] at hi
      obtain ⟨_, _, hc⟩ := World.cells?_some (hg i hi).1
      rw [hget i hi]
      obtain ⟨_, _, hcz⟩ := World.cells?_some (hg 0 (by omega)).1
      have hc0 := hcz 0 hkp
      obtain ⟨b, off, spot⟩ := a
      have hl0 : 0 < (f (g 0)).length := by rw [hd]; exact hkp
      rw [List.getElem?_eq_getElem hl0] at hc0
      have hspot : spot = none := by simpa [Addr.add] using World.cell?_spot hc0
      subst hspot
      refine ⟨b, off, rfl, fun j v hj => ?_⟩
      have hjk : j < k := by
        have := (List.getElem?_eq_some_iff.1 hj).1
        rw [hd] at this
        exact this
      have := hc j hjk
      rw [hj, Go.WideShapes.add_plain, Go.WideShapes.add_plain] at this
      exact this
    · rw [hlen] at hi
      rw [hget i hi]
      exact (hg i hi).2
theorem int_cells (h : DataW.trod enc Try.prog w base sp held fuel 3 cs = some x) : ∃ z : Int, cs = [.int .i64 z] ∧ -9223372036854775808 ≤ z ∧ z ≤ 9223372036854775807 := by
  obtain ⟨z, rfl, _, wz⟩ := DataW.trod_int Try.underlying3 h
  obtain ⟨h0, h1⟩ := bounds_i64 wz
  exact ⟨z, rfl, h0, h1⟩
theorem u8_cells (h : DataW.trod enc Try.prog w base sp held fuel 5 cs = some x) : ∃ n : Nat, cs = [.int .u8 (n : Int)] ∧ n < 256 := by
  obtain ⟨z, rfl, _, wz⟩ := DataW.trod_int Try.underlying5 h
  obtain ⟨h0, h1⟩ := bounds_u8 wz
  obtain ⟨n, rfl⟩ := Int.eq_ofNat_of_zero_le h0
  exact ⟨n, rfl, by omega⟩
theorem bool_cells (h : DataW.trod enc Try.prog w base sp held fuel 4 cs = some x) : ∃ b : Bool, cs = [.bool b] ∧ True := by
  obtain ⟨b, rfl, _⟩ := DataW.trod_bool Try.underlying4 h
  exact ⟨b, rfl, trivial⟩
end
set_option maxRecDepth 100000 in
theorem open_bools {H : Type} {enc : TypeId × Value → H} {w : World} {b0 base : Nat} {sp : Nat → Bool} {held : Bool} {v : Value} {d : DataW H} {p : List MemPlace}
    (hv : Value.okWide Try.prog w .any b0 22 v) (h : DataW.Trod enc Try.prog w base sp held 22 v d p) :
    ∃ (A : Option Addr) (l : List Bool) (ca : Nat), v = .slice A l.length ca ∧ BoolsAt w A l ∧ l.length ≤ 9223372036854775807 := by
  obtain ⟨a0, len, cap, rfl⟩ := okWide_slice Try.underlying22 hv
  obtain ⟨fuel, hf⟩ := h
  obtain ⟨A, l, ca, e, h1, h2, h3, _⟩ := slice_cells (k := 1) (f := fun b : Bool => [.bool b]) false (by omega) (fun _ => rfl) Try.underlying22 cells_bool bool_cells hf
  have h4 := le_max16 (Nat.le_trans h1 h2)
  refine ⟨A, l, ca, by simpa [Value.cells] using e, fun i hi => ?_, h4⟩
  obtain ⟨b, off, e, hc⟩ := h3 i hi
  exact ⟨b, off, e, by have := hc 0 _ rfl; simpa using this⟩
set_option maxRecDepth 100000 in
theorem open_u8s {H : Type} {enc : TypeId × Value → H} {w : World} {b0 base : Nat} {sp : Nat → Bool} {held : Bool} {v : Value} {d : DataW H} {p : List MemPlace}
    (hv : Value.okWide Try.prog w .any b0 23 v) (h : DataW.Trod enc Try.prog w base sp held 23 v d p) :
    ∃ (A : Option Addr) (l : List Nat) (ca : Nat), v = .slice A l.length ca ∧ BytesAt w A l ∧ l.length ≤ 9223372036854775807 ∧ ∀ k, k < l.length → l.getD k 0 < 256 := by
  obtain ⟨a0, len, cap, rfl⟩ := okWide_slice Try.underlying23 hv
  obtain ⟨fuel, hf⟩ := h
  obtain ⟨A, l, ca, e, h1, h2, h3, h4⟩ := slice_cells (k := 1) (f := fun n : Nat => [.int .u8 (n : Int)]) 0 (by omega) (fun _ => rfl) Try.underlying23 cells_u8 u8_cells hf
  have h5 := le_max16 (Nat.le_trans h1 h2)
  refine ⟨A, l, ca, by simpa [Value.cells] using e, fun i hi => ?_, h5, h4⟩
  obtain ⟨b, off, e, hc⟩ := h3 i hi
  exact ⟨b, off, e, by have := hc 0 _ rfl; simpa using this⟩
end Go.Proofs.Ytboiafchmdflpaa
