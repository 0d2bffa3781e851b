/- Slices of ints and of votes that came in, opened. -/
import Derived.Test.YtboiafchmdflpaaLawTallies16
import Derived.Test.YtboiafchmdflpaaProg
import Derived.Lib.SmallJoins
import Derived.OpenShut
import Derived.Deep.Slices
namespace Go.Proofs.Ytboiafchmdflpaa
open Go.ChangeShapes Go.WideShapes Go.ChangeAt Go.RowKit Go.Joins Go.Deep

theorem le_max16 {n : Nat} (h : n ≤ maxLen) : n ≤ 9223372036854775807 := by unfold maxLen at h; omega
theorem cells_int : Try.prog.cellsOf 3 = 1 := by kernel_rfl
theorem cells_bool : Try.prog.cellsOf 4 = 1 := by kernel_rfl
theorem cells_vote : Try.prog.cellsOf 36 = 2 := by kernel_rfl
theorem len_2 {α : Type} {l : List α} (h : l.length = 2) : ∃ a b, l = [a, b] := by
  match l, h with
  | [a, b], _ => exact ⟨a, b, rfl⟩
section
variable {H : Type} {enc : TypeId × Value → H} {w : World} {base fuel : Nat} {sp : Nat → Bool} {held : Bool} {cs : List Value} {x : DataW H × List MemPlace}

/-- A slice of elements of k cells, each of which reads as one of α. -/
theorem slice_cells {α : Type} [Inhabited α] {t e : TypeId} {k : Nat} {f : α → List Value} {q : α → Prop} (d : α) (hkp : 0 < k) (hd : ∀ a, (f a).length = k) (ht : Try.prog.underlying t = some (.slice e)) (hk : Try.prog.cellsOf e = k)
    (he : ∀ {fuel : Nat} {cs : List Value} {x : DataW H × List MemPlace}, DataW.trod enc Try.prog w base sp held fuel e cs = some x → ∃ a, cs = f a ∧ q a)
    (h : DataW.trod enc Try.prog w base sp held fuel t cs = some x) :
    ∃ (A : Option Addr) (l : List α) (cap : Nat), cs = [.slice A l.length cap] ∧ l.length ≤ cap ∧ cap ≤ maxLen ∧
      (∀ i, i < l.length → ∃ b off, A = some ⟨b, off, none⟩ ∧ ∀ j v, (f (l.getD i d))[j]? = some v → w.cell? ⟨b, off + i * k + j, none⟩ = some v) ∧ ∀ i, i < l.length → q (l.getD i d) := by
  rcases open_slice ht h with ⟨rfl, _⟩ | ⟨a, len, cap, m, n, D, Pl, rfl, hb, hl, hm, hmm, rfl, hx⟩
  · exact ⟨none, [], 0, rfl, Nat.le_refl _, Nat.zero_le _, fun i hi => absurd hi (Nat.not_lt_zero _), fun i hi => absurd hi (Nat.not_lt_zero _)⟩
  · have hlm : len ≤ m := by rw [hmm]; split <;> omega
    have each : ∀ i, i < len → ∃ y : α, w.cells? base (a.add (i * k)) k = some (f y) ∧ q y := by
      intro i hi
      obtain ⟨cs', h1, h2⟩ := hx i (by omega)
      rw [hk] at h1
      obtain ⟨y, rfl, hy⟩ := he h2
      exact ⟨y, h1, hy⟩
    obtain ⟨g, hg⟩ := choose_lt each
    have hlen : ((List.range len).map g).length = len := by simp
    have hget : ∀ i, i < len → ((List.range len).map g).getD i d = g i := fun i hi => by simp [List.getD_eq_getElem?_getD, hi]
    refine ⟨some a, (List.range len).map g, cap, by rw [hlen], by rw [hlen]; exact hl, hm, fun i hi => ?_, fun i hi => ?_⟩
    · rw [hlen] at hi
      obtain ⟨_, _, hc⟩ := World.cells?_some (hg i hi).1
      rw [hget i hi]
      obtain ⟨_, _, hcz⟩ := World.cells?_some (hg 0 (by omega)).1
      have hc0 := hcz 0 hkp
      obtain ⟨b, off, spot⟩ := a
      have hl0 : 0 < (f (g 0)).length := by rw [hd]; exact hkp
      rw [List.getElem?_eq_getElem hl0] at hc0
      have hspot : spot = none := by simpa [Addr.add] using World.cell?_spot hc0
      subst hspot
      refine ⟨b, off, rfl, fun j v hj => ?_⟩
      have hjk : j < k := by
        have := (List.getElem?_eq_some_iff.1 hj).1
        rw [hd] at this
        exact this
      have := hc j hjk
      rw [hj, Go.WideShapes.add_plain, Go.WideShapes.add_plain] at this
      exact this
    · rw [hlen] at hi
      rw [hget i hi]
      exact (hg i hi).2
theorem int_cells (h : DataW.trod enc Try.prog w base sp held fuel 3 cs = some x) : ∃ z : Int, cs = [.int .i64 z] ∧ -9223372036854775808 ≤ z ∧ z ≤ 9223372036854775807 := by
  obtain ⟨z, rfl, _, wz⟩ := DataW.trod_int Try.underlying3 h
  obtain ⟨h0, h1⟩ := bounds_i64 wz
  exact ⟨z, rfl, h0, h1⟩
theorem bool_cells (h : DataW.trod enc Try.prog w base sp held fuel 4 cs = some x) : ∃ b : Bool, cs = [.bool b] ∧ True := by
  obtain ⟨b, rfl, _⟩ := DataW.trod_bool Try.underlying4 h
  exact ⟨b, rfl, trivial⟩
theorem vote_cells (h : DataW.trod enc Try.prog w base sp held fuel 36 cs = some x) : ∃ v : VoteD, cs = [.int .i64 v.group, .bool v.yes] ∧ (-9223372036854775808 ≤ v.group ∧ v.group ≤ 9223372036854775807) := by
  obtain ⟨xs, n, _, _, hc, hl, hf⟩ := DataW.trod_struct Try.underlying36 h
  rw [cells_vote] at hc
  obtain ⟨a, b, rfl⟩ := len_2 hc
  obtain ⟨u, v, rfl⟩ := len_2 (l := xs) hl
  have g0 := hf 0 _ rfl
  have g1 := hf 1 _ rfl
  simp [cells_int, cells_bool] at g0 g1
  obtain ⟨z, e0, h0⟩ := int_cells g0
  obtain ⟨y, e1, _⟩ := bool_cells g1
  simp at e0 e1
  subst e0 e1
  exact ⟨⟨z, y⟩, rfl, h0⟩
end
set_option maxRecDepth 100000 in
theorem open_intsA {H : Type} {enc : TypeId × Value → H} {w : World} {b0 base : Nat} {sp : Nat → Bool} {held : Bool} {v : Value} {d : DataW H} {p : List MemPlace}
    (hv : Value.okWide Try.prog w .any b0 25 v) (h : DataW.Trod enc Try.prog w base sp held 25 v d p) :
    ∃ (A : Option Addr) (l : List Int) (ca : Nat), v = .slice A l.length ca ∧ IntsAt w A l ∧ l.length ≤ 9223372036854775807 := by
  obtain ⟨a0, len, cap, rfl⟩ := okWide_slice Try.underlying25 hv
  obtain ⟨fuel, hf⟩ := h
  obtain ⟨A, l, ca, e, h1, h2, h3, _⟩ := slice_cells (k := 1) (f := fun b : Int => [.int .i64 b]) 0 (by omega) (fun _ => rfl) Try.underlying25 cells_int int_cells hf
  have h4 := le_max16 (Nat.le_trans h1 h2)
  refine ⟨A, l, ca, by simpa [Value.cells] using e, fun i hi => ?_, h4⟩
  obtain ⟨b, off, e, hc⟩ := h3 i hi
  exact ⟨b, off, e, by have := hc 0 _ rfl; simpa using this⟩
set_option maxRecDepth 100000 in
theorem open_votes {H : Type} {enc : TypeId × Value → H} {w : World} {b0 base : Nat} {sp : Nat → Bool} {held : Bool} {v : Value} {d : DataW H} {p : List MemPlace}
    (hv : Value.okWide Try.prog w .any b0 32 v) (h : DataW.Trod enc Try.prog w base sp held 32 v d p) :
    ∃ (A : Option Addr) (l : List VoteD) (ca : Nat), v = .slice A l.length ca ∧ VotesAt w A l ∧ l.length ≤ 9223372036854775807 ∧ ∀ k, k < l.length → -9223372036854775808 ≤ (l.getD k noVote).group ∧ (l.getD k noVote).group ≤ 9223372036854775807 := by
  obtain ⟨a0, len, cap, rfl⟩ := okWide_slice Try.underlying32 hv
  obtain ⟨fuel, hf⟩ := h
  obtain ⟨A, l, ca, e, h1, h2, h3, h4⟩ := slice_cells (k := 2) (f := fun v : VoteD => [.int .i64 v.group, .bool v.yes]) noVote (by omega) (fun _ => rfl) Try.underlying32 cells_vote vote_cells hf
  have h5 := le_max16 (Nat.le_trans h1 h2)
  refine ⟨A, l, ca, by simpa [Value.cells] using e, fun i hi => ?_, h5, h4⟩
  obtain ⟨b, off, e, hc⟩ := h3 i hi
  exact ⟨b, off, e, hc 0 _ rfl, hc 1 _ rfl⟩
