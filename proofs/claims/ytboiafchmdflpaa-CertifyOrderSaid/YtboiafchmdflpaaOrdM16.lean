/- CertifyOrder in plain Lean: the votes behind each round; what is known stays known. -/
import Derived.Test.YtboiafchmdflpaaTal16
import Derived.Test.YtboiafchmdflpaaModel07
namespace Go.Proofs.Ytboiafchmdflpaa

def gsN (n : Nat) : List Int := (List.range n).map fun i : Nat => (i : Int)
theorem gsN_len (n : Nat) : (gsN n).length = n := by simp [gsN]
theorem gsN_snoc (n : Nat) : gsN (n + 1) = gsN n ++ [(n : Int)] := by simp [gsN, List.range_succ]
theorem mem_gsN {n : Nat} {x : Int} : x ∈ gsN n ↔ ∃ k : Nat, k < n ∧ (k : Int) = x := by simp [gsN]
theorem gsN_nodup (n : Nat) : (gsN n).Nodup := by
  induction n with
  | zero => exact List.nodup_nil
  | succ n ih =>
    rw [gsN_snoc, List.nodup_append]
    refine ⟨ih, by simp, fun a ha b hb e => ?_⟩
    simp at hb
    obtain ⟨k, hk, e'⟩ := mem_gsN.1 ha
    omega
def gAt (ord : List Nat) (n i : Nat) : Nat := if i < ord.length then ord.getD i 0 % n else i - ord.length
def yesAt (yes : List Bool) (g : Nat) : Bool := yes.getD g false
def vsAt (yes : List Bool) (ord : List Nat) : Nat → List (Int × Bool)
  | 0 => []
  | i + 1 => putV (gsN yes.length) (putV (gsN yes.length) (vsAt yes ord i) (gAt ord yes.length i) (yesAt yes (gAt ord yes.length i))) (gAt ord yes.length i) (!yesAt yes (gAt ord yes.length i))

theorem gAt_lt {ord : List Nat} {n i : Nat} (hn : 0 < n) (hi : i < ord.length + n) : gAt ord n i < n := by
  unfold gAt
  split
  · exact Nat.mod_lt _ hn
  · omega
theorem has_put_self (gs : List Int) (vs : List (Int × Bool)) (g : Int) (y : Bool) (hg : g ∈ gs) : hasV (putV gs vs g y) g = true := by
  unfold putV
  split
  · rw [hasV_snoc]; simp
  · rename_i h
    simp only [mayPut, Bool.and_eq_true, List.contains_iff_mem, not_and, Bool.not_eq_true', Bool.not_eq_false] at h
    exact h hg
theorem put_again (gs : List Int) (vs : List (Int × Bool)) (g : Int) (y z : Bool) (hg : g ∈ gs) : putV gs (putV gs vs g y) g z = putV gs vs g y := by
  have h : mayPut gs (putV gs vs g y) g = false := by rw [mayPut, has_put_self gs vs g y hg]; simp
  show (if mayPut gs (putV gs vs g y) g = true then _ else _) = _
  rw [h]
  rfl
theorem vsAt_succ {yes : List Bool} {ord : List Nat} {i : Nat} (hn : 0 < yes.length) (hi : i < ord.length + yes.length) :
    vsAt yes ord (i + 1) = putV (gsN yes.length) (vsAt yes ord i) (gAt ord yes.length i) (yesAt yes (gAt ord yes.length i)) := by
  rw [vsAt, put_again]
  exact mem_gsN.2 ⟨_, gAt_lt hn hi, rfl⟩
theorem has_put_old {gs : List Int} {vs : List (Int × Bool)} {g h : Int} {y : Bool} (hh : hasV vs h = true) : hasV (putV gs vs g y) h = true := by
  unfold putV
  split
  · rw [hasV_snoc, hh]; rfl
  · exact hh
/-- The votes behind i rounds: a tally's; each one is its group's; the last groups have voted. -/
structure VsInv (yes : List Bool) (ord : List Nat) (i : Nat) : Prop where
  tal : Tally (gsN yes.length) (vsAt yes ord i)
  right : ∀ v ∈ vsAt yes ord i, ∃ k : Nat, k < yes.length ∧ v = ((k : Int), yesAt yes k)
  cover : ∀ j : Nat, ord.length + j < i → j < yes.length → hasV (vsAt yes ord i) (j : Int) = true
theorem vsInv {yes : List Bool} {ord : List Nat} (hn : 0 < yes.length) : ∀ i, i ≤ ord.length + yes.length → VsInv yes ord i
  | 0, _ => ⟨Tally.start (gsN_nodup _), fun v hv => by simp [vsAt] at hv, fun j hj _ => by omega⟩
  | i + 1, hi => by
    have ih := vsInv (ord := ord) hn i (by omega)
    have hg := gAt_lt (ord := ord) hn (show i < ord.length + yes.length by omega)
    refine ⟨?_, ?_, ?_⟩
    · rw [vsAt_succ hn (by omega)]; exact ih.tal.put _ _
    · rw [vsAt_succ hn (by omega)]
      intro v hv
      unfold putV at hv
      split at hv
      · rcases List.mem_append.1 hv with hv | hv
        · exact ih.right v hv
        · simp at hv; exact ⟨_, hg, hv⟩
      · exact ih.right v hv
    · intro j hj hjn
      rw [vsAt_succ hn (by omega)]
      by_cases e : ord.length + j = i
      · have : gAt ord yes.length i = j := by unfold gAt; rw [if_neg (by omega)]; omega
        rw [this]
        exact has_put_self _ _ _ _ (mem_gsN.2 ⟨j, hjn, rfl⟩)
      · exact has_put_old (ih.cover j (by omega) hjn)
/-- What is known stays. -/
theorem known_stays {yes : List Bool} {ord : List Nat} {i : Nat} (hn : 0 < yes.length) (hi : i < ord.length + yes.length) (hk : outKnown yes.length (vsAt yes ord i) = true) :
    outYes yes.length (vsAt yes ord (i + 1)) = outYes yes.length (vsAt yes ord i) ∧ outKnown yes.length (vsAt yes ord (i + 1)) = true := by
  have ih := vsInv (ord := ord) hn i (by omega)
  rw [vsAt_succ hn hi]
  unfold putV
  split
  · rename_i hm
    have hnl : ((vsAt yes ord i).length == yes.length) = false := by
      rw [beq_eq_false_iff_ne]
      intro e
      have ha := ih.tal.all_voted
      rw [gsN_len, e, beq_self_eq_true, List.all_eq_true] at ha
      simp only [mayPut, Bool.and_eq_true, List.contains_iff_mem, Bool.not_eq_true'] at hm
      rw [ha _ hm.1] at hm
      cases hm.2
    rw [outKnown, hnl, Bool.or_false] at hk
    constructor
    · simp [outYes, anyNo_snoc, hk]
    · simp [outKnown, anyNo_snoc, hk]
  · exact ⟨rfl, hk⟩
/-- At last all is known, and is what all say. -/
theorem known_last {yes : List Bool} {ord : List Nat} (hn : 0 < yes.length) :
    outKnown yes.length (vsAt yes ord (ord.length + yes.length)) = true ∧ outYes yes.length (vsAt yes ord (ord.length + yes.length)) = yes.all id := by
  have ih := vsInv (ord := ord) hn _ (Nat.le_refl _)
  have ha := ih.tal.all_voted
  rw [gsN_len] at ha
  have hall : ((gsN yes.length).all fun g => hasV (vsAt yes ord (ord.length + yes.length)) g) = true := by
    rw [List.all_eq_true]
    intro x hx
    obtain ⟨k, hk, rfl⟩ := mem_gsN.1 hx
    exact ih.cover k (by omega) hk
  rw [hall] at ha
  refine ⟨by rw [outKnown, ← ha, Bool.or_true], ?_⟩
  rw [outYes, ← ha, Bool.and_true, Bool.eq_iff_iff, List.all_eq_true]
  constructor
  · intro h x hx
    obtain ⟨k, hk, e⟩ := List.mem_iff_getElem.1 hx
    have h1 := hasV_iff.1 (ih.cover k (by omega) hk)
    obtain ⟨v, hv, e1⟩ := List.mem_map.1 h1
    obtain ⟨k', hk', e2⟩ := ih.right v hv
    have ek : k' = k := by rw [e2] at e1; simp at e1; omega
    have h2 : v.2 = true := by
      have := List.any_eq_false.1 (by simpa using h : anyNo (vsAt yes ord (ord.length + yes.length)) = false) v hv
      simpa using this
    rw [e2, ek] at h2
    have : x = yesAt yes k := by rw [yesAt, List.getD_eq_getElem?_getD, List.getElem?_eq_getElem hk]; exact e.symm
    rw [this]
    exact h2
  · intro h
    rw [Bool.not_eq_true', anyNo, List.any_eq_false]
    intro v hv
    obtain ⟨k, hk, e⟩ := ih.right v hv
    have := h yes[k] (List.getElem_mem hk)
    rw [e]
    simp only [yesAt, List.getD_eq_getElem?_getD, List.getElem?_eq_getElem hk, Option.getD_some]
    simpa using this
end Go.Proofs.Ytboiafchmdflpaa
