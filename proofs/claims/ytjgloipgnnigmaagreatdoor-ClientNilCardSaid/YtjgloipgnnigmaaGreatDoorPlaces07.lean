/- The plain words of layer 7's places: how many replicas, whose place, whose replica. -/
import Derived.Test.YtjgloipgnnigmaaGreatDoorModel07
namespace Go.Proofs.YtjgloipgnnigmaaGreatDoor

def sumTo (l : List Int) : Nat → Int
  | 0 => 0
  | k + 1 => sumTo l k + l.getD k 0
def totZ (c : Cfg) : Int := if formedB c then sumTo c.reps c.reps.length else 0
/-- From group g on: whose is the place p? -/
def atGo (l : List Int) : Nat → Nat → Int → Int × Int
  | 0, _, _ => (-1, -1)
  | f + 1, g, p => if p < l.getD g 0 then ((g : Int), p) else atGo l f (g + 1) (p - l.getD g 0)
def atZ (c : Cfg) (p : Int) : Int × Int := if 0 ≤ p ∧ p < totZ c then atGo c.reps c.reps.length 0 p else (-1, -1)
def hasB (c : Cfg) (g n : Int) : Bool := formedB c && decide (0 ≤ g) && decide (g < c.reps.length) && decide (0 ≤ n) && decide (n < c.reps.getD g.toNat 0)
def placeZ (c : Cfg) (g n : Int) : Int := if hasB c g n then sumTo c.reps g.toNat + n else -1

theorem formed_repOK {c : Cfg} (h : formedB c = true) {k : Nat} (hk : k < c.reps.length) : repOK (c.reps.getD k 0) = true := by
  cases hr : repOK (c.reps.getD k 0)
  · rw [formed_rep hk hr] at h; cases h
  · rfl
theorem formed_range {c : Cfg} (h : formedB c = true) {k : Nat} (hk : k < c.reps.length) : 1 ≤ c.reps.getD k 0 ∧ c.reps.getD k 0 ≤ 5 := by
  have := formed_repOK h hk
  simp only [repOK, Bool.or_eq_true, beq_iff_eq, or_assoc] at this
  omega
theorem formed_len {c : Cfg} (h : formedB c = true) : 1 ≤ c.reps.length ∧ c.reps.length ≤ 4 ∧ c.bnds.length + 1 = c.reps.length := by
  have : sizesB c = true := by
    cases hz : sizesB c
    · rw [formed_sizes hz] at h; cases h
    · rfl
  simpa [sizesB, and_assoc] using this
theorem sumTo_range {c : Cfg} (h : formedB c = true) : ∀ k, k ≤ c.reps.length → (k : Int) ≤ sumTo c.reps k ∧ sumTo c.reps k ≤ 5 * k
  | 0, _ => by simp [sumTo]
  | k + 1, hk => by
    have h1 := sumTo_range h k (by omega)
    have h2 := formed_range h (k := k) (by omega)
    simp only [sumTo]
    omega
theorem sumTo_mono {c : Cfg} (h : formedB c = true) {i j : Nat} (hij : i ≤ j) (hj : j ≤ c.reps.length) : sumTo c.reps i ≤ sumTo c.reps j := by
  induction j with
  | zero => have : i = 0 := by omega
            subst this; exact Int.le_refl _
  | succ j ih =>
    by_cases e : i = j + 1
    · subst e; exact Int.le_refl _
    · have h1 := ih (by omega) (by omega)
      have h2 := formed_range h (k := j) (by omega)
      simp only [sumTo]
      omega
theorem tot_range (c : Cfg) : 0 ≤ totZ c ∧ totZ c ≤ 20 := by
  unfold totZ
  split
  · rename_i h
    have h1 := sumTo_range h _ (Nat.le_refl _)
    have h2 := formed_len h
    omega
  · omega

/-- At a replica's place: that replica. -/
theorem atGo_found {c : Cfg} (h : formedB c = true) (g : Nat) (hg : g < c.reps.length) (n : Int) (h0 : 0 ≤ n) (hn : n < c.reps.getD g 0) :
    ∀ (f j : Nat), j ≤ g → g < j + f → atGo c.reps f j (sumTo c.reps g - sumTo c.reps j + n) = ((g : Int), n)
  | 0, j, hj, hf => by omega
  | f + 1, j, hj, hf => by
    unfold atGo
    by_cases e : j = g
    · subst e
      rw [Int.sub_self, Int.zero_add, if_pos hn]
    · have hm := sumTo_mono h (i := j + 1) (j := g) (by omega) (by omega)
      have hs : sumTo c.reps (j + 1) = sumTo c.reps j + c.reps.getD j 0 := rfl
      rw [if_neg (by omega)]
      have := atGo_found h g hg n h0 hn f (j + 1) (by omega) (by omega)
      rw [hs] at this
      rw [← this]
      congr 1
      omega
theorem at_found {c : Cfg} (h : formedB c = true) {g : Nat} (hg : g < c.reps.length) {n : Int} (h0 : 0 ≤ n) (hn : n < c.reps.getD g 0) : atZ c (sumTo c.reps g + n) = ((g : Int), n) := by
  have h1 := sumTo_range h g (by omega)
  have h2 := sumTo_mono h (i := g + 1) (j := c.reps.length) (by omega) (Nat.le_refl _)
  have hs : sumTo c.reps (g + 1) = sumTo c.reps g + c.reps.getD g 0 := rfl
  have ht : totZ c = sumTo c.reps c.reps.length := by simp [totZ, h]
  unfold atZ
  rw [if_pos (by omega)]
  have := atGo_found h g hg n h0 hn c.reps.length 0 (by omega) (by omega)
  have h00 : sumTo c.reps 0 = 0 := rfl
  rw [h00, Int.sub_zero] at this
  exact this
theorem at_none {c : Cfg} {p : Int} (h : ¬ (0 ≤ p ∧ p < totZ c)) : atZ c p = (-1, -1) := by
  unfold atZ; rw [if_neg h]
/-- Each place up to the first k groups' is some replica's. -/
theorem split_place {c : Cfg} (h : formedB c = true) {p : Int} (h0 : 0 ≤ p) : ∀ k, k ≤ c.reps.length → p < sumTo c.reps k → ∃ (g : Nat) (n : Int), g < k ∧ 0 ≤ n ∧ n < c.reps.getD g 0 ∧ p = sumTo c.reps g + n
  | 0, _, hp => by simp [sumTo] at hp; omega
  | k + 1, hk, hp => by
    by_cases hlt : p < sumTo c.reps k
    · obtain ⟨g, n, hg, a, b, e⟩ := split_place h h0 k (by omega) hlt
      exact ⟨g, n, by omega, a, b, e⟩
    · have hs : sumTo c.reps (k + 1) = sumTo c.reps k + c.reps.getD k 0 := rfl
      exact ⟨k, p - sumTo c.reps k, by omega, by omega, by omega, by omega⟩
theorem tot_formed {c : Cfg} {p : Int} (h0 : 0 ≤ p) (h : p < totZ c) : formedB c = true := by
  cases hf : formedB c
  · simp [totZ, hf] at h; omega
  · rfl
/-- Whose place is p, of those that are: the one replica that has it. -/
theorem at_some {c : Cfg} {p : Int} (h0 : 0 ≤ p) (h : p < totZ c) : ∃ (g : Nat) (n : Int), g < c.reps.length ∧ 0 ≤ n ∧ n < c.reps.getD g 0 ∧ p = sumTo c.reps g + n ∧ atZ c p = ((g : Int), n) := by
  have hf := tot_formed h0 h
  have ht : totZ c = sumTo c.reps c.reps.length := by simp [totZ, hf]
  obtain ⟨g, n, hg, a, b, rfl⟩ := split_place hf h0 c.reps.length (Nat.le_refl _) (by omega)
  exact ⟨g, n, hg, a, b, rfl, at_found hf hg a b⟩
theorem has_iff {c : Cfg} {g n : Int} : hasB c g n = true ↔ formedB c = true ∧ 0 ≤ g ∧ g < c.reps.length ∧ 0 ≤ n ∧ n < c.reps.getD g.toNat 0 := by
  simp only [hasB, Bool.and_eq_true, decide_eq_true_eq, and_assoc]
theorem place_found {c : Cfg} (h : formedB c = true) {g : Nat} (hg : g < c.reps.length) {n : Int} (h0 : 0 ≤ n) (hn : n < c.reps.getD g 0) : placeZ c g n = sumTo c.reps g + n := by
  have : hasB c g n = true := has_iff.2 ⟨h, by omega, by omega, h0, by simpa using hn⟩
  unfold placeZ
  rw [if_pos this]
  simp
/-- A place's replica has that place. -/
theorem place_at {c : Cfg} {p : Int} (h0 : 0 ≤ p) (h : p < totZ c) : placeZ c (atZ c p).1 (atZ c p).2 = p := by
  obtain ⟨g, n, hg, a, b, e, e2⟩ := at_some h0 h
  rw [e2]
  rw [place_found (tot_formed h0 h) hg a b, e]
theorem place_none (c : Cfg) : placeZ c (-1) (-1) = -1 := by
  have : hasB c (-1) (-1) = false := by simp [hasB]
  simp [placeZ, this]
/-- A replica's place is its own. -/
theorem at_place {c : Cfg} {g n : Int} (h : hasB c g n = true) : 0 ≤ placeZ c g n ∧ placeZ c g n < totZ c ∧ atZ c (placeZ c g n) = (g, n) := by
  obtain ⟨hf, h1, h2, h3, h4⟩ := has_iff.1 h
  obtain ⟨k, rfl⟩ := Int.eq_ofNat_of_zero_le h1
  have h4' : n < c.reps.getD k 0 := by simpa using h4
  have hk : k < c.reps.length := by omega
  rw [place_found hf hk h3 h4']
  have q1 := sumTo_range hf k (by omega)
  have q2 := sumTo_mono hf (i := k + 1) (j := c.reps.length) (by omega) (Nat.le_refl _)
  have hs : sumTo c.reps (k + 1) = sumTo c.reps k + c.reps.getD k 0 := rfl
  have ht : totZ c = sumTo c.reps c.reps.length := by simp [totZ, hf]
  exact ⟨by omega, by omega, at_found hf hk h3 h4'⟩
/-- Of all places, the one at which a replica is found is its place. -/
theorem place_of_at {c : Cfg} {p g n : Int} (h0 : 0 ≤ p) (h : p < totZ c) (e : atZ c p = (g, n)) : placeZ c g n = p := by
  have := place_at h0 h
  rw [e] at this
  exact this
theorem place_not {c : Cfg} {g n : Int} (h : hasB c g n = false) : placeZ c g n = -1 := by simp [placeZ, h]
theorem at_has {c : Cfg} {p : Int} (h0 : 0 ≤ p) (h : p < totZ c) : hasB c (atZ c p).1 (atZ c p).2 = true := by
  obtain ⟨g, n, hg, a, b, e, e2⟩ := at_some h0 h
  rw [e2]
  exact has_iff.2 ⟨tot_formed h0 h, by simp, by simpa using hg, a, by simpa using b⟩
end Go.Proofs.YtjgloipgnnigmaaGreatDoor
