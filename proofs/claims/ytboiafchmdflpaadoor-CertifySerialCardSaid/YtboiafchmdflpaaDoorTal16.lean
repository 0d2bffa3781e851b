/- Layer 16's tallies, in plain Lean: the votes in the order in which they came; what comes of them; what the reference holds. -/
import Derived.Test.YtboiafchmdflpaaDoorBase
namespace Go.Proofs.YtboiafchmdflpaaDoor

/-- A group's vote. -/
def hasV (vs : List (Int × Bool)) (g : Int) : Bool := vs.any fun v => v.1 == g
def votedV (vs : List (Int × Bool)) (g : Int) : Bool := match vs.find? (fun v => v.1 == g) with
  | some v => v.2
  | none => false
def anyNo (vs : List (Int × Bool)) : Bool := vs.any fun v => !v.2
/-- What comes of the votes of n groups: yes?, known? -/
def outYes (n : Nat) (vs : List (Int × Bool)) : Bool := !anyNo vs && vs.length == n
def outKnown (n : Nat) (vs : List (Int × Bool)) : Bool := anyNo vs || vs.length == n
def mayPut (gs : List Int) (vs : List (Int × Bool)) (g : Int) : Bool := gs.contains g && !hasV vs g
def putV (gs : List Int) (vs : List (Int × Bool)) (g : Int) (y : Bool) : List (Int × Bool) := if mayPut gs vs g then vs ++ [(g, y)] else vs
/-- The reference's number for a group: 0 none, 1 no, 2 yes. -/
def numV (vs : List (Int × Bool)) (g : Int) : Int := if hasV vs g then (if votedV vs g then 2 else 1) else 0

theorem hasV_snoc (vs : List (Int × Bool)) (g h : Int) (y : Bool) : hasV (vs ++ [(g, y)]) h = (hasV vs h || g == h) := by simp [hasV]
theorem votedV_snoc_same {vs : List (Int × Bool)} {g : Int} (y : Bool) (h : hasV vs g = false) : votedV (vs ++ [(g, y)]) g = y := by
  have : vs.find? (fun v => v.1 == g) = none := by
    rw [List.find?_eq_none]
    intro x hx hc
    have := List.any_eq_false.1 h x hx
    exact this hc
  simp [votedV, List.find?_append, this]
theorem votedV_snoc_other {vs : List (Int × Bool)} {g h : Int} (y : Bool) (hne : g ≠ h) : votedV (vs ++ [(g, y)]) h = votedV vs h := by
  have : (g == h) = false := by simp [hne]
  simp only [votedV, List.find?_append, List.find?_cons, this]
  cases vs.find? (fun v => v.1 == h) <;> simp
theorem numV_snoc_same {vs : List (Int × Bool)} {g : Int} (y : Bool) (h : hasV vs g = false) : numV (vs ++ [(g, y)]) g = if y then 2 else 1 := by
  rw [numV, hasV_snoc, votedV_snoc_same y h]
  simp
theorem numV_snoc_other {vs : List (Int × Bool)} {g h : Int} (y : Bool) (hne : g ≠ h) : numV (vs ++ [(g, y)]) h = numV vs h := by
  have : (g == h) = false := by simp [hne]
  rw [numV, hasV_snoc, votedV_snoc_other y hne, this, Bool.or_false]
  rfl
theorem anyNo_snoc (vs : List (Int × Bool)) (g : Int) (y : Bool) : anyNo (vs ++ [(g, y)]) = (anyNo vs || !y) := by simp [anyNo]

/-- Votes that have come so: of groups of the tally, each once. -/
structure Tally (gs : List Int) (vs : List (Int × Bool)) : Prop where
  nodup : gs.Nodup
  keys : (vs.map (·.1)).Nodup
  sub : ∀ v ∈ vs, v.1 ∈ gs
theorem hasV_iff {vs : List (Int × Bool)} {g : Int} : hasV vs g = true ↔ g ∈ vs.map (·.1) := by
  simp [hasV]
theorem Tally.put {gs : List Int} {vs : List (Int × Bool)} (h : Tally gs vs) (g : Int) (y : Bool) : Tally gs (putV gs vs g y) := by
  unfold putV
  split
  · rename_i hm
    simp only [mayPut, Bool.and_eq_true, List.contains_iff_mem, Bool.not_eq_true'] at hm
    refine ⟨h.nodup, ?_, ?_⟩
    · rw [List.map_append, List.nodup_append]
      refine ⟨h.keys, by simp, ?_⟩
      intro a ha b hb e
      simp at hb
      subst hb e
      have := hasV_iff.2 ha
      rw [hm.2] at this
      cases this
    · intro v hv
      rcases List.mem_append.1 hv with hv | hv
      · exact h.sub v hv
      · simp at hv; subst hv; exact hm.1
  · exact h
theorem nodup_le : ∀ {l m : List Int}, l.Nodup → (∀ x ∈ l, x ∈ m) → l.length ≤ m.length
  | [], _, _, _ => Nat.zero_le _
  | a :: l, m, hl, hs => by
    rw [List.nodup_cons] at hl
    have ha := hs a (by simp)
    have := nodup_le (l := l) (m := m.erase a) hl.2 (fun x hx => (List.mem_erase_of_ne (fun e => hl.1 (by rw [← e]; exact hx))).2 (hs x (by simp [hx])))
    rw [List.length_erase_of_mem ha] at this
    have := List.length_pos_of_mem ha
    simp only [List.length_cons]
    omega
theorem Tally.le {gs : List Int} {vs : List (Int × Bool)} (h : Tally gs vs) : vs.length ≤ gs.length := by
  have := nodup_le (m := gs) h.keys (fun x hx => by obtain ⟨v, hv, rfl⟩ := List.mem_map.1 hx; exact h.sub v hv)
  simpa using this
/-- All groups have voted just if there are as many votes as groups. -/
theorem Tally.all_voted {gs : List Int} {vs : List (Int × Bool)} (h : Tally gs vs) : (gs.all fun g => hasV vs g) = (vs.length == gs.length) := by
  rw [Bool.eq_iff_iff, List.all_eq_true, beq_iff_eq]
  constructor
  · intro ha
    have h1 := nodup_le (m := vs.map (·.1)) h.nodup (fun x hx => hasV_iff.1 (ha x hx))
    have h2 := h.le
    simp at h1
    omega
  · intro e x hx
    rw [hasV_iff]
    apply Classical.byContradiction
    intro hn
    have h3 := nodup_le (l := x :: vs.map (·.1)) (m := gs) (List.nodup_cons.2 ⟨hn, h.keys⟩) (fun y hy => by
      rcases List.mem_cons.1 hy with rfl | hy
      · exact hx
      · obtain ⟨v, hv, rfl⟩ := List.mem_map.1 hy; exact h.sub v hv)
    simp at h3
    omega
theorem votedV_of_mem {vs : List (Int × Bool)} (hk : (vs.map (·.1)).Nodup) {v : Int × Bool} (hv : v ∈ vs) : votedV vs v.1 = v.2 := by
  induction vs with
  | nil => cases hv
  | cons a l ih =>
    simp only [List.map_cons, List.nodup_cons] at hk
    rcases List.mem_cons.1 hv with rfl | hv
    · simp [votedV]
    · have hne : (a.1 == v.1) = false := by
        rw [beq_eq_false_iff_ne]
        intro e
        exact hk.1 (List.mem_map.2 ⟨v, hv, e.symm⟩)
      have := ih hk.2 hv
      simp only [votedV, List.find?_cons, hne] at this ⊢
      exact this
/-- A 'no' among the reference's numbers, just if there is one among the votes. -/
theorem Tally.any_one {gs : List Int} {vs : List (Int × Bool)} (h : Tally gs vs) : (gs.any fun g => numV vs g == 1) = anyNo vs := by
  rw [Bool.eq_iff_iff, List.any_eq_true, anyNo, List.any_eq_true]
  constructor
  · rintro ⟨g, _, hn⟩
    rw [beq_iff_eq, numV] at hn
    split at hn
    · rename_i hh
      split at hn
      · omega
      · rename_i hv
        obtain ⟨v, hv1, rfl⟩ := List.mem_map.1 (hasV_iff.1 hh)
        exact ⟨v, hv1, by rw [votedV_of_mem h.keys hv1] at hv; simpa using hv⟩
    · omega
  · rintro ⟨v, hv, hn⟩
    refine ⟨v.1, h.sub v hv, ?_⟩
    have h1 : hasV vs v.1 = true := hasV_iff.2 (List.mem_map.2 ⟨v, hv, rfl⟩)
    have h2 : v.2 = false := by simpa using hn
    simp [numV, h1, votedV_of_mem h.keys hv, h2]
/-- Without a 'no': all are 'yes' just if all have voted. -/
theorem Tally.all_two {gs : List Int} {vs : List (Int × Bool)} (h : Tally gs vs) (hno : anyNo vs = false) : (gs.all fun g => numV vs g == 2) = (vs.length == gs.length) := by
  rw [← h.all_voted]
  have hv : ∀ g, hasV vs g = true → votedV vs g = true := fun g hg => by
    obtain ⟨v, hv, rfl⟩ := List.mem_map.1 (hasV_iff.1 hg)
    rw [votedV_of_mem h.keys hv]
    have := List.any_eq_false.1 hno v hv
    simpa using this
  congr 1
  funext g
  cases hg : hasV vs g
  · simp [numV, hg]
  · simp [numV, hg, hv g hg]
theorem Tally.start {gs : List Int} (h : gs.Nodup) : Tally gs [] := ⟨h, by simp, by simp⟩
end Go.Proofs.YtboiafchmdflpaaDoor
