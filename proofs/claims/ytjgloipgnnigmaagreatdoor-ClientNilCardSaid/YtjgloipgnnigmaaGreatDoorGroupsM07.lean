/- The plain words of layer 7's Groups. -/
import Derived.Test.YtjgloipgnnigmaaGreatDoorHomeM07
import Derived.Test.YtjgloipgnnigmaaGreatDoorOwn
namespace Go.Proofs.YtjgloipgnnigmaaGreatDoor

def touchB (c : Cfg) (keys : List ByteArray) (g : Nat) : Bool := keys.any fun s => homeZ c s == (g : Int)
/-- Of the first k groups those that have a key, rising. -/
def groupsTo (c : Cfg) (keys : List ByteArray) (k : Nat) : List Int := ((List.range k).filter (touchB c keys)).map Int.ofNat
def groupsL (c : Cfg) (keys : List ByteArray) : List Int := if formedB c then groupsTo c keys c.reps.length else []

theorem groupsTo_succ (c : Cfg) (keys : List ByteArray) (k : Nat) : groupsTo c keys (k + 1) = groupsTo c keys k ++ if touchB c keys k then [(k : Int)] else [] := by
  unfold groupsTo
  rw [List.range_succ, List.filter_append, List.map_append]
  congr 1
  by_cases h : touchB c keys k <;> simp [h]
theorem groupsTo_rises (c : Cfg) (keys : List ByteArray) : ∀ k, (groupsTo c keys k).Pairwise (· < ·) ∧ ∀ x, x ∈ groupsTo c keys k ↔ ∃ g : Nat, g < k ∧ touchB c keys g = true ∧ (g : Int) = x
  | 0 => by simp [groupsTo]
  | k + 1 => by
    obtain ⟨h1, h2⟩ := groupsTo_rises c keys k
    rw [groupsTo_succ]
    cases ht : touchB c keys k
    · simp only [Bool.false_eq_true, if_false, List.append_nil]
      refine ⟨h1, fun x => ?_⟩
      rw [h2]
      constructor
      · rintro ⟨g, a, b, e⟩; exact ⟨g, by omega, b, e⟩
      · rintro ⟨g, a, b, e⟩
        by_cases eg : g = k
        · subst eg; rw [ht] at b; cases b
        · exact ⟨g, by omega, b, e⟩
    · simp only [if_true]
      refine ⟨?_, fun x => ?_⟩
      · rw [List.pairwise_append]
        refine ⟨h1, by simp, fun a ha b hb => ?_⟩
        simp only [List.mem_singleton] at hb
        obtain ⟨g, hg, _, rfl⟩ := (h2 a).1 ha
        subst hb; omega
      · rw [List.mem_append, h2]
        simp only [List.mem_singleton]
        constructor
        · rintro (⟨g, a, b, e⟩ | e)
          · exact ⟨g, by omega, b, e⟩
          · exact ⟨k, by omega, ht, e.symm⟩
        · rintro ⟨g, a, b, e⟩
          by_cases eg : g = k
          · subst eg; exact .inr e.symm
          · exact .inl ⟨g, by omega, b, e⟩
theorem groupsTo_length (c : Cfg) (keys : List ByteArray) : ∀ k, (groupsTo c keys k).length ≤ k
  | 0 => by simp [groupsTo]
  | k + 1 => by
    have := groupsTo_length c keys k
    rw [groupsTo_succ, List.length_append]
    split <;> simp <;> omega
/-- Sorted and compacted, the keys' groups are the groups. -/
theorem groups_of_homes {c : Cfg} (h : formedB c = true) (keys : List ByteArray) : Lib.compact ((keys.map (homeZ c)).mergeSort fun x y => decide (x ≤ y)) = groupsL c keys := by
  obtain ⟨h1, h2⟩ := groupsTo_rises c keys c.reps.length
  have e : groupsL c keys = groupsTo c keys c.reps.length := by simp [groupsL, h]
  rw [e]
  refine sort_compact _ _ h1 (fun x => ?_)
  rw [h2, List.mem_map]
  constructor
  · rintro ⟨s, hs, rfl⟩
    obtain ⟨q1, q2⟩ := home_range h s
    refine ⟨(homeZ c s).toNat, by omega, ?_, by omega⟩
    unfold touchB
    rw [List.any_eq_true]
    exact ⟨s, hs, by rw [beq_iff_eq]; omega⟩
  · rintro ⟨g, hg, ht, rfl⟩
    unfold touchB at ht
    rw [List.any_eq_true] at ht
    obtain ⟨s, hs, e⟩ := ht
    exact ⟨s, hs, by simpa using e⟩
/-- Of the first k keys, is one of group g? -/
def touchTo (c : Cfg) (keys : List ByteArray) (g : Nat) : Nat → Bool
  | 0 => false
  | k + 1 => touchTo c keys g k || homeZ c (keys.getD k noStr) == (g : Int)
theorem touchTo_take (c : Cfg) (keys : List ByteArray) (g : Nat) : ∀ k, k ≤ keys.length → touchTo c keys g k = (keys.take k).any fun s => homeZ c s == (g : Int)
  | 0, _ => by simp [touchTo]
  | k + 1, hk => by
    have h : k < keys.length := by omega
    rw [List.take_succ_eq_append_getElem h, List.any_append, ← touchTo_take c keys g k (by omega)]
    simp [touchTo, List.getD_eq_getElem?_getD, h]
theorem touchTo_all (c : Cfg) (keys : List ByteArray) (g : Nat) : touchTo c keys g keys.length = touchB c keys g := by
  rw [touchTo_take _ _ _ _ (Nat.le_refl _), List.take_length]; rfl
theorem take_map_snoc {α : Type} (l : List ByteArray) (f : ByteArray → α) (k : Nat) (h : k < l.length) : (l.take (k + 1)).map f = (l.take k).map f ++ [f (l.getD k noStr)] := by
  rw [List.take_succ_eq_append_getElem h, List.map_append]
  simp [List.getD_eq_getElem?_getD, h]
end Go.Proofs.YtjgloipgnnigmaaGreatDoor
