/- slices.Sorted(maps.Keys(s.keys)): the keys of a store, rising. -/
import Derived.Test.YtboiafchmdflpaaDoorMap14
import Derived.Sort.KeysCollected
namespace Go.Proofs.YtboiafchmdflpaaDoor
open Go.RowKit Go.Maps Go.Sort

def keysL (m : KV) : List (List UInt8) := m.map fun p => p.1.data.toList
theorem keysL_pair {m : KV} (h : RisesK m) : (keysL m).Pairwise fun a b => a < b := by
  refine List.pairwise_map.2 (h.imp fun {p q} hpq => ?_)
  have e : ∀ b : ByteArray, b.toList = b.data.toList := fun b => by rw [ByteArray.toList_eq]
  simp only [lessS, bytesLess_eq, decide_eq_true_eq, e] at hpq
  exact hpq
theorem keysL_nodup {m : KV} (h : RisesK m) : (keysL m).Nodup := (keysL_pair h).imp fun hab e => by subst e; exact List.lt_irrefl _ hab
theorem getK_empty {m : KV} {x : ByteArray} (h : ∀ p ∈ m, p.1 ≠ x) : getK m x = [] := getK_none h
theorem mem_keysL {m : KV} (h : RisesK m) (hne : ∀ p ∈ m, p.2 ≠ []) (x : List UInt8) : x ∈ keysL m ↔ (!(getK m ⟨x.toArray⟩).isEmpty) = true := by
  constructor
  · intro hx
    obtain ⟨p, hp, rfl⟩ := List.mem_map.1 hx
    have e : (⟨p.1.data.toList.toArray⟩ : ByteArray) = p.1 := rfl
    rw [e, getK_mem h (l := p.2) hp]
    have := hne p hp
    cases hq : p.2 with
    | nil => exact absurd hq this
    | cons a l => rfl
  · intro hx
    by_cases hm : getK m ⟨x.toArray⟩ = []
    · rw [hm] at hx; cases hx
    · exact List.mem_map.2 ⟨_, getK_in hm, by simp⟩
theorem keys_perm {w : World} {B N mb : Nat} {D : DataW Value} {V : ByteArray → Value} {O : Nat → Prop} {m : KV} (h : KeysAt w B N mb D V O m) (hr : RisesK m) (hne : ∀ p ∈ m, p.2 ≠ []) : (keysL m).Perm (strKeys D) := by
  refine Collected.perm (left := fun _ => false) ⟨keysL_nodup hr, fun x => ?_⟩ h.own keyS Tryd.underlying9 (fun _ => rfl)
  have e := h.has ⟨x.toArray⟩
  rw [show lit ⟨x.toArray⟩ = Lit.string x by simp [lit]] at e
  rw [mem_keysL hr hne, e]
  simp
theorem keys_sorted {w : World} {B N mb : Nat} {D : DataW Value} {V : ByteArray → Value} {O : Nat → Prop} {m : KV} (h : KeysAt w B N mb D V O m) (hr : RisesK m) (hne : ∀ p ∈ m, p.2 ≠ []) {ss : List (List UInt8)} (hp : ss.Perm (strKeys D)) : ss.mergeSort (fun x y => decide (x ≤ y)) = keysL m := by
  have e : ss.mergeSort leB = (keysL m).mergeSort leB := mergeSort_of_perm (hp.trans (keys_perm h hr hne).symm)
  refine e.trans (List.mergeSort_of_pairwise ((keysL_pair hr).imp fun hab => ?_))
  simp only [leB, decide_eq_true_eq]
  exact List.le_of_lt hab
theorem keysL_cells (m : KV) : (keysL m).map encStr = (m.map fun p => Value.string p.1) := by
  rw [keysL, List.map_map]
  exact List.map_congr_left fun p _ => by simp [encStr]
theorem keysL_len (m : KV) : (keysL m).length = m.length := List.length_map ..
end Go.Proofs.YtboiafchmdflpaaDoor
