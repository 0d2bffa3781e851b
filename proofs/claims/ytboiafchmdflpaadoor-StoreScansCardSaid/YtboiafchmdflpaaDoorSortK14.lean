/- slices.Sorted(maps.Keys(s.keys)) as plain contracts. -/
import Derived.Test.YtboiafchmdflpaaDoorKeysIt
namespace Go.Proofs.YtboiafchmdflpaaDoor
open Go.RowKit Go.Maps Go.Sort Go.Shelf

theorem mapsKeys_any (mb : Option Nat) (w : World) : Calls Tryd.prog 45 #[.map mb] w fun e w' =>
    e = .returned (.func (.func 77) #[] #[.pointer (some ⟨w.heap.size, 0, none⟩)]) ∧ w.alloc (.cells #[.map mb] 86) = w' :=
  (callsIn_wide.1 (maps_Keys_V mb w)).mono (by rintro e w' ⟨rfl, rfl⟩; exact ⟨rfl, rfl⟩)
theorem size_of {w : World} {B N mb : Nat} {D : DataW Value} {V : ByteArray → Value} {O : Nat → Prop} {m : KV} (h : KeysAt w B N mb D V O m) (hr : RisesK m) (hne : ∀ p ∈ m, p.2 ≠ []) : Maps.size D = m.length := by
  have e := (keys_perm h hr hne).length_eq
  rw [keysL_len] at e
  obtain ⟨es, rfl, _⟩ := h.own.keysOf
  rw [e]
  simp [strKeys, Maps.size]
theorem sortedKeys_any {w : World} {B N mb : Nat} {D : DataW Value} {V : ByteArray → Value} {O : Nat → Prop} {m : KV} (h : KeysAt w B N mb D V O m) (hr : RisesK m) (hne : ∀ p ∈ m, p.2 ≠ []) (hl : m.length ≤ 800000) :
    Calls Tryd.prog 44 #[.func (.func 77) #[] #[.pointer (some ⟨w.heap.size, 0, none⟩)]] (w.alloc (.cells #[.map (some mb)] 86)) fun e w' =>
      ∃ (A : Option Addr) (cap : Nat), e = .returned (.slice A m.length cap) ∧ StrsAt w' A (m.map fun p => p.1) ∧ Below w.heap.size w w' := by
  have hsz := size_of h hr hne
  refine (callsIn_wide.1 (slices_Sorted_keys_V mb N D heldE w h.own (by rw [hsz]; unfold maxLen; omega) (by rw [hsz]; omega))).mono ?_
  rintro e w' ⟨v, ss, rfl, hp, hrow, _, hb⟩
  have hs := keys_sorted h hr hne hp
  have hlen : ss.length = m.length := by rw [hp.length_eq, ← (keys_perm h hr hne).length_eq, keysL_len]
  rw [hs, keysL_cells, hlen] at hrow
  obtain ⟨A, cap, rfl, hc, hA⟩ := own_strs (l := m.map fun p => p.1) (by rw [List.length_map, List.map_map]; exact hrow)
  exact ⟨A, cap, by simp, hA, keepB (below1 _ _) hb⟩
end Go.Proofs.YtboiafchmdflpaaDoor
