/- slices.Sorted(maps.Keys(..)) at the store's map: contracts. -/
import Derived.Test.YtboiafchmdflpaaGreatDoorShelfC
import Derived.Test.YtboiafchmdflpaaGreatDoorG3
namespace Go.Proofs.YtboiafchmdflpaaGreatDoor
open Go.RowKit Go.Maps Go.Sort Go.Shelf

theorem sortsS (m : Nat) : AnyZ.SortsIn Tryz.prog Tryz.sortedS_ren Fence.wide m :=
  ⟨fun blk off cap ss W hH hblk hsz => callsIn_wide.2 (AnyM.slices_Sort_string Tryz.sortS blk off cap ss W hH hblk hsz),
   fun p cap W => callsIn_wide.2 (AnyM.slices_Sort_string_none Tryz.sortS p cap W)⟩
theorem maps_Keys_V (mb : Option Nat) (W : World) : CallsIn Fence.wide 5 Tryz.prog 29 #[.map mb] W fun e w' => e = .returned (.func (.func 56) #[] #[.pointer (some ⟨W.heap.size, 0, none⟩)]) ∧ w' = W.alloc (.cells #[.map mb] 47) :=
  AnyZ.keys_in Tryz.keysV Fence.wide 5 trivial rfl mb W
set_option maxHeartbeats 1000000 in
theorem slices_Sorted_keys_V {H : Type} (b nn : Nat) (D0 : DataW H) (R : Value → Option (DataW H × List MemPlace)) (w : World) (hown : w.ownsMap Tryz.prog 9 R b nn D0) (hmax : Maps.size D0 ≤ maxLen) (hbytes : Maps.size D0 * 16 ≤ 140737488355328) :
    CallsIn Fence.wide 5 Tryz.prog 28 #[.func (.func 56) #[] #[.pointer (some ⟨w.heap.size, 0, none⟩)]] (w.alloc (.cells #[.map (some b)] 47)) fun e w' => ∃ (v : Value) (ss : List (List UInt8)), e = .returned v ∧ ss.Perm (strKeys D0) ∧
      w'.ownsRow (w.alloc (.cells #[.map (some b)] 47)).heap.size 9 1 v ss.length ((ss.mergeSort (fun x y => decide (x ≤ y))).map encStr) ∧ (v = .slice none 0 0 ↔ ss = []) ∧ Below (w.alloc (.cells #[.map (some b)] 47)).heap.size (w.alloc (.cells #[.map (some b)] 47)) w' := by
  have hbl := hown.lt
  have hseq : SeqGives Fence.wide 2 Tryz.prog 56 #[.pointer (some ⟨w.heap.size, 0, none⟩)] encStr (fun ss => ss.Perm (strKeys D0)) (Maps.size D0) (w.alloc (.cells #[.map (some b)] 47)) :=
    AnyZ.keys_gives (ρ := Tryz.keysV_ren) { Tryz.keysV with } Fence.wide _ trivial rfl (by omega) w.heap.size b nn D0 _ (by simp) (by simp) (by
      obtain ⟨es, clock, hb, Ft, hs, hD⟩ := hown
      exact ⟨es, clock, (Below.heap_alloc _ _ b hbl).trans hb, Ft, hs, hD⟩)
  exact AnyZ.sorted_in Tryz.sortedS Fence.wide 5 trivial trivial trivial trivial rfl (by omega) (sortsS _) (enters_of Tryz.func55 (by kernel_rfl) rfl) 56 #[.pointer (some ⟨w.heap.size, 0, none⟩)] trivial (enters_of Tryz.func56 (by kernel_rfl) rfl) _ _ hmax hbytes _ hseq
set_option maxHeartbeats 1000000 in
theorem slices_Sorted_keys_nil_V (w : World) :
    CallsIn Fence.wide 5 Tryz.prog 28 #[.func (.func 56) #[] #[.pointer (some ⟨w.heap.size, 0, none⟩)]] (w.alloc (.cells #[.map none] 47)) fun e w' => ∃ (v : Value) (ss : List (List UInt8)), e = .returned v ∧ ss = [] ∧
      w'.ownsRow (w.alloc (.cells #[.map none] 47)).heap.size 9 1 v ss.length ((ss.mergeSort (fun x y => decide (x ≤ y))).map encStr) ∧ (v = .slice none 0 0 ↔ ss = []) ∧ Below (w.alloc (.cells #[.map none] 47)).heap.size (w.alloc (.cells #[.map none] 47)) w' := by
  have hseq : SeqGives Fence.wide 2 Tryz.prog 56 #[.pointer (some ⟨w.heap.size, 0, none⟩)] encStr (fun ss : List (List UInt8) => ss = []) 0 (w.alloc (.cells #[.map none] 47)) :=
    AnyZ.keys_gives_nil (ρ := Tryz.keysV_ren) { Tryz.keysV with } Fence.wide _ trivial rfl w.heap.size _ (by simp) (by simp)
  exact AnyZ.sorted_in Tryz.sortedS Fence.wide 5 trivial trivial trivial trivial rfl (by omega) (sortsS _) (enters_of Tryz.func55 (by kernel_rfl) rfl) 56 #[.pointer (some ⟨w.heap.size, 0, none⟩)] trivial (enters_of Tryz.func56 (by kernel_rfl) rfl) _ 0 (Nat.zero_le _) (by omega) _ hseq
end Go.Proofs.YtboiafchmdflpaaGreatDoor
/- slices.Sorted(maps.Keys(s.keys)) as plain contracts. -/
namespace Go.Proofs.YtboiafchmdflpaaGreatDoor
open Go.RowKit Go.Maps Go.Sort Go.Shelf

theorem mapsKeys_any (mb : Option Nat) (w : World) : Calls Tryz.prog 29 #[.map mb] w fun e w' =>
    e = .returned (.func (.func 56) #[] #[.pointer (some ⟨w.heap.size, 0, none⟩)]) ∧ w.alloc (.cells #[.map mb] 47) = w' :=
  (callsIn_wide.1 (maps_Keys_V mb w)).mono (by rintro e w' ⟨rfl, rfl⟩; exact ⟨rfl, rfl⟩)
theorem size_of {w : World} {B N mb : Nat} {D : DataW Value} {V : ByteArray → Value} {O : Nat → Prop} {m : KV} (h : KeysAt w B N mb D V O m) (hr : RisesK m) (hne : ∀ p ∈ m, p.2 ≠ []) : Maps.size D = m.length := by
  have e := (keys_perm h hr hne).length_eq
  rw [keysL_len] at e
  obtain ⟨es, rfl, _⟩ := h.own.keysOf
  rw [e]
  simp [strKeys, Maps.size]
theorem sortedKeys_any {w : World} {B N mb : Nat} {D : DataW Value} {V : ByteArray → Value} {O : Nat → Prop} {m : KV} (h : KeysAt w B N mb D V O m) (hr : RisesK m) (hne : ∀ p ∈ m, p.2 ≠ []) (hl : m.length ≤ 800000) :
    Calls Tryz.prog 28 #[.func (.func 56) #[] #[.pointer (some ⟨w.heap.size, 0, none⟩)]] (w.alloc (.cells #[.map (some mb)] 47)) fun e w' =>
      ∃ (A : Option Addr) (cap : Nat), e = .returned (.slice A m.length cap) ∧ StrsAt w' A (m.map fun p => p.1) ∧ Below w.heap.size w w' := by
  have hsz := size_of h hr hne
  refine (callsIn_wide.1 (slices_Sorted_keys_V mb N D heldE w h.own (by rw [hsz]; unfold maxLen; omega) (by rw [hsz]; omega))).mono ?_
  rintro e w' ⟨v, ss, rfl, hp, hrow, _, hb⟩
  have hs := keys_sorted h hr hne hp
  have hlen : ss.length = m.length := by rw [hp.length_eq, ← (keys_perm h hr hne).length_eq, keysL_len]
  rw [hs, keysL_cells, hlen] at hrow
  obtain ⟨A, cap, rfl, hc, hA⟩ := own_strs (l := m.map fun p => p.1) (by rw [List.length_map, List.map_map]; exact hrow)
  exact ⟨A, cap, by simp, hA, keepB (below1 _ _) hb⟩
end Go.Proofs.YtboiafchmdflpaaGreatDoor
