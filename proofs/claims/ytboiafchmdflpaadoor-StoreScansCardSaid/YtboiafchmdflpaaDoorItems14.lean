/- parishlaw14.items. -/
import Derived.Test.YtboiafchmdflpaaDoorScan14
namespace Go.Proofs.YtboiafchmdflpaaDoor
open Go.RowKit Go.Maps Go.Sort Go.Shelf

set_option maxRecDepth 100000 in
set_option maxHeartbeats 4000000 in
theorem items14_any {w : World} (l : List It) (A : Option Addr) (ca : Nat) (hA : ItsAt w A l) (hl : l.length ≤ 800000) :
    Calls Tryd.prog 21 #[.slice A l.length ca] w fun e w' => ∃ v, e = .returned v ∧ w'.ownsRow w.heap.size 102 5 v l.length (itCs l) ∧ Below w.heap.size w w' := by
  obtain ⟨i0, hi, hz0, hz1, hz2⟩ := info_parts info_it
  go_enter Tryd.func21, Tryd.ntmps21
  go_wp2
  go_loopw [3, 4] (fun u i wr => ∃ k : Nat, k ≤ l.length ∧ i = .int .i64 k ∧ Hid (wr.ownsRow w.heap.size 102 5 u k (itCs (l.take k))) ∧ Below w.heap.size w wr) (fun _ i _ => l.length - (intOf i).toNat)
  case atStart => exact ⟨0, Nat.zero_le _, rfl, own_nil _ _ _ _, Below.refl _ _⟩
  case round =>
    obtain ⟨k, hk, rfl, HO, hw⟩ := hrel
    obtain ⟨wi, rfl⟩ : ∃ wi : World, wi = wr := ⟨_, rfl⟩
    by_cases hlt : k < l.length
    · obtain ⟨b', off', y, yz, ym, yt, yn, rfl, e0, e1, e2, e3, e4, HY⟩ := (hA.later hw).at' hlt
      have hki : (k : Int) < (l.length : Int) := by omega
      have HT : Hid (l.take (k + 1) = l.take k ++ [⟨y, ⟨yz, ym, yt⟩, yn⟩]) := by
        show _ = _
        have e : l.getD k noIt = l[k] := by rw [List.getD_eq_getElem?_getD, List.getElem?_eq_getElem hlt]; rfl
        rw [List.take_succ_eq_append_getElem hlt, ← e, HY.out]
      go_wp2_with (at_builtin; refine wpList_append_own_at _ rfl _ _ 30 rfl w.heap.size 102 i0 _ 5 56 Tryd.underlying30 hi hz0 hz1 hz2 rfl (by decide) _ _ _ rfl (own_keep HO.out (below1 _ _)) ⟨wi.heap.size, 0, none⟩ 1 1 (itC ⟨y, ⟨yz, ym, yt⟩, yn⟩) rfl rfl (World.news_of_block (heap_alloc_new wi _)) (itC_one _) (le_maxLen (by omega)) (by omega) (Nat.le_trans hw.size (below1 _ _).size) ?_; intro v3 w3 HO3 hg3 _ _)
      have hb3 := own_below (keepB hw (below1 wi _)) (Nat.le_refl _) (own_keep HO.out (below1 wi _)) hg3
      go_roundw
      case rel =>
        refine ⟨k + 1, by omega, by go_num, ?_, hb3⟩
        show World.ownsRow _ _ _ _ _ _ _
        rw [HT.out, itCs_append]
        exact HO3
      case measure => simp [intOf]; omega
    · obtain rfl : k = l.length := by omega
      rw [List.take_length] at HO
      go_wp2
      go_ret
      exact ⟨_, rfl, HO.out, hw⟩
end Go.Proofs.YtboiafchmdflpaaDoor
