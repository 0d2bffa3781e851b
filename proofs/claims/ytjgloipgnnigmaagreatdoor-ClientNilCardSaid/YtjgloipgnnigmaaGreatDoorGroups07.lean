/- Layer 7's Groups: what config.Groups returns, of every configuration and at most 1000 keys. -/
import Derived.Test.YtjgloipgnnigmaaGreatDoorHome07
import Derived.Test.YtjgloipgnnigmaaGreatDoorGroupsM07
import Derived.Test.YtjgloipgnnigmaaGreatDoorSort
import Derived.WalkSpells
namespace Go.Proofs.YtjgloipgnnigmaaGreatDoor
open Go.RowKit Go.Shelf

theorem info_int : (Tryz.prog.info? 3).map (fun i => (i.zero, i.size, i.bytes)) = some (some (.int .i64 0), 1, 8) := by kernel_rfl

set_option maxRecDepth 100000 in
set_option maxHeartbeats 2000000 in
theorem groups_any (c : Cfg) (keys : List ByteArray) (A B K : Option Addr) (ca cb ck : Nat) (w : World) (h : CfgAt w c A B) (hK : StrsAt w K keys) (hlen : keys.length ≤ 1000) :
    Calls Tryz.prog 44 #[.agg #[.slice A c.reps.length ca, .slice B c.bnds.length cb], .slice K keys.length ck] w (IntsPost w (groupsL c keys)) := by
  obtain ⟨W, eW, HB, c0, c1⟩ := box2 w (.slice A c.reps.length ca) (.slice B c.bnds.length cb) 25
  have h := h.later HB
  have hK := CellsAt.later hK HB
  cases hf : formedB c
  · have HE : Hid (groupsL c keys = []) := by show _ = _; simp [groupsL, hf]
    go_enter Tryz.func44, Tryz.ntmps44
    go_wp2_with (go_at_call 55; refine (formed_any c A B ca cb _ h).mono ?_; rintro e w1 ⟨rfl, hb⟩; replace c0 := keep hb c0; replace c1 := keep hb c1; replace h := h.later hb; replace HB := keepB HB hb; clear hb)
    go_ret
    rw [HE.out]
    exact ⟨none, 0, rfl, fun i hi => by simp at hi, HB⟩
  · have HE := Lib.hid (groups_of_homes hf keys)
    have HL : Hid (keys.map (homeZ c) = (keys.take keys.length).map (homeZ c)) := by show _ = _; rw [List.take_length]
    obtain ⟨i0, hi, hz0, hz1, hz2⟩ := info_parts info_int
    go_enter Tryz.func44, Tryz.ntmps44
    go_wp2_with (go_at_call 55; refine (formed_any c A B ca cb _ h).mono ?_; rintro e w1 ⟨rfl, hb⟩; replace c0 := keep hb c0; replace c1 := keep hb c1; replace h := h.later hb; replace hK := CellsAt.later hK hb; replace HB := keepB HB hb; clear hb)
    clear eW hf
    go_loopw [5, 13] (fun v i wr => ∃ k : Nat, k ≤ keys.length ∧ i = .int .i64 k ∧ Hid (wr.ownsRow w1.heap.size 3 1 v k (((keys.take k).map (homeZ c)).map (Value.int .i64))) ∧ Below w1.heap.size w1 wr) (fun _ i _ => keys.length - (intOf i).toNat)
    case atStart => exact ⟨0, Nat.zero_le _, rfl, own_nil _ _ _ _, Below.refl _ _⟩
    case round =>
      obtain ⟨k, hk, rfl, HO, hw⟩ := hrel
      by_cases hlt : k < keys.length
      · have h := h.later hw
        have hKr := CellsAt.later hK hw
        replace c0 := keep hw c0
        replace c1 := keep hw c1
        obtain ⟨bb, off, x, rfl, hc, HX⟩ := StrsAt.at' hKr hlt
        obtain ⟨g, hg⟩ : ∃ g, homeZ c x = g := ⟨_, rfl⟩
        have HG := Lib.hid hg
        have HT : Hid ((keys.take (k + 1)).map (homeZ c) = (keys.take k).map (homeZ c) ++ [g]) := by show _ = _; rw [take_map_snoc _ _ _ hlt, HX.out, hg]
        clear hg
        go_wp2_with (first
          | (go_at_call 40; refine (calls_int HG.out (home_any c x A B ca cb _ h)).mono ?_; rintro e w2 ⟨rfl, hb⟩; replace HO := Lib.hid (own_keep HO.out hb); replace hw := keepB hw hb; clear hb)
          | (at_builtin; refine wpList_append_own _ rfl _ _ 22 rfl w1.heap.size 3 i0 (.int .i64 0) 1 8 Tryz.underlying22 hi hz0 hz1 hz2 rfl (by decide) _ _ _ rfl (own_keep HO.out (below1 _ _)) ⟨w2.heap.size, 0, none⟩ 1 1 [.int .i64 g] rfl rfl (cell_one_new _ _ _) one_cell_int (le_maxLen (by omega)) (by omega) (Nat.le_trans hw.size (below1 _ _).size) ?_; intro v3 w3 HO3 hg3 _; replace hw := own_below (hw.alloc hw.size _) (Nat.le_refl _) (own_keep HO.out (below1 _ _)) hg3; replace HO3 := Lib.hid HO3; clear hg3))
        go_roundw
        case rel => exact ⟨k + 1, by omega, by go_num, by show World.ownsRow _ _ _ _ _ _ _; rw [HT.out, List.map_append]; exact HO3.out, hw⟩
        case measure => simp [intOf]; omega
      · have ek : k = keys.length := by omega
        have HO' : Hid (wr.ownsRow w1.heap.size 3 1 u5 (keys.map (homeZ c)).length ((keys.map (homeZ c)).map (Value.int .i64))) := by
          show World.ownsRow _ _ _ _ _ _ _
          have := HO.out
          rw [ek] at this
          rw [List.length_map]
          rw [← HL.out] at this
          exact this
        have hll : (keys.map (homeZ c)).length ≤ 1000000 := by rw [List.length_map]; omega
        have hll2 : (sorted (keys.map (homeZ c))).length ≤ 1000000 := by rw [sorted_length]; exact hll
        have HE2 : Hid (Lib.compact (sorted (keys.map (homeZ c))) = groupsL c keys) := HE.out
        clear HO
        generalize keys.map (homeZ c) = l at *
        go_wp2_with (first
          | (go_at_call 88; refine (sort_own w1.heap.size u5 l _ HO'.out hll).mono ?_; rintro e w2 ⟨rfl, HO2, hg2⟩; replace hw := own_below hw (Nat.le_refl _) HO'.out hg2; replace HO2 := Lib.hid HO2; clear hg2)
          | (go_at_call 89; refine (compact_own w1.heap.size u5 (sorted l) _ HO2.out hll2).mono ?_; rintro e w3 ⟨⟨v3, rfl, HO3⟩, hg3⟩; replace hw := own_below hw (Nat.le_refl _) HO2.out hg3; replace HO3 := Lib.hid HO3; clear hg3))
        go_ret
        have := HO3.out
        rw [HE2.out] at this
        obtain ⟨A', cap', rfl, _, hI⟩ := own_ints this
        exact ⟨A', cap', rfl, hI, keepB HB hw⟩
end Go.Proofs.YtjgloipgnnigmaaGreatDoor
