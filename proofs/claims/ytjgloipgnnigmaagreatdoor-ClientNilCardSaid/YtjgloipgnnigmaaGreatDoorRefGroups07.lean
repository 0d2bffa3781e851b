/- Layer 7's reference Groups; whether keys are few; two lists of ints compared. -/
import Derived.Test.YtjgloipgnnigmaaGreatDoorGroups07
import Derived.Deep.RegionHeld3
namespace Go.Proofs.YtjgloipgnnigmaaGreatDoor
open Go.RowKit Go.Shelf

set_option maxRecDepth 100000 in
set_option maxHeartbeats 4000000 in
theorem refGroups_any (c : Cfg) (keys : List ByteArray) (A B K : Option Addr) (ca cb ck : Nat) (w : World) (h : CfgAt w c A B) (hK : StrsAt w K keys) (hlen : keys.length ≤ 1000) :
    Calls Tryz.prog 114 #[.agg #[.slice A c.reps.length ca, .slice B c.bnds.length cb], .slice K keys.length ck] w (IntsPost w (groupsL c keys)) := by
  obtain ⟨W, eW, HB, c0, c1⟩ := box2 w (.slice A c.reps.length ca) (.slice B c.bnds.length cb) 25
  have h := h.later HB
  have hK := CellsAt.later hK HB
  have hnn := h.hn
  cases hf : formedB c
  · have HE : Hid (groupsL c keys = []) := by show _ = _; simp [groupsL, hf]
    go_enter Tryz.func114, Tryz.ntmps114
    go_wp2_with fail
    clear eW
    refine wp_loop_rounds 1 ?_
    rw [rounds_succ]
    by_cases h0 : 0 < c.reps.length
    · go_wp2_with (go_at_call 21; refine (refFormed_any c A B ca cb _ h).mono ?_; rintro e w1 ⟨rfl, hb⟩; replace HB := keepB HB hb)
      go_ret
      rw [HE.out]
      exact ⟨none, 0, rfl, fun i hi => by simp at hi, HB⟩
    · have h1 : c.reps.length = 0 := by omega
      go_wp2
      go_ret
      rw [HE.out]
      exact ⟨none, 0, rfl, fun i hi => by simp at hi, HB⟩
  · have HE : Hid (groupsL c keys = groupsTo c keys c.reps.length) := by show _ = _; simp [groupsL, hf]
    have hn := (formed_len hf).2.1
    have HLN : Hid (∀ k, (groupsTo c keys k).length ≤ k) := groupsTo_length c keys
    have HTA : Hid (∀ g, touchTo c keys g keys.length = touchB c keys g) := touchTo_all c keys
    obtain ⟨i0, hi, hz0, hz1, hz2⟩ := info_parts info_int
    go_enter Tryz.func114, Tryz.ntmps114
    go_wp2_with fail
    clear eW
    go_loopw [5, 6] (fun v i wr => ∃ k : Nat, k ≤ c.reps.length ∧ i = .int .i64 k ∧ Hid (wr.ownsRow W.heap.size 3 1 v (groupsTo c keys k).length ((groupsTo c keys k).map (Value.int .i64))) ∧ Below W.heap.size W wr) (fun _ i _ => c.reps.length - (intOf i).toNat)
    case atStart => exact ⟨0, Nat.zero_le _, rfl, own_nil _ _ _ _, Below.refl _ _⟩
    case round =>
      obtain ⟨k, hk, rfl, HO, hw⟩ := hrel
      have hc0 := keep hw c0
      have hc1 := keep hw c1
      have hl := HLN.out k
      by_cases hlt : k < c.reps.length
      · have hr := h.later hw
        have hf' := Lib.hid hf
        go_wp2_with (go_at_call 21; refine (refFormed_any c A B ca cb _ hr).mono ?_; rintro e w1 ⟨rfl, hb⟩; replace hc0 := keep hb hc0; replace hc1 := keep hb hc1; replace HO := Lib.hid (own_keep HO.out hb); replace hw := keepB hw hb; clear hb hr)
        go_loopw [7, 8] (fun t i wr2 => ∃ j : Nat, j ≤ keys.length ∧ i = .int .i64 j ∧ t = .bool (touchTo c keys k j) ∧ Below w1.heap.size w1 wr2) (fun _ i _ => keys.length - (intOf i).toNat)
        case atStart => exact ⟨0, Nat.zero_le _, rfl, rfl, Below.refl _ _⟩
        case round =>
          obtain ⟨j, hj, rfl, rfl, hw2⟩ := hrel
          obtain ⟨wb, rfl⟩ : ∃ wb : World, wb = wr := ⟨_, rfl⟩
          have hww := keepB hw hw2
          have hr := h.later hww
          have hc0' := keep hw2 hc0
          have hc1' := keep hw2 hc1
          by_cases hlj : j < keys.length
          · obtain ⟨bb, off, x, rfl, hc, HX⟩ := StrsAt.at' (CellsAt.later hK hww) hlj
            obtain ⟨g, hg⟩ : ∃ g, homeZ c x = g := ⟨_, rfl⟩
            have HG := Lib.hid hg
            have HT : Hid (touchTo c keys k (j + 1) = (touchTo c keys k j || g == (k : Int))) := by show _ = _; rw [touchTo, HX.out, hg]
            have hji : (j : Int) < (keys.length : Int) := by omega
            clear hg
            generalize touchTo c keys k j = t at *
            cases t
            · go_wp2
              go_region_held3 (fun w' => w'.cell? ⟨w.heap.size, 0, none⟩ = some (.slice A c.reps.length ca) ∧ w'.cell? ⟨w.heap.size, 1, none⟩ = some (.slice B c.bnds.length cb) ∧ w'.cell? ⟨bb, off + j, none⟩ = some (.string x) ∧ Below wb.heap.size wb w')
              (first | exact ⟨hc0', hc1', hc, below_drew (Below.refl _ _)⟩ | exact ⟨keep hb ‹_ ∧ _ ∧ _ ∧ Below wb.heap.size wb _›.1, keep hb ‹_ ∧ _ ∧ _ ∧ Below wb.heap.size wb _›.2.1, keep hb ‹_ ∧ _ ∧ _ ∧ Below wb.heap.size wb _›.2.2.1, keepB ‹_ ∧ _ ∧ _ ∧ Below wb.heap.size wb _›.2.2.2 hb⟩)
              (first
              | (go_at_call 30; refine (calls_int HG.out (refHome_any c x A B ca cb _ (hr.later ‹_ ∧ _ ∧ _ ∧ Below wb.heap.size wb _›.2.2.2))).mono ?_; rintro e w2 ⟨rfl, hb⟩))
              have HS : Below wb.heap.size wb _ := (‹_ ∧ _ ∧ _ ∧ Below wb.heap.size wb _›).2.2.2
              go_wp2
              go_roundw
              case rel => exact ⟨j + 1, by omega, by go_num, by rw [HT.out]; simp, keepB hw2 HS⟩
              case measure => simp [intOf]; omega
            · go_wp2
              go_quiet (fail)
              go_wp2
              go_roundw
              case rel => exact ⟨j + 1, by omega, by go_num, by rw [HT.out]; simp, below_drewN hw2 _⟩
              case measure => simp [intOf]; omega
          · have ej : j = keys.length := by omega
            have HT : Hid (touchTo c keys k j = touchB c keys k) := by show _ = _; rw [ej]; exact HTA.out k
            have HO2 := Lib.hid (own_keep HO.out hw2)
            have HSU := Lib.hid (groupsTo_succ c keys k)
            cases ht : touchB c keys k
            · have HT2 : Hid (touchTo c keys k j = false) := by show _ = _; rw [HT.out, ht]
              have HG2 : Hid (groupsTo c keys (k + 1) = groupsTo c keys k) := by show _ = _; rw [HSU.out, ht]; simp
              generalize touchTo c keys k j = t at *
              obtain rfl : t = false := HT2.out
              clear ht
              go_wp2
              go_roundw
              case rel => exact ⟨k + 1, by omega, by go_num, by show World.ownsRow _ _ _ _ _ _ _; rw [HG2.out]; exact HO2.out, hww⟩
              case measure => simp [intOf]; omega
            · have HT2 : Hid (touchTo c keys k j = true) := by show _ = _; rw [HT.out, ht]
              have HG2 : Hid (groupsTo c keys (k + 1) = groupsTo c keys k ++ [(k : Int)]) := by show _ = _; rw [HSU.out, ht]; simp
              generalize touchTo c keys k j = t at *
              obtain rfl : t = true := HT2.out
              clear ht
              go_wp2_with (at_builtin; refine wpList_append_own _ rfl _ _ 22 rfl W.heap.size 3 i0 (.int .i64 0) 1 8 Tryz.underlying22 hi hz0 hz1 hz2 rfl (by decide) _ _ _ rfl (own_keep HO2.out (below1 _ _)) ⟨wb.heap.size, 0, none⟩ 1 1 [.int .i64 (k : Int)] rfl rfl (cell_one_new _ _ _) one_cell_int (le_maxLen (by omega)) (by omega) (Nat.le_trans hww.size (below1 _ _).size) ?_; intro v3 w3 HO3 hg3 _; have hw3 := own_below (hww.alloc hww.size _) (Nat.le_refl _) (own_keep HO2.out (below1 _ _)) hg3; replace HO3 := Lib.hid HO3; clear hg3)
              go_roundw
              case rel => exact ⟨k + 1, by omega, by go_num, by show World.ownsRow _ _ _ _ _ _ _; rw [HG2.out, List.map_append, List.length_append]; exact HO3.out, hw3⟩
              case measure => simp [intOf]; omega
      · have HK : Hid (groupsL c keys = groupsTo c keys k) := by show _ = _; rw [HE.out, show k = c.reps.length from by omega]
        clear hl
        generalize groupsTo c keys k = l at *
        go_wp2
        go_ret
        rw [HK.out]
        obtain ⟨A', cap', rfl, _, hI⟩ := own_ints HO.out
        exact ⟨A', cap', rfl, hI, keepB HB hw⟩

/-- few: at most 50, none longer than 1000. -/
def fewKeys (keys : List ByteArray) : Bool := shortTo keys 1000 (min keys.length 60) && decide (keys.length ≤ 50)

end Go.Proofs.YtjgloipgnnigmaaGreatDoor
