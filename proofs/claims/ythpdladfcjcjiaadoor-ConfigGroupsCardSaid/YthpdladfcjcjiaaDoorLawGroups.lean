/- parishlaw07.ConfigGroups: the walk of the law. -/
import Derived.Test.YthpdladfcjcjiaaDoorLawKeys
import Derived.Test.YthpdladfcjcjiaaDoorGroupsGL
import Derived.Maps.AppendAt
namespace Go.Proofs.YthpdladfcjcjiaaDoor
open Go.RowKit Go.Shelf

theorem take_snocS (l : List ByteArray) (k : Nat) (h : k < l.length) : l.take (k + 1) = l.take k ++ [l.getD k noStr] := by
  rw [List.take_succ_eq_append_getElem h]
  simp [List.getD_eq_getElem?_getD, h]

set_option maxRecDepth 100000 in
set_option maxHeartbeats 8000000 in
theorem law_groups (c : Cfg) (keys : List ByteArray) (b : Nat) (A B K : Option Addr) (ca cb ck : Nat) (w : World) (h : CfgAt w c A B) (hK : StrsAt w K keys) (hm : keys.length ≤ 9223372036854775807) (hby : b ≤ 255) :
    Calls Tryd.prog 10 #[.agg #[.slice A c.reps.length ca, .slice B c.bnds.length cb], .slice K keys.length ck, .int .u8 b] w fun e w' => e = .returned (.bool true) ∧ Below w.heap.size w w' := by
  obtain ⟨W, eW, HB, c0, c1⟩ := box2 w (.slice A c.reps.length ca) (.slice B c.bnds.length cb) 25
  have h := h.later HB
  have hK := CellsAt.later hK HB
  by_cases hall : fewB c = true ∧ fewKeys keys = true ∧ formedB c = true
  · obtain ⟨hfew, hfk, hf⟩ := hall
    have hlen : keys.length ≤ 50 := by
      simp only [fewKeys, Bool.and_eq_true, decide_eq_true_eq] at hfk; exact hfk.2
    have hr4 := (formed_len hf).2.1
    have hr1 := (formed_len hf).1
    have HRG : Hid (∀ s, 0 ≤ homeZ c s ∧ homeZ c s < c.reps.length) := fun s => home_range hf s
    have HFF := Lib.hid hf
    obtain ⟨i0, hi, hz0, hz1, hz2⟩ := info_parts info_str
    go_enter Tryd.func10, Tryd.ntmps10
    go_wp2_with (first
      | (go_at_call 13; refine (awake07 _).mono ?_; rintro e w1 ⟨rfl, hb⟩; replace c0 := keep hb c0; replace c1 := keep hb c1; replace h := h.later hb; replace hK := CellsAt.later hK hb; replace HB := keepB HB hb; clear hb)
      | (go_at_call 14; refine (few_any c A B ca cb _ h).mono ?_; rintro e w1 ⟨rfl, hb⟩; replace c0 := keep hb c0; replace c1 := keep hb c1; replace h := h.later hb; replace hK := CellsAt.later hK hb; replace HB := keepB HB hb; clear hb)
      | (go_at_call 21; refine (formed_any c A B ca cb _ h).mono ?_; rintro e w1 ⟨rfl, hb⟩; replace c0 := keep hb c0; replace c1 := keep hb c1; replace h := h.later hb; replace hK := CellsAt.later hK hb; replace HB := keepB HB hb; clear hb)
      | (go_at_call 47; refine (fewKeys_any keys K ck _ hK hm).mono ?_; rintro e w1 ⟨rfl, rfl⟩))
    clear eW hfew hfk hf
    go_loopw [7, 8, 10] (fun v u i wr => ∃ k : Nat, k ≤ keys.length ∧ i = .int .i64 k ∧ GL w1 9 v (keys.take k) u (turnedTo keys b k) (fun j => touchTo c keys j k) wr) (fun _ _ i _ => keys.length - (intOf i).toNat)
    case atStart => exact ⟨0, Nat.zero_le _, rfl, GL.start _ _ _⟩
    case round =>
      obtain ⟨k, hk, rfl, HG⟩ := hrel
      by_cases hlt : k < keys.length
      · have hmod : (k + b) % keys.length < keys.length := Nat.mod_lt _ (by omega)
        obtain ⟨bb, off, x, rfl, hc, HX⟩ := StrsAt.at' hK hlt
        obtain ⟨bb', off', y, e, hcy, HY⟩ := StrsAt.at' hK hmod
        cases e
        have hcr := keep HG.below hc
        have d0 := keep HG.below c0
        have d1 := keep HG.below c1
        have hki : (k : Int) < (keys.length : Int) := by omega
        have hm0 : (0 : Int) ≤ ((k : Int) + (b : Int)) % (keys.length : Int) := Int.emod_nonneg _ (by omega)
        have hm1 : ((k : Int) + (b : Int)) % (keys.length : Int) < (keys.length : Int) := Int.emod_lt_of_pos _ (by omega)
        have ht1 : (keys.take k).length = k := by rw [List.length_take]; omega
        have ht2 := turnedTo_length keys b k
        have HT1 := Lib.hid ht1
        have HT2 := Lib.hid ht2
        clear ht1 ht2
        go_wp2_with (first
          | (at_builtin; refine wpList_append_own_at _ rfl (.tmp 38) (.tmp 43) 23 rfl (w1.heap.size + 1) 9 i0 (.string ByteArray.empty) 1 16 Tryd.underlying23 hi hz0 hz1 hz2 rfl (by decide) _ _ _ rfl (HG.alloc _).own ⟨wr.heap.size, 0, none⟩ 1 1 [.string x] rfl rfl (cell_one_new _ _ _) one_cell_str (le_maxLen (by rw [HT1.out]; omega)) (by rw [HT1.out]; omega) (HG.alloc _).big ?_; intro v3 w3 HO3 hg3 hq3 hv3; clear hq3; have HG3 := (HG.alloc _).app1 HO3 hg3 hv3; clear HO3 hg3 hv3; have hy3 := keep HG3.below hcy)
          | (at_builtin; refine wpList_append_own_at _ rfl (.tmp 45) (.tmp 56) 23 rfl (w1.heap.size + 1) 9 i0 (.string ByteArray.empty) 1 16 Tryd.underlying23 hi hz0 hz1 hz2 rfl (by decide) _ _ _ rfl (HG3.alloc _).turned ⟨w3.heap.size, 0, none⟩ 1 1 [.string y] rfl rfl (cell_one_new _ _ _) one_cell_str (le_maxLen (by rw [HT2.out]; omega)) (by rw [HT2.out]; omega) (HG3.alloc _).big ?_; intro v4 w4 HO4 hg4 hq4 hv4; clear hq4; have HG4 := ((HG3.alloc _).swap.app1 HO4 hg4 hv4).swap; clear HO4 hg4 hv4))
        obtain ⟨wd, rfl⟩ : ∃ wd : World, wd = w4 := ⟨_, rfl⟩
        replace d0 := keep HG4.below c0
        replace d1 := keep HG4.below c1
        have hx4 := keep HG4.below hc
        have hr := h.later HG4.below
        obtain ⟨g0, g1⟩ := HRG.out x
        obtain ⟨gn, hgn⟩ := Int.eq_ofNat_of_zero_le g0
        have HGX : Hid (homeZ c x = (gn : Int)) := hgn
        have HTG : Hid (touchTo c keys gn (k + 1) = true) := by show _ = _; rw [touchTo, HX.out, hgn]; simp
        have HTN : Hid (∀ j, j ≠ gn → touchTo c keys j (k + 1) = touchTo c keys j k) := fun j hj => by rw [touchTo, HX.out, hgn, beq_eq_false_iff_ne.2 (by omega), Bool.or_false]
        rw [hgn] at g0 g1
        clear hgn
        have hgn : gn < 4 := by omega
        go_region_held3 (fun w' => w'.cell? ⟨w.heap.size, 0, none⟩ = some (.slice A c.reps.length ca) ∧ w'.cell? ⟨w.heap.size, 1, none⟩ = some (.slice B c.bnds.length cb) ∧ w'.cell? ⟨bb, off + k, none⟩ = some (.string x) ∧ Below wd.heap.size wd w')
          (first | exact ⟨d0, d1, hx4, below_drew (Below.refl _ _)⟩ | exact ⟨keep hb ‹_ ∧ _ ∧ _ ∧ Below wd.heap.size wd _›.1, keep hb ‹_ ∧ _ ∧ _ ∧ Below wd.heap.size wd _›.2.1, keep hb ‹_ ∧ _ ∧ _ ∧ Below wd.heap.size wd _›.2.2.1, keepB ‹_ ∧ _ ∧ _ ∧ Below wd.heap.size wd _›.2.2.2 hb⟩)
          (first
          | (go_at_call 22; refine (calls_int HGX.out (home_any c x A B ca cb _ (hr.later ‹_ ∧ _ ∧ _ ∧ Below wd.heap.size wd _›.2.2.2))).mono ?_; rintro e w2 ⟨rfl, hb⟩))
        have HSS : Below wd.heap.size wd _ := (‹_ ∧ _ ∧ _ ∧ Below wd.heap.size wd _›).2.2.2
        replace HG4 := HG4.later HSS
        have HGS := HG4.set (g := gn) (fun j => touchTo c keys j (k + 1)) (by show touchTo c keys gn (k + 1) = true; exact HTG.out) HTN.out hgn
        have hbc := HG4.has gn hgn
        have hbf := HG4.free gn
        have e0 := (‹_ ∧ _ ∧ _ ∧ Below wd.heap.size wd _›).1
        have HTK : Hid (keys.take (k + 1) = keys.take k ++ [x]) := by show _ = _; rw [take_snocS _ _ hlt, HX.out]
        have HTU : Hid (turnedTo keys b (k + 1) = turnedTo keys b k ++ [y]) := by show _ = _; rw [turnedTo_succ, HY.out]
        by_cases hr11 : c.reps.length = 1
        · have hz : ((gn : Int) != 0) = false := by rw [bne_eq_false_iff_eq]; omega
          have hl1 : ((c.reps.length : Int) == 1) = true := by rw [beq_iff_eq]; omega
          clear hr11
          go_wp2
          go_roundw
          case rel => exact ⟨k + 1, by omega, by go_num, by rw [HTK.out, HTU.out]; exact HGS⟩
          case measure => simp [intOf]; omega
        · have hr12 : ¬ (c.reps.length : Int) = 1 := by omega
          clear hr11
          go_wp2
          go_roundw
          case rel => exact ⟨k + 1, by omega, by go_num, by rw [HTK.out, HTU.out]; exact HGS⟩
          case measure => simp [intOf]; omega
      · have ek : k = keys.length := by omega
        obtain ⟨wd, rfl⟩ : ∃ wd : World, wd = wr := ⟨_, rfl⟩
        have HG2 : GL w1 9 u7 keys u8 (turnedTo keys b keys.length) (fun j => touchB c keys j) wd := by
          rw [ek, List.take_length] at HG
          exact ⟨HG.own, HG.turned, HG.apart, HG.below, fun j hj => by rw [HG.has j hj]; simp only [touchTo_all], HG.free, HG.big⟩
        clear HG
        have hKr := CellsAt.later hK HG2.below
        have hTl := turnedTo_length keys b keys.length
        have HTL := Lib.hid hTl
        clear hTl
        go_wp2_with (at_builtin; refine wpList_append_strs rfl _ _ 23 rfl (w1.heap.size + 1) 9 i0 (.string ByteArray.empty) 16 Tryd.underlying23 hi hz0 hz1 hz2 rfl _ _ _ rfl HG2.own K keys ck rfl hKr (le_maxLen (by omega)) (by omega) HG2.big ?_; intro v5 w5 HO5 hg5)
        have HO6 : w5.ownsRow (w1.heap.size + 1) 9 1 v5 (keys ++ keys).length ((keys ++ keys).map Value.string) := by simpa using HO5
        have HT6 := own_kept HG2.turned hg5 (fun g hu e => HG2.apart g e.symm hu)
        have hblk : w5.heap[w1.heap.size]? = wd.heap[w1.heap.size]? := hg5.block _ HG2.big (fun e => by have := own_ge HG2.own _ e.symm; omega)
        have hhas : ∀ j, j < 4 → w5.cell? ⟨w1.heap.size, j, none⟩ = some (.bool (touchB c keys j)) := fun j hj => by
          rw [World.cell?_of_block (w := wd) (a := ⟨w1.heap.size, j, none⟩) hblk]; exact HG2.has j hj
        have HHAS := Lib.hid hhas
        have hb5 : Below w1.heap.size w1 w5 := own_below (base := w1.heap.size) (e := 9) (size := 1) (n := keys.length) (xs := keys.map Value.string) HG2.below (Nat.le_refl _) (by
          obtain ⟨q1, q2⟩ := HG2.own
          refine ⟨q1, ?_⟩
          rcases q2 with q2 | ⟨g, cap, cur, e, hb, r⟩
          · exact .inl q2
          · exact .inr ⟨g, cap, cur, e, by omega, r⟩) hg5
        clear hhas hblk HO5 hg5 hKr HG2
        obtain ⟨K2, cap2, rfl, _, hO2⟩ := own_strs HO6
        obtain ⟨K3, cap3, hu8, _, hO3⟩ := own_strs HT6
        clear HO6 HT6
        subst hu8
        obtain ⟨we, rfl⟩ : ∃ we : World, we = w5 := ⟨_, rfl⟩
        replace c0 := keep hb5 c0
        replace c1 := keep hb5 c1
        have hr := h.later hb5
        replace HB := keepB HB hb5
        obtain ⟨i1, hi', hz0', hz1', hz2'⟩ := info_parts info_int
        have HLN : Hid (∀ k, (groupsTo c keys k).length ≤ k) := groupsTo_length c keys
        have HL4 : Hid (groupsTo c keys 4 = groupsL c keys) := groupsTo_four HFF.out keys
        have HLA : Hid (groupsL c (keys ++ keys) = groupsL c keys) := groupsL_mem c (fun s => by simp)
        have HLB : Hid (groupsL c (turnedTo keys b keys.length) = groupsL c keys) := groupsL_mem c (fun s => mem_turned keys b s)
        have HSU : Hid (∀ j, groupsTo c keys (j + 1) = groupsTo c keys j ++ if touchB c keys j then [(j : Int)] else []) := groupsTo_succ c keys
        have HGA : Hid (∀ W : World, Below we.heap.size we W → Calls Tryd.prog 51 #[.agg #[.slice A c.reps.length ca, .slice B c.bnds.length cb], .slice K2 (keys ++ keys).length cap2] W (IntsPost W (groupsL c keys))) := fun W hW => by
          rw [← HLA.out]
          exact groups_any c (keys ++ keys) A B K2 ca cb cap2 W (hr.later hW) (CellsAt.later hO2 hW) (by simp; omega)
        have HGB : Hid (∀ W : World, Below we.heap.size we W → Calls Tryd.prog 51 #[.agg #[.slice A c.reps.length ca, .slice B c.bnds.length cb], .slice K3 (turnedTo keys b keys.length).length cap3] W (IntsPost W (groupsL c keys))) := fun W hW => by
          rw [← HLB.out]
          exact groups_any c (turnedTo keys b keys.length) A B K3 ca cb cap3 W (hr.later hW) (CellsAt.later hO3 hW) (by rw [HTL.out]; omega)
        have HLL : Hid ((groupsL c keys).length ≤ 1000000) := by
          show _ ≤ _
          rw [← HL4.out]
          have := HLN.out 4
          omega
        clear hO2 hO3 HTL
        generalize (keys ++ keys).length = n2 at *
        generalize (turnedTo keys b keys.length).length = n3 at *
        go_loopw [12, 13] (fun v i wr => ∃ j : Nat, j ≤ 4 ∧ i = .int .i64 j ∧ Hid (wr.ownsRow we.heap.size 3 1 v (groupsTo c keys j).length ((groupsTo c keys j).map (Value.int .i64))) ∧ Below we.heap.size we wr) (fun _ i _ => 4 - (intOf i).toNat)
        case atStart => exact ⟨0, Nat.zero_le _, rfl, own_nil _ _ _ _, Below.refl _ _⟩
        case round =>
          obtain ⟨j, hj, rfl, HO, hw⟩ := hrel
          obtain ⟨wf, rfl⟩ : ∃ wf : World, wf = wr := ⟨_, rfl⟩
          by_cases hlt : j < 4
          · have hcj := keep hw (HHAS.out j hlt)
            have hl := HLN.out j
            cases ht : touchB c keys j
            · have HG2 : Hid (groupsTo c keys (j + 1) = groupsTo c keys j) := by show _ = _; rw [HSU.out, ht]; simp
              rw [ht] at hcj
              clear ht
              go_wp2
              go_roundw
              case rel => exact ⟨j + 1, by omega, by go_num, by show World.ownsRow _ _ _ _ _ _ _; rw [HG2.out]; exact HO.out, hw⟩
              case measure => simp [intOf]; omega
            · have HG2 : Hid (groupsTo c keys (j + 1) = groupsTo c keys j ++ [(j : Int)]) := by show _ = _; rw [HSU.out, ht]; simp
              rw [ht] at hcj
              clear ht
              go_wp2_with (at_builtin; refine wpList_append_own _ rfl _ _ 22 rfl we.heap.size 3 i1 (.int .i64 0) 1 8 Tryd.underlying22 hi' hz0' hz1' hz2' rfl (by decide) _ _ _ rfl (own_keep HO.out (below1 _ _)) ⟨wf.heap.size, 0, none⟩ 1 1 [.int .i64 (j : Int)] rfl rfl (cell_one_new _ _ _) one_cell_int (le_maxLen (by omega)) (by omega) (Nat.le_trans hw.size (below1 _ _).size) ?_; intro v6 w6 HO6 hg6 hq6; clear hq6; have hw6 := own_below (hw.alloc hw.size _) (Nat.le_refl _) (own_keep HO.out (below1 _ _)) hg6; replace HO6 := Lib.hid HO6; clear hg6)
              go_roundw
              case rel => exact ⟨j + 1, by omega, by go_num, by show World.ownsRow _ _ _ _ _ _ _; rw [HG2.out, List.map_append, List.length_append]; exact HO6.out, hw6⟩
              case measure => simp [intOf]; omega
          · have ej : j = 4 := by omega
            have HO' : wf.ownsRow we.heap.size 3 1 u12 (groupsL c keys).length ((groupsL c keys).map (Value.int .i64)) := by
              have := HO.out
              rw [ej, HL4.out] at this
              exact this
            clear HO
            obtain ⟨L, capL, rfl, _, hL⟩ := own_ints HO'
            clear HO'
            replace c0 := keep hw c0
            replace c1 := keep hw c1
            have hB := keepB HB hw
            generalize groupsL c keys = gl at *
            go_wp2_with fail
            refine (HGA.out _ hw).mono ?_
            rintro e w6 ⟨A1, k1, rfl, hI1, hb⟩
            replace hL := CellsAt.later hL hb
            replace c0 := keep hb c0
            replace c1 := keep hb c1
            replace hw := keepB hw hb
            replace hB := keepB hB hb
            clear hb
            go_wp2_with fail
            refine (ints_same gl A1 L k1 capL _ hI1 hL HLL.out).mono ?_
            rintro e w7 ⟨rfl, hb⟩
            replace hL := CellsAt.later hL hb
            replace c0 := keep hb c0
            replace c1 := keep hb c1
            replace hw := keepB hw hb
            replace hB := keepB hB hb
            clear hb hI1
            go_wp2_with fail
            refine (HGB.out _ hw).mono ?_
            rintro e w8 ⟨A2, k2, rfl, hI2, hb⟩
            replace hL := CellsAt.later hL hb
            replace hB := keepB hB hb
            clear hb
            go_wp2_with fail
            refine (ints_same gl A2 L k2 capL _ hI2 hL HLL.out).mono ?_
            rintro e w9 ⟨rfl, hb⟩
            replace hB := keepB hB hb
            clear hb
            go_wp2
            go_ret
            exact ⟨rfl, hB⟩
  · by_cases hfew : fewB c = true
    · by_cases hfk : fewKeys keys = true
      · have hf : formedB c = false := by
          cases hq : formedB c
          · rfl
          · exact absurd ⟨hfew, hfk, hq⟩ hall
        clear hall
        go_enter Tryd.func10, Tryd.ntmps10
        go_wp2_with (first
      | (go_at_call 13; refine (awake07 _).mono ?_; rintro e w1 ⟨rfl, hb⟩; replace c0 := keep hb c0; replace c1 := keep hb c1; replace h := h.later hb; replace hK := CellsAt.later hK hb; replace HB := keepB HB hb; clear hb)
      | (go_at_call 14; refine (few_any c A B ca cb _ h).mono ?_; rintro e w1 ⟨rfl, hb⟩; replace c0 := keep hb c0; replace c1 := keep hb c1; replace h := h.later hb; replace hK := CellsAt.later hK hb; replace HB := keepB HB hb; clear hb)
      | (go_at_call 21; refine (formed_any c A B ca cb _ h).mono ?_; rintro e w1 ⟨rfl, hb⟩; replace c0 := keep hb c0; replace c1 := keep hb c1; replace h := h.later hb; replace hK := CellsAt.later hK hb; replace HB := keepB HB hb; clear hb)
      | (go_at_call 47; refine (fewKeys_any keys K ck _ hK hm).mono ?_; rintro e w1 ⟨rfl, rfl⟩))
        go_ret
        exact ⟨rfl, HB⟩
      · have hfk : fewKeys keys = false := by simpa using hfk
        clear hall
        go_enter Tryd.func10, Tryd.ntmps10
        go_wp2_with (first
      | (go_at_call 13; refine (awake07 _).mono ?_; rintro e w1 ⟨rfl, hb⟩; replace c0 := keep hb c0; replace c1 := keep hb c1; replace h := h.later hb; replace hK := CellsAt.later hK hb; replace HB := keepB HB hb; clear hb)
      | (go_at_call 14; refine (few_any c A B ca cb _ h).mono ?_; rintro e w1 ⟨rfl, hb⟩; replace c0 := keep hb c0; replace c1 := keep hb c1; replace h := h.later hb; replace hK := CellsAt.later hK hb; replace HB := keepB HB hb; clear hb)
      | (go_at_call 21; refine (formed_any c A B ca cb _ h).mono ?_; rintro e w1 ⟨rfl, hb⟩; replace c0 := keep hb c0; replace c1 := keep hb c1; replace h := h.later hb; replace hK := CellsAt.later hK hb; replace HB := keepB HB hb; clear hb)
      | (go_at_call 47; refine (fewKeys_any keys K ck _ hK hm).mono ?_; rintro e w1 ⟨rfl, rfl⟩))
        go_ret
        exact ⟨rfl, HB⟩
    · have hfew : fewB c = false := by simpa using hfew
      clear hall
      go_enter Tryd.func10, Tryd.ntmps10
      go_wp2_with (first
      | (go_at_call 13; refine (awake07 _).mono ?_; rintro e w1 ⟨rfl, hb⟩; replace c0 := keep hb c0; replace c1 := keep hb c1; replace h := h.later hb; replace hK := CellsAt.later hK hb; replace HB := keepB HB hb; clear hb)
      | (go_at_call 14; refine (few_any c A B ca cb _ h).mono ?_; rintro e w1 ⟨rfl, hb⟩; replace c0 := keep hb c0; replace c1 := keep hb c1; replace h := h.later hb; replace hK := CellsAt.later hK hb; replace HB := keepB HB hb; clear hb)
      | (go_at_call 21; refine (formed_any c A B ca cb _ h).mono ?_; rintro e w1 ⟨rfl, hb⟩; replace c0 := keep hb c0; replace c1 := keep hb c1; replace h := h.later hb; replace hK := CellsAt.later hK hb; replace HB := keepB HB hb; clear hb)
      | (go_at_call 47; refine (fewKeys_any keys K ck _ hK hm).mono ?_; rintro e w1 ⟨rfl, rfl⟩))
      go_ret
      exact ⟨rfl, HB⟩
end Go.Proofs.YthpdladfcjcjiaaDoor
