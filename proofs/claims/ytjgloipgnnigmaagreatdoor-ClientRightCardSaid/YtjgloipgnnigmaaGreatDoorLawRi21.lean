/- ClientRight's walk. -/
import Derived.Test.YtjgloipgnnigmaaGreatDoorJ20
import Derived.Test.YtjgloipgnnigmaaGreatDoorRefTxF08
import Derived.Deep.RegionHeld3
import Derived.Deep.DeepCutAuto
set_option linter.unusedVariables false
set_option linter.unusedSimpArgs false
namespace Go.Proofs.YtjgloipgnnigmaaGreatDoor
open Go.RowKit Go.Shelf Go.Sort

set_option maxRecDepth 100000 in
set_option maxHeartbeats 16000000 in
theorem law_ri (c : Cfg) (ses : Int) (l : List OpX) (A B S : Option Addr) (ca cb cs : Nat) (w : World) (h : CfgAt w c A B) (hO : OpsAt w S l) (hT : Tabs w) (hca : c.reps.length ≤ ca) (hn : l.length ≤ 9223372036854775807) :
    Calls Tryz.prog 6 #[.agg #[.slice A c.reps.length ca, .slice B c.bnds.length cb], .int .i64 ses, .slice S l.length cs] w fun e w' => e = .returned (.bool true) ∧ Below w.heap.size w w' := by
  obtain ⟨W, eW, HB, c0, c1⟩ := box2 w (.slice A c.reps.length ca) (.slice B c.bnds.length cb) 25
  have hC := Lib.hid (h.later HB)
  have HO := Lib.hid (hO.later HB)
  have HT := Lib.hid (hT.later HB)
  clear h hO hT
  obtain ⟨f, hf⟩ : ∃ f, Hid (few21 c l = f) := ⟨_, rfl⟩
  cases f
  · go_enter Tryz.func6, Tryz.ntmps6
    go_wp2_with (first
      | (go_at_call 8; refine (awake21_any _).mono ?_; rintro e w1 ⟨rfl, hb⟩; replace c0 := keep hb c0; replace c1 := keep hb c1; replace HO := Lib.hid (HO.out.later hb); replace hC := Lib.hid (hC.out.later hb); replace HB := keepB HB hb; clear hb)
      | (go_at_call 9; refine (calls_few hf.out (few21_any c l A B S ca cb cs _ hC.out HO.out hn)).mono ?_; rintro e w2 ⟨rfl, hb⟩; replace c0 := keep hb c0; replace c1 := keep hb c1; replace HO := Lib.hid (HO.out.later hb); replace hC := Lib.hid (hC.out.later hb); replace HB := keepB HB hb; clear hb))
    go_ret
    exact ⟨rfl, HB⟩
  have hf60 : Hid (l.length ≤ 60) := by
    have := hf.out
    simp only [few21, Bool.and_eq_true, decide_eq_true_eq] at this
    exact this.1.2
  obtain ⟨ok, hk⟩ : ∃ ok, Hid (cliOK ⟨c, A, B, ca, cb, ses⟩ = ok) := ⟨_, rfl⟩
  cases ok
  · go_enter Tryz.func6, Tryz.ntmps6
    go_wp2_with (first
      | (go_at_call 8; refine (awake21_any _).mono ?_; rintro e w1 ⟨rfl, hb⟩; replace c0 := keep hb c0; replace c1 := keep hb c1; replace HO := Lib.hid (HO.out.later hb); replace hC := Lib.hid (hC.out.later hb); replace HB := keepB HB hb; clear hb)
      | (go_at_call 9; refine (calls_few hf.out (few21_any c l A B S ca cb cs _ hC.out HO.out hn)).mono ?_; rintro e w2 ⟨rfl, hb⟩; replace c0 := keep hb c0; replace c1 := keep hb c1; replace hC := Lib.hid (hC.out.later hb); replace HB := keepB HB hb; clear hb))
    go_region_held3 (fun w' => w'.cell? ⟨w.heap.size, 0, none⟩ = some (.slice A c.reps.length ca) ∧ w'.cell? ⟨w.heap.size, 1, none⟩ = some (.slice B c.bnds.length cb) ∧ Below w2.heap.size w2 w')
      (first | exact ⟨c0, c1, below_drew (Below.refl _ _)⟩ | (with_reducible exact ⟨keep hb3 c0, keep hb3 c1, hb3⟩) | (with_reducible exact ⟨keep hb4 c0, keep hb4 c1, hb4⟩))
      (first
        | (go_at_call 20; refine (cliNew_no ⟨c, A, B, ca, cb, ses⟩ _ (hC.out.later (below_drew (Below.refl _ _))) hk.out).mono ?_; rintro e w3 ⟨rfl, hb⟩; have hb3 : Below w2.heap.size w2 w3 := keepB (below_drew (Below.refl _ _)) hb)
        | (go_at_call 22; refine (rcNew_no ⟨c, A, B, ca, cb, ses⟩ _ (hC.out.later hb3) hk.out).mono ?_; rintro e w4 ⟨rfl, hb⟩; have hb4 : Below w2.heap.size w2 w4 := keepB hb3 hb))
    go_wp2
    go_ret
    exact ⟨rfl, keepB HB hb4⟩
  have hca' := Lib.hid hca
  clear hca
  go_enter Tryz.func6, Tryz.ntmps6
  go_wp2_with (first
    | (go_at_call 8; refine (awake21_any _).mono ?_; rintro e w1 ⟨rfl, hb⟩; replace c0 := keep hb c0; replace c1 := keep hb c1; replace HO := Lib.hid (HO.out.later hb); replace hC := Lib.hid (hC.out.later hb); replace HT := Lib.hid (HT.out.later hb); replace HB := keepB HB hb; clear hb)
    | (go_at_call 9; refine (calls_few hf.out (few21_any c l A B S ca cb cs _ hC.out HO.out hn)).mono ?_; rintro e w2 ⟨rfl, hb⟩; replace c0 := keep hb c0; replace c1 := keep hb c1; replace HO := Lib.hid (HO.out.later hb); replace hC := Lib.hid (hC.out.later hb); replace HT := Lib.hid (HT.out.later hb); replace HB := keepB HB hb; clear hb))
  go_region_held3 (fun w' => w'.cell? ⟨w.heap.size, 0, none⟩ = some (.slice A c.reps.length ca) ∧ w'.cell? ⟨w.heap.size, 1, none⟩ = some (.slice B c.bnds.length cb) ∧ Below w2.heap.size w2 w')
    (first | exact ⟨c0, c1, below_drew (Below.refl _ _)⟩ | (with_reducible exact ⟨keep hb3 c0, keep hb3 c1, hb3⟩) | (with_reducible exact ⟨keep hb4 c0, keep hb4 c1, hb4⟩))
    (first
      | (go_at_call 20; refine (cliNew_ok ⟨c, A, B, ca, cb, ses⟩ _ (hC.out.later (below_drew (Below.refl _ _))) hk.out).mono ?_; rintro e w3 ⟨p, rfl, hA3, hb⟩; have hb3 : Below w2.heap.size w2 w3 := keepB (below_drew (Below.refl _ _)) hb; replace hA3 := Lib.hid hA3)
      | (go_at_call 22; refine (rcNew_ok ⟨c, A, B, ca, cb, ses⟩ _ (hC.out.later hb3) hk.out).mono ?_; rintro e w4 ⟨q, rfl, hR4, hb⟩; have hb4 : Below w2.heap.size w2 w4 := keepB hb3 hb; have hX4 : Hid (TwoX ⟨w2, fun _ => False, w4⟩ w4 w2.heap.size p q ⟨c, A, B, ca, cb, ses⟩ 0 cli0) := ⟨_, _, two_new hC.out HT.out hca'.out hk.out hA3.out hb3 hR4 hb⟩; clear hR4))
  clear eW hca' HT c0 c1 hA3 hb3
  have hBsz := HB.size
  clear hb4
  have hses : Hid (1 ≤ ses ∧ ses ≤ 8) := by
    have := hk.out
    simp only [cliOK, Bool.and_eq_true, decide_eq_true_eq] at this
    exact ⟨this.1.2, this.2⟩
  obtain ⟨i0, hi, hz0, hz1, hz2⟩ := info_parts info_rdR
  go_wp2
  go_loopw [9, 10] (fun v i wr => ∃ k : Nat, k ≤ l.length ∧ i = .int .i64 k ∧ ∃ (x : CliD) (rd : List Rd), Hid (RSt w2 wr p q ⟨c, A, B, ca, cb, ses⟩ k x v rd)) (fun _ i _ => l.length - (intOf i).toNat)
  case atStart => exact ⟨0, Nat.zero_le _, rfl, cli0, [], RSt.start hX4.out rfl⟩
  case round =>
    obtain ⟨k, hkl, rfl, x, rd, HSt⟩ := hrel
    obtain ⟨wz, rfl⟩ : ∃ wz : World, wz = wr := ⟨_, rfl⟩
    have HX := Lib.hid HSt.out.2.1
    by_cases hlt : k < l.length
    · obtain ⟨b, off, o, rfl, hrow, ho, HXX⟩ := HO.out.at' hlt
      have HR := Lib.hid (CellRow.later hrow (HX.out.b.mono (Nat.le_refl _)))
      have hO1 : Hid (∀ wy, Below w2.heap.size wz wy → OpAt wy o) := fun wy hy => ho.later (HX.out.b.trans hy)
      have hk60 : Hid (k ≤ 1000) := by have := hf60.out; show _ ≤ _; omega
      have hk10 : Hid (o.keys.length ≤ 10) := by show _ ≤ _; rw [← HXX.out]; exact few21_keys hf.out hlt
      have hk1 : Hid (k + 1 ≤ l.length) := hlt
      clear hrow ho HXX
      go_wp2_with (first
        | (go_at_call 18; (with_reducible refine HX.out.state.mono ?_); rintro e w3 ⟨rfl, rfl⟩)
        | (refine wpList_load_cells rfl 45 _ rfl ⟨b, off + k * 41, none⟩ rfl o.vs _ HR.out Tryz.underlying45 rfl info_op21 ?_)
        | (go_at_call 23; (with_reducible refine (HX.out.act hk60.out o hO1.out hk10.out).mono ?_); rintro e w4 ⟨bb, A4, c4, y, ev, rfl, hE4, hel, hY, ha, hfr⟩; replace hE4 := Lib.hid hE4; replace hY := Lib.hid hY; replace ha := Lib.hid ha; replace hel := Lib.hid hel; replace hfr := Lib.hid hfr))
      have hev9 : ev.length ≤ 1000 := hel.out
      have hkk : Hid (k ≤ 60) := by have := hf60.out; show _ ≤ _; omega
      have hL1 : Hid ((newR ev).length ≤ 1) := newR_len ha.out
      rcases right_ways ha.out HX.out.inv HSt.out.2.2.1 with ⟨x0, y1, hp⟩ | ⟨hy, hp⟩
      · have q1 : ((y.state : Int) == 1) = true := by rw [beq_iff_eq]; omega
        have q0 : ((x.state : Int) == 0) = true := by rw [beq_iff_eq]; omega
        have HIn1 := Lib.hid (RSt.anew HSt.out hY.out hE4.out hfr.out)
        obtain ⟨rd1, hrd1⟩ : ∃ rd1 : List Rd, rd1 = [] := ⟨_, rfl⟩
        rw [← hrd1] at HIn1 hp
        have hrl : Hid (rd1.length ≤ k) := by show _ ≤ _; rw [hrd1]; exact Nat.zero_le _
        clear x0 y1 hrd1
        go_wp2_with (go_at_call 18; (with_reducible refine hY.out.state.mono ?_); rintro e w3 ⟨rfl, rfl⟩)
        replace hp := Lib.hid hp
        clear HX
        go_loopw [9, 14] (fun v j wj => ∃ i : Nat, i ≤ ev.length ∧ j = .int .i64 i ∧ ∃ rd3 : List Rd, Hid (rd3 = rd1 ++ newR (ev.take i)) ∧ Hid (RIn w2 wj p q ⟨c, A, B, ca, cb, ses⟩ (k + 1) y v rd3 A4 ev)) (fun _ j _ => ev.length - (intOf j).toNat)
        case atStart => exact ⟨0, Nat.zero_le _, rfl, rd1, by show _ = _; rw [List.take_zero]; exact (List.append_nil rd1).symm, HIn1⟩
        case round =>
          obtain ⟨i, hil, rfl, rd3, hrd3, HIn⟩ := hrel
          obtain ⟨wj, rfl⟩ : ∃ wj : World, wj = wr := ⟨_, rfl⟩
          have hBj : Hid (w2.heap.size ≤ wj.heap.size) := HIn.out.2.1.b.size
          have hr9 : Hid (rd3.length ≤ 2000) := by
            show _ ≤ _
            rw [hrd3.out, List.length_append]
            have := newR_le (ev.take i)
            have := List.length_take_le i ev
            have := hrl.out
            have := hkk.out
            omega
          by_cases hl2 : i < ev.length
          · obtain ⟨g1, rfl, hrow⟩ := HIn.out.2.2.1 i hl2
            obtain ⟨m0, _, _, m3, m7, _, _, _⟩ := ev_cs hrow
            have hn1 := Lib.hid (fun hk => newR_take1 hl2 hk)
            have hn0 := Lib.hid (fun hk => newR_take0 hl2 hk)
            obtain ⟨e, he⟩ : ∃ e, ev.getD i noEv = e := ⟨_, rfl⟩
            rw [he] at m0 m3 m7 hn1 hn0
            obtain ⟨kd, ids, idq, key, val, ver, yes, st, er⟩ := e
            simp only at m0 m3 m7 hn1 hn0
            have ii : (i : Int) < (ev.length : Int) := by omega
            have i0i : (0 : Int) ≤ (i : Int) := by omega
            have hi1 : Hid (i + 1 ≤ ev.length) := hl2
            clear hrow he
            by_cases k1 : kd = 1
            · subst k1
              have HN1 : Hid (newR (ev.take (i + 1)) = newR (ev.take i) ++ [⟨key, ver⟩]) := hn1.out rfl
              clear hn1 hn0
              go_wp2
              refine wp_region_held_drew (S := (fun w' => w'.cell? ⟨g1, i * 11 + 3, none⟩ = some (.string key) ∧ w'.cell? ⟨g1, i * 11 + 7, none⟩ = some (.int .u64 (ver : Int)))) (by kernel_rfl) ⟨m3, m7⟩ (fun hHeld => ?_)
              refine wpAnyH_take (i := 0) (oi := ?o0_1016) (v := ?v0_1016) ?hi0_1016 (by kernel_rfl) (by kernel_rfl) (by kernel_rfl) ?hq0_1016 (Or.inl ⟨?hg0_1016, ?hy0_1016⟩) hHeld ?rest0_1016
              case hi0_1016 => (simp only [List.getElem?_toArray, List.getElem?_cons_succ, List.getElem?_cons_zero]; rfl)
              case hq0_1016 => exact fun _ _ _ h => h
              case hg0_1016 => rfl
              case hy0_1016 => (intro w hSw; (try dsimp only at hSw); go_simp; (try with_reducible rfl))
              (try simp only [Act.put, List.setIfInBounds_toArray, List.set_cons_zero, List.set_cons_succ])
              refine wpAnyH_take (i := 1) (oi := ?o1_1017) (v := ?v1_1017) ?hi1_1017 (by kernel_rfl) (by kernel_rfl) (by kernel_rfl) ?hq1_1017 (Or.inl ⟨?hg1_1017, ?hy1_1017⟩) hHeld ?rest1_1017
              case hi1_1017 => (simp only [List.getElem?_toArray, List.getElem?_cons_succ, List.getElem?_cons_zero]; rfl)
              case hq1_1017 => exact fun _ _ _ h => h
              case hg1_1017 => rfl
              case hy1_1017 => (intro w hSw; (try dsimp only at hSw); go_simp; (try with_reducible rfl))
              (try simp only [Act.put, List.setIfInBounds_toArray, List.set_cons_zero, List.set_cons_succ])
              refine wpAnyH_take (i := 2) (oi := ?o2_1018) (v := ?v2_1018) ?hi2_1018 (by kernel_rfl) (by kernel_rfl) (by kernel_rfl) ?hq2_1018 (Or.inl ⟨?hg2_1018, ?hy2_1018⟩) hHeld ?rest2_1018
              case hi2_1018 => (simp only [List.getElem?_toArray, List.getElem?_cons_succ, List.getElem?_cons_zero]; rfl)
              case hq2_1018 => exact fun _ _ _ h => h
              case hg2_1018 => rfl
              case hy2_1018 => (intro w hSw; (try dsimp only at hSw); go_simp; (try with_reducible rfl))
              (try simp only [Act.put, List.setIfInBounds_toArray, List.set_cons_zero, List.set_cons_succ])
              refine wpAnyH_take (i := 3) (oi := ?o3_1019) (v := ?v3_1019) ?hi3_1019 (by kernel_rfl) (by kernel_rfl) (by kernel_rfl) ?hq3_1019 (Or.inl ⟨?hg3_1019, ?hy3_1019⟩) hHeld ?rest3_1019
              case hi3_1019 => (simp only [List.getElem?_toArray, List.getElem?_cons_succ, List.getElem?_cons_zero]; rfl)
              case hq3_1019 => exact fun _ _ _ h => h
              case hg3_1019 => rfl
              case hy3_1019 => (intro w hSw; (try dsimp only at hSw); go_simp; (try with_reducible rfl))
              (try simp only [Act.put, List.setIfInBounds_toArray, List.set_cons_zero, List.set_cons_succ])
              refine wpAnyH_take (i := 4) (oi := ?o4_1020) (v := ?v4_1020) ?hi4_1020 (by kernel_rfl) (by kernel_rfl) (by kernel_rfl) ?hq4_1020 (Or.inl ⟨?hg4_1020, ?hy4_1020⟩) hHeld ?rest4_1020
              case hi4_1020 => (simp only [List.getElem?_toArray, List.getElem?_cons_succ, List.getElem?_cons_zero]; rfl)
              case hq4_1020 => exact fun _ _ _ h => h
              case hg4_1020 => rfl
              case hy4_1020 => (intro w hSw; (try dsimp only at hSw); go_simp; (try with_reducible rfl))
              (try simp only [Act.put, List.setIfInBounds_toArray, List.set_cons_zero, List.set_cons_succ])
              refine wpAnyH_take (i := 5) (oi := ?o5_1021) (v := ?v5_1021) ?hi5_1021 (by kernel_rfl) (by kernel_rfl) (by kernel_rfl) ?hq5_1021 (Or.inl ⟨?hg5_1021, ?hy5_1021⟩) hHeld ?rest5_1021
              case hi5_1021 => (simp only [List.getElem?_toArray, List.getElem?_cons_succ, List.getElem?_cons_zero]; rfl)
              case hq5_1021 => exact fun _ _ _ h => h
              case hg5_1021 => rfl
              case hy5_1021 => (intro w hSw; (try dsimp only at hSw); go_simp; (try with_reducible rfl))
              (try simp only [Act.put, List.setIfInBounds_toArray, List.set_cons_zero, List.set_cons_succ])
              refine wpAnyH_take (i := 6) (oi := ?o6_1022) (v := ?v6_1022) ?hi6_1022 (by kernel_rfl) (by kernel_rfl) (by kernel_rfl) ?hq6_1022 (Or.inl ⟨?hg6_1022, ?hy6_1022⟩) hHeld ?rest6_1022
              case hi6_1022 => (simp only [List.getElem?_toArray, List.getElem?_cons_succ, List.getElem?_cons_zero]; rfl)
              case hq6_1022 => exact fun _ _ _ h => h
              case hg6_1022 => rfl
              case hy6_1022 => (intro w hSw; (try dsimp only at hSw); go_simp; (try with_reducible rfl))
              (try simp only [Act.put, List.setIfInBounds_toArray, List.set_cons_zero, List.set_cons_succ])
              refine wpAnyH_take (i := 7) (oi := ?o7_1023) (v := ?v7_1023) ?hi7_1023 (by kernel_rfl) (by kernel_rfl) (by kernel_rfl) ?hq7_1023 (Or.inl ⟨?hg7_1023, ?hy7_1023⟩) hHeld ?rest7_1023
              case hi7_1023 => (simp only [List.getElem?_toArray, List.getElem?_cons_succ, List.getElem?_cons_zero]; rfl)
              case hq7_1023 => exact fun _ _ _ h => h
              case hg7_1023 => rfl
              case hy7_1023 => (intro w hSw; (try dsimp only at hSw); go_simp; (try with_reducible rfl))
              (try simp only [Act.put, List.setIfInBounds_toArray, List.set_cons_zero, List.set_cons_succ])
              refine wpAnyH_take (i := 8) (oi := ?o8_1024) (v := ?v8_1024) ?hi8_1024 (by kernel_rfl) (by kernel_rfl) (by kernel_rfl) ?hq8_1024 (Or.inl ⟨?hg8_1024, ?hy8_1024⟩) hHeld ?rest8_1024
              case hi8_1024 => (simp only [List.getElem?_toArray, List.getElem?_cons_succ, List.getElem?_cons_zero]; rfl)
              case hq8_1024 => exact fun _ _ _ h => h
              case hg8_1024 => rfl
              case hy8_1024 => (intro w hSw; (try dsimp only at hSw); go_simp; (try with_reducible rfl))
              (try simp only [Act.put, List.setIfInBounds_toArray, List.set_cons_zero, List.set_cons_succ])
              refine wpAnyH_take (i := 9) (oi := ?o9_1025) (v := ?v9_1025) ?hi9_1025 (by kernel_rfl) (by kernel_rfl) (by kernel_rfl) ?hq9_1025 (Or.inl ⟨?hg9_1025, ?hy9_1025⟩) hHeld ?rest9_1025
              case hi9_1025 => (simp only [List.getElem?_toArray, List.getElem?_cons_succ, List.getElem?_cons_zero]; rfl)
              case hq9_1025 => exact fun _ _ _ h => h
              case hg9_1025 => rfl
              case hy9_1025 => (intro w hSw; (try dsimp only at hSw); go_simp; (try with_reducible rfl))
              (try simp only [Act.put, List.setIfInBounds_toArray, List.set_cons_zero, List.set_cons_succ])
              refine wpAnyH_take (i := 10) (oi := ?o10_1026) (v := ?v10_1026) ?hi10_1026 (by kernel_rfl) (by kernel_rfl) (by kernel_rfl) ?hq10_1026 (Or.inl ⟨?hg10_1026, ?hy10_1026⟩) hHeld ?rest10_1026
              case hi10_1026 => (simp only [List.getElem?_toArray, List.getElem?_cons_succ, List.getElem?_cons_zero]; rfl)
              case hq10_1026 => exact fun _ _ _ h => h
              case hg10_1026 => rfl
              case hy10_1026 => (intro w hSw; (try dsimp only at hSw); go_simp; (try with_reducible rfl))
              (try simp only [Act.put, List.setIfInBounds_toArray, List.set_cons_zero, List.set_cons_succ])
              refine wpAnyH_take (i := 11) (oi := ?o11_1027) (v := ?v11_1027) ?hi11_1027 (by kernel_rfl) (by kernel_rfl) (by kernel_rfl) ?hq11_1027 (Or.inl ⟨?hg11_1027, ?hy11_1027⟩) hHeld ?rest11_1027
              case hi11_1027 => (simp only [List.getElem?_toArray, List.getElem?_cons_succ, List.getElem?_cons_zero]; rfl)
              case hq11_1027 => exact fun _ _ _ h => h
              case hg11_1027 => rfl
              case hy11_1027 => (intro w hSw; (try dsimp only at hSw); go_simp; (try with_reducible rfl))
              (try simp only [Act.put, List.setIfInBounds_toArray, List.set_cons_zero, List.set_cons_succ])
              refine wpAnyH_ready (rs := [12]) (by kernel_rfl) (by simp) ?_
              refine AllReadyH.cons (o := ?p12_1030) ?ho12_1030 (fun KK hK => ?step12_1030) ?more12_1030
              case ho12_1030 => (simp only [List.getElem?_toArray, List.getElem?_cons_succ, List.getElem?_cons_zero]; rfl)
              case step12_1030 =>
                rw [if_pos (by rfl)]
                refine wp_buildSlice1 34 75 _ rfl #[.string key, .int .u64 (ver : Int)] rfl _ Tryz.underlying34 (info_rdt _ rfl) (by show 0 < 2; omega) (by show 2 ≤ 16777216; omega) (zero_rdt _) ?_
                obtain ⟨w8, e8, hb8, hs8, hr8⟩ := boxed wj.drew #[.string key, .int .u64 (ver : Int)] 75
                rw [e8]
                clear e8
                have hb78 : Below wj.heap.size wj w8 := keepB (below_drew (Below.refl _ _)) hb8
                have HR8 := Lib.hid (HIn.out.later hb78)
                (try go_wp2_with fail)
                refine hK.out _ _ ⟨keep hb78 m3, keep hb78 m7⟩ (fun hH2 => ?_)
                clear hHeld hK KK
                have hHeld := hH2
                clear hH2
                (try simp only [Act.put, List.setIfInBounds_toArray, List.set_cons_zero, List.set_cons_succ])
                refine wpAnyH_ready (rs := [13]) (by kernel_rfl) (by simp) ?_
                refine AllReadyH.cons (o := ?p13_1029) ?ho13_1029 (fun KK hK => ?step13_1029) ?more13_1029
                case ho13_1029 => (simp only [List.getElem?_toArray, List.getElem?_cons_succ, List.getElem?_cons_zero]; rfl)
                case step13_1029 =>
                  refine ready_append_own_at rfl _ _ 34 rfl w2.heap.size 75 i0 _ 2 24 Tryz.underlying34 hi hz0 hz1 hz2 rfl (Nat.succ_pos 1) u9 rd3.length (rdCells rd3) rfl HR8.out.1 ⟨wj.heap.size, 0, none⟩ 1 1 [.string key, .int .u64 (ver : Int)] rfl rfl (World.news_of_block hr8) (one_rdt _ _) (le_maxLen (by have := hr9.out; omega)) (by have := hr9.out; omega) (Nat.le_trans hBj.out hb78.size) ?_
                  intro v9 w9 hO9 hg9 hv9
                  have hne9 : v9 = v9 ∧ u9.ownBlock ≠ some g1 := ⟨rfl, (HR8.out.2.2.2 _ rfl).1⟩
                  (try go_wp2_with fail)
                  refine hK.out _ _ ⟨hg9.cell (keep hb78 m3) (Ne.symm hne9.2), hg9.cell (keep hb78 m7) (Ne.symm hne9.2)⟩ (fun hH2 => ?_)
                  clear hHeld hK KK
                  have hHeld := hH2
                  clear hH2
                  (try simp only [Act.put, List.setIfInBounds_toArray, List.set_cons_zero, List.set_cons_succ])
                  have HR9 := Lib.hid (RIn.grow (r := ⟨key, ver⟩) HR8.out hO9 hg9 hv9)
                  clear hO9 hg9 hv9 HR8 hr8 hb8 hb78 hs8 hne9
                  refine wpAnyH_take (i := 14) (oi := ?o14_1028) (v := ?v14_1028) ?hi14_1028 (by kernel_rfl) (by kernel_rfl) (by kernel_rfl) ?hq14_1028 (Or.inl ⟨?hg14_1028, ?hy14_1028⟩) hHeld ?rest14_1028
                  case hi14_1028 => (simp only [List.getElem?_toArray, List.getElem?_cons_succ, List.getElem?_cons_zero]; rfl)
                  case hq14_1028 => exact fun _ _ _ h => h
                  case hg14_1028 => rfl
                  case hy14_1028 => (intro w hSw; (try dsimp only at hSw); go_simp; (try with_reducible rfl))
                  (try simp only [Act.put, List.setIfInBounds_toArray, List.set_cons_zero, List.set_cons_succ])
                  refine wpAnyH_done (by kernel_rfl) ?_ _
                  go_wp2
                  go_roundw
                  case rel => exact ⟨i + 1, hi1.out, by go_num, _, by show _ = _; rw [HN1.out, ← List.append_assoc, ← hrd3.out], HR9⟩
                  case measure => have := hi1.out; simp [intOf]; omega
                exact AllReadyH.nil
              exact AllReadyH.nil
            · have qk : (kd == 1) = false := by rw [beq_eq_false_iff_ne]; exact k1
              have HN0 : Hid (newR (ev.take (i + 1)) = newR (ev.take i)) := hn0.out k1
              clear hn1 hn0 k1
              go_wp2
              go_roundw
              case rel => exact ⟨i + 1, hi1.out, by go_num, rd3, by show _ = _; rw [HN0.out]; exact hrd3.out, HIn⟩
              case measure => have := hi1.out; simp [intOf]; omega
          · have ei : i = ev.length := by omega
            have ii : ¬ ((i : Int) < (ev.length : Int)) := by omega
            have hr3 : Hid (rd3 = rd1 ++ newR ev) := by show _ = _; rw [hrd3.out, ei, List.take_length]
            have hlk : Hid (rd3.length ≤ k + 1) := by
              show _ ≤ _
              rw [hr3.out, List.length_append]
              have := hL1.out
              have := hrl.out
              omega
            have hpp : Hid (y.state = 1 ∨ y.state = 2 → y.rds.Perm rd3) := by
              show _ → _
              rw [hr3.out]; exact hp.out
            clear ei hrd3 hr3
            have HYj := Lib.hid HIn.out.2.1
            obtain ⟨A9, cap9, rfl, _, hA9, _⟩ := own_rds HIn.out.1
            replace hA9 := Lib.hid hA9
            obtain ⟨t, ht⟩ : ∃ t, Hid (txnD ses y = t) := ⟨_, rfl⟩
            have HTx : Hid (Calls Tryz.prog 24 #[.pointer (some ⟨p, 0, none⟩)] wj (TxnPost wj t)) := by
              have := HYj.out.txn
              rw [show txnD (CliK.ses ⟨c, A, B, ca, cb, ses⟩) y = t from ht.out] at this
              exact this
            by_cases s1 : y.state = 1 ∨ y.state = 2
            · have hlen : t.rds.length = rd3.length := by
                rw [← ht.out, txnD_in s1]; exact (hpp.out s1).length_eq
              have qlen : ((t.rds.length : Int) != (rd3.length : Int)) = false := by rw [bne_eq_false_iff_eq]; omega
              have hr9o : rd3.length ≤ 2000 := hr9.out
              have ht9o : t.rds.length ≤ 2000 := by rw [hlen]; exact hr9.out
              replace hlen := Lib.hid hlen
              have hmem : Hid (∀ r ∈ rd3, r ∈ t.rds) := by
                intro r hr
                rw [← ht.out, txnD_in s1]; exact (hpp.out s1).mem_iff.2 hr
              have hst : (((y.state : Int) != 1) = false ∧ ((y.state : Int) == 2) = false) ∨ (((y.state : Int) != 1) = true ∧ ((y.state : Int) != 2) = false ∧ ((y.state : Int) == 2) = true ∧ Hid (formedT t = true)) := by
                rcases s1 with h | h
                · exact .inl ⟨by rw [bne_eq_false_iff_eq]; omega, by rw [beq_eq_false_iff_ne]; omega⟩
                · refine .inr ⟨by rw [bne_iff_ne]; omega, by rw [bne_eq_false_iff_eq]; omega, by rw [beq_iff_eq]; omega, ?_⟩
                  have := right_formed (K := ⟨c, A, B, ca, cb, ses⟩) HYj.out.inv hses.out.1 hses.out.2 h
                  rw [show txnD (CliK.ses ⟨c, A, B, ca, cb, ses⟩) y = t from ht.out] at this
                  exact this
              clear s1
              rcases hst with ⟨a1, a2⟩ | ⟨a1, a2, a3, hfm⟩
              all_goals
                go_wp2_with (first
                  | (go_at_call 24; (with_reducible refine HTx.out.mono ?_); rintro e w5 ⟨A5, C5, ka5, kb5, rfl, hT5, _, _, hb5⟩; unfold txV; replace hb5 := Lib.hid hb5; replace hT5 := Lib.hid hT5)
                  | (refine wpList_store_new rfl 37 _ _ rfl w5 #[.int .i64 t.ses, .int .i64 t.seq, .slice A5 t.rds.length ka5, .slice C5 t.wrs.length kb5] 37 rfl rfl rfl info_txn rfl oneTx ?_; intro w6 hb6 hs6 hr6; have hb56 := Lib.hid (keepB hb5.out hb6); have HY6 := Lib.hid (HYj.out.later hb56.out); have hT6 := Lib.hid (hT5.out.later hb6); obtain ⟨⟨z0, z1, z2, z3⟩, -⟩ := cellsTx hr6; clear hs6 hr6 hb6)
                  | (go_at_call 18; (with_reducible refine HY6.out.state.mono ?_); rintro e w3 ⟨rfl, rfl⟩)
                  | (go_at_call 25; refine (calls_few hfm.out (refTxFormed_any t A5 C5 ka5 kb5 _ hT6.out)).mono ?_; rintro e w7 ⟨rfl, hb7⟩; replace z2 := keep hb7 z2; replace hb56 := Lib.hid (keepB hb56.out hb7); replace hT6 := Lib.hid (hT6.out.later hb7); clear hb7))

                have HPk := Lib.hid (RPk.mk' (ka5 := ka5) (HIn.out.later hb56.out) (hA9.out.later hb56.out) hT6.out.rds z2)
                clear z0 z1 z2 z3
                go_loopw [16] (fun kk wk => ∃ m : Nat, m ≤ rd3.length ∧ kk = .int .i64 m ∧ Hid (RPk w2 wk p q ⟨c, A, B, ca, cb, ses⟩ (k + 1) y A9 cap9 rd3 A4 ev A5 t ka5 w5.heap.size)) (fun kk _ => rd3.length - (intOf kk).toNat)
                case atStart => exact ⟨0, Nat.zero_le _, rfl, HPk⟩
                case round =>
                  obtain ⟨m, hml, rfl, HP⟩ := hrel
                  obtain ⟨wk, rfl⟩ : ∃ wk : World, wk = wr := ⟨_, rfl⟩
                  by_cases hm : m < rd3.length
                  · obtain ⟨b9, o9, rfl, r0, r1⟩ := HP.out.2.1 m hm
                    have hmm := hmem.out _ (getD_mem (d := noRd) hm)
                    obtain ⟨rr, hrr⟩ : ∃ rr, rd3.getD m noRd = rr := ⟨_, rfl⟩
                    rw [hrr] at r0 r1 hmm
                    obtain ⟨rk, rv⟩ := rr
                    simp only at r0 r1 hmm
                    replace hmm := Lib.hid hmm
                    have mi : (m : Int) < (rd3.length : Int) := by omega
                    have m0i : (0 : Int) ≤ (m : Int) := by omega
                    have hm1 : Hid (m + 1 ≤ rd3.length) := hm
                    clear hrr
                    go_wp2
                    go_loopw [17, 18] (fun th jj wl => ∃ j : Nat, j ≤ t.rds.length ∧ jj = .int .i64 j ∧ ∃ bb2 : Bool, th = .bool bb2 ∧ Hid (∀ j', j' < j → t.rds.getD j' noRd = ⟨rk, rv⟩ → bb2 = true) ∧ Below wk.heap.size wk wl) (fun _ jj _ => t.rds.length - (intOf jj).toNat)
                    case atStart => exact ⟨0, Nat.zero_le _, rfl, false, rfl, fun _ h => absurd h (Nat.not_lt_zero _), Below.refl _ _⟩
                    case round =>
                      obtain ⟨j, hjl, rfl, bb2, rfl, hbb, hw3⟩ := hrel
                      obtain ⟨wl, rfl⟩ : ∃ wl : World, wl = wr := ⟨_, rfl⟩
                      have z2 := keep hw3 HP.out.2.2.2
                      replace r0 := keep hw3 r0
                      replace r1 := keep hw3 r1
                      by_cases hj2 : j < t.rds.length
                      · have ji : (j : Int) < (t.rds.length : Int) := by omega
                        have j0i : (0 : Int) ≤ (j : Int) := by omega
                        have hj1 : Hid (j + 1 ≤ t.rds.length) := hj2
                        cases bb2
                        · obtain ⟨b5, o5, rfl, s0, s1⟩ := HP.out.2.2.1 j hj2
                          replace s0 := keep hw3 s0
                          replace s1 := keep hw3 s1
                          obtain ⟨ss, hss⟩ : ∃ ss, t.rds.getD j noRd = ss := ⟨_, rfl⟩
                          rw [hss] at s0 s1
                          replace hss := Lib.hid hss
                          obtain ⟨sk, sv⟩ := ss
                          simp only at s0 s1
                          have hx := eqlRd sk rk sv rv
                          obtain ⟨eb, heb⟩ : ∃ eb, rdEq ⟨sk, sv⟩ ⟨rk, rv⟩ = eb := ⟨_, rfl⟩
                          rw [heb] at hx
                          replace heb := Lib.hid heb
                          go_wp2
                          go_quiet (fail)
                          go_wp2
                          go_roundw
                          case rel =>
                            refine ⟨j + 1, hj1.out, by go_num, eb, rfl, fun j' hj' e => ?_, keepB hw3 (below_drewN (Below.refl _ _) _)⟩
                            by_cases ej : j' = j
                            · subst ej
                              rw [hss.out] at e
                              rw [← heb.out, e]
                              exact rdEq_self _
                            · exact absurd (hbb.out j' (by omega) e) (by decide)
                          case measure => have := hj1.out; simp [intOf]; omega
                        · go_wp2
                          go_quiet (fail)
                          go_wp2
                          go_roundw
                          case rel => exact ⟨j + 1, hj1.out, by go_num, true, rfl, fun _ _ _ => rfl, keepB hw3 (below_drewN (Below.refl _ _) _)⟩
                          case measure => have := hj1.out; simp [intOf]; omega
                      · have ji : ¬ ((j : Int) < (t.rds.length : Int)) := by omega
                        have hbt : bb2 = true := by
                          obtain ⟨ix, hix, hie⟩ := List.getElem_of_mem hmm.out
                          exact hbb.out ix (by omega) (by rw [getD_eq t.rds noRd hix]; exact hie)
                        subst hbt
                        go_wp2
                        go_roundw
                        case rel => exact ⟨m + 1, hm1.out, by go_num, Lib.hid (HP.out.later hw3)⟩
                        case measure => have := hm1.out; simp [intOf]; omega
                  · have mi : ¬ ((m : Int) < (rd3.length : Int)) := by omega
                    go_wp2
                    go_roundw
                    case rel => exact ⟨k + 1, hk1.out, by go_num, y, rd3, RIn.end_ HP.out.1 hpp.out hlk.out⟩
                    case measure => have := hk1.out; simp [intOf]; omega
            · have a1 : ((y.state : Int) != 1) = true := by rw [bne_iff_ne]; omega
              have a2 : ((y.state : Int) != 2) = true := by rw [bne_iff_ne]; omega
              clear s1
              go_wp2_with (first
                | (go_at_call 24; (with_reducible refine HTx.out.mono ?_); rintro e w5 ⟨A5, C5, ka5, kb5, rfl, hT5, _, _, hb5⟩; unfold txV; replace hb5 := Lib.hid hb5)
                | (refine wpList_store_new rfl 37 _ _ rfl w5 #[.int .i64 t.ses, .int .i64 t.seq, .slice A5 t.rds.length ka5, .slice C5 t.wrs.length kb5] 37 rfl rfl rfl info_txn rfl oneTx ?_; intro w6 hb6 hs6 hr6; have hb56 := Lib.hid (keepB hb5.out hb6); have HY6 := Lib.hid (HYj.out.later hb56.out); clear hs6 hr6 hb6)
                | (go_at_call 18; (with_reducible refine HY6.out.state.mono ?_); rintro e w3 ⟨rfl, rfl⟩))
              go_roundw
              case rel => exact ⟨k + 1, hk1.out, by go_num, y, rd3, RIn.end_ (HIn.out.later hb56.out) hpp.out hlk.out⟩
              case measure => have := hk1.out; simp [intOf]; omega
      · have HIn1 := Lib.hid (RSt.on HSt.out hY.out hE4.out hfr.out)
        obtain ⟨rd1, hrd1⟩ : ∃ rd1 : List Rd, rd1 = rd := ⟨_, rfl⟩
        rw [← hrd1] at HIn1 hp
        have hrl : Hid (rd1.length ≤ k) := by show _ ≤ _; rw [hrd1]; exact HSt.out.2.2.2
        clear hrd1
        rcases hy with q1' | ⟨q1', q0'⟩
        · have q1 : ((y.state : Int) == 1) = false := by rw [beq_eq_false_iff_ne]; omega
          clear q1'
          go_wp2_with (go_at_call 18; (with_reducible refine hY.out.state.mono ?_); rintro e w3 ⟨rfl, rfl⟩)
          replace hp := Lib.hid hp
          clear HX
          go_loopw [9, 14] (fun v j wj => ∃ i : Nat, i ≤ ev.length ∧ j = .int .i64 i ∧ ∃ rd3 : List Rd, Hid (rd3 = rd1 ++ newR (ev.take i)) ∧ Hid (RIn w2 wj p q ⟨c, A, B, ca, cb, ses⟩ (k + 1) y v rd3 A4 ev)) (fun _ j _ => ev.length - (intOf j).toNat)
          case atStart => exact ⟨0, Nat.zero_le _, rfl, rd1, by show _ = _; rw [List.take_zero]; exact (List.append_nil rd1).symm, HIn1⟩
          case round =>
            obtain ⟨i, hil, rfl, rd3, hrd3, HIn⟩ := hrel
            obtain ⟨wj, rfl⟩ : ∃ wj : World, wj = wr := ⟨_, rfl⟩
            have hBj : Hid (w2.heap.size ≤ wj.heap.size) := HIn.out.2.1.b.size
            have hr9 : Hid (rd3.length ≤ 2000) := by
              show _ ≤ _
              rw [hrd3.out, List.length_append]
              have := newR_le (ev.take i)
              have := List.length_take_le i ev
              have := hrl.out
              have := hkk.out
              omega
            by_cases hl2 : i < ev.length
            · obtain ⟨g1, rfl, hrow⟩ := HIn.out.2.2.1 i hl2
              obtain ⟨m0, _, _, m3, m7, _, _, _⟩ := ev_cs hrow
              have hn1 := Lib.hid (fun hk => newR_take1 hl2 hk)
              have hn0 := Lib.hid (fun hk => newR_take0 hl2 hk)
              obtain ⟨e, he⟩ : ∃ e, ev.getD i noEv = e := ⟨_, rfl⟩
              rw [he] at m0 m3 m7 hn1 hn0
              obtain ⟨kd, ids, idq, key, val, ver, yes, st, er⟩ := e
              simp only at m0 m3 m7 hn1 hn0
              have ii : (i : Int) < (ev.length : Int) := by omega
              have i0i : (0 : Int) ≤ (i : Int) := by omega
              have hi1 : Hid (i + 1 ≤ ev.length) := hl2
              clear hrow he
              by_cases k1 : kd = 1
              · subst k1
                have HN1 : Hid (newR (ev.take (i + 1)) = newR (ev.take i) ++ [⟨key, ver⟩]) := hn1.out rfl
                clear hn1 hn0
                go_wp2
                refine wp_region_held_drew (S := (fun w' => w'.cell? ⟨g1, i * 11 + 3, none⟩ = some (.string key) ∧ w'.cell? ⟨g1, i * 11 + 7, none⟩ = some (.int .u64 (ver : Int)))) (by kernel_rfl) ⟨m3, m7⟩ (fun hHeld => ?_)
                refine wpAnyH_take (i := 0) (oi := ?o0_2031) (v := ?v0_2031) ?hi0_2031 (by kernel_rfl) (by kernel_rfl) (by kernel_rfl) ?hq0_2031 (Or.inl ⟨?hg0_2031, ?hy0_2031⟩) hHeld ?rest0_2031
                case hi0_2031 => (simp only [List.getElem?_toArray, List.getElem?_cons_succ, List.getElem?_cons_zero]; rfl)
                case hq0_2031 => exact fun _ _ _ h => h
                case hg0_2031 => rfl
                case hy0_2031 => (intro w hSw; (try dsimp only at hSw); go_simp; (try with_reducible rfl))
                (try simp only [Act.put, List.setIfInBounds_toArray, List.set_cons_zero, List.set_cons_succ])
                refine wpAnyH_take (i := 1) (oi := ?o1_2032) (v := ?v1_2032) ?hi1_2032 (by kernel_rfl) (by kernel_rfl) (by kernel_rfl) ?hq1_2032 (Or.inl ⟨?hg1_2032, ?hy1_2032⟩) hHeld ?rest1_2032
                case hi1_2032 => (simp only [List.getElem?_toArray, List.getElem?_cons_succ, List.getElem?_cons_zero]; rfl)
                case hq1_2032 => exact fun _ _ _ h => h
                case hg1_2032 => rfl
                case hy1_2032 => (intro w hSw; (try dsimp only at hSw); go_simp; (try with_reducible rfl))
                (try simp only [Act.put, List.setIfInBounds_toArray, List.set_cons_zero, List.set_cons_succ])
                refine wpAnyH_take (i := 2) (oi := ?o2_2033) (v := ?v2_2033) ?hi2_2033 (by kernel_rfl) (by kernel_rfl) (by kernel_rfl) ?hq2_2033 (Or.inl ⟨?hg2_2033, ?hy2_2033⟩) hHeld ?rest2_2033
                case hi2_2033 => (simp only [List.getElem?_toArray, List.getElem?_cons_succ, List.getElem?_cons_zero]; rfl)
                case hq2_2033 => exact fun _ _ _ h => h
                case hg2_2033 => rfl
                case hy2_2033 => (intro w hSw; (try dsimp only at hSw); go_simp; (try with_reducible rfl))
                (try simp only [Act.put, List.setIfInBounds_toArray, List.set_cons_zero, List.set_cons_succ])
                refine wpAnyH_take (i := 3) (oi := ?o3_2034) (v := ?v3_2034) ?hi3_2034 (by kernel_rfl) (by kernel_rfl) (by kernel_rfl) ?hq3_2034 (Or.inl ⟨?hg3_2034, ?hy3_2034⟩) hHeld ?rest3_2034
                case hi3_2034 => (simp only [List.getElem?_toArray, List.getElem?_cons_succ, List.getElem?_cons_zero]; rfl)
                case hq3_2034 => exact fun _ _ _ h => h
                case hg3_2034 => rfl
                case hy3_2034 => (intro w hSw; (try dsimp only at hSw); go_simp; (try with_reducible rfl))
                (try simp only [Act.put, List.setIfInBounds_toArray, List.set_cons_zero, List.set_cons_succ])
                refine wpAnyH_take (i := 4) (oi := ?o4_2035) (v := ?v4_2035) ?hi4_2035 (by kernel_rfl) (by kernel_rfl) (by kernel_rfl) ?hq4_2035 (Or.inl ⟨?hg4_2035, ?hy4_2035⟩) hHeld ?rest4_2035
                case hi4_2035 => (simp only [List.getElem?_toArray, List.getElem?_cons_succ, List.getElem?_cons_zero]; rfl)
                case hq4_2035 => exact fun _ _ _ h => h
                case hg4_2035 => rfl
                case hy4_2035 => (intro w hSw; (try dsimp only at hSw); go_simp; (try with_reducible rfl))
                (try simp only [Act.put, List.setIfInBounds_toArray, List.set_cons_zero, List.set_cons_succ])
                refine wpAnyH_take (i := 5) (oi := ?o5_2036) (v := ?v5_2036) ?hi5_2036 (by kernel_rfl) (by kernel_rfl) (by kernel_rfl) ?hq5_2036 (Or.inl ⟨?hg5_2036, ?hy5_2036⟩) hHeld ?rest5_2036
                case hi5_2036 => (simp only [List.getElem?_toArray, List.getElem?_cons_succ, List.getElem?_cons_zero]; rfl)
                case hq5_2036 => exact fun _ _ _ h => h
                case hg5_2036 => rfl
                case hy5_2036 => (intro w hSw; (try dsimp only at hSw); go_simp; (try with_reducible rfl))
                (try simp only [Act.put, List.setIfInBounds_toArray, List.set_cons_zero, List.set_cons_succ])
                refine wpAnyH_take (i := 6) (oi := ?o6_2037) (v := ?v6_2037) ?hi6_2037 (by kernel_rfl) (by kernel_rfl) (by kernel_rfl) ?hq6_2037 (Or.inl ⟨?hg6_2037, ?hy6_2037⟩) hHeld ?rest6_2037
                case hi6_2037 => (simp only [List.getElem?_toArray, List.getElem?_cons_succ, List.getElem?_cons_zero]; rfl)
                case hq6_2037 => exact fun _ _ _ h => h
                case hg6_2037 => rfl
                case hy6_2037 => (intro w hSw; (try dsimp only at hSw); go_simp; (try with_reducible rfl))
                (try simp only [Act.put, List.setIfInBounds_toArray, List.set_cons_zero, List.set_cons_succ])
                refine wpAnyH_take (i := 7) (oi := ?o7_2038) (v := ?v7_2038) ?hi7_2038 (by kernel_rfl) (by kernel_rfl) (by kernel_rfl) ?hq7_2038 (Or.inl ⟨?hg7_2038, ?hy7_2038⟩) hHeld ?rest7_2038
                case hi7_2038 => (simp only [List.getElem?_toArray, List.getElem?_cons_succ, List.getElem?_cons_zero]; rfl)
                case hq7_2038 => exact fun _ _ _ h => h
                case hg7_2038 => rfl
                case hy7_2038 => (intro w hSw; (try dsimp only at hSw); go_simp; (try with_reducible rfl))
                (try simp only [Act.put, List.setIfInBounds_toArray, List.set_cons_zero, List.set_cons_succ])
                refine wpAnyH_take (i := 8) (oi := ?o8_2039) (v := ?v8_2039) ?hi8_2039 (by kernel_rfl) (by kernel_rfl) (by kernel_rfl) ?hq8_2039 (Or.inl ⟨?hg8_2039, ?hy8_2039⟩) hHeld ?rest8_2039
                case hi8_2039 => (simp only [List.getElem?_toArray, List.getElem?_cons_succ, List.getElem?_cons_zero]; rfl)
                case hq8_2039 => exact fun _ _ _ h => h
                case hg8_2039 => rfl
                case hy8_2039 => (intro w hSw; (try dsimp only at hSw); go_simp; (try with_reducible rfl))
                (try simp only [Act.put, List.setIfInBounds_toArray, List.set_cons_zero, List.set_cons_succ])
                refine wpAnyH_take (i := 9) (oi := ?o9_2040) (v := ?v9_2040) ?hi9_2040 (by kernel_rfl) (by kernel_rfl) (by kernel_rfl) ?hq9_2040 (Or.inl ⟨?hg9_2040, ?hy9_2040⟩) hHeld ?rest9_2040
                case hi9_2040 => (simp only [List.getElem?_toArray, List.getElem?_cons_succ, List.getElem?_cons_zero]; rfl)
                case hq9_2040 => exact fun _ _ _ h => h
                case hg9_2040 => rfl
                case hy9_2040 => (intro w hSw; (try dsimp only at hSw); go_simp; (try with_reducible rfl))
                (try simp only [Act.put, List.setIfInBounds_toArray, List.set_cons_zero, List.set_cons_succ])
                refine wpAnyH_take (i := 10) (oi := ?o10_2041) (v := ?v10_2041) ?hi10_2041 (by kernel_rfl) (by kernel_rfl) (by kernel_rfl) ?hq10_2041 (Or.inl ⟨?hg10_2041, ?hy10_2041⟩) hHeld ?rest10_2041
                case hi10_2041 => (simp only [List.getElem?_toArray, List.getElem?_cons_succ, List.getElem?_cons_zero]; rfl)
                case hq10_2041 => exact fun _ _ _ h => h
                case hg10_2041 => rfl
                case hy10_2041 => (intro w hSw; (try dsimp only at hSw); go_simp; (try with_reducible rfl))
                (try simp only [Act.put, List.setIfInBounds_toArray, List.set_cons_zero, List.set_cons_succ])
                refine wpAnyH_take (i := 11) (oi := ?o11_2042) (v := ?v11_2042) ?hi11_2042 (by kernel_rfl) (by kernel_rfl) (by kernel_rfl) ?hq11_2042 (Or.inl ⟨?hg11_2042, ?hy11_2042⟩) hHeld ?rest11_2042
                case hi11_2042 => (simp only [List.getElem?_toArray, List.getElem?_cons_succ, List.getElem?_cons_zero]; rfl)
                case hq11_2042 => exact fun _ _ _ h => h
                case hg11_2042 => rfl
                case hy11_2042 => (intro w hSw; (try dsimp only at hSw); go_simp; (try with_reducible rfl))
                (try simp only [Act.put, List.setIfInBounds_toArray, List.set_cons_zero, List.set_cons_succ])
                refine wpAnyH_ready (rs := [12]) (by kernel_rfl) (by simp) ?_
                refine AllReadyH.cons (o := ?p12_2045) ?ho12_2045 (fun KK hK => ?step12_2045) ?more12_2045
                case ho12_2045 => (simp only [List.getElem?_toArray, List.getElem?_cons_succ, List.getElem?_cons_zero]; rfl)
                case step12_2045 =>
                  rw [if_pos (by rfl)]
                  refine wp_buildSlice1 34 75 _ rfl #[.string key, .int .u64 (ver : Int)] rfl _ Tryz.underlying34 (info_rdt _ rfl) (by show 0 < 2; omega) (by show 2 ≤ 16777216; omega) (zero_rdt _) ?_
                  obtain ⟨w8, e8, hb8, hs8, hr8⟩ := boxed wj.drew #[.string key, .int .u64 (ver : Int)] 75
                  rw [e8]
                  clear e8
                  have hb78 : Below wj.heap.size wj w8 := keepB (below_drew (Below.refl _ _)) hb8
                  have HR8 := Lib.hid (HIn.out.later hb78)
                  (try go_wp2_with fail)
                  refine hK.out _ _ ⟨keep hb78 m3, keep hb78 m7⟩ (fun hH2 => ?_)
                  clear hHeld hK KK
                  have hHeld := hH2
                  clear hH2
                  (try simp only [Act.put, List.setIfInBounds_toArray, List.set_cons_zero, List.set_cons_succ])
                  refine wpAnyH_ready (rs := [13]) (by kernel_rfl) (by simp) ?_
                  refine AllReadyH.cons (o := ?p13_2044) ?ho13_2044 (fun KK hK => ?step13_2044) ?more13_2044
                  case ho13_2044 => (simp only [List.getElem?_toArray, List.getElem?_cons_succ, List.getElem?_cons_zero]; rfl)
                  case step13_2044 =>
                    refine ready_append_own_at rfl _ _ 34 rfl w2.heap.size 75 i0 _ 2 24 Tryz.underlying34 hi hz0 hz1 hz2 rfl (Nat.succ_pos 1) u9 rd3.length (rdCells rd3) rfl HR8.out.1 ⟨wj.heap.size, 0, none⟩ 1 1 [.string key, .int .u64 (ver : Int)] rfl rfl (World.news_of_block hr8) (one_rdt _ _) (le_maxLen (by have := hr9.out; omega)) (by have := hr9.out; omega) (Nat.le_trans hBj.out hb78.size) ?_
                    intro v9 w9 hO9 hg9 hv9
                    have hne9 : v9 = v9 ∧ u9.ownBlock ≠ some g1 := ⟨rfl, (HR8.out.2.2.2 _ rfl).1⟩
                    (try go_wp2_with fail)
                    refine hK.out _ _ ⟨hg9.cell (keep hb78 m3) (Ne.symm hne9.2), hg9.cell (keep hb78 m7) (Ne.symm hne9.2)⟩ (fun hH2 => ?_)
                    clear hHeld hK KK
                    have hHeld := hH2
                    clear hH2
                    (try simp only [Act.put, List.setIfInBounds_toArray, List.set_cons_zero, List.set_cons_succ])
                    have HR9 := Lib.hid (RIn.grow (r := ⟨key, ver⟩) HR8.out hO9 hg9 hv9)
                    clear hO9 hg9 hv9 HR8 hr8 hb8 hb78 hs8 hne9
                    refine wpAnyH_take (i := 14) (oi := ?o14_2043) (v := ?v14_2043) ?hi14_2043 (by kernel_rfl) (by kernel_rfl) (by kernel_rfl) ?hq14_2043 (Or.inl ⟨?hg14_2043, ?hy14_2043⟩) hHeld ?rest14_2043
                    case hi14_2043 => (simp only [List.getElem?_toArray, List.getElem?_cons_succ, List.getElem?_cons_zero]; rfl)
                    case hq14_2043 => exact fun _ _ _ h => h
                    case hg14_2043 => rfl
                    case hy14_2043 => (intro w hSw; (try dsimp only at hSw); go_simp; (try with_reducible rfl))
                    (try simp only [Act.put, List.setIfInBounds_toArray, List.set_cons_zero, List.set_cons_succ])
                    refine wpAnyH_done (by kernel_rfl) ?_ _
                    go_wp2
                    go_roundw
                    case rel => exact ⟨i + 1, hi1.out, by go_num, _, by show _ = _; rw [HN1.out, ← List.append_assoc, ← hrd3.out], HR9⟩
                    case measure => have := hi1.out; simp [intOf]; omega
                  exact AllReadyH.nil
                exact AllReadyH.nil
              · have qk : (kd == 1) = false := by rw [beq_eq_false_iff_ne]; exact k1
                have HN0 : Hid (newR (ev.take (i + 1)) = newR (ev.take i)) := hn0.out k1
                clear hn1 hn0 k1
                go_wp2
                go_roundw
                case rel => exact ⟨i + 1, hi1.out, by go_num, rd3, by show _ = _; rw [HN0.out]; exact hrd3.out, HIn⟩
                case measure => have := hi1.out; simp [intOf]; omega
            · have ei : i = ev.length := by omega
              have ii : ¬ ((i : Int) < (ev.length : Int)) := by omega
              have hr3 : Hid (rd3 = rd1 ++ newR ev) := by show _ = _; rw [hrd3.out, ei, List.take_length]
              have hlk : Hid (rd3.length ≤ k + 1) := by
                show _ ≤ _
                rw [hr3.out, List.length_append]
                have := hL1.out
                have := hrl.out
                omega
              have hpp : Hid (y.state = 1 ∨ y.state = 2 → y.rds.Perm rd3) := by
                show _ → _
                rw [hr3.out]; exact hp.out
              clear ei hrd3 hr3
              have HYj := Lib.hid HIn.out.2.1
              obtain ⟨A9, cap9, rfl, _, hA9, _⟩ := own_rds HIn.out.1
              replace hA9 := Lib.hid hA9
              obtain ⟨t, ht⟩ : ∃ t, Hid (txnD ses y = t) := ⟨_, rfl⟩
              have HTx : Hid (Calls Tryz.prog 24 #[.pointer (some ⟨p, 0, none⟩)] wj (TxnPost wj t)) := by
                have := HYj.out.txn
                rw [show txnD (CliK.ses ⟨c, A, B, ca, cb, ses⟩) y = t from ht.out] at this
                exact this
              by_cases s1 : y.state = 1 ∨ y.state = 2
              · have hlen : t.rds.length = rd3.length := by
                  rw [← ht.out, txnD_in s1]; exact (hpp.out s1).length_eq
                have qlen : ((t.rds.length : Int) != (rd3.length : Int)) = false := by rw [bne_eq_false_iff_eq]; omega
                have hr9o : rd3.length ≤ 2000 := hr9.out
                have ht9o : t.rds.length ≤ 2000 := by rw [hlen]; exact hr9.out
                replace hlen := Lib.hid hlen
                have hmem : Hid (∀ r ∈ rd3, r ∈ t.rds) := by
                  intro r hr
                  rw [← ht.out, txnD_in s1]; exact (hpp.out s1).mem_iff.2 hr
                have hst : (((y.state : Int) != 1) = false ∧ ((y.state : Int) == 2) = false) ∨ (((y.state : Int) != 1) = true ∧ ((y.state : Int) != 2) = false ∧ ((y.state : Int) == 2) = true ∧ Hid (formedT t = true)) := by
                  rcases s1 with h | h
                  · exact .inl ⟨by rw [bne_eq_false_iff_eq]; omega, by rw [beq_eq_false_iff_ne]; omega⟩
                  · refine .inr ⟨by rw [bne_iff_ne]; omega, by rw [bne_eq_false_iff_eq]; omega, by rw [beq_iff_eq]; omega, ?_⟩
                    have := right_formed (K := ⟨c, A, B, ca, cb, ses⟩) HYj.out.inv hses.out.1 hses.out.2 h
                    rw [show txnD (CliK.ses ⟨c, A, B, ca, cb, ses⟩) y = t from ht.out] at this
                    exact this
                clear s1
                rcases hst with ⟨a1, a2⟩ | ⟨a1, a2, a3, hfm⟩
                all_goals
                  go_wp2_with (first
                    | (go_at_call 24; (with_reducible refine HTx.out.mono ?_); rintro e w5 ⟨A5, C5, ka5, kb5, rfl, hT5, _, _, hb5⟩; unfold txV; replace hb5 := Lib.hid hb5; replace hT5 := Lib.hid hT5)
                    | (refine wpList_store_new rfl 37 _ _ rfl w5 #[.int .i64 t.ses, .int .i64 t.seq, .slice A5 t.rds.length ka5, .slice C5 t.wrs.length kb5] 37 rfl rfl rfl info_txn rfl oneTx ?_; intro w6 hb6 hs6 hr6; have hb56 := Lib.hid (keepB hb5.out hb6); have HY6 := Lib.hid (HYj.out.later hb56.out); have hT6 := Lib.hid (hT5.out.later hb6); obtain ⟨⟨z0, z1, z2, z3⟩, -⟩ := cellsTx hr6; clear hs6 hr6 hb6)
                    | (go_at_call 18; (with_reducible refine HY6.out.state.mono ?_); rintro e w3 ⟨rfl, rfl⟩)
                    | (go_at_call 25; refine (calls_few hfm.out (refTxFormed_any t A5 C5 ka5 kb5 _ hT6.out)).mono ?_; rintro e w7 ⟨rfl, hb7⟩; replace z2 := keep hb7 z2; replace hb56 := Lib.hid (keepB hb56.out hb7); replace hT6 := Lib.hid (hT6.out.later hb7); clear hb7))

                  have HPk := Lib.hid (RPk.mk' (ka5 := ka5) (HIn.out.later hb56.out) (hA9.out.later hb56.out) hT6.out.rds z2)
                  clear z0 z1 z2 z3
                  go_loopw [16] (fun kk wk => ∃ m : Nat, m ≤ rd3.length ∧ kk = .int .i64 m ∧ Hid (RPk w2 wk p q ⟨c, A, B, ca, cb, ses⟩ (k + 1) y A9 cap9 rd3 A4 ev A5 t ka5 w5.heap.size)) (fun kk _ => rd3.length - (intOf kk).toNat)
                  case atStart => exact ⟨0, Nat.zero_le _, rfl, HPk⟩
                  case round =>
                    obtain ⟨m, hml, rfl, HP⟩ := hrel
                    obtain ⟨wk, rfl⟩ : ∃ wk : World, wk = wr := ⟨_, rfl⟩
                    by_cases hm : m < rd3.length
                    · obtain ⟨b9, o9, rfl, r0, r1⟩ := HP.out.2.1 m hm
                      have hmm := hmem.out _ (getD_mem (d := noRd) hm)
                      obtain ⟨rr, hrr⟩ : ∃ rr, rd3.getD m noRd = rr := ⟨_, rfl⟩
                      rw [hrr] at r0 r1 hmm
                      obtain ⟨rk, rv⟩ := rr
                      simp only at r0 r1 hmm
                      replace hmm := Lib.hid hmm
                      have mi : (m : Int) < (rd3.length : Int) := by omega
                      have m0i : (0 : Int) ≤ (m : Int) := by omega
                      have hm1 : Hid (m + 1 ≤ rd3.length) := hm
                      clear hrr
                      go_wp2
                      go_loopw [17, 18] (fun th jj wl => ∃ j : Nat, j ≤ t.rds.length ∧ jj = .int .i64 j ∧ ∃ bb2 : Bool, th = .bool bb2 ∧ Hid (∀ j', j' < j → t.rds.getD j' noRd = ⟨rk, rv⟩ → bb2 = true) ∧ Below wk.heap.size wk wl) (fun _ jj _ => t.rds.length - (intOf jj).toNat)
                      case atStart => exact ⟨0, Nat.zero_le _, rfl, false, rfl, fun _ h => absurd h (Nat.not_lt_zero _), Below.refl _ _⟩
                      case round =>
                        obtain ⟨j, hjl, rfl, bb2, rfl, hbb, hw3⟩ := hrel
                        obtain ⟨wl, rfl⟩ : ∃ wl : World, wl = wr := ⟨_, rfl⟩
                        have z2 := keep hw3 HP.out.2.2.2
                        replace r0 := keep hw3 r0
                        replace r1 := keep hw3 r1
                        by_cases hj2 : j < t.rds.length
                        · have ji : (j : Int) < (t.rds.length : Int) := by omega
                          have j0i : (0 : Int) ≤ (j : Int) := by omega
                          have hj1 : Hid (j + 1 ≤ t.rds.length) := hj2
                          cases bb2
                          · obtain ⟨b5, o5, rfl, s0, s1⟩ := HP.out.2.2.1 j hj2
                            replace s0 := keep hw3 s0
                            replace s1 := keep hw3 s1
                            obtain ⟨ss, hss⟩ : ∃ ss, t.rds.getD j noRd = ss := ⟨_, rfl⟩
                            rw [hss] at s0 s1
                            replace hss := Lib.hid hss
                            obtain ⟨sk, sv⟩ := ss
                            simp only at s0 s1
                            have hx := eqlRd sk rk sv rv
                            obtain ⟨eb, heb⟩ : ∃ eb, rdEq ⟨sk, sv⟩ ⟨rk, rv⟩ = eb := ⟨_, rfl⟩
                            rw [heb] at hx
                            replace heb := Lib.hid heb
                            go_wp2
                            go_quiet (fail)
                            go_wp2
                            go_roundw
                            case rel =>
                              refine ⟨j + 1, hj1.out, by go_num, eb, rfl, fun j' hj' e => ?_, keepB hw3 (below_drewN (Below.refl _ _) _)⟩
                              by_cases ej : j' = j
                              · subst ej
                                rw [hss.out] at e
                                rw [← heb.out, e]
                                exact rdEq_self _
                              · exact absurd (hbb.out j' (by omega) e) (by decide)
                            case measure => have := hj1.out; simp [intOf]; omega
                          · go_wp2
                            go_quiet (fail)
                            go_wp2
                            go_roundw
                            case rel => exact ⟨j + 1, hj1.out, by go_num, true, rfl, fun _ _ _ => rfl, keepB hw3 (below_drewN (Below.refl _ _) _)⟩
                            case measure => have := hj1.out; simp [intOf]; omega
                        · have ji : ¬ ((j : Int) < (t.rds.length : Int)) := by omega
                          have hbt : bb2 = true := by
                            obtain ⟨ix, hix, hie⟩ := List.getElem_of_mem hmm.out
                            exact hbb.out ix (by omega) (by rw [getD_eq t.rds noRd hix]; exact hie)
                          subst hbt
                          go_wp2
                          go_roundw
                          case rel => exact ⟨m + 1, hm1.out, by go_num, Lib.hid (HP.out.later hw3)⟩
                          case measure => have := hm1.out; simp [intOf]; omega
                    · have mi : ¬ ((m : Int) < (rd3.length : Int)) := by omega
                      go_wp2
                      go_roundw
                      case rel => exact ⟨k + 1, hk1.out, by go_num, y, rd3, RIn.end_ HP.out.1 hpp.out hlk.out⟩
                      case measure => have := hk1.out; simp [intOf]; omega
              · have a1 : ((y.state : Int) != 1) = true := by rw [bne_iff_ne]; omega
                have a2 : ((y.state : Int) != 2) = true := by rw [bne_iff_ne]; omega
                clear s1
                go_wp2_with (first
                  | (go_at_call 24; (with_reducible refine HTx.out.mono ?_); rintro e w5 ⟨A5, C5, ka5, kb5, rfl, hT5, _, _, hb5⟩; unfold txV; replace hb5 := Lib.hid hb5)
                  | (refine wpList_store_new rfl 37 _ _ rfl w5 #[.int .i64 t.ses, .int .i64 t.seq, .slice A5 t.rds.length ka5, .slice C5 t.wrs.length kb5] 37 rfl rfl rfl info_txn rfl oneTx ?_; intro w6 hb6 hs6 hr6; have hb56 := Lib.hid (keepB hb5.out hb6); have HY6 := Lib.hid (HYj.out.later hb56.out); clear hs6 hr6 hb6)
                  | (go_at_call 18; (with_reducible refine HY6.out.state.mono ?_); rintro e w3 ⟨rfl, rfl⟩))
                go_roundw
                case rel => exact ⟨k + 1, hk1.out, by go_num, y, rd3, RIn.end_ (HIn.out.later hb56.out) hpp.out hlk.out⟩
                case measure => have := hk1.out; simp [intOf]; omega
        · have q1 : ((y.state : Int) == 1) = true := by rw [beq_iff_eq]; omega
          have q0 : ((x.state : Int) == 0) = false := by rw [beq_eq_false_iff_ne]; omega
          clear q1' q0'
          go_wp2_with (go_at_call 18; (with_reducible refine hY.out.state.mono ?_); rintro e w3 ⟨rfl, rfl⟩)
          replace hp := Lib.hid hp
          clear HX
          go_loopw [9, 14] (fun v j wj => ∃ i : Nat, i ≤ ev.length ∧ j = .int .i64 i ∧ ∃ rd3 : List Rd, Hid (rd3 = rd1 ++ newR (ev.take i)) ∧ Hid (RIn w2 wj p q ⟨c, A, B, ca, cb, ses⟩ (k + 1) y v rd3 A4 ev)) (fun _ j _ => ev.length - (intOf j).toNat)
          case atStart => exact ⟨0, Nat.zero_le _, rfl, rd1, by show _ = _; rw [List.take_zero]; exact (List.append_nil rd1).symm, HIn1⟩
          case round =>
            obtain ⟨i, hil, rfl, rd3, hrd3, HIn⟩ := hrel
            obtain ⟨wj, rfl⟩ : ∃ wj : World, wj = wr := ⟨_, rfl⟩
            have hBj : Hid (w2.heap.size ≤ wj.heap.size) := HIn.out.2.1.b.size
            have hr9 : Hid (rd3.length ≤ 2000) := by
              show _ ≤ _
              rw [hrd3.out, List.length_append]
              have := newR_le (ev.take i)
              have := List.length_take_le i ev
              have := hrl.out
              have := hkk.out
              omega
            by_cases hl2 : i < ev.length
            · obtain ⟨g1, rfl, hrow⟩ := HIn.out.2.2.1 i hl2
              obtain ⟨m0, _, _, m3, m7, _, _, _⟩ := ev_cs hrow
              have hn1 := Lib.hid (fun hk => newR_take1 hl2 hk)
              have hn0 := Lib.hid (fun hk => newR_take0 hl2 hk)
              obtain ⟨e, he⟩ : ∃ e, ev.getD i noEv = e := ⟨_, rfl⟩
              rw [he] at m0 m3 m7 hn1 hn0
              obtain ⟨kd, ids, idq, key, val, ver, yes, st, er⟩ := e
              simp only at m0 m3 m7 hn1 hn0
              have ii : (i : Int) < (ev.length : Int) := by omega
              have i0i : (0 : Int) ≤ (i : Int) := by omega
              have hi1 : Hid (i + 1 ≤ ev.length) := hl2
              clear hrow he
              by_cases k1 : kd = 1
              · subst k1
                have HN1 : Hid (newR (ev.take (i + 1)) = newR (ev.take i) ++ [⟨key, ver⟩]) := hn1.out rfl
                clear hn1 hn0
                go_wp2
                refine wp_region_held_drew (S := (fun w' => w'.cell? ⟨g1, i * 11 + 3, none⟩ = some (.string key) ∧ w'.cell? ⟨g1, i * 11 + 7, none⟩ = some (.int .u64 (ver : Int)))) (by kernel_rfl) ⟨m3, m7⟩ (fun hHeld => ?_)
                refine wpAnyH_take (i := 0) (oi := ?o0_3046) (v := ?v0_3046) ?hi0_3046 (by kernel_rfl) (by kernel_rfl) (by kernel_rfl) ?hq0_3046 (Or.inl ⟨?hg0_3046, ?hy0_3046⟩) hHeld ?rest0_3046
                case hi0_3046 => (simp only [List.getElem?_toArray, List.getElem?_cons_succ, List.getElem?_cons_zero]; rfl)
                case hq0_3046 => exact fun _ _ _ h => h
                case hg0_3046 => rfl
                case hy0_3046 => (intro w hSw; (try dsimp only at hSw); go_simp; (try with_reducible rfl))
                (try simp only [Act.put, List.setIfInBounds_toArray, List.set_cons_zero, List.set_cons_succ])
                refine wpAnyH_take (i := 1) (oi := ?o1_3047) (v := ?v1_3047) ?hi1_3047 (by kernel_rfl) (by kernel_rfl) (by kernel_rfl) ?hq1_3047 (Or.inl ⟨?hg1_3047, ?hy1_3047⟩) hHeld ?rest1_3047
                case hi1_3047 => (simp only [List.getElem?_toArray, List.getElem?_cons_succ, List.getElem?_cons_zero]; rfl)
                case hq1_3047 => exact fun _ _ _ h => h
                case hg1_3047 => rfl
                case hy1_3047 => (intro w hSw; (try dsimp only at hSw); go_simp; (try with_reducible rfl))
                (try simp only [Act.put, List.setIfInBounds_toArray, List.set_cons_zero, List.set_cons_succ])
                refine wpAnyH_take (i := 2) (oi := ?o2_3048) (v := ?v2_3048) ?hi2_3048 (by kernel_rfl) (by kernel_rfl) (by kernel_rfl) ?hq2_3048 (Or.inl ⟨?hg2_3048, ?hy2_3048⟩) hHeld ?rest2_3048
                case hi2_3048 => (simp only [List.getElem?_toArray, List.getElem?_cons_succ, List.getElem?_cons_zero]; rfl)
                case hq2_3048 => exact fun _ _ _ h => h
                case hg2_3048 => rfl
                case hy2_3048 => (intro w hSw; (try dsimp only at hSw); go_simp; (try with_reducible rfl))
                (try simp only [Act.put, List.setIfInBounds_toArray, List.set_cons_zero, List.set_cons_succ])
                refine wpAnyH_take (i := 3) (oi := ?o3_3049) (v := ?v3_3049) ?hi3_3049 (by kernel_rfl) (by kernel_rfl) (by kernel_rfl) ?hq3_3049 (Or.inl ⟨?hg3_3049, ?hy3_3049⟩) hHeld ?rest3_3049
                case hi3_3049 => (simp only [List.getElem?_toArray, List.getElem?_cons_succ, List.getElem?_cons_zero]; rfl)
                case hq3_3049 => exact fun _ _ _ h => h
                case hg3_3049 => rfl
                case hy3_3049 => (intro w hSw; (try dsimp only at hSw); go_simp; (try with_reducible rfl))
                (try simp only [Act.put, List.setIfInBounds_toArray, List.set_cons_zero, List.set_cons_succ])
                refine wpAnyH_take (i := 4) (oi := ?o4_3050) (v := ?v4_3050) ?hi4_3050 (by kernel_rfl) (by kernel_rfl) (by kernel_rfl) ?hq4_3050 (Or.inl ⟨?hg4_3050, ?hy4_3050⟩) hHeld ?rest4_3050
                case hi4_3050 => (simp only [List.getElem?_toArray, List.getElem?_cons_succ, List.getElem?_cons_zero]; rfl)
                case hq4_3050 => exact fun _ _ _ h => h
                case hg4_3050 => rfl
                case hy4_3050 => (intro w hSw; (try dsimp only at hSw); go_simp; (try with_reducible rfl))
                (try simp only [Act.put, List.setIfInBounds_toArray, List.set_cons_zero, List.set_cons_succ])
                refine wpAnyH_take (i := 5) (oi := ?o5_3051) (v := ?v5_3051) ?hi5_3051 (by kernel_rfl) (by kernel_rfl) (by kernel_rfl) ?hq5_3051 (Or.inl ⟨?hg5_3051, ?hy5_3051⟩) hHeld ?rest5_3051
                case hi5_3051 => (simp only [List.getElem?_toArray, List.getElem?_cons_succ, List.getElem?_cons_zero]; rfl)
                case hq5_3051 => exact fun _ _ _ h => h
                case hg5_3051 => rfl
                case hy5_3051 => (intro w hSw; (try dsimp only at hSw); go_simp; (try with_reducible rfl))
                (try simp only [Act.put, List.setIfInBounds_toArray, List.set_cons_zero, List.set_cons_succ])
                refine wpAnyH_take (i := 6) (oi := ?o6_3052) (v := ?v6_3052) ?hi6_3052 (by kernel_rfl) (by kernel_rfl) (by kernel_rfl) ?hq6_3052 (Or.inl ⟨?hg6_3052, ?hy6_3052⟩) hHeld ?rest6_3052
                case hi6_3052 => (simp only [List.getElem?_toArray, List.getElem?_cons_succ, List.getElem?_cons_zero]; rfl)
                case hq6_3052 => exact fun _ _ _ h => h
                case hg6_3052 => rfl
                case hy6_3052 => (intro w hSw; (try dsimp only at hSw); go_simp; (try with_reducible rfl))
                (try simp only [Act.put, List.setIfInBounds_toArray, List.set_cons_zero, List.set_cons_succ])
                refine wpAnyH_take (i := 7) (oi := ?o7_3053) (v := ?v7_3053) ?hi7_3053 (by kernel_rfl) (by kernel_rfl) (by kernel_rfl) ?hq7_3053 (Or.inl ⟨?hg7_3053, ?hy7_3053⟩) hHeld ?rest7_3053
                case hi7_3053 => (simp only [List.getElem?_toArray, List.getElem?_cons_succ, List.getElem?_cons_zero]; rfl)
                case hq7_3053 => exact fun _ _ _ h => h
                case hg7_3053 => rfl
                case hy7_3053 => (intro w hSw; (try dsimp only at hSw); go_simp; (try with_reducible rfl))
                (try simp only [Act.put, List.setIfInBounds_toArray, List.set_cons_zero, List.set_cons_succ])
                refine wpAnyH_take (i := 8) (oi := ?o8_3054) (v := ?v8_3054) ?hi8_3054 (by kernel_rfl) (by kernel_rfl) (by kernel_rfl) ?hq8_3054 (Or.inl ⟨?hg8_3054, ?hy8_3054⟩) hHeld ?rest8_3054
                case hi8_3054 => (simp only [List.getElem?_toArray, List.getElem?_cons_succ, List.getElem?_cons_zero]; rfl)
                case hq8_3054 => exact fun _ _ _ h => h
                case hg8_3054 => rfl
                case hy8_3054 => (intro w hSw; (try dsimp only at hSw); go_simp; (try with_reducible rfl))
                (try simp only [Act.put, List.setIfInBounds_toArray, List.set_cons_zero, List.set_cons_succ])
                refine wpAnyH_take (i := 9) (oi := ?o9_3055) (v := ?v9_3055) ?hi9_3055 (by kernel_rfl) (by kernel_rfl) (by kernel_rfl) ?hq9_3055 (Or.inl ⟨?hg9_3055, ?hy9_3055⟩) hHeld ?rest9_3055
                case hi9_3055 => (simp only [List.getElem?_toArray, List.getElem?_cons_succ, List.getElem?_cons_zero]; rfl)
                case hq9_3055 => exact fun _ _ _ h => h
                case hg9_3055 => rfl
                case hy9_3055 => (intro w hSw; (try dsimp only at hSw); go_simp; (try with_reducible rfl))
                (try simp only [Act.put, List.setIfInBounds_toArray, List.set_cons_zero, List.set_cons_succ])
                refine wpAnyH_take (i := 10) (oi := ?o10_3056) (v := ?v10_3056) ?hi10_3056 (by kernel_rfl) (by kernel_rfl) (by kernel_rfl) ?hq10_3056 (Or.inl ⟨?hg10_3056, ?hy10_3056⟩) hHeld ?rest10_3056
                case hi10_3056 => (simp only [List.getElem?_toArray, List.getElem?_cons_succ, List.getElem?_cons_zero]; rfl)
                case hq10_3056 => exact fun _ _ _ h => h
                case hg10_3056 => rfl
                case hy10_3056 => (intro w hSw; (try dsimp only at hSw); go_simp; (try with_reducible rfl))
                (try simp only [Act.put, List.setIfInBounds_toArray, List.set_cons_zero, List.set_cons_succ])
                refine wpAnyH_take (i := 11) (oi := ?o11_3057) (v := ?v11_3057) ?hi11_3057 (by kernel_rfl) (by kernel_rfl) (by kernel_rfl) ?hq11_3057 (Or.inl ⟨?hg11_3057, ?hy11_3057⟩) hHeld ?rest11_3057
                case hi11_3057 => (simp only [List.getElem?_toArray, List.getElem?_cons_succ, List.getElem?_cons_zero]; rfl)
                case hq11_3057 => exact fun _ _ _ h => h
                case hg11_3057 => rfl
                case hy11_3057 => (intro w hSw; (try dsimp only at hSw); go_simp; (try with_reducible rfl))
                (try simp only [Act.put, List.setIfInBounds_toArray, List.set_cons_zero, List.set_cons_succ])
                refine wpAnyH_ready (rs := [12]) (by kernel_rfl) (by simp) ?_
                refine AllReadyH.cons (o := ?p12_3060) ?ho12_3060 (fun KK hK => ?step12_3060) ?more12_3060
                case ho12_3060 => (simp only [List.getElem?_toArray, List.getElem?_cons_succ, List.getElem?_cons_zero]; rfl)
                case step12_3060 =>
                  rw [if_pos (by rfl)]
                  refine wp_buildSlice1 34 75 _ rfl #[.string key, .int .u64 (ver : Int)] rfl _ Tryz.underlying34 (info_rdt _ rfl) (by show 0 < 2; omega) (by show 2 ≤ 16777216; omega) (zero_rdt _) ?_
                  obtain ⟨w8, e8, hb8, hs8, hr8⟩ := boxed wj.drew #[.string key, .int .u64 (ver : Int)] 75
                  rw [e8]
                  clear e8
                  have hb78 : Below wj.heap.size wj w8 := keepB (below_drew (Below.refl _ _)) hb8
                  have HR8 := Lib.hid (HIn.out.later hb78)
                  (try go_wp2_with fail)
                  refine hK.out _ _ ⟨keep hb78 m3, keep hb78 m7⟩ (fun hH2 => ?_)
                  clear hHeld hK KK
                  have hHeld := hH2
                  clear hH2
                  (try simp only [Act.put, List.setIfInBounds_toArray, List.set_cons_zero, List.set_cons_succ])
                  refine wpAnyH_ready (rs := [13]) (by kernel_rfl) (by simp) ?_
                  refine AllReadyH.cons (o := ?p13_3059) ?ho13_3059 (fun KK hK => ?step13_3059) ?more13_3059
                  case ho13_3059 => (simp only [List.getElem?_toArray, List.getElem?_cons_succ, List.getElem?_cons_zero]; rfl)
                  case step13_3059 =>
                    refine ready_append_own_at rfl _ _ 34 rfl w2.heap.size 75 i0 _ 2 24 Tryz.underlying34 hi hz0 hz1 hz2 rfl (Nat.succ_pos 1) u9 rd3.length (rdCells rd3) rfl HR8.out.1 ⟨wj.heap.size, 0, none⟩ 1 1 [.string key, .int .u64 (ver : Int)] rfl rfl (World.news_of_block hr8) (one_rdt _ _) (le_maxLen (by have := hr9.out; omega)) (by have := hr9.out; omega) (Nat.le_trans hBj.out hb78.size) ?_
                    intro v9 w9 hO9 hg9 hv9
                    have hne9 : v9 = v9 ∧ u9.ownBlock ≠ some g1 := ⟨rfl, (HR8.out.2.2.2 _ rfl).1⟩
                    (try go_wp2_with fail)
                    refine hK.out _ _ ⟨hg9.cell (keep hb78 m3) (Ne.symm hne9.2), hg9.cell (keep hb78 m7) (Ne.symm hne9.2)⟩ (fun hH2 => ?_)
                    clear hHeld hK KK
                    have hHeld := hH2
                    clear hH2
                    (try simp only [Act.put, List.setIfInBounds_toArray, List.set_cons_zero, List.set_cons_succ])
                    have HR9 := Lib.hid (RIn.grow (r := ⟨key, ver⟩) HR8.out hO9 hg9 hv9)
                    clear hO9 hg9 hv9 HR8 hr8 hb8 hb78 hs8 hne9
                    refine wpAnyH_take (i := 14) (oi := ?o14_3058) (v := ?v14_3058) ?hi14_3058 (by kernel_rfl) (by kernel_rfl) (by kernel_rfl) ?hq14_3058 (Or.inl ⟨?hg14_3058, ?hy14_3058⟩) hHeld ?rest14_3058
                    case hi14_3058 => (simp only [List.getElem?_toArray, List.getElem?_cons_succ, List.getElem?_cons_zero]; rfl)
                    case hq14_3058 => exact fun _ _ _ h => h
                    case hg14_3058 => rfl
                    case hy14_3058 => (intro w hSw; (try dsimp only at hSw); go_simp; (try with_reducible rfl))
                    (try simp only [Act.put, List.setIfInBounds_toArray, List.set_cons_zero, List.set_cons_succ])
                    refine wpAnyH_done (by kernel_rfl) ?_ _
                    go_wp2
                    go_roundw
                    case rel => exact ⟨i + 1, hi1.out, by go_num, _, by show _ = _; rw [HN1.out, ← List.append_assoc, ← hrd3.out], HR9⟩
                    case measure => have := hi1.out; simp [intOf]; omega
                  exact AllReadyH.nil
                exact AllReadyH.nil
              · have qk : (kd == 1) = false := by rw [beq_eq_false_iff_ne]; exact k1
                have HN0 : Hid (newR (ev.take (i + 1)) = newR (ev.take i)) := hn0.out k1
                clear hn1 hn0 k1
                go_wp2
                go_roundw
                case rel => exact ⟨i + 1, hi1.out, by go_num, rd3, by show _ = _; rw [HN0.out]; exact hrd3.out, HIn⟩
                case measure => have := hi1.out; simp [intOf]; omega
            · have ei : i = ev.length := by omega
              have ii : ¬ ((i : Int) < (ev.length : Int)) := by omega
              have hr3 : Hid (rd3 = rd1 ++ newR ev) := by show _ = _; rw [hrd3.out, ei, List.take_length]
              have hlk : Hid (rd3.length ≤ k + 1) := by
                show _ ≤ _
                rw [hr3.out, List.length_append]
                have := hL1.out
                have := hrl.out
                omega
              have hpp : Hid (y.state = 1 ∨ y.state = 2 → y.rds.Perm rd3) := by
                show _ → _
                rw [hr3.out]; exact hp.out
              clear ei hrd3 hr3
              have HYj := Lib.hid HIn.out.2.1
              obtain ⟨A9, cap9, rfl, _, hA9, _⟩ := own_rds HIn.out.1
              replace hA9 := Lib.hid hA9
              obtain ⟨t, ht⟩ : ∃ t, Hid (txnD ses y = t) := ⟨_, rfl⟩
              have HTx : Hid (Calls Tryz.prog 24 #[.pointer (some ⟨p, 0, none⟩)] wj (TxnPost wj t)) := by
                have := HYj.out.txn
                rw [show txnD (CliK.ses ⟨c, A, B, ca, cb, ses⟩) y = t from ht.out] at this
                exact this
              by_cases s1 : y.state = 1 ∨ y.state = 2
              · have hlen : t.rds.length = rd3.length := by
                  rw [← ht.out, txnD_in s1]; exact (hpp.out s1).length_eq
                have qlen : ((t.rds.length : Int) != (rd3.length : Int)) = false := by rw [bne_eq_false_iff_eq]; omega
                have hr9o : rd3.length ≤ 2000 := hr9.out
                have ht9o : t.rds.length ≤ 2000 := by rw [hlen]; exact hr9.out
                replace hlen := Lib.hid hlen
                have hmem : Hid (∀ r ∈ rd3, r ∈ t.rds) := by
                  intro r hr
                  rw [← ht.out, txnD_in s1]; exact (hpp.out s1).mem_iff.2 hr
                have hst : (((y.state : Int) != 1) = false ∧ ((y.state : Int) == 2) = false) ∨ (((y.state : Int) != 1) = true ∧ ((y.state : Int) != 2) = false ∧ ((y.state : Int) == 2) = true ∧ Hid (formedT t = true)) := by
                  rcases s1 with h | h
                  · exact .inl ⟨by rw [bne_eq_false_iff_eq]; omega, by rw [beq_eq_false_iff_ne]; omega⟩
                  · refine .inr ⟨by rw [bne_iff_ne]; omega, by rw [bne_eq_false_iff_eq]; omega, by rw [beq_iff_eq]; omega, ?_⟩
                    have := right_formed (K := ⟨c, A, B, ca, cb, ses⟩) HYj.out.inv hses.out.1 hses.out.2 h
                    rw [show txnD (CliK.ses ⟨c, A, B, ca, cb, ses⟩) y = t from ht.out] at this
                    exact this
                clear s1
                rcases hst with ⟨a1, a2⟩ | ⟨a1, a2, a3, hfm⟩
                all_goals
                  go_wp2_with (first
                    | (go_at_call 24; (with_reducible refine HTx.out.mono ?_); rintro e w5 ⟨A5, C5, ka5, kb5, rfl, hT5, _, _, hb5⟩; unfold txV; replace hb5 := Lib.hid hb5; replace hT5 := Lib.hid hT5)
                    | (refine wpList_store_new rfl 37 _ _ rfl w5 #[.int .i64 t.ses, .int .i64 t.seq, .slice A5 t.rds.length ka5, .slice C5 t.wrs.length kb5] 37 rfl rfl rfl info_txn rfl oneTx ?_; intro w6 hb6 hs6 hr6; have hb56 := Lib.hid (keepB hb5.out hb6); have HY6 := Lib.hid (HYj.out.later hb56.out); have hT6 := Lib.hid (hT5.out.later hb6); obtain ⟨⟨z0, z1, z2, z3⟩, -⟩ := cellsTx hr6; clear hs6 hr6 hb6)
                    | (go_at_call 18; (with_reducible refine HY6.out.state.mono ?_); rintro e w3 ⟨rfl, rfl⟩)
                    | (go_at_call 25; refine (calls_few hfm.out (refTxFormed_any t A5 C5 ka5 kb5 _ hT6.out)).mono ?_; rintro e w7 ⟨rfl, hb7⟩; replace z2 := keep hb7 z2; replace hb56 := Lib.hid (keepB hb56.out hb7); replace hT6 := Lib.hid (hT6.out.later hb7); clear hb7))

                  have HPk := Lib.hid (RPk.mk' (ka5 := ka5) (HIn.out.later hb56.out) (hA9.out.later hb56.out) hT6.out.rds z2)
                  clear z0 z1 z2 z3
                  go_loopw [16] (fun kk wk => ∃ m : Nat, m ≤ rd3.length ∧ kk = .int .i64 m ∧ Hid (RPk w2 wk p q ⟨c, A, B, ca, cb, ses⟩ (k + 1) y A9 cap9 rd3 A4 ev A5 t ka5 w5.heap.size)) (fun kk _ => rd3.length - (intOf kk).toNat)
                  case atStart => exact ⟨0, Nat.zero_le _, rfl, HPk⟩
                  case round =>
                    obtain ⟨m, hml, rfl, HP⟩ := hrel
                    obtain ⟨wk, rfl⟩ : ∃ wk : World, wk = wr := ⟨_, rfl⟩
                    by_cases hm : m < rd3.length
                    · obtain ⟨b9, o9, rfl, r0, r1⟩ := HP.out.2.1 m hm
                      have hmm := hmem.out _ (getD_mem (d := noRd) hm)
                      obtain ⟨rr, hrr⟩ : ∃ rr, rd3.getD m noRd = rr := ⟨_, rfl⟩
                      rw [hrr] at r0 r1 hmm
                      obtain ⟨rk, rv⟩ := rr
                      simp only at r0 r1 hmm
                      replace hmm := Lib.hid hmm
                      have mi : (m : Int) < (rd3.length : Int) := by omega
                      have m0i : (0 : Int) ≤ (m : Int) := by omega
                      have hm1 : Hid (m + 1 ≤ rd3.length) := hm
                      clear hrr
                      go_wp2
                      go_loopw [17, 18] (fun th jj wl => ∃ j : Nat, j ≤ t.rds.length ∧ jj = .int .i64 j ∧ ∃ bb2 : Bool, th = .bool bb2 ∧ Hid (∀ j', j' < j → t.rds.getD j' noRd = ⟨rk, rv⟩ → bb2 = true) ∧ Below wk.heap.size wk wl) (fun _ jj _ => t.rds.length - (intOf jj).toNat)
                      case atStart => exact ⟨0, Nat.zero_le _, rfl, false, rfl, fun _ h => absurd h (Nat.not_lt_zero _), Below.refl _ _⟩
                      case round =>
                        obtain ⟨j, hjl, rfl, bb2, rfl, hbb, hw3⟩ := hrel
                        obtain ⟨wl, rfl⟩ : ∃ wl : World, wl = wr := ⟨_, rfl⟩
                        have z2 := keep hw3 HP.out.2.2.2
                        replace r0 := keep hw3 r0
                        replace r1 := keep hw3 r1
                        by_cases hj2 : j < t.rds.length
                        · have ji : (j : Int) < (t.rds.length : Int) := by omega
                          have j0i : (0 : Int) ≤ (j : Int) := by omega
                          have hj1 : Hid (j + 1 ≤ t.rds.length) := hj2
                          cases bb2
                          · obtain ⟨b5, o5, rfl, s0, s1⟩ := HP.out.2.2.1 j hj2
                            replace s0 := keep hw3 s0
                            replace s1 := keep hw3 s1
                            obtain ⟨ss, hss⟩ : ∃ ss, t.rds.getD j noRd = ss := ⟨_, rfl⟩
                            rw [hss] at s0 s1
                            replace hss := Lib.hid hss
                            obtain ⟨sk, sv⟩ := ss
                            simp only at s0 s1
                            have hx := eqlRd sk rk sv rv
                            obtain ⟨eb, heb⟩ : ∃ eb, rdEq ⟨sk, sv⟩ ⟨rk, rv⟩ = eb := ⟨_, rfl⟩
                            rw [heb] at hx
                            replace heb := Lib.hid heb
                            go_wp2
                            go_quiet (fail)
                            go_wp2
                            go_roundw
                            case rel =>
                              refine ⟨j + 1, hj1.out, by go_num, eb, rfl, fun j' hj' e => ?_, keepB hw3 (below_drewN (Below.refl _ _) _)⟩
                              by_cases ej : j' = j
                              · subst ej
                                rw [hss.out] at e
                                rw [← heb.out, e]
                                exact rdEq_self _
                              · exact absurd (hbb.out j' (by omega) e) (by decide)
                            case measure => have := hj1.out; simp [intOf]; omega
                          · go_wp2
                            go_quiet (fail)
                            go_wp2
                            go_roundw
                            case rel => exact ⟨j + 1, hj1.out, by go_num, true, rfl, fun _ _ _ => rfl, keepB hw3 (below_drewN (Below.refl _ _) _)⟩
                            case measure => have := hj1.out; simp [intOf]; omega
                        · have ji : ¬ ((j : Int) < (t.rds.length : Int)) := by omega
                          have hbt : bb2 = true := by
                            obtain ⟨ix, hix, hie⟩ := List.getElem_of_mem hmm.out
                            exact hbb.out ix (by omega) (by rw [getD_eq t.rds noRd hix]; exact hie)
                          subst hbt
                          go_wp2
                          go_roundw
                          case rel => exact ⟨m + 1, hm1.out, by go_num, Lib.hid (HP.out.later hw3)⟩
                          case measure => have := hm1.out; simp [intOf]; omega
                    · have mi : ¬ ((m : Int) < (rd3.length : Int)) := by omega
                      go_wp2
                      go_roundw
                      case rel => exact ⟨k + 1, hk1.out, by go_num, y, rd3, RIn.end_ HP.out.1 hpp.out hlk.out⟩
                      case measure => have := hk1.out; simp [intOf]; omega
              · have a1 : ((y.state : Int) != 1) = true := by rw [bne_iff_ne]; omega
                have a2 : ((y.state : Int) != 2) = true := by rw [bne_iff_ne]; omega
                clear s1
                go_wp2_with (first
                  | (go_at_call 24; (with_reducible refine HTx.out.mono ?_); rintro e w5 ⟨A5, C5, ka5, kb5, rfl, hT5, _, _, hb5⟩; unfold txV; replace hb5 := Lib.hid hb5)
                  | (refine wpList_store_new rfl 37 _ _ rfl w5 #[.int .i64 t.ses, .int .i64 t.seq, .slice A5 t.rds.length ka5, .slice C5 t.wrs.length kb5] 37 rfl rfl rfl info_txn rfl oneTx ?_; intro w6 hb6 hs6 hr6; have hb56 := Lib.hid (keepB hb5.out hb6); have HY6 := Lib.hid (HYj.out.later hb56.out); clear hs6 hr6 hb6)
                  | (go_at_call 18; (with_reducible refine HY6.out.state.mono ?_); rintro e w3 ⟨rfl, rfl⟩))
                go_roundw
                case rel => exact ⟨k + 1, hk1.out, by go_num, y, rd3, RIn.end_ (HIn.out.later hb56.out) hpp.out hlk.out⟩
                case measure => have := hk1.out; simp [intOf]; omega
    · have ki : ¬ ((k : Int) < (l.length : Int)) := by omega
      go_wp2
      go_ret
      exact ⟨rfl, keepB HB (HX.out.b.mono (Nat.le_refl _))⟩
end Go.Proofs.YtjgloipgnnigmaaGreatDoor
