/- ClientFloor's walk. -/
import Derived.Test.YtjgloipgnnigmaaGreatDoorJ20
import Derived.Deep.RegionHeld3
set_option linter.unusedVariables false
set_option linter.unusedSimpArgs false
namespace Go.Proofs.YtjgloipgnnigmaaGreatDoor
open Go.RowKit Go.Shelf Go.Sort

set_option maxRecDepth 100000 in
set_option maxHeartbeats 16000000 in
theorem law_fl (c : Cfg) (ses : Int) (l : List OpX) (A B S : Option Addr) (ca cb cs : Nat) (w : World) (h : CfgAt w c A B) (hO : OpsAt w S l) (hT : Tabs w) (hca : c.reps.length ≤ ca) (hn : l.length ≤ 9223372036854775807) :
    Calls Tryz.prog 4 #[.agg #[.slice A c.reps.length ca, .slice B c.bnds.length cb], .int .i64 ses, .slice S l.length cs] w fun e w' => e = .returned (.bool true) ∧ Below w.heap.size w w' := by
  obtain ⟨W, eW, HB, c0, c1⟩ := box2 w (.slice A c.reps.length ca) (.slice B c.bnds.length cb) 25
  have hC := Lib.hid (h.later HB)
  have HO := Lib.hid (hO.later HB)
  have HT := Lib.hid (hT.later HB)
  clear h hO hT
  obtain ⟨f, hf⟩ : ∃ f, Hid (few21 c l = f) := ⟨_, rfl⟩
  cases f
  · go_enter Tryz.func4, Tryz.ntmps4
    go_wp2_with (first
      | (go_at_call 8; refine (awake21_any _).mono ?_; rintro e w1 ⟨rfl, hb⟩; replace c0 := keep hb c0; replace c1 := keep hb c1; replace HO := Lib.hid (HO.out.later hb); replace hC := Lib.hid (hC.out.later hb); replace HB := keepB HB hb; clear hb)
      | (go_at_call 9; refine (calls_few hf.out (few21_any c l A B S ca cb cs _ hC.out HO.out hn)).mono ?_; rintro e w2 ⟨rfl, hb⟩; replace c0 := keep hb c0; replace c1 := keep hb c1; replace HO := Lib.hid (HO.out.later hb); replace hC := Lib.hid (hC.out.later hb); replace HB := keepB HB hb; clear hb))
    go_ret
    exact ⟨rfl, HB⟩
  have hf60 : Hid (l.length ≤ 60) := by
    have := hf.out
    simp only [few21, Bool.and_eq_true, decide_eq_true_eq] at this
    exact this.1.2
  obtain ⟨ok, hk⟩ : ∃ ok, Hid (cliOK ⟨c, A, B, ca, cb, ses⟩ = ok) := ⟨_, rfl⟩
  cases ok
  · go_enter Tryz.func4, Tryz.ntmps4
    go_wp2_with (first
      | (go_at_call 8; refine (awake21_any _).mono ?_; rintro e w1 ⟨rfl, hb⟩; replace c0 := keep hb c0; replace c1 := keep hb c1; replace HO := Lib.hid (HO.out.later hb); replace hC := Lib.hid (hC.out.later hb); replace HB := keepB HB hb; clear hb)
      | (go_at_call 9; refine (calls_few hf.out (few21_any c l A B S ca cb cs _ hC.out HO.out hn)).mono ?_; rintro e w2 ⟨rfl, hb⟩; replace c0 := keep hb c0; replace c1 := keep hb c1; replace hC := Lib.hid (hC.out.later hb); replace HB := keepB HB hb; clear hb))
    go_region_held3 (fun w' => w'.cell? ⟨w.heap.size, 0, none⟩ = some (.slice A c.reps.length ca) ∧ w'.cell? ⟨w.heap.size, 1, none⟩ = some (.slice B c.bnds.length cb) ∧ Below w2.heap.size w2 w')
      (first | exact ⟨c0, c1, below_drew (Below.refl _ _)⟩ | (with_reducible exact ⟨keep hb3 c0, keep hb3 c1, hb3⟩) | (with_reducible exact ⟨keep hb4 c0, keep hb4 c1, hb4⟩))
      (first
        | (go_at_call 20; refine (cliNew_no ⟨c, A, B, ca, cb, ses⟩ _ (hC.out.later (below_drew (Below.refl _ _))) hk.out).mono ?_; rintro e w3 ⟨rfl, hb⟩; have hb3 : Below w2.heap.size w2 w3 := keepB (below_drew (Below.refl _ _)) hb)
        | (go_at_call 22; refine (rcNew_no ⟨c, A, B, ca, cb, ses⟩ _ (hC.out.later hb3) hk.out).mono ?_; rintro e w4 ⟨rfl, hb⟩; have hb4 : Below w2.heap.size w2 w4 := keepB hb3 hb))
    go_wp2
    go_ret
    exact ⟨rfl, keepB HB hb4⟩
  have hca' := Lib.hid hca
  clear hca
  go_enter Tryz.func4, Tryz.ntmps4
  go_wp2_with (first
    | (go_at_call 8; refine (awake21_any _).mono ?_; rintro e w1 ⟨rfl, hb⟩; replace c0 := keep hb c0; replace c1 := keep hb c1; replace HO := Lib.hid (HO.out.later hb); replace hC := Lib.hid (hC.out.later hb); replace HT := Lib.hid (HT.out.later hb); replace HB := keepB HB hb; clear hb)
    | (go_at_call 9; refine (calls_few hf.out (few21_any c l A B S ca cb cs _ hC.out HO.out hn)).mono ?_; rintro e w2 ⟨rfl, hb⟩; replace c0 := keep hb c0; replace c1 := keep hb c1; replace HO := Lib.hid (HO.out.later hb); replace hC := Lib.hid (hC.out.later hb); replace HT := Lib.hid (HT.out.later hb); replace HB := keepB HB hb; clear hb))
  go_region_held3 (fun w' => w'.cell? ⟨w.heap.size, 0, none⟩ = some (.slice A c.reps.length ca) ∧ w'.cell? ⟨w.heap.size, 1, none⟩ = some (.slice B c.bnds.length cb) ∧ Below w2.heap.size w2 w')
    (first | exact ⟨c0, c1, below_drew (Below.refl _ _)⟩ | (with_reducible exact ⟨keep hb3 c0, keep hb3 c1, hb3⟩) | (with_reducible exact ⟨keep hb4 c0, keep hb4 c1, hb4⟩))
    (first
      | (go_at_call 20; refine (cliNew_ok ⟨c, A, B, ca, cb, ses⟩ _ (hC.out.later (below_drew (Below.refl _ _))) hk.out).mono ?_; rintro e w3 ⟨p, rfl, hA3, hb⟩; have hb3 : Below w2.heap.size w2 w3 := keepB (below_drew (Below.refl _ _)) hb; replace hA3 := Lib.hid hA3)
      | (go_at_call 22; refine (rcNew_ok ⟨c, A, B, ca, cb, ses⟩ _ (hC.out.later hb3) hk.out).mono ?_; rintro e w4 ⟨q, rfl, hR4, hb⟩; have hb4 : Below w2.heap.size w2 w4 := keepB hb3 hb; have hX4 : Hid (TwoX ⟨w2, fun _ => False, w4⟩ w4 w2.heap.size p q ⟨c, A, B, ca, cb, ses⟩ 0 cli0) := ⟨_, _, two_new hC.out HT.out hca'.out hk.out hA3.out hb3 hR4 hb⟩; clear hR4))
  clear eW hca' HT c0 c1 hA3 hb3 hb4
  obtain ⟨wg, hwg⟩ : ∃ wg, Hid (wg = w4) := ⟨_, rfl⟩
  replace hX4 : Hid (TwoX ⟨w2, fun _ => False, wg⟩ w4 w2.heap.size p q ⟨c, A, B, ca, cb, ses⟩ 0 cli0) := by rw [hwg.out]; exact hX4
  have hBsz := HB.size
  go_wp2
  go_loopw [9] (fun i wr => ∃ k : Nat, k ≤ l.length ∧ i = .int .i64 k ∧ ∃ x, Hid (TwoX ⟨w2, fun _ => False, wg⟩ wr w2.heap.size p q ⟨c, A, B, ca, cb, ses⟩ k x)) (fun i _ => l.length - (intOf i).toNat)
  case atStart => exact ⟨0, Nat.zero_le _, rfl, _, hX4⟩
  case round =>
    obtain ⟨k, hkl, rfl, x, HX⟩ := hrel
    obtain ⟨wz, rfl⟩ : ∃ wz : World, wz = wr := ⟨_, rfl⟩
    by_cases hlt : k < l.length
    · obtain ⟨b, off, o, rfl, hrow, ho, HXX⟩ := HO.out.at' hlt
      have HR := Lib.hid (CellRow.later hrow (HX.out.b.mono (Nat.le_refl _)))
      have hO1 : Hid (∀ wy, Below w2.heap.size wz wy → OpAt wy o) := fun wy hy => ho.later (HX.out.b.trans hy)
      have hk60 : Hid (k ≤ 1000) := by have := hf60.out; show _ ≤ _; omega
      have hk10 : Hid (o.keys.length ≤ 10) := by show _ ≤ _; rw [← HXX.out]; exact few21_keys hf.out hlt
      have hk1 : Hid (k + 1 ≤ l.length) := hlt
      clear hrow ho HXX
      go_wp2_with (first
        | (go_at_call 19; (with_reducible refine HX.out.floor.mono ?_); rintro e w3 ⟨rfl, rfl⟩)
        | (refine wpList_load_cells rfl 45 _ rfl ⟨b, off + k * 41, none⟩ rfl o.vs _ HR.out Tryz.underlying45 rfl info_op21 ?_)
        | (go_at_call 23; (with_reducible refine (HX.out.act hk60.out o hO1.out hk10.out).mono ?_); rintro e w4 ⟨bb, A4, c4, y, ev, rfl, hE4, hel, hY, ha, hfr⟩; clear hfr; replace hE4 := Lib.hid hE4; replace hY := Lib.hid hY; replace ha := Lib.hid ha; replace hel := Lib.hid hel))
      have hev9 : ev.length ≤ 1000 := hel.out
      have hfy : decide ((y.floor : Int) < (x.floor : Int)) = false := by rw [decide_eq_false_iff_not]; have := act_floor ha.out; omega
      have hfy2 : decide (y.floor < x.floor) = false := by rw [decide_eq_false_iff_not]; have := act_floor ha.out; omega
      go_loopw [13] (fun j wj => ∃ i : Nat, i ≤ ev.length ∧ j = .int .i64 i ∧ Below w4.heap.size w4 wj) (fun j _ => ev.length - (intOf j).toNat)
      case atStart => exact ⟨0, Nat.zero_le _, rfl, Below.refl _ _⟩
      case round =>
        obtain ⟨i, hil, rfl, hj⟩ := hrel
        obtain ⟨wj, rfl⟩ : ∃ wj : World, wj = wr := ⟨_, rfl⟩
        have hYj := Lib.hid (hY.out.later hj)
        by_cases hl2 : i < ev.length
        · obtain ⟨g, rfl, hrow⟩ := hE4.out i hl2
          have hmem := getD_mem (d := noEv) hl2
          obtain ⟨e, he⟩ : ∃ e, ev.getD i noEv = e := ⟨_, rfl⟩
          rw [he] at hrow hmem
          clear he
          obtain ⟨m0, _, _, _, _, m8, m9, m10⟩ := ev_cs (CellRow.later hrow hj)
          have a4 := Lib.hid (fun (h1 : e.kind = 4) (h2 : e.err = 0) => act_end ha.out HX.out.inv hmem h1 h2)
          have a2 := Lib.hid (fun (h1 : e.kind = 2) (h2 : e.yes = true) => act_yes ha.out hmem h1 h2)
          obtain ⟨kd, ids, idq, key, val, ver, yes, st, er⟩ := e
          simp only at m0 m8 m9 m10 a4 a2
          have ii : (i : Int) < (ev.length : Int) := by omega
          have i0 : (0 : Int) ≤ (i : Int) := by omega
          have hi1 : Hid (i + 1 ≤ ev.length) := hl2
          clear hmem hrow
          by_cases k4 : kd = 4
          · subst k4
            by_cases e0 : er = 0
            · subst e0
              have hs : decide ((st : Int) < (x.floor : Int)) = false := by rw [decide_eq_false_iff_not]; have := a4.out rfl rfl; omega
              have hs2 : decide (st < x.floor) = false := by rw [decide_eq_false_iff_not]; have := a4.out rfl rfl; omega
              go_wp2
              go_quiet (fail)
              go_wp2
              go_roundw
              case rel => exact ⟨i + 1, hi1.out, by go_num, keepB hj (below_drewN (Below.refl _ _) _)⟩
              case measure => have := hi1.out; simp [intOf]; omega
            · have qe : (er == 0) = false := by rw [beq_eq_false_iff_ne]; exact e0
              clear e0
              go_wp2
              go_quiet (fail)
              go_wp2
              go_roundw
              case rel => exact ⟨i + 1, hi1.out, by go_num, keepB hj (below_drewN (Below.refl _ _) _)⟩
              case measure => have := hi1.out; simp [intOf]; omega
          · have q4 : (kd == 4) = false := by rw [beq_eq_false_iff_ne]; exact k4
            by_cases k2 : kd = 2
            · subst k2
              clear k4
              cases yes
              · go_wp2
                go_quiet (fail)
                go_wp2
                go_roundw
                case rel => exact ⟨i + 1, hi1.out, by go_num, keepB hj (below_drewN (Below.refl _ _) _)⟩
                case measure => have := hi1.out; simp [intOf]; omega
              · have hs : decide ((y.floor : Int) < (st : Int)) = false := by rw [decide_eq_false_iff_not]; have := a2.out rfl rfl; omega
                have hs2 : decide (y.floor < st) = false := by rw [decide_eq_false_iff_not]; have := a2.out rfl rfl; omega
                go_wp2
                go_quiet ((go_at_call 19; exact quiet_left (TwoX.floor (hYj.out.later (below_drewN (Below.refl _ _) _)))))
                go_wp2
                go_roundw
                case rel => exact ⟨i + 1, hi1.out, by go_num, keepB hj (below_drewN (Below.refl _ _) _)⟩
                case measure => have := hi1.out; simp [intOf]; omega
            · have q2 : (kd == 2) = false := by rw [beq_eq_false_iff_ne]; exact k2
              clear k2 k4
              go_wp2
              go_quiet (fail)
              go_wp2
              go_roundw
              case rel => exact ⟨i + 1, hi1.out, by go_num, keepB hj (below_drewN (Below.refl _ _) _)⟩
              case measure => have := hi1.out; simp [intOf]; omega
        · have ii : ¬ ((i : Int) < (ev.length : Int)) := by omega
          go_wp2_with (go_at_call 19; (with_reducible refine hYj.out.floor.mono ?_); rintro e w5 ⟨rfl, rfl⟩)
          go_roundw
          case rel => exact ⟨k + 1, hk1.out, by go_num, y, hYj⟩
          case measure => have := hk1.out; simp [intOf]; omega
    · have ki : ¬ ((k : Int) < (l.length : Int)) := by omega
      go_wp2
      go_ret
      exact ⟨rfl, keepB HB (HX.out.b.mono (Nat.le_refl _))⟩
end Go.Proofs.YtjgloipgnnigmaaGreatDoor
