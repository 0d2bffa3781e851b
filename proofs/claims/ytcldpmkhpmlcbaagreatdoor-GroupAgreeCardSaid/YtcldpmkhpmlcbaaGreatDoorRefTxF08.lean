/- Layer 8's reference Formed. -/
import Derived.Test.YtcldpmkhpmlcbaaGreatDoorJ6
import Derived.Lib.QuietBelow
set_option linter.unusedVariables false
set_option linter.unusedSimpArgs false
namespace Go.Proofs.YtcldpmkhpmlcbaaGreatDoor
open Go.RowKit Go.Shelf Go.Sort

theorem rKeys_at {t : Tx} {k : Nat} {s : ByteArray} {n : Nat} (hk : k < t.rds.length) (h : t.rds.getD k noRd = ⟨s, n⟩) : (rKeys t).getD k noStr = s := by
  rw [List.getD_eq_getElem?_getD, List.getElem?_eq_getElem hk] at h
  simp only [Option.getD_some] at h
  simp [rKeys, List.getD_eq_getElem?_getD, hk, h]
theorem wKeys_at {t : Tx} {k : Nat} {s : ByteArray} {v : Val} (hk : k < t.wrs.length) (h : t.wrs.getD k noWr = ⟨s, v⟩) : (wKeys t).getD k noStr = s := by
  rw [List.getD_eq_getElem?_getD, List.getElem?_eq_getElem hk] at h
  simp only [Option.getD_some] at h
  simp [wKeys, List.getD_eq_getElem?_getD, hk, h]
theorem formedT_r {t : Tx} {k : Nat} (hk : k < t.rds.length) (h : riseAt (rKeys t) k = false) : formedT t = false := by
  rw [formedT, risesTo_false hk h]; simp
theorem formedT_w {t : Tx} {k : Nat} (hk : k < t.wrs.length) (h : riseAt (wKeys t) k = false) : formedT t = false := by
  rw [formedT, risesTo_false hk h]; simp
theorem formedT_v {t : Tx} {k : Nat} {s : ByteArray} {v : Val} (hk : k < t.wrs.length) (h : t.wrs.getD k noWr = ⟨s, v⟩) (hv : formedV v = false) : formedT t = false := by
  rw [formedT, valsB_bad hk h hv]; simp

theorem refKey_below (s : ByteArray) (w : World) (hs : s.size ≤ maxLen) :
    Calls Tryz.prog 56 #[.string s] w fun e w' => e = .returned (.bool (keyB s)) ∧ Below w.heap.size w w' :=
  (refKey_any s w hs).mono fun _ _ ⟨he, hw⟩ => ⟨he, hw ▸ Below.refl _ _⟩
set_option maxRecDepth 100000 in
set_option maxHeartbeats 8000000 in
theorem refTxFormed_any (t : Tx) (A B : Option Addr) (ca cb : Nat) (w : World) (h : TxAt w t A B) :
    Calls Tryz.prog 22 #[txV t A B ca cb] w fun e w' => e = .returned (.bool (formedT t)) ∧ Below w.heap.size w w' := by
  unfold txV
  obtain ⟨W, eW, HB, c0, c1, c2, c3⟩ := box4 w (.int .i64 t.ses) (.int .i64 t.seq) (.slice A t.rds.length ca) (.slice B t.wrs.length cb) 38
  have h := h.later HB
  have hrn := h.rn
  have hwn := h.wn
  cases hid : idB t.ses t.seq
  · have HF : Hid (formedT t = false) := by show _ = _; rw [formedT, hid]; simp
    go_enter Tryz.func22, Tryz.ntmps22
    go_wp2_with (go_at_call 55; refine (refId_any _ _ _).mono ?_; rintro e w1 ⟨rfl, hb⟩; replace HB := keepB HB hb)
    go_ret
    exact ⟨ret_bool HF.out, HB⟩
  · by_cases hn : t.rds.length ≤ 6
    · by_cases hm : t.wrs.length ≤ 6
      · by_cases h0 : t.rds.length + t.wrs.length = 0
        · have HF : Hid (formedT t = false) := by show _ = _; rw [formedT]; simp [h0]
          have h0' : t.rds.length = 0 := by omega
          have h0'' : t.wrs.length = 0 := by omega
          have q0 : ((t.rds.length : Int) == 0) = true := by rw [beq_iff_eq]; omega
          have q1 : ((t.wrs.length : Int) == 0) = true := by rw [beq_iff_eq]; omega
          clear h0 h0' h0''
          go_enter Tryz.func22, Tryz.ntmps22
          go_wp2_with (go_at_call 55; refine (refId_any _ _ _).mono ?_; rintro e w1 ⟨rfl, hb⟩; replace c2 := keep hb c2; replace c3 := keep hb c3; replace HB := keepB HB hb)
          go_ret
          exact ⟨ret_bool HF.out, HB⟩
        · have HF : Hid (formedT t = (risesTo (rKeys t) t.rds.length && risesTo (wKeys t) t.wrs.length && valsB t.wrs)) := by
            show _ = _
            rw [formedT, hid, decide_eq_true hn, decide_eq_true hm, decide_eq_false h0]
            simp
          have hq : ((t.rds.length : Int) == 0) = false ∨ (((t.rds.length : Int) == 0) = true ∧ ((t.wrs.length : Int) == 0) = false) := by
            by_cases z : t.rds.length = 0
            · exact .inr ⟨by rw [beq_iff_eq]; omega, by rw [beq_eq_false_iff_ne]; omega⟩
            · exact .inl (by rw [beq_eq_false_iff_ne]; omega)
          have HN := Lib.hid h0
          clear h0
          rcases hq with q0 | ⟨q0, q1⟩
          all_goals
            go_enter Tryz.func22, Tryz.ntmps22
            go_wp2_with (go_at_call 55; refine (refId_any _ _ _).mono ?_; rintro e w1 ⟨rfl, hb⟩; replace c0 := keep hb c0; replace c1 := keep hb c1; replace c2 := keep hb c2; replace c3 := keep hb c3; replace h := h.later hb; replace HB := keepB HB hb; clear hb)
            clear eW q0
            go_loopw [3] (fun i wr => ∃ k : Nat, k ≤ t.rds.length ∧ i = .int .i64 k ∧ Hid (risesTo (rKeys t) k = true) ∧ Below w1.heap.size w1 wr) (fun i _ => t.rds.length - (intOf i).toNat)
            case atStart => exact ⟨0, Nat.zero_le _, rfl, rfl, Below.refl _ _⟩
            case round =>
              obtain ⟨k, hk, rfl, HA, hw⟩ := hrel
              have hr := h.later hw
              have hB := keepB HB hw
              replace c0 := keep hw c0
              replace c1 := keep hw c1
              replace c2 := keep hw c2
              replace c3 := keep hw c3
              by_cases hlt : k < t.rds.length
              · obtain ⟨b, off, x, n, rfl, d0, d1, HX⟩ := hr.rds.at' hlt
                have HY := Lib.hid (rKeys_at hlt HX.out)
                have hsx : x.size ≤ maxLen := by have := hr.rk k hlt; rw [HX.out] at this; exact this
                cases hkey : keyB x
                · have HF : Hid (formedT t = false) := formedT_r hlt (by simp only [riseAt, HY.out, hkey, Bool.false_and])
                  go_wp2
                  go_quiet ((go_at_call 56; exact quiet_left (refKey_any _ _ hsx)))
                  go_wp2
                  go_ret
                  exact ⟨ret_bool HF.out, below_drewN hB _⟩
                · by_cases hk0 : k = 0
                  · have HR : Hid (risesTo (rKeys t) (k + 1) = true) := risesTo_next0 HA.out HY.out hkey hk0
                    have hg : decide (0 < k) = false := by rw [decide_eq_false_iff_not]; omega
                    clear hk0
                    go_wp2
                    go_quiet ((go_at_call 56; exact quiet_left (refKey_any _ _ hsx)))
                    go_wp2
                    go_roundw
                    case rel => exact ⟨k + 1, by omega, by go_num, HR, below_drewN hw _⟩
                    case measure => simp [intOf]; omega
                  · obtain ⟨b', off', y, m, e, e0, e1, HZ⟩ := hr.rds.at' (k := k - 1) (by omega)
                    injection e with e
                    injection e with f1 f2
                    subst f1 f2
                    have HW := Lib.hid (rKeys_at (by omega) HZ.out)
                    have hg : decide (0 < k) = true := by rw [decide_eq_true_iff]; omega
                    have hi : ((k : Int) - 1).toNat = k - 1 := by omega
                    have hk1 : 1 ≤ k := by omega
                    have hk1i : (1 : Int) ≤ (k : Int) := by omega
                    have hk2i : (k : Int) - 1 < (t.rds.length : Int) := by omega
                    cases hl : lessS y x
                    · have HF : Hid (formedT t = false) := formedT_r hlt (by simp only [riseAt, HY.out, HW.out, hkey, hl, beq_eq_false_iff_ne.2 hk0, Bool.false_or, Bool.and_false])
                      have hl' : (Op.bytesLess x.toList y.toList || x.toList == y.toList) = true := lessS_no hl
                      clear hl hk0
                      go_wp2
                      go_quiet ((go_at_call 56; exact quiet_left (refKey_any _ _ hsx)))
                      go_wp2
                      go_ret
                      exact ⟨ret_bool HF.out, below_drewN hB _⟩
                    · have HR : Hid (risesTo (rKeys t) (k + 1) = true) := risesTo_next HA.out HY.out HW.out hkey hl
                      have hl' : (Op.bytesLess x.toList y.toList || x.toList == y.toList) = false := lessS_yes hl
                      clear hl hk0
                      go_wp2
                      go_quiet ((go_at_call 56; exact quiet_left (refKey_any _ _ hsx)))
                      go_wp2
                      go_roundw
                      case rel => exact ⟨k + 1, by omega, by go_num, HR, below_drewN hw _⟩
                      case measure => simp [intOf]; omega
              · have ek : k = t.rds.length := by omega
                have HR : Hid (risesTo (rKeys t) t.rds.length = true) := by show _ = _; rw [← ek]; exact HA.out
                go_wp2_with fail
                clear ek hlt hk HA
                obtain ⟨wa, rfl⟩ : ∃ wa : World, wa = wr := ⟨_, rfl⟩
                clear hr
                replace h := h.later hw
                replace HB := keepB HB hw
                clear hw hB
                go_loopw [4] (fun i wr => ∃ k : Nat, k ≤ t.wrs.length ∧ i = .int .i64 k ∧ Hid (risesTo (wKeys t) k = true) ∧ Hid (valsB (t.wrs.take k) = true) ∧ Below wa.heap.size wa wr) (fun i _ => t.wrs.length - (intOf i).toNat)
                case atStart => exact ⟨0, Nat.zero_le _, rfl, rfl, rfl, Below.refl _ _⟩
                case round =>
                  obtain ⟨k, hk, rfl, HA, HV, hw⟩ := hrel
                  obtain ⟨wb, rfl⟩ : ∃ wb : World, wb = wr := ⟨_, rfl⟩
                  have hr := h.later hw
                  have hB := keepB HB hw
                  replace c3 := keep hw c3
                  by_cases hlt : k < t.wrs.length
                  · obtain ⟨b, off, x, z, n, tx, rfl, d0, d1, d2, d3, HX⟩ := hr.wrs.at' hlt
                    have HY := Lib.hid (wKeys_at hlt HX.out)
                    have hsx : x.size ≤ maxLen := by have := hr.wk k hlt; rw [HX.out] at this; exact this
                    have hgg := hr.wv k hlt
                    rw [HX.out] at hgg
                    have hgb := hgg.b
                    have hgt := hgg.t
                    simp only at hgb hgt
                    clear hgg hr
                    have hki : (k : Int) < (t.wrs.length : Int) := by omega
                    cases hkey : keyB x
                    · have HF : Hid (formedT t = false) := formedT_w hlt (by simp only [riseAt, HY.out, hkey, Bool.false_and])
                      go_wp2
                      go_quiet ((go_at_call 56; exact quiet_left (refKey_any _ _ hsx)))
                      go_wp2
                      go_ret
                      exact ⟨ret_bool HF.out, below_drewN hB _⟩
                    · obtain ⟨fv, hfv⟩ : ∃ fv, formedV ⟨z, n, tx⟩ = fv := ⟨_, rfl⟩
                      cases fv
                      · have HF : Hid (formedT t = false) := formedT_v hlt HX.out hfv
                        replace hkey := Lib.hid hkey
                        replace hfv := Lib.hid hfv
                        go_wp2
                        have k0 := cell_regrown c3
                        have k1 := cell_regrown d0
                        have k2 := cell_regrown d1
                        have k3 := cell_regrown d2
                        have k4 := cell_regrown d3
                        have cK : ∀ d os, Calls Tryz.prog 56 #[.string x] (grow (redrawn wb d) os) fun e w'' => e = .returned (.bool true) ∧ ∃ p : Regrown, w'' = grow (redrawn wb p.d) p.os := fun d os => Calls.regrown_of (calls_bool hkey.out (refKey_below x _ hsx))
                        have cF : ∀ d os, Calls Tryz.prog 57 #[.agg #[.int .i64 z, .int .u64 n, .string tx]] (grow (redrawn wb d) os) fun e w'' => e = .returned (.bool false) ∧ ∃ p : Regrown, w'' = grow (redrawn wb p.d) p.os := fun d os => Calls.regrown_of (calls_bool hfv.out (refFormedV_any z n tx hgb hgt _))
                        refine wp_region_quiet_below (by kernel_rfl) (by kernel_rfl) ?_
                        repeat (go_big_quiet_step (first | exact cK _ _ | exact cF _ _))
                        refine wpQuiet_nil ?_
                        intro _ hw'
                        obtain ⟨⟨dq, osq⟩, hw''⟩ := hw'
                        subst hw''
                        have HS := below_regrown wb dq osq
                        clear k0 k1 k2 k3 k4 cK cF
                        go_wp2
                        go_ret
                        exact ⟨ret_bool HF.out, keepB hB HS⟩
                      · have HV2 : Hid (valsB (t.wrs.take (k + 1)) = true) := valsB_next hlt HX.out hfv HV.out
                        by_cases hk0 : k = 0
                        · have HR : Hid (risesTo (wKeys t) (k + 1) = true) := risesTo_next0 HA.out HY.out hkey hk0
                          have hg : decide (0 < k) = false := by rw [decide_eq_false_iff_not]; omega
                          clear hk0
                          replace hkey := Lib.hid hkey
                          replace hfv := Lib.hid hfv
                          go_wp2
                          have k0 := cell_regrown c3
                          have k1 := cell_regrown d0
                          have k2 := cell_regrown d1
                          have k3 := cell_regrown d2
                          have k4 := cell_regrown d3
                          have cK : ∀ d os, Calls Tryz.prog 56 #[.string x] (grow (redrawn wb d) os) fun e w'' => e = .returned (.bool true) ∧ ∃ p : Regrown, w'' = grow (redrawn wb p.d) p.os := fun d os => Calls.regrown_of (calls_bool hkey.out (refKey_below x _ hsx))
                          have cF : ∀ d os, Calls Tryz.prog 57 #[.agg #[.int .i64 z, .int .u64 n, .string tx]] (grow (redrawn wb d) os) fun e w'' => e = .returned (.bool true) ∧ ∃ p : Regrown, w'' = grow (redrawn wb p.d) p.os := fun d os => Calls.regrown_of (calls_bool hfv.out (refFormedV_any z n tx hgb hgt _))
                          refine wp_region_quiet_below (by kernel_rfl) (by kernel_rfl) ?_
                          repeat (go_big_quiet_step (first | exact cK _ _ | exact cF _ _))
                          refine wpQuiet_nil ?_
                          intro _ hw'
                          obtain ⟨⟨dq, osq⟩, hw''⟩ := hw'
                          subst hw''
                          have HS := below_regrown wb dq osq
                          clear k0 k1 k2 k3 k4 cK cF
                          go_wp2
                          go_roundw
                          case rel => exact ⟨k + 1, by omega, by go_num, HR, HV2, keepB hw HS⟩
                          case measure => simp [intOf]; omega
                        · obtain ⟨b', off', y, z', n', tx', e, e0, _, _, _, HZ⟩ := (h.later hw).wrs.at' (k := k - 1) (by omega)
                          injection e with e
                          injection e with f1 f2
                          subst f1 f2
                          have HW := Lib.hid (wKeys_at (by omega) HZ.out)
                          have hg : decide (0 < k) = true := by rw [decide_eq_true_iff]; omega
                          have hi : ((k : Int) - 1).toNat = k - 1 := by omega
                          have hk1 : 1 ≤ k := by omega
                          have hk1i : (1 : Int) ≤ (k : Int) := by omega
                          have hk2i : (k : Int) - 1 < (t.wrs.length : Int) := by omega
                          have hw1 : IntKind.i64.wrap ((k : Int) - 1) = (k : Int) - 1 := IntWalk.i64_in _ (by omega)
                          cases hl : lessS y x
                          · have HF : Hid (formedT t = false) := formedT_w hlt (by simp only [riseAt, HY.out, HW.out, hkey, hl, beq_eq_false_iff_ne.2 hk0, Bool.false_or, Bool.and_false])
                            have hl' : (Op.bytesLess x.toList y.toList || x.toList == y.toList) = true := lessS_no hl
                            clear hl hk0
                            replace hkey := Lib.hid hkey
                            replace hfv := Lib.hid hfv
                            go_wp2
                            have k0 := cell_regrown c3
                            have k1 := cell_regrown d0
                            have k2 := cell_regrown d1
                            have k3 := cell_regrown d2
                            have k4 := cell_regrown d3
                            have k5 := cell_regrown e0
                            have cK : ∀ d os, Calls Tryz.prog 56 #[.string x] (grow (redrawn wb d) os) fun e w'' => e = .returned (.bool true) ∧ ∃ p : Regrown, w'' = grow (redrawn wb p.d) p.os := fun d os => Calls.regrown_of (calls_bool hkey.out (refKey_below x _ hsx))
                            have cF : ∀ d os, Calls Tryz.prog 57 #[.agg #[.int .i64 z, .int .u64 n, .string tx]] (grow (redrawn wb d) os) fun e w'' => e = .returned (.bool true) ∧ ∃ p : Regrown, w'' = grow (redrawn wb p.d) p.os := fun d os => Calls.regrown_of (calls_bool hfv.out (refFormedV_any z n tx hgb hgt _))
                            refine wp_region_quiet_below (by kernel_rfl) (by kernel_rfl) ?_
                            repeat (go_big_quiet_step (first | exact cK _ _ | exact cF _ _))
                            refine wpQuiet_nil ?_
                            intro _ hw'
                            obtain ⟨⟨dq, osq⟩, hw''⟩ := hw'
                            subst hw''
                            have HS := below_regrown wb dq osq
                            clear k0 k1 k2 k3 k4 k5 cK cF
                            go_wp2
                            go_ret
                            exact ⟨ret_bool HF.out, keepB hB HS⟩
                          · have HR : Hid (risesTo (wKeys t) (k + 1) = true) := risesTo_next HA.out HY.out HW.out hkey hl
                            have hl' : (Op.bytesLess x.toList y.toList || x.toList == y.toList) = false := lessS_yes hl
                            clear hl hk0
                            replace hkey := Lib.hid hkey
                            replace hfv := Lib.hid hfv
                            go_wp2
                            have k0 := cell_regrown c3
                            have k1 := cell_regrown d0
                            have k2 := cell_regrown d1
                            have k3 := cell_regrown d2
                            have k4 := cell_regrown d3
                            have k5 := cell_regrown e0
                            have cK : ∀ d os, Calls Tryz.prog 56 #[.string x] (grow (redrawn wb d) os) fun e w'' => e = .returned (.bool true) ∧ ∃ p : Regrown, w'' = grow (redrawn wb p.d) p.os := fun d os => Calls.regrown_of (calls_bool hkey.out (refKey_below x _ hsx))
                            have cF : ∀ d os, Calls Tryz.prog 57 #[.agg #[.int .i64 z, .int .u64 n, .string tx]] (grow (redrawn wb d) os) fun e w'' => e = .returned (.bool true) ∧ ∃ p : Regrown, w'' = grow (redrawn wb p.d) p.os := fun d os => Calls.regrown_of (calls_bool hfv.out (refFormedV_any z n tx hgb hgt _))
                            refine wp_region_quiet_below (by kernel_rfl) (by kernel_rfl) ?_
                            repeat (go_big_quiet_step (first | exact cK _ _ | exact cF _ _))
                            refine wpQuiet_nil ?_
                            intro _ hw'
                            obtain ⟨⟨dq, osq⟩, hw''⟩ := hw'
                            subst hw''
                            have HS := below_regrown wb dq osq
                            clear k0 k1 k2 k3 k4 k5 cK cF
                            clear hw1
                            go_wp2
                            go_roundw
                            case rel => exact ⟨k + 1, by omega, by go_num, HR, HV2, keepB hw HS⟩
                            case measure => simp [intOf]; omega
                  · have ek : k = t.wrs.length := by omega
                    have HF2 : Hid (formedT t = true) := by
                      show _ = _
                      have a1 := HA.out
                      have a2 := HV.out
                      rw [ek] at a1 a2
                      rw [List.take_length] at a2
                      rw [HF.out, HR.out, a1, a2]
                      rfl
                    clear ek
                    go_wp2
                    go_ret
                    exact ⟨ret_bool HF2.out, hB⟩
      · have HF : Hid (formedT t = false) := by show _ = _; rw [formedT]; simp [hm]
        go_enter Tryz.func22, Tryz.ntmps22
        go_wp2_with (go_at_call 55; refine (refId_any _ _ _).mono ?_; rintro e w1 ⟨rfl, hb⟩; replace c2 := keep hb c2; replace c3 := keep hb c3; replace HB := keepB HB hb)
        go_ret
        exact ⟨ret_bool HF.out, HB⟩
    · have HF : Hid (formedT t = false) := by show _ = _; rw [formedT]; simp [hn]
      go_enter Tryz.func22, Tryz.ntmps22
      go_wp2_with (go_at_call 55; refine (refId_any _ _ _).mono ?_; rintro e w1 ⟨rfl, hb⟩; replace c2 := keep hb c2; replace c3 := keep hb c3; replace HB := keepB HB hb)
      go_ret
      exact ⟨ret_bool HF.out, HB⟩
end Go.Proofs.YtcldpmkhpmlcbaaGreatDoor
