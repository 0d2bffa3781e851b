/- The reference's Formed, of writes. -/
import Derived.Test.YtboiafchmdflpaaDoorApply14
namespace Go.Proofs.YtboiafchmdflpaaDoor
open Go.RowKit Go.Maps Go.Shelf Go.Sort

theorem refKey_below (s : ByteArray) (w : World) (hs : s.size ≤ maxLen) :
    Calls Tryd.prog 51 #[.string s] w fun e w' => e = .returned (.bool (keyB s)) ∧ Below w.heap.size w w' :=
  (refKey_any s w hs).mono fun _ _ ⟨he, hw⟩ => ⟨he, hw ▸ Below.refl _ _⟩
theorem wrsOK_bad {l : List Wr} {k : Nat} (hk : k < l.length) (h : wrOK l k = false) : wrsOK l = false := wrsTo_false hk h
set_option maxRecDepth 100000 in
set_option maxHeartbeats 8000000 in
theorem refFormed14_any (l : List Wr) (A : Option Addr) (ca : Nat) (w : World) (hA : WrsAt w A l) (hok : WrsOK l) (hn : l.length ≤ 1000000) :
    Calls Tryd.prog 27 #[.slice A l.length ca] w fun e w' => e = .returned (.bool (wrsOK l)) ∧ Below w.heap.size w w' := by
  go_enter Tryd.func27, Tryd.ntmps27
  go_wp2
  go_loopw [3] (fun i wr => ∃ k : Nat, k ≤ l.length ∧ i = .int .i64 k ∧ Hid (wrsTo l k = true) ∧ Below w.heap.size w wr) (fun i _ => l.length - (intOf i).toNat)
  case atStart => exact ⟨0, Nat.zero_le _, rfl, rfl, Below.refl _ _⟩
  case round =>
    obtain ⟨k, hk, rfl, HA, hw⟩ := hrel
    obtain ⟨wb, rfl⟩ : ∃ wb : World, wb = wr := ⟨_, rfl⟩
    have hr := hA.later hw
    by_cases hlt : k < l.length
    · obtain ⟨b, off, x, z, m, tx, rfl, d0, d1, d2, d3, HX⟩ := hr.at' hlt
      have hsx : x.size ≤ maxLen := by have := hok.k k hlt; rw [HX.out] at this; exact this
      have hgg := hok.v k hlt
      rw [HX.out] at hgg
      have hgb := hgg.b
      have hgt := hgg.t
      simp only at hgb hgt
      clear hgg
      have hki : (k : Int) < (l.length : Int) := by omega
      cases hkey : keyB x
      · have HF := Lib.hid (wrsOK_bad hlt (wrOK_key HX.out hkey))
        replace hkey := Lib.hid hkey
        go_wp2
        have k0 := cell_regrown d0
        have cK : ∀ d os, Calls Tryd.prog 51 #[.string x] (grow (redrawn wb d) os) fun e w'' => e = .returned (.bool false) ∧ ∃ p : Regrown, w'' = grow (redrawn wb p.d) p.os := fun d os => Calls.regrown_of (calls_b14 hkey.out (refKey_below x _ hsx))
        refine wp_region_quiet_below (by kernel_rfl) (by kernel_rfl) ?_
        repeat (go_big_quiet_step (first | exact cK _ _))
        refine wpQuiet_nil ?_
        intro _ hw'
        obtain ⟨⟨dq, osq⟩, hw''⟩ := hw'
        subst hw''
        have HQ := below_regrown wb dq osq
        clear k0 cK
        go_wp2
        go_ret
        exact ⟨ret_bool14 HF.out, keepB hw HQ⟩
      · obtain ⟨fv, hfv⟩ : ∃ fv, formedV ⟨z, m, tx⟩ = fv := ⟨_, rfl⟩
        cases fv
        · have HF := Lib.hid (wrsOK_bad hlt (wrOK_val HX.out hfv))
          replace hkey := Lib.hid hkey
          replace hfv := Lib.hid hfv
          go_wp2
          have k0 := cell_regrown d0
          have k1 := cell_regrown d1
          have k2 := cell_regrown d2
          have k3 := cell_regrown d3
          have cK : ∀ d os, Calls Tryd.prog 51 #[.string x] (grow (redrawn wb d) os) fun e w'' => e = .returned (.bool true) ∧ ∃ p : Regrown, w'' = grow (redrawn wb p.d) p.os := fun d os => Calls.regrown_of (calls_b14 hkey.out (refKey_below x _ hsx))
          have cF : ∀ d os, Calls Tryd.prog 52 #[.agg #[.int .i64 z, .int .u64 m, .string tx]] (grow (redrawn wb d) os) fun e w'' => e = .returned (.bool false) ∧ ∃ p : Regrown, w'' = grow (redrawn wb p.d) p.os := fun d os => Calls.regrown_of (calls_b14 hfv.out (refFormedV_any z m tx hgb hgt _))
          refine wp_region_quiet_below (by kernel_rfl) (by kernel_rfl) ?_
          repeat (go_big_quiet_step (first | exact cK _ _ | exact cF _ _))
          refine wpQuiet_nil ?_
          intro _ hw'
          obtain ⟨⟨dq, osq⟩, hw''⟩ := hw'
          subst hw''
          have HQ := below_regrown wb dq osq
          clear k0 k1 k2 k3 cK cF
          go_wp2
          go_ret
          exact ⟨ret_bool14 HF.out, keepB hw HQ⟩
        · by_cases hk0 : k = 0
          · have HR : Hid (wrsTo l (k + 1) = true) := wrsTo_next0 HX.out hkey hfv hk0
            have hg : decide (0 < k) = false := by rw [decide_eq_false_iff_not]; omega
            clear hk0
            replace hkey := Lib.hid hkey
            replace hfv := Lib.hid hfv
            go_wp2
            have k0 := cell_regrown d0
            have k1 := cell_regrown d1
            have k2 := cell_regrown d2
            have k3 := cell_regrown d3
            have cK : ∀ d os, Calls Tryd.prog 51 #[.string x] (grow (redrawn wb d) os) fun e w'' => e = .returned (.bool true) ∧ ∃ p : Regrown, w'' = grow (redrawn wb p.d) p.os := fun d os => Calls.regrown_of (calls_b14 hkey.out (refKey_below x _ hsx))
            have cF : ∀ d os, Calls Tryd.prog 52 #[.agg #[.int .i64 z, .int .u64 m, .string tx]] (grow (redrawn wb d) os) fun e w'' => e = .returned (.bool true) ∧ ∃ p : Regrown, w'' = grow (redrawn wb p.d) p.os := fun d os => Calls.regrown_of (calls_b14 hfv.out (refFormedV_any z m tx hgb hgt _))
            refine wp_region_quiet_below (by kernel_rfl) (by kernel_rfl) ?_
            repeat (go_big_quiet_step (first | exact cK _ _ | exact cF _ _))
            refine wpQuiet_nil ?_
            intro _ hw'
            obtain ⟨⟨dq, osq⟩, hw''⟩ := hw'
            subst hw''
            have HQ := below_regrown wb dq osq
            clear k0 k1 k2 k3 cK cF
            go_wp2
            go_roundw
            case rel => exact ⟨k + 1, by omega, by go_num, HR, keepB hw HQ⟩
            case measure => simp [intOf]; omega
          · obtain ⟨b', off', y, z', n', tx', e, e0, _, _, _, HZ⟩ := hr.at' (k := k - 1) (by omega)
            injection e with e
            injection e with f1 f2
            subst f1 f2
            have hg : decide (0 < k) = true := by rw [decide_eq_true_iff]; omega
            have hi : ((k : Int) - 1).toNat = k - 1 := by omega
            have hk1 : 1 ≤ k := by omega
            have hk1i : (1 : Int) ≤ (k : Int) := by omega
            have hk2i : (k : Int) - 1 < (l.length : Int) := by omega
            cases hl2 : lessS y x
            · have HF := Lib.hid (wrsOK_bad hlt (wrOK_less HX.out HZ.out hk0 hl2))
              have hl' : (Op.bytesLess x.toList y.toList || x.toList == y.toList) = true := lessS_no hl2
              clear hk0 hl2
              replace hkey := Lib.hid hkey
              replace hfv := Lib.hid hfv
              go_wp2
              have k0 := cell_regrown d0
              have k1 := cell_regrown d1
              have k2 := cell_regrown d2
              have k3 := cell_regrown d3
              have k4 := cell_regrown e0
              have cK : ∀ d os, Calls Tryd.prog 51 #[.string x] (grow (redrawn wb d) os) fun e w'' => e = .returned (.bool true) ∧ ∃ p : Regrown, w'' = grow (redrawn wb p.d) p.os := fun d os => Calls.regrown_of (calls_b14 hkey.out (refKey_below x _ hsx))
              have cF : ∀ d os, Calls Tryd.prog 52 #[.agg #[.int .i64 z, .int .u64 m, .string tx]] (grow (redrawn wb d) os) fun e w'' => e = .returned (.bool true) ∧ ∃ p : Regrown, w'' = grow (redrawn wb p.d) p.os := fun d os => Calls.regrown_of (calls_b14 hfv.out (refFormedV_any z m tx hgb hgt _))
              refine wp_region_quiet_below (by kernel_rfl) (by kernel_rfl) ?_
              repeat (go_big_quiet_step (first | exact cK _ _ | exact cF _ _))
              refine wpQuiet_nil ?_
              intro _ hw'
              obtain ⟨⟨dq, osq⟩, hw''⟩ := hw'
              subst hw''
              have HQ := below_regrown wb dq osq
              clear k0 k1 k2 k3 k4 cK cF
              go_wp2
              go_ret
              exact ⟨ret_bool14 HF.out, keepB hw HQ⟩
            · have HR : Hid (wrsTo l (k + 1) = true) := wrsTo_next HA.out HX.out HZ.out hkey hfv hl2
              have hl' : (Op.bytesLess x.toList y.toList || x.toList == y.toList) = false := lessS_yes hl2
              clear hk0 hl2
              replace hkey := Lib.hid hkey
              replace hfv := Lib.hid hfv
              go_wp2
              have k0 := cell_regrown d0
              have k1 := cell_regrown d1
              have k2 := cell_regrown d2
              have k3 := cell_regrown d3
              have k4 := cell_regrown e0
              have cK : ∀ d os, Calls Tryd.prog 51 #[.string x] (grow (redrawn wb d) os) fun e w'' => e = .returned (.bool true) ∧ ∃ p : Regrown, w'' = grow (redrawn wb p.d) p.os := fun d os => Calls.regrown_of (calls_b14 hkey.out (refKey_below x _ hsx))
              have cF : ∀ d os, Calls Tryd.prog 52 #[.agg #[.int .i64 z, .int .u64 m, .string tx]] (grow (redrawn wb d) os) fun e w'' => e = .returned (.bool true) ∧ ∃ p : Regrown, w'' = grow (redrawn wb p.d) p.os := fun d os => Calls.regrown_of (calls_b14 hfv.out (refFormedV_any z m tx hgb hgt _))
              refine wp_region_quiet_below (by kernel_rfl) (by kernel_rfl) ?_
              repeat (go_big_quiet_step (first | exact cK _ _ | exact cF _ _))
              refine wpQuiet_nil ?_
              intro _ hw'
              obtain ⟨⟨dq, osq⟩, hw''⟩ := hw'
              subst hw''
              have HQ := below_regrown wb dq osq
              clear k0 k1 k2 k3 k4 cK cF
              go_wp2
              go_roundw
              case rel => exact ⟨k + 1, by omega, by go_num, HR, keepB hw HQ⟩
              case measure => simp [intOf]; omega
    · have hfull : Hid (wrsOK l = true) := by show _ = _; rw [wrsOK, show l.length = k by omega]; exact HA.out
      clear HA
      go_wp2
      go_ret
      exact ⟨ret_bool14 hfull.out, hw⟩
end Go.Proofs.YtboiafchmdflpaaDoor
