/- The reference's Formed of layer 7: formedB of every configuration. -/
import Derived.Test.YtjgloipgnnigmaaGreatDoorFormed07
namespace Go.Proofs.YtjgloipgnnigmaaGreatDoor
open Go.RowKit Go.Shelf

set_option maxHeartbeats 1000000 in
theorem refFormed_any (c : Cfg) (A B : Option Addr) (ca cb : Nat) (w : World) (h : CfgAt w c A B) :
    Calls Tryz.prog 21 #[.agg #[.slice A c.reps.length ca, .slice B c.bnds.length cb]] w fun e w' => e = .returned (.bool (formedB c)) ∧ Below w.heap.size w w' := by
  obtain ⟨W, eW, HB, c0, c1⟩ := box2 w (.slice A c.reps.length ca) (.slice B c.bnds.length cb) 25
  cases hz : sizesB c
  · rw [formed_sizes hz]
    have hn := h.hn
    have hm := h.hm
    by_cases z1 : 1 ≤ c.reps.length
    · by_cases z2 : c.reps.length ≤ 4
      · have z3 : c.bnds.length + 1 ≠ c.reps.length := by
          intro e
          simp [sizesB, z1, z2, e] at hz
        have z3' : ((c.bnds.length : Int) != (c.reps.length : Int) - 1) = true := by rw [bne_iff_ne]; omega
        clear hz z3
        go_enter Tryz.func21, Tryz.ntmps21
        go_wp2
        go_ret
        exact ⟨rfl, HB⟩
      · clear hz
        go_enter Tryz.func21, Tryz.ntmps21
        go_wp2
        go_ret
        exact ⟨rfl, HB⟩
    · clear hz
      go_enter Tryz.func21, Tryz.ntmps21
      go_wp2
      go_ret
      exact ⟨rfl, HB⟩
  · have h1 : 1 ≤ c.reps.length ∧ c.reps.length ≤ 4 ∧ c.bnds.length + 1 = c.reps.length := by simpa [sizesB, and_assoc] using hz
    obtain ⟨z1, z2, z3⟩ := h1
    have z3' : ((c.bnds.length : Int) != (c.reps.length : Int) - 1) = false := by rw [bne_eq_false_iff_eq]; omega
    have zm : c.bnds.length ≤ 3 := by omega
    have HZ := Lib.hid hz
    have HZ3 := Lib.hid z3
    clear z3 hz
    have h := h.later HB
    go_enter Tryz.func21, Tryz.ntmps21
    go_wp2_with fail
    clear eW z3'
    go_loop [4] (fun i => ∃ k : Nat, k ≤ c.reps.length ∧ i = .int .i64 k ∧ Hid (repsTo c.reps k = true)) (fun i => c.reps.length - (intOf i).toNat)
    case atStart => exact ⟨0, Nat.zero_le _, rfl, rfl⟩
    case round =>
      obtain ⟨k, hk, rfl, HA⟩ := hrel
      by_cases hlt : k < c.reps.length
      · obtain ⟨b, off, x, rfl, hc, HX⟩ := IntsAt.at' h.ints hlt
        cases hr : repOK x
        · have HF : Hid (formedB c = false) := formed_rep hlt (by rw [HX.out]; exact hr)
          have n1 : (x != 1) = true := by rw [bne_iff_ne]; rintro rfl; exact absurd hr (by decide)
          have n3 : (x != 3) = true := by rw [bne_iff_ne]; rintro rfl; exact absurd hr (by decide)
          have n5 : (x != 5) = true := by rw [bne_iff_ne]; rintro rfl; exact absurd hr (by decide)
          clear hr
          go_wp2
          go_ret
          exact ⟨ret_bool HF.out, HB⟩
        · have HR : Hid (repsTo c.reps (k + 1) = true) := by show _ = _; simp only [repsTo, HA.out, HX.out, hr, Bool.and_self]
          have hor : x = 1 ∨ x = 3 ∨ x = 5 := by simpa [repOK, or_assoc] using hr
          clear hr
          rcases hor with rfl | rfl | rfl
          all_goals
            go_wp2
            go_round
            case rel => exact ⟨k + 1, by omega, by go_num, HR⟩
            case measure => simp [intOf]; omega
      · have ek : k = c.reps.length := by omega
        have HR : Hid (repsTo c.reps c.reps.length = true) := by rw [← ek]; exact HA
        clear HA
        go_wp2
        go_loopw [5] (fun i wr => ∃ k : Nat, k ≤ c.bnds.length ∧ i = .int .i64 k ∧ Hid (risesTo c.bnds k = true) ∧ Below W.heap.size W wr) (fun i _ => c.bnds.length - (intOf i).toNat)
        case atStart => exact ⟨0, Nat.zero_le _, rfl, rfl, Below.refl _ _⟩
        case round =>
          obtain ⟨k, hk, rfl, HA, hw⟩ := hrel
          have hB := keepB HB hw
          have h := h.later hw
          replace c0 := keep hw c0
          replace c1 := keep hw c1
          have hk2 := HZ3.out
          by_cases hlt : k < c.bnds.length
          · obtain ⟨b, off, x, rfl, hc, HX⟩ := StrsAt.at' h.strs hlt
            have hlt2 : (k : Int) < (c.reps.length : Int) - 1 := by omega
            clear hk2
            have hsx : x.size ≤ maxLen := by have := h.hs k hlt; rw [HX.out] at this; exact this
            have hki : (k : Int) < (c.bnds.length : Int) := by omega
            cases hkey : keyB x
            · have HF : Hid (formedB c = false) := formed_bnd hlt (by simp only [riseAt, HX.out, hkey, Bool.false_and])
              go_wp2
              go_quiet ((go_at_call 56; exact quiet_left (refKey_any _ _ hsx)))
              go_wp2
              go_ret
              exact ⟨ret_bool HF.out, below_drewN hB _⟩
            · by_cases hk0 : k = 0
              · have HR : Hid (risesTo c.bnds (k + 1) = true) := risesTo_next0 HA.out HX.out hkey hk0
                have hg : decide (0 < k) = false := by rw [decide_eq_false_iff_not]; omega
                clear hk0
                go_wp2
                go_quiet ((go_at_call 56; exact quiet_left (refKey_any _ _ hsx)))
                go_wp2
                go_roundw
                case rel => exact ⟨k + 1, by omega, by go_num, HR, below_drewN hw _⟩
                case measure => simp [intOf]; omega
              · obtain ⟨b', off', y, e, hc', HY⟩ := StrsAt.at' h.strs (k := k - 1) (by omega)
                injection e with e
                injection e with e1 e2
                subst e1 e2
                have hg : decide (0 < k) = true := by rw [decide_eq_true_iff]; omega
                have hi : ((k : Int) - 1).toNat = k - 1 := by omega
                have hk1 : 1 ≤ k := by omega
                have hk1i : (1 : Int) ≤ (k : Int) := by omega
                have hk2i : (k : Int) - 1 < (c.bnds.length : Int) := by omega
                cases hl : lessS y x
                · have HF : Hid (formedB c = false) := formed_bnd hlt (by simp only [riseAt, HX.out, HY.out, hkey, hl, beq_eq_false_iff_ne.2 hk0, Bool.false_or, Bool.and_false])
                  have hl' : (Op.bytesLess x.toList y.toList || x.toList == y.toList) = true := lessS_no hl
                  clear hl hk0
                  go_wp2
                  go_quiet ((go_at_call 56; exact quiet_left (refKey_any _ _ hsx)))
                  go_wp2
                  go_ret
                  exact ⟨ret_bool HF.out, below_drewN hB _⟩
                · have HR : Hid (risesTo c.bnds (k + 1) = true) := risesTo_next HA.out HX.out HY.out hkey hl
                  have hl' : (Op.bytesLess x.toList y.toList || x.toList == y.toList) = false := lessS_yes hl
                  clear hl hk0
                  go_wp2
                  go_quiet ((go_at_call 56; exact quiet_left (refKey_any _ _ hsx)))
                  go_wp2
                  go_roundw
                  case rel => exact ⟨k + 1, by omega, by go_num, HR, below_drewN hw _⟩
                  case measure => simp [intOf]; omega
          · have ek : k = c.bnds.length := by omega
            have hlt2 : ¬ (k : Int) < (c.reps.length : Int) - 1 := by omega
            clear hk2
            have HF : Hid (formedB c = true) := formed_all HZ.out HR.out (by rw [← ek]; exact HA.out)
            clear ek
            go_wp2
            go_ret
            exact ⟨ret_bool HF.out, hB⟩
end Go.Proofs.YtjgloipgnnigmaaGreatDoor
