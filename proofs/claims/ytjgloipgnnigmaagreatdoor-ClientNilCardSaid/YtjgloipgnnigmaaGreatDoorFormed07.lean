/- config.Formed and the reference's Formed: both tell formedB of every configuration. -/
import Derived.Test.YtjgloipgnnigmaaGreatDoorKey
namespace Go.Proofs.YtjgloipgnnigmaaGreatDoor
open Go.RowKit Go.Shelf

theorem repOK_no {n : Int} (h1 : n ≠ 1) (h3 : n ≠ 3) (h5 : n ≠ 5) : repOK n = false := by simp [repOK, h1, h3, h5]
theorem lessS_def (a b : ByteArray) : Op.bytesLess a.toList b.toList = lessS a b := rfl

set_option maxHeartbeats 1000000 in
theorem formed_any (c : Cfg) (A B : Option Addr) (ca cb : Nat) (w : World) (h : CfgAt w c A B) :
    Calls Tryz.prog 55 #[.agg #[.slice A c.reps.length ca, .slice B c.bnds.length cb]] w fun e w' => e = .returned (.bool (formedB c)) ∧ Below w.heap.size w w' := by
  cases hz : sizesB c
  · rw [formed_sizes hz]
    have hn := h.hn
    have hm := h.hm
    by_cases z1 : 1 ≤ c.reps.length
    · by_cases z2 : c.reps.length ≤ 4
      · have z3 : c.bnds.length + 1 ≠ c.reps.length := by
          intro e
          simp [sizesB, z1, z2, e] at hz
        have z3' : ((c.bnds.length : Int) != (c.reps.length : Int) - 1) = true := by rw [bne_iff_ne]; omega
        clear hz z3
        obtain ⟨W, eW, HB, c0, c1⟩ := box2 w (.slice A c.reps.length ca) (.slice B c.bnds.length cb) 25
        go_enter Tryz.func55, Tryz.ntmps55
        go_wp2
        go_ret
        exact ⟨rfl, HB⟩
      · clear hz
        obtain ⟨W, eW, HB, c0, c1⟩ := box2 w (.slice A c.reps.length ca) (.slice B c.bnds.length cb) 25
        go_enter Tryz.func55, Tryz.ntmps55
        go_wp2
        go_ret
        exact ⟨rfl, HB⟩
    · clear hz
      obtain ⟨W, eW, HB, c0, c1⟩ := box2 w (.slice A c.reps.length ca) (.slice B c.bnds.length cb) 25
      go_enter Tryz.func55, Tryz.ntmps55
      go_wp2
      go_ret
      exact ⟨rfl, HB⟩
  · have h1 : 1 ≤ c.reps.length ∧ c.reps.length ≤ 4 ∧ c.bnds.length + 1 = c.reps.length := by simpa [sizesB, and_assoc] using hz
    obtain ⟨z1, z2, z3⟩ := h1
    have z3' : ((c.bnds.length : Int) != (c.reps.length : Int) - 1) = false := by rw [bne_eq_false_iff_eq]; omega
    have zm : c.bnds.length ≤ 3 := by omega
    have HZ := Lib.hid hz
    clear z3 hz
    obtain ⟨W, eW, HB, c0, c1⟩ := box2 w (.slice A c.reps.length ca) (.slice B c.bnds.length cb) 25
    have h := h.later HB
    go_enter Tryz.func55, Tryz.ntmps55
    go_wp2_with fail
    clear eW z3'
    go_loop [30] (fun i => ∃ k : Nat, k ≤ c.reps.length ∧ i = .int .i64 k ∧ Hid (repsTo c.reps k = true)) (fun i => c.reps.length - (intOf i).toNat)
    case atStart => exact ⟨0, Nat.zero_le _, rfl, rfl⟩
    case round =>
      obtain ⟨k, hk, rfl, HA⟩ := hrel
      by_cases hlt : k < c.reps.length
      · obtain ⟨b, off, x, rfl, hc, HX⟩ := IntsAt.at' h.ints hlt
        cases hr : repOK x
        · have HF : Hid (formedB c = false) := formed_rep hlt (by rw [HX.out]; exact hr)
          have n1 : (x != 1) = true := by rw [bne_iff_ne]; rintro rfl; exact absurd hr (by decide)
          have n3 : (x != 3) = true := by rw [bne_iff_ne]; rintro rfl; exact absurd hr (by decide)
          have n5 : (x != 5) = true := by rw [bne_iff_ne]; rintro rfl; exact absurd hr (by decide)
          clear hr
          go_wp2
          go_ret
          exact ⟨ret_bool HF.out, HB⟩
        · have HR : Hid (repsTo c.reps (k + 1) = true) := by show _ = _; simp only [repsTo, HA.out, HX.out, hr, Bool.and_self]
          have hor : x = 1 ∨ x = 3 ∨ x = 5 := by simpa [repOK, or_assoc] using hr
          clear hr
          rcases hor with rfl | rfl | rfl
          all_goals
            go_wp2
            go_round
            case rel => exact ⟨k + 1, by omega, by go_num, HR⟩
            case measure => simp [intOf]; omega
      · have ek : k = c.reps.length := by omega
        have HR : Hid (repsTo c.reps c.reps.length = true) := by rw [← ek]; exact HA
        clear HA
        go_wp2
        go_loopw [48] (fun i wr => ∃ k : Nat, k ≤ c.bnds.length ∧ i = .int .i64 k ∧ Hid (risesTo c.bnds k = true) ∧ Below W.heap.size W wr) (fun i _ => c.bnds.length - (intOf i).toNat)
        case atStart => exact ⟨0, Nat.zero_le _, rfl, rfl, Below.refl _ _⟩
        case round =>
          obtain ⟨k, hk, rfl, HA, hw⟩ := hrel
          have hB := keepB HB hw
          have h := h.later hw
          replace c0 := keep hw c0
          replace c1 := keep hw c1
          by_cases hlt : k < c.bnds.length
          · obtain ⟨b, off, x, rfl, hc, HX⟩ := StrsAt.at' h.strs hlt
            have hsx : x.size ≤ maxLen := by have := h.hs k hlt; rw [HX.out] at this; exact this
            cases hkey : keyB x
            · have HF : Hid (formedB c = false) := formed_bnd hlt (by simp only [riseAt, HX.out, hkey, Bool.false_and])
              go_wp2_with (go_at_call 36; refine (key_any _ _ hsx).mono ?_; rintro e w2 ⟨rfl, hb⟩; replace hB := keepB hB hb)
              go_ret
              exact ⟨ret_bool HF.out, hB⟩
            · by_cases hk0 : k = 0
              · have HR : Hid (risesTo c.bnds (k + 1) = true) := risesTo_next0 HA.out HX.out hkey hk0
                have hg : decide (0 < k) = false := by rw [decide_eq_false_iff_not]; omega
                clear hk0
                go_wp2_with (go_at_call 36; refine (key_any _ _ hsx).mono ?_; rintro e w2 ⟨rfl, hb⟩; replace hw := hw.trans (hb.mono hw.size))
                go_roundw
                case rel => exact ⟨k + 1, by omega, by go_num, HR, hw⟩
                case measure => simp [intOf]; omega
              · obtain ⟨b', off', y, e, hc', HY⟩ := StrsAt.at' h.strs (k := k - 1) (by omega)
                injection e with e
                injection e with e1 e2
                subst e1 e2
                have hg : decide (0 < k) = true := by rw [decide_eq_true_iff]; omega
                have hi : ((k : Int) - 1).toNat = k - 1 := by omega
                have hk1 : 1 ≤ k := by omega
                cases hl : lessS y x
                · have HF : Hid (formedB c = false) := formed_bnd hlt (by simp only [riseAt, HX.out, HY.out, hkey, hl, beq_eq_false_iff_ne.2 hk0, Bool.false_or, Bool.and_false])
                  have hl' : Op.bytesLess y.toList x.toList = false := hl
                  clear hl hk0
                  go_wp2_with (go_at_call 36; refine (key_any _ _ hsx).mono ?_; rintro e w2 ⟨rfl, hb⟩; replace hc' := keep hb hc'; replace c1 := keep hb c1; replace hB := keepB hB hb)
                  go_ret
                  exact ⟨ret_bool HF.out, hB⟩
                · have HR : Hid (risesTo c.bnds (k + 1) = true) := risesTo_next HA.out HX.out HY.out hkey hl
                  have hl' : Op.bytesLess y.toList x.toList = true := hl
                  clear hl hk0
                  go_wp2_with (go_at_call 36; refine (key_any _ _ hsx).mono ?_; rintro e w2 ⟨rfl, hb⟩; replace hc' := keep hb hc'; replace c1 := keep hb c1; replace hw := hw.trans (hb.mono hw.size))
                  go_roundw
                  case rel => exact ⟨k + 1, by omega, by go_num, HR, hw⟩
                  case measure => simp [intOf]; omega
          · have ek : k = c.bnds.length := by omega
            have HF : Hid (formedB c = true) := formed_all HZ.out HR.out (by rw [← ek]; exact HA.out)
            go_wp2
            go_ret
            exact ⟨ret_bool HF.out, hB⟩
end Go.Proofs.YtjgloipgnnigmaaGreatDoor
