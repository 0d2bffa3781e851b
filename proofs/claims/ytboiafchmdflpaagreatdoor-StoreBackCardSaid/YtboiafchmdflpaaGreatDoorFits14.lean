/- store.fits. -/
import Derived.Test.YtboiafchmdflpaaGreatDoorGI
import Derived.Deep.DeepCutAuto
namespace Go.Proofs.YtboiafchmdflpaaGreatDoor
open Go.RowKit Go.Maps Go.Sort Go.Shelf

theorem fits_no {last low : Nat} {l : List Ver} {i : Nat} (hi : i < l.length) (h : fitAt last low l i = false) : fitsB last low l = false := by
  unfold fitsB
  rw [Bool.and_eq_false_iff]
  right
  rw [Bool.eq_false_iff]
  intro h2
  rw [List.all_eq_true] at h2
  have := h2 i (by simpa using hi)
  rw [h] at this
  cases this
theorem fits_next {last low : Nat} {l : List Ver} {i : Nat} (h0 : (List.range i).all (fitAt last low l) = true) (h : fitAt last low l i = true) : (List.range (i + 1)).all (fitAt last low l) = true := by
  rw [List.range_succ, List.all_append, h0, Bool.true_and]
  simpa using h
set_option maxRecDepth 100000 in
set_option maxHeartbeats 8000000 in
theorem fits14_any {w : World} {p la lo : Nat} (c1 : w.cell? ⟨p, 1, none⟩ = some (.int .u64 (la : Int))) (c2 : w.cell? ⟨p, 2, none⟩ = some (.int .u64 (lo : Int))) (l : List Ver) (A : Option Addr) (ca : Nat) (hA : VersAt w A l) (hn : l.length ≤ 4294967296) :
    Calls Tryz.prog 42 #[.pointer (some ⟨p, 0, none⟩), .slice A l.length ca] w fun e w' => e = .returned (.bool (fitsB la lo l)) ∧ Below w.heap.size w w' := by
  go_enter Tryz.func42, Tryz.ntmps42
  go_wp2
  go_loopw [9] (fun iv wr => ∃ i : Nat, i ≤ l.length ∧ iv = .int .i64 i ∧ Hid ((List.range i).all (fitAt la lo l) = true) ∧ Below w.heap.size w wr) (fun iv _ => l.length - (intOf iv).toNat)
  case atStart => exact ⟨0, Nat.zero_le _, rfl, rfl, Below.refl _ _⟩
  case round =>
    obtain ⟨i, hi, rfl, HA, hw⟩ := hrel
    obtain ⟨wi, rfl⟩ : ∃ wi : World, wi = wr := ⟨_, rfl⟩
    replace c1 := keep hw c1
    replace c2 := keep hw c2
    by_cases hlt : i < l.length
    · obtain ⟨b, off, n, z, bt, t, rfl, d0, d1, d2, d3, HV⟩ := (hA.later hw).at' hlt
      have hki : (i : Int) < (l.length : Int) := by omega
      obtain ⟨wv, eWv, HBv, hszv, hrowv⟩ := new4 wi (.int .u64 (n : Int)) (.int .i64 z) (.int .u64 (bt : Int)) (.string t) 72
      obtain ⟨x0, x1, x2, x3, _⟩ := cells4 hrowv
      replace c1 := keep HBv c1
      replace c2 := keep HBv c2
      have hfit := fitAt_iff (last := la) (low := lo) (l := l) (i := i)
      rw [HV.out] at hfit
      replace hfit : fitAt la lo l i = true ↔ n ≤ la ∧ 1 ≤ n ∧ (0 < i → n < (l.getD (i - 1) noVer).num) ∧ (0 < i → lo < (l.getD (i - 1) noVer).num) ∧ (n ≤ lo → z ≠ 0) := hfit
      have hb9 := keepB hw HBv
      replace hszv := Lib.hid hszv
      clear hrowv
      by_cases q1 : la < n
      · have _h1 := q1
        have t1 : decide ((la : Int) < (n : Int)) = true := decide_eq_true (by omega)
        have t1n : decide (la < n) = true := decide_eq_true (by omega)
        replace q1 := Lib.hid q1
        clear _h1
        have HNo : Hid (fitsB la lo l = false) := fits_no hlt (by rw [Bool.eq_false_iff]; intro h9; have h8 := hfit.1 h9; have := q1.out; omega)
        clear hfit
        go_wp2
        clear eWv
        go_quiet (fail)
        go_wp2
        go_ret
        exact ⟨by rw [HNo.out]; rfl, below_drewN hb9 _⟩
      have t1 : decide ((la : Int) < (n : Int)) = false := decide_eq_false (by omega)
      have t1n : decide (la < n) = false := decide_eq_false (by omega)
      by_cases q2 : n = 0
      · have _h2 := q2
        have t2 : ((n : Int) == 0) = true := by rw [beq_iff_eq]; omega
        have t2n : (n == 0) = true := by rw [beq_iff_eq]; omega
        replace q2 := Lib.hid q2
        clear _h2 q1
        have HNo : Hid (fitsB la lo l = false) := fits_no hlt (by rw [Bool.eq_false_iff]; intro h9; have h8 := hfit.1 h9; have := q2.out; omega)
        clear hfit
        go_wp2
        clear eWv
        go_quiet (fail)
        go_wp2
        go_ret
        exact ⟨by rw [HNo.out]; rfl, below_drewN hb9 _⟩
      have t2 : ((n : Int) == 0) = false := by rw [beq_eq_false_iff_ne]; omega
      have t2n : (n == 0) = false := by rw [beq_eq_false_iff_ne]; omega
      by_cases q0 : i = 0
      · have t0 : decide ((0 : Int) < (i : Int)) = false := decide_eq_false (by omega)
        have t0n : decide (0 < i) = false := decide_eq_false (by omega)
        replace q0 := Lib.hid q0
        by_cases q5 : n ≤ lo
        · have _h5 := q5
          have t5 : decide ((n : Int) ≤ (lo : Int)) = true := decide_eq_true (by omega)
          have t5n : decide (n ≤ lo) = true := decide_eq_true (by omega)
          by_cases q6 : z = 0
          · have t6 : (z == 0) = true := by rw [q6]; rfl
            have q6h := Lib.hid q6
            clear q6 _h5
            have HNo : Hid (fitsB la lo l = false) := fits_no hlt (by rw [Bool.eq_false_iff]; intro h9; have h8 := hfit.1 h9; exact h8.2.2.2.2 q5 q6h.out)
            clear hfit
            go_wp2
            clear eWv
            go_quiet (fail)
            go_wp2
            go_ret
            exact ⟨by rw [HNo.out]; rfl, below_drewN hb9 _⟩
          · have t6 : (z == 0) = false := by rw [beq_eq_false_iff_ne]; exact q6
            have q6h := Lib.hid q6
            clear q6 _h5
            have HYes : Hid ((List.range (i + 1)).all (fitAt la lo l) = true) := fits_next HA.out (hfit.2 ⟨by omega, by omega, fun h => absurd q0.out (by omega), fun h => absurd q0.out (by omega), fun _ => q6h.out⟩)
            clear hfit
            go_wp2
            clear eWv
            go_quiet (fail)
            go_wp2
            go_roundw
            case rel => exact ⟨i + 1, by omega, by go_num, HYes, below_drewN hb9 _⟩
            case measure => simp [intOf]; omega
        · have _h5 := q5
          have t5 : decide ((n : Int) ≤ (lo : Int)) = false := decide_eq_false (by omega)
          have t5n : decide (n ≤ lo) = false := decide_eq_false (by omega)
          clear _h5
          have HYes : Hid ((List.range (i + 1)).all (fitAt la lo l) = true) := fits_next HA.out (hfit.2 ⟨by omega, by omega, fun h => absurd q0.out (by omega), fun h => absurd q0.out (by omega), fun h => absurd h q5⟩)
          clear hfit
          go_wp2
          clear eWv
          go_quiet (fail)
          go_wp2
          go_roundw
          case rel => exact ⟨i + 1, by omega, by go_num, HYes, below_drewN hb9 _⟩
          case measure => simp [intOf]; omega
      · have t0 : decide ((0 : Int) < (i : Int)) = true := decide_eq_true (by omega)
        have t0n : decide (0 < i) = true := decide_eq_true (by omega)
        obtain ⟨im, him⟩ : ∃ im, Hid (i - 1 = im) := ⟨_, rfl⟩
        rw [him.out] at hfit
        have himo := him.out
        have hwi : IntKind.i64.wrap ((i : Int) - 1) = (im : Int) := by rw [show ((i : Int) - 1) = (im : Int) by omega]; exact IntWalk.i64_in _ (by omega)
        have him0 : (0 : Int) ≤ (im : Int) := by omega
        have himl : (im : Int) < (l.length : Int) := by omega
        obtain ⟨b2, off2, n2, _, _, _, e9, g0, _, _, _, HV2⟩ := ((hA.later hw).later HBv).at' (k := im) (by omega)
        injection e9 with e9
        injection e9 with e9 e8
        subst e9 e8
        rw [HV2.out] at hfit
        replace hfit : fitAt la lo l i = true ↔ n ≤ la ∧ 1 ≤ n ∧ (0 < i → n < n2) ∧ (0 < i → lo < n2) ∧ (n ≤ lo → z ≠ 0) := hfit
        clear himo
        have q0h := Lib.hid q0
        by_cases q3 : n2 ≤ n
        · have _h3 := q3
          have t3 : decide ((n2 : Int) ≤ (n : Int)) = true := decide_eq_true (by omega)
          have t3n : decide (n2 ≤ n) = true := decide_eq_true (by omega)
          clear _h3 q0
          have HNo : Hid (fitsB la lo l = false) := fits_no hlt (by rw [Bool.eq_false_iff]; intro h9; have h8 := hfit.1 h9; have := h8.2.2.1 (by have := q0h.out; omega); omega)
          clear hfit
          go_wp2
          clear eWv
          go_quiet (fail)
          go_wp2
          go_ret
          exact ⟨by rw [HNo.out]; rfl, below_drewN hb9 _⟩
        have t3 : decide ((n2 : Int) ≤ (n : Int)) = false := decide_eq_false (by omega)
        have t3n : decide (n2 ≤ n) = false := decide_eq_false (by omega)
        by_cases q4 : n2 ≤ lo
        · have _h4 := q4
          have t4 : decide ((n2 : Int) ≤ (lo : Int)) = true := decide_eq_true (by omega)
          have t4n : decide (n2 ≤ lo) = true := decide_eq_true (by omega)
          clear _h4 q0
          have HNo : Hid (fitsB la lo l = false) := fits_no hlt (by rw [Bool.eq_false_iff]; intro h9; have h8 := hfit.1 h9; have := h8.2.2.2.1 (by have := q0h.out; omega); omega)
          clear hfit
          go_wp2
          clear eWv
          go_quiet (fail)
          go_wp2
          go_ret
          exact ⟨by rw [HNo.out]; rfl, below_drewN hb9 _⟩
        have t4 : decide ((n2 : Int) ≤ (lo : Int)) = false := decide_eq_false (by omega)
        have t4n : decide (n2 ≤ lo) = false := decide_eq_false (by omega)
        by_cases q5 : n ≤ lo
        · have _h5 := q5
          have t5 : decide ((n : Int) ≤ (lo : Int)) = true := decide_eq_true (by omega)
          have t5n : decide (n ≤ lo) = true := decide_eq_true (by omega)
          by_cases q6 : z = 0
          · have t6 : (z == 0) = true := by rw [q6]; rfl
            have q6h := Lib.hid q6
            clear q6 _h5
            have HNo : Hid (fitsB la lo l = false) := fits_no hlt (by rw [Bool.eq_false_iff]; intro h9; have h8 := hfit.1 h9; exact h8.2.2.2.2 q5 q6h.out)
            clear hfit
            go_wp2
            clear eWv
            go_quiet (fail)
            go_wp2
            go_ret
            exact ⟨by rw [HNo.out]; rfl, below_drewN hb9 _⟩
          · have t6 : (z == 0) = false := by rw [beq_eq_false_iff_ne]; exact q6
            have q6h := Lib.hid q6
            clear q6 _h5
            have HYes : Hid ((List.range (i + 1)).all (fitAt la lo l) = true) := fits_next HA.out (hfit.2 ⟨by omega, by omega, fun _ => by omega, fun _ => by omega, fun _ => q6h.out⟩)
            clear hfit
            go_wp2
            clear eWv
            go_quiet (fail)
            go_wp2
            go_roundw
            case rel => exact ⟨i + 1, by omega, by go_num, HYes, below_drewN hb9 _⟩
            case measure => simp [intOf]; omega
        · have _h5 := q5
          have t5 : decide ((n : Int) ≤ (lo : Int)) = false := decide_eq_false (by omega)
          have t5n : decide (n ≤ lo) = false := decide_eq_false (by omega)
          clear _h5
          have HYes : Hid ((List.range (i + 1)).all (fitAt la lo l) = true) := fits_next HA.out (hfit.2 ⟨by omega, by omega, fun _ => by omega, fun _ => by omega, fun h => absurd h q5⟩)
          clear hfit
          go_wp2
          clear eWv
          go_quiet (fail)
          go_wp2
          go_roundw
          case rel => exact ⟨i + 1, by omega, by go_num, HYes, below_drewN hb9 _⟩
          case measure => simp [intOf]; omega
    · obtain rfl : i = l.length := by omega
      have HE : Hid (fitsB la lo l = decide (0 < l.length)) := by show _ = _; rw [fitsB, HA.out, Bool.and_true]
      clear hlt
      go_wp2
      go_ret
      exact ⟨by rw [HE.out]; simp, hw⟩
end Go.Proofs.YtboiafchmdflpaaGreatDoor
