/- Layer 7's Total, At and Place, the program's and the reference's: what each returns, of every configuration. -/
import Derived.Test.YtjgloipgnnigmaaGreatDoorRefFormed07
import Derived.Test.YtjgloipgnnigmaaGreatDoorPlaces07
namespace Go.Proofs.YtjgloipgnnigmaaGreatDoor
open Go.RowKit Go.Shelf

theorem ret_int {k : IntKind} {a b : Int} (h : a = b) : Ending.returned (.int k b) = .returned (.int k a) := by rw [h]
theorem tot_yes {c : Cfg} (h : formedB c = true) : totZ c = sumTo c.reps c.reps.length := by simp [totZ, h]
theorem tot_no {c : Cfg} (h : formedB c = false) : totZ c = 0 := by simp [totZ, h]

set_option maxHeartbeats 1000000 in
theorem refTotal_any (c : Cfg) (A B : Option Addr) (ca cb : Nat) (w : World) (h : CfgAt w c A B) :
    Calls Tryz.prog 188 #[.agg #[.slice A c.reps.length ca, .slice B c.bnds.length cb]] w fun e w' => e = .returned (.int .i64 (totZ c)) ∧ Below w.heap.size w w' := by
  obtain ⟨W, eW, HB, c0, c1⟩ := box2 w (.slice A c.reps.length ca) (.slice B c.bnds.length cb) 25
  have h := h.later HB
  have hnn := h.hn
  cases hf : formedB c
  · have HT := Lib.hid (tot_no hf)
    go_enter Tryz.func188, Tryz.ntmps188
    go_wp2_with fail
    clear eW
    refine wp_loop_rounds 1 ?_
    rw [rounds_succ]
    by_cases h0 : 0 < c.reps.length
    · go_wp2_with (go_at_call 21; refine (refFormed_any c A B ca cb _ h).mono ?_; rintro e w1 ⟨rfl, hb⟩; replace HB := keepB HB hb)
      go_ret
      exact ⟨ret_int HT.out, HB⟩
    · have h1 : c.reps.length = 0 := by omega
      go_wp2
      go_ret
      exact ⟨ret_int HT.out, HB⟩
  · have HT := Lib.hid (tot_yes hf)
    have HS : Hid (∀ k, k ≤ c.reps.length → (k : Int) ≤ sumTo c.reps k ∧ sumTo c.reps k ≤ 5 * k) := sumTo_range hf
    have hn := (formed_len hf).2.1
    have HR : Hid (∀ k, k < c.reps.length → 1 ≤ c.reps.getD k 0 ∧ c.reps.getD k 0 ≤ 5) := fun k hk => formed_range hf hk
    go_enter Tryz.func188, Tryz.ntmps188
    go_wp2_with fail
    clear eW
    go_loopw [3, 4] (fun n i wr => ∃ k : Nat, k ≤ c.reps.length ∧ i = .int .i64 k ∧ n = .int .i64 (sumTo c.reps k) ∧ Below W.heap.size W wr) (fun _ i _ => c.reps.length - (intOf i).toNat)
    case atStart => exact ⟨0, Nat.zero_le _, rfl, rfl, Below.refl _ _⟩
    case round =>
      obtain ⟨k, hk, rfl, rfl, hw⟩ := hrel
      obtain ⟨s1, s2⟩ := HS.out k hk
      have h := h.later hw
      replace c0 := keep hw c0
      replace c1 := keep hw c1
      by_cases hlt : k < c.reps.length
      · obtain ⟨b, off, x, rfl, hc, HX⟩ := IntsAt.at' h.ints hlt
        have hx := HR.out k hlt
        rw [HX.out] at hx
        obtain ⟨x1, x2⟩ := hx
        have HE : Hid (sumTo c.reps (k + 1) = sumTo c.reps k + x) := by show _ = _; rw [sumTo, HX.out]
        generalize sumTo c.reps k = s at *
        go_wp2_with (go_at_call 21; refine (refFormed_any c _ B ca cb _ h).mono ?_; rintro e w1 ⟨rfl, hb⟩; replace c0 := keep hb c0; replace c1 := keep hb c1; replace hc := keep hb hc; replace hw := keepB hw hb)
        go_roundw
        case rel => exact ⟨k + 1, by omega, by go_num, by rw [HE.out], hw⟩
        case measure => simp [intOf]; omega
      · have HK : Hid (totZ c = sumTo c.reps k) := by show _ = _; rw [HT.out, show k = c.reps.length from by omega]
        generalize sumTo c.reps k = s at *
        go_wp2
        go_ret
        exact ⟨ret_int HK.out, keepB HB hw⟩
end Go.Proofs.YtjgloipgnnigmaaGreatDoor
