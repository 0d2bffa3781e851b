/- Layer 7's At and Place, the program's and the reference's: what each returns, of every configuration. -/
import Derived.Test.YtjgloipgnnigmaaGreatDoorTotal07
namespace Go.Proofs.YtjgloipgnnigmaaGreatDoor
open Go.RowKit Go.Shelf

theorem ret_pair {a b : Int} {p : Int × Int} (h : p = (a, b)) : Ending.returned (.tuple #[.int .i64 a, .int .i64 b]) = .returned (.tuple #[.int .i64 p.1, .int .i64 p.2]) := by rw [h]

theorem atGo_hit {l : List Int} {f g : Nat} {p x : Int} (hx : l.getD g 0 = x) (h : p < x) : atGo l (f + 1) g p = ((g : Int), p) := by
  unfold atGo; rw [hx, if_pos h]
theorem atGo_next {l : List Int} {f g : Nat} {p x : Int} (hx : l.getD g 0 = x) (h : ¬ p < x) : atGo l (f + 1) g p = atGo l f (g + 1) (p - x) := by
  conv => lhs; unfold atGo
  rw [hx, if_neg h]

set_option maxHeartbeats 1000000 in
theorem refAt_any (c : Cfg) (p : Int) (A B : Option Addr) (ca cb : Nat) (w : World) (h : CfgAt w c A B) :
    Calls Tryz.prog 27 #[.agg #[.slice A c.reps.length ca, .slice B c.bnds.length cb], .int .i64 p] w fun e w' => e = .returned (.tuple #[.int .i64 (atZ c p).1, .int .i64 (atZ c p).2]) ∧ Below w.heap.size w w' := by
  obtain ⟨W, eW, HB, c0, c1⟩ := box2 w (.slice A c.reps.length ca) (.slice B c.bnds.length cb) 25
  have h := h.later HB
  have hnn := h.hn
  cases hf : formedB c
  · have HE : Hid (atZ c p = (-1, -1)) := at_none (by rw [tot_no hf]; omega)
    go_enter Tryz.func27, Tryz.ntmps27
    go_wp2_with fail
    clear eW
    refine wp_loop_rounds 1 ?_
    rw [rounds_succ]
    by_cases h0 : 0 < c.reps.length
    · go_wp2_with (go_at_call 21; refine (refFormed_any c A B ca cb _ h).mono ?_; rintro e w1 ⟨rfl, hb⟩; replace HB := keepB HB hb)
      go_ret2
      exact ⟨ret_pair HE.out, HB⟩
    · have h1 : c.reps.length = 0 := by omega
      go_wp2
      go_ret2
      exact ⟨ret_pair HE.out, HB⟩
  · have HT := Lib.hid (tot_yes hf)
    have hff := Lib.hid hf
    have HS : Hid (∀ k, k ≤ c.reps.length → (k : Int) ≤ sumTo c.reps k ∧ sumTo c.reps k ≤ 5 * k) := sumTo_range hf
    have hn := (formed_len hf).2.1
    have HR : Hid (∀ k, k < c.reps.length → 1 ≤ c.reps.getD k 0 ∧ c.reps.getD k 0 ≤ 5) := fun k hk => formed_range hf hk
    go_enter Tryz.func27, Tryz.ntmps27
    go_wp2_with fail
    clear eW
    go_loopw [6, 7] (fun n i wr => ∃ k : Nat, k ≤ c.reps.length ∧ i = .int .i64 k ∧ n = .int .i64 (sumTo c.reps k) ∧ Below W.heap.size W wr ∧ ¬ (0 ≤ p ∧ p < sumTo c.reps k)) (fun _ i _ => c.reps.length - (intOf i).toNat)
    case atStart => exact ⟨0, Nat.zero_le _, rfl, rfl, Below.refl _ _, by show ¬ (0 ≤ p ∧ p < 0); omega⟩
    case round =>
      obtain ⟨k, hk, rfl, rfl, hw, hno⟩ := hrel
      obtain ⟨s1, s2⟩ := HS.out k hk
      have h := h.later hw
      replace c0 := keep hw c0
      replace c1 := keep hw c1
      by_cases hlt : k < c.reps.length
      · obtain ⟨b, off, x, rfl, hc, HX⟩ := IntsAt.at' h.ints hlt
        have hx := HR.out k hlt
        rw [HX.out] at hx
        obtain ⟨x1, x2⟩ := hx
        have HE : Hid (sumTo c.reps (k + 1) = sumTo c.reps k + x) := by show _ = _; rw [sumTo, HX.out]
        have HF : Hid (∀ m : Int, 0 ≤ m → m < x → atZ c (sumTo c.reps k + m) = ((k : Int), m)) := fun m m0 m1 => at_found hff.out hlt m0 (by rw [HX.out]; exact m1)
        generalize hs : sumTo c.reps k = s at *
        clear hs
        go_wp2_with (go_at_call 21; refine (refFormed_any c _ B ca cb _ h).mono ?_; rintro e w1 ⟨rfl, hb⟩; replace c0 := keep hb c0; replace c1 := keep hb c1; replace hc := keep hb hc; replace hw := keepB hw hb)
        go_loop [6, 8] (fun n i => ∃ m : Int, 0 ≤ m ∧ m ≤ x ∧ i = .int .i64 m ∧ n = .int .i64 (s + m) ∧ ¬ (0 ≤ p ∧ p < s + m)) (fun _ i => (x - intOf i).toNat)
        case atStart => exact ⟨0, by omega, by omega, rfl, by rw [Int.add_zero], by rw [Int.add_zero]; exact hno⟩
        case round =>
          obtain ⟨m, m0, m1, rfl, rfl, hno2⟩ := hrel
          by_cases hm : m < x
          · by_cases hp : s + m = p
            · have HE2 : Hid (atZ c p = ((k : Int), m)) := by show _ = _; rw [← hp]; exact HF.out m m0 hm
              have hpb : (s + m == p) = true := by rw [beq_iff_eq]; exact hp
              clear hp hno hno2
              go_wp2
              go_ret2
              exact ⟨ret_pair HE2.out, keepB HB hw⟩
            · have hpb : (s + m == p) = false := by rw [beq_eq_false_iff_ne]; exact hp
              have hno3 : ¬ (0 ≤ p ∧ p < s + (m + 1)) := by omega
              have HN := Lib.hid hno3
              clear hp hno hno2 hno3
              go_wp2
              go_round
              case rel => exact ⟨m + 1, by omega, by omega, rfl, by rw [Int.add_assoc], HN.out⟩
              case measure => simp [intOf]; omega
          · have hmx : m = x := by omega
            have hno3 : ¬ (0 ≤ p ∧ p < s + x) := by omega
            have HN := Lib.hid hno3
            subst hmx
            clear hno hno2 hno3
            go_wp2
            go_roundw
            case rel => exact ⟨k + 1, by omega, by go_num, by rw [HE.out], hw, by rw [HE.out]; exact HN.out⟩
            case measure => simp [intOf]; omega
      · have HK : Hid (atZ c p = (-1, -1)) := by
          show _ = _
          have e : k = c.reps.length := by omega
          subst e
          exact at_none (by rw [HT.out]; exact hno)
        generalize hs : sumTo c.reps k = s at *
        clear hs hno
        go_wp2
        go_ret2
        exact ⟨ret_pair HK.out, keepB HB hw⟩
end Go.Proofs.YtjgloipgnnigmaaGreatDoor
