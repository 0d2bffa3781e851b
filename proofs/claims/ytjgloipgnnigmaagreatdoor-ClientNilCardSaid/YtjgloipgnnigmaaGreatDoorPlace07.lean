/- Layer 7's Place, the program's and the reference's, and whether a configuration is few. -/
import Derived.Test.YtjgloipgnnigmaaGreatDoorAt07
namespace Go.Proofs.YtjgloipgnnigmaaGreatDoor
open Go.RowKit Go.Shelf

theorem At_pair {P : Program} {f : FuncId} {args : Array Value} {w : World} {z : Int × Int} {x y : Int} (e : z = (x, y))
    (h : Calls P f args w fun e w' => e = .returned (.tuple #[.int .i64 z.1, .int .i64 z.2]) ∧ Below w.heap.size w w') :
    Calls P f args w fun e w' => e = .returned (.tuple #[.int .i64 x, .int .i64 y]) ∧ Below w.heap.size w w' := by
  rw [e] at h; exact h

set_option maxHeartbeats 1000000 in
theorem place_any (c : Cfg) (g n : Int) (A B : Option Addr) (ca cb : Nat) (w : World) (h : CfgAt w c A B) (hca : c.reps.length ≤ ca) :
    Calls Tryz.prog 87 #[.agg #[.slice A c.reps.length ca, .slice B c.bnds.length cb], .int .i64 g, .int .i64 n] w fun e w' => e = .returned (.int .i64 (placeZ c g n)) ∧ Below w.heap.size w w' := by
  obtain ⟨W, eW, HB, c0, c1⟩ := box2 w (.slice A c.reps.length ca) (.slice B c.bnds.length cb) 25
  have h := h.later HB
  cases hf : formedB c
  · have HE : Hid (placeZ c g n = -1) := place_not (by simp [hasB, hf])
    go_enter Tryz.func87, Tryz.ntmps87
    go_wp2_with (go_at_call 55; refine (formed_any c A B ca cb _ h).mono ?_; rintro e w1 ⟨rfl, hb⟩; replace c0 := keep hb c0; replace h := h.later hb; replace HB := keepB HB hb)
    go_ret
    exact ⟨ret_int HE.out, HB⟩
  · by_cases g0 : 0 ≤ g
    · by_cases g1 : g < c.reps.length
      · by_cases n0 : 0 ≤ n
        · obtain ⟨k, rfl⟩ := Int.eq_ofNat_of_zero_le g0
          have hk : k < c.reps.length := by omega
          obtain ⟨b, off, x, e, hc, HX⟩ := IntsAt.at' h.ints hk
          subst e
          by_cases n1 : n < x
          · have HE : Hid (placeZ c k n = sumTo c.reps k + n) := place_found hf hk n0 (by rw [HX.out]; exact n1)
            have HS : Hid (∀ k, k ≤ c.reps.length → (k : Int) ≤ sumTo c.reps k ∧ sumTo c.reps k ≤ 5 * k) := sumTo_range hf
            have HR : Hid (∀ k, k < c.reps.length → 1 ≤ c.reps.getD k 0 ∧ c.reps.getD k 0 ≤ 5) := fun k hk => formed_range hf hk
            have hx := HR.out k hk
            rw [HX.out] at hx
            have hn := (formed_len hf).2.1
            go_enter Tryz.func87, Tryz.ntmps87
            go_wp2_with (go_at_call 55; refine (formed_any c _ B ca cb _ h).mono ?_; rintro e w1 ⟨rfl, hb⟩; replace c0 := keep hb c0; replace hc := keep hb hc; replace h := h.later hb; replace HB := keepB HB hb)
            go_loop [2, 41] (fun q i => ∃ (j : Nat), j ≤ k ∧ i = .int .i64 j ∧ q = .int .i64 (n + sumTo c.reps j)) (fun _ i => k - (intOf i).toNat)
            case atStart => exact ⟨0, Nat.zero_le _, rfl, by show _ = Value.int .i64 (n + 0); rw [Int.add_zero]⟩
            case round =>
              obtain ⟨j, hj, rfl, rfl⟩ := hrel
              have hsj := HS.out j (by omega)
              by_cases hlt : j < k
              · obtain ⟨b', off', y, e, hc', HY⟩ := IntsAt.at' h.ints (k := j) (by omega)
                injection e with e
                injection e with e1 e2
                subst e1 e2
                have hy := HR.out j (by omega)
                rw [HY.out] at hy
                have HE2 : Hid (sumTo c.reps (j + 1) = sumTo c.reps j + y) := by show _ = _; rw [sumTo, HY.out]
                generalize hs : sumTo c.reps j = s at *
                clear hs
                go_wp2
                go_round
                case rel => exact ⟨j + 1, by omega, by go_num, by rw [HE2.out, Int.add_assoc]⟩
                case measure => simp [intOf]; omega
              · have HK : Hid (placeZ c k n = n + sumTo c.reps j) := by show _ = _; rw [HE.out, show j = k from by omega, Int.add_comm]
                generalize hs : sumTo c.reps j = s at *
                clear hs
                go_wp2
                go_ret
                exact ⟨ret_int HK.out, HB⟩
          · have HE : Hid (placeZ c k n = -1) := place_not (by
              cases hh : hasB c k n
              · rfl
              · have := (has_iff.1 hh).2.2.2.2
                simp only [Int.toNat_natCast, HX.out] at this
                omega)
            go_enter Tryz.func87, Tryz.ntmps87
            go_wp2_with (go_at_call 55; refine (formed_any c _ B ca cb _ h).mono ?_; rintro e w1 ⟨rfl, hb⟩; replace c0 := keep hb c0; replace hc := keep hb hc; replace h := h.later hb; replace HB := keepB HB hb)
            go_ret
            exact ⟨ret_int HE.out, HB⟩
        · have HE : Hid (placeZ c g n = -1) := place_not (by simp [hasB, n0])
          go_enter Tryz.func87, Tryz.ntmps87
          go_wp2_with (go_at_call 55; refine (formed_any c A B ca cb _ h).mono ?_; rintro e w1 ⟨rfl, hb⟩; replace c0 := keep hb c0; replace h := h.later hb; replace HB := keepB HB hb)
          go_ret
          exact ⟨ret_int HE.out, HB⟩
      · have HE : Hid (placeZ c g n = -1) := place_not (by simp [hasB, g1])
        go_enter Tryz.func87, Tryz.ntmps87
        go_wp2_with (go_at_call 55; refine (formed_any c A B ca cb _ h).mono ?_; rintro e w1 ⟨rfl, hb⟩; replace c0 := keep hb c0; replace h := h.later hb; replace HB := keepB HB hb)
        go_ret
        exact ⟨ret_int HE.out, HB⟩
    · have HE : Hid (placeZ c g n = -1) := place_not (by simp [hasB, g0])
      go_enter Tryz.func87, Tryz.ntmps87
      go_wp2_with (go_at_call 55; refine (formed_any c A B ca cb _ h).mono ?_; rintro e w1 ⟨rfl, hb⟩; replace c0 := keep hb c0; replace h := h.later hb; replace HB := keepB HB hb)
      go_ret
      exact ⟨ret_int HE.out, HB⟩

set_option maxHeartbeats 1000000 in
theorem refPlace_any (c : Cfg) (g n : Int) (A B : Option Addr) (ca cb : Nat) (w : World) (h : CfgAt w c A B) :
    Calls Tryz.prog 161 #[.agg #[.slice A c.reps.length ca, .slice B c.bnds.length cb], .int .i64 g, .int .i64 n] w fun e w' => e = .returned (.int .i64 (placeZ c g n)) ∧ Below w.heap.size w w' := by
  obtain ⟨W, eW, HB, c0, c1⟩ := box2 w (.slice A c.reps.length ca) (.slice B c.bnds.length cb) 25
  have h := h.later HB
  have h20 := tot_range c
  have HTOT : ∀ W : World, CfgAt W c A B → Calls Tryz.prog 188 #[.agg #[.slice A c.reps.length ca, .slice B c.bnds.length cb]] W fun e w' => e = .returned (.int .i64 (totZ c)) ∧ Below W.heap.size W w' := fun W hW => refTotal_any c A B ca cb W hW
  have HAT : Hid (∀ p, 0 ≤ p → p < totZ c → atZ c p = (g, n) → placeZ c g n = p) := fun p p0 p1 e => place_of_at p0 p1 e
  have HNO : Hid ((∀ p : Int, 0 ≤ p → p < totZ c → atZ c p ≠ (g, n)) → placeZ c g n = -1) := fun hno => place_not (by
    cases hh : hasB c g n
    · rfl
    · obtain ⟨q0, q1, q2⟩ := at_place hh
      exact absurd q2 (hno _ q0 q1))
  generalize totZ c = tot at *
  have HTOT := Lib.hid HTOT
  go_enter Tryz.func161, Tryz.ntmps161
  go_wp2_with fail
  clear eW
  go_loopw [7] (fun i wr => ∃ k : Int, 0 ≤ k ∧ k ≤ tot ∧ i = .int .i64 k ∧ Below W.heap.size W wr ∧ Hid (∀ p : Int, 0 ≤ p → p < k → atZ c p ≠ (g, n))) (fun i _ => (tot - intOf i).toNat)
  case atStart => exact ⟨0, Int.le_refl _, h20.1, rfl, Below.refl _ _, fun p h0 h1 => by omega⟩
  case round =>
    obtain ⟨k, k0, k1, rfl, hw, HN⟩ := hrel
    have h := h.later hw
    replace c0 := keep hw c0
    replace c1 := keep hw c1
    by_cases hlt : k < tot
    · obtain ⟨x, y, hxy⟩ : ∃ x y, atZ c k = (x, y) := ⟨_, _, rfl⟩
      have HXY := Lib.hid hxy
      clear hxy
      by_cases hxg : x = g
      · by_cases hyn : y = n
        · have HE : Hid (placeZ c g n = k) := HAT.out k k0 hlt (by rw [HXY.out, hxg, hyn])
          have e1 : (x == g) = true := by rw [beq_iff_eq]; exact hxg
          have e2 : (y == n) = true := by rw [beq_iff_eq]; exact hyn
          clear hxg hyn
          go_wp2_with (first
            | (go_at_call 188; refine (HTOT.out _ h).mono ?_; rintro e w1 ⟨rfl, hb⟩; replace c0 := keep hb c0; replace c1 := keep hb c1; replace h := h.later hb; replace hw := keepB hw hb)
            | (go_at_call 27; refine (At_pair HXY.out (refAt_any c k A B ca cb _ h)).mono ?_; rintro e w1 ⟨rfl, hb⟩; replace hw := keepB hw hb))
          go_ret
          exact ⟨ret_int HE.out, keepB HB hw⟩
        · have HM : Hid (∀ p : Int, 0 ≤ p → p < k + 1 → atZ c p ≠ (g, n)) := fun p p0 p1 e => by
            by_cases hpk : p = k
            · subst hpk; rw [HXY.out] at e; injection e with _ e; exact hyn e
            · exact HN.out p p0 (by omega) e
          have e1 : (x == g) = true := by rw [beq_iff_eq]; exact hxg
          have e2 : (y == n) = false := by rw [beq_eq_false_iff_ne]; exact hyn
          clear hxg hyn
          go_wp2_with (first
            | (go_at_call 188; refine (HTOT.out _ h).mono ?_; rintro e w1 ⟨rfl, hb⟩; replace c0 := keep hb c0; replace c1 := keep hb c1; replace h := h.later hb; replace hw := keepB hw hb)
            | (go_at_call 27; refine (At_pair HXY.out (refAt_any c k A B ca cb _ h)).mono ?_; rintro e w1 ⟨rfl, hb⟩; replace hw := keepB hw hb))
          go_roundw
          case rel => exact ⟨k + 1, by omega, by omega, rfl, hw, HM⟩
          case measure => simp [intOf]; omega
      · have HM : Hid (∀ p : Int, 0 ≤ p → p < k + 1 → atZ c p ≠ (g, n)) := fun p p0 p1 e => by
          by_cases hpk : p = k
          · subst hpk; rw [HXY.out] at e; injection e with e _; exact hxg e
          · exact HN.out p p0 (by omega) e
        have e1 : (x == g) = false := by rw [beq_eq_false_iff_ne]; exact hxg
        clear hxg
        go_wp2_with (first
          | (go_at_call 188; refine (HTOT.out _ h).mono ?_; rintro e w1 ⟨rfl, hb⟩; replace c0 := keep hb c0; replace c1 := keep hb c1; replace h := h.later hb; replace hw := keepB hw hb)
          | (go_at_call 27; refine (At_pair HXY.out (refAt_any c k A B ca cb _ h)).mono ?_; rintro e w1 ⟨rfl, hb⟩; replace hw := keepB hw hb))
        go_roundw
        case rel => exact ⟨k + 1, by omega, by omega, rfl, hw, HM⟩
        case measure => simp [intOf]; omega
    · have HE : Hid (placeZ c g n = -1) := HNO.out (fun p p0 p1 => HN.out p p0 (by omega))
      go_wp2_with (go_at_call 188; refine (HTOT.out _ h).mono ?_; rintro e w1 ⟨rfl, hb⟩; replace hw := keepB hw hb)
      go_ret
      exact ⟨ret_int HE.out, keepB HB hw⟩

/-- Up to the k-th no string is longer than 1000. -/
def shortTo (l : List ByteArray) (m : Nat) : Nat → Bool
  | 0 => true
  | k + 1 => shortTo l m k && decide ((l.getD k noStr).size ≤ m)
def fewB (c : Cfg) : Bool := shortTo c.bnds 1000 (min c.bnds.length 20) && decide (c.reps.length ≤ 20) && decide (c.bnds.length ≤ 20)
theorem shortTo_false {l : List ByteArray} {m k n : Nat} (hk : k < n) (h : ¬ (l.getD k noStr).size ≤ m) : shortTo l m n = false := by
  induction n with
  | zero => omega
  | succ n ih =>
    by_cases e : k = n
    · subst e; simp only [shortTo, decide_eq_false h, Bool.and_false]
    · simp [shortTo, ih (by omega)]
theorem shortTo_next {l : List ByteArray} {m k : Nat} {x : ByteArray} (h : shortTo l m k = true) (hx : l.getD k noStr = x) (hs : x.size ≤ m) : shortTo l m (k + 1) = true := by
  simp only [shortTo, h, hx, decide_eq_true hs, Bool.and_self]

set_option maxHeartbeats 1000000 in
theorem few_any (c : Cfg) (A B : Option Addr) (ca cb : Nat) (w : World) (h : CfgAt w c A B) :
    Calls Tryz.prog 34 #[.agg #[.slice A c.reps.length ca, .slice B c.bnds.length cb]] w fun e w' => e = .returned (.bool (fewB c)) ∧ Below w.heap.size w w' := by
  obtain ⟨W, eW, HB, c0, c1⟩ := box2 w (.slice A c.reps.length ca) (.slice B c.bnds.length cb) 25
  have h := h.later HB
  have hn := h.hn
  have hm := h.hm
  go_enter Tryz.func34, Tryz.ntmps34
  go_wp2_with fail
  clear eW
  go_loop [3] (fun i => ∃ k : Nat, k ≤ c.bnds.length ∧ k ≤ 20 ∧ i = .int .i64 k ∧ Hid (shortTo c.bnds 1000 k = true)) (fun i => c.bnds.length - (intOf i).toNat)
  case atStart => exact ⟨0, Nat.zero_le _, by omega, rfl, rfl⟩
  case round =>
    obtain ⟨k, hk, hk2, rfl, HA⟩ := hrel
    by_cases hlt : k < c.bnds.length ∧ k < 20
    · obtain ⟨hl1, hl2⟩ := hlt
      obtain ⟨b, off, x, rfl, hc, HX⟩ := StrsAt.at' h.strs hl1
      by_cases hs : x.size ≤ 1000
      · have HR : Hid (shortTo c.bnds 1000 (k + 1) = true) := shortTo_next HA.out HX.out hs
        go_wp2
        go_round
        case rel => exact ⟨k + 1, by omega, by omega, by go_num, HR⟩
        case measure => simp [intOf]; omega
      · have HF : Hid (fewB c = false) := by show _ = _; rw [fewB, shortTo_false (k := k) (by omega) (by rw [HX.out]; exact hs)]; rfl
        go_wp2
        go_ret
        exact ⟨ret_bool HF.out, HB⟩
    · have HK : Hid (shortTo c.bnds 1000 (min c.bnds.length 20) = true) := by show _ = _; rw [show min c.bnds.length 20 = k from by omega]; exact HA.out
      have HF : Hid (fewB c = (decide (c.reps.length ≤ 20) && decide (c.bnds.length ≤ 20))) := by show _ = _; rw [fewB, HK.out, Bool.true_and]
      by_cases hl1 : k < c.bnds.length
      · have hl2 : ¬ k < 20 := by omega
        by_cases q1 : c.reps.length ≤ 20
        · have q2 : ¬ c.bnds.length ≤ 20 := by omega
          clear hlt
          go_wp2
          go_ret
          exact ⟨ret_bool (by rw [HF.out]; simp [q1, q2]; try omega), HB⟩
        · clear hlt
          go_wp2
          go_ret
          exact ⟨ret_bool (by rw [HF.out]; simp [q1]), HB⟩
      · by_cases q1 : c.reps.length ≤ 20
        · have q2 : c.bnds.length ≤ 20 := by omega
          clear hlt
          go_wp2
          go_ret
          exact ⟨ret_bool (by rw [HF.out]; simp [q1, q2]; try omega), HB⟩
        · clear hlt
          go_wp2
          go_ret
          exact ⟨ret_bool (by rw [HF.out]; simp [q1]), HB⟩
end Go.Proofs.YtjgloipgnnigmaaGreatDoor
