/- Layer 7's Place, the program's and the reference's, and whether a configuration is few. -/
import Derived.Test.YtjgloipgnnigmaaGreatDoorJ3
import Derived.Test.YtjgloipgnnigmaaGreatDoorJ2
import Derived.WalkSpells
import Derived.Test.YtjgloipgnnigmaaGreatDoorJ1
import Derived.Maps.AppendAt
import Derived.Deep.RegionHeld3
set_option linter.unusedVariables false
set_option linter.unusedSimpArgs false
namespace Go.Proofs.YtjgloipgnnigmaaGreatDoor
open Go.RowKit Go.Shelf

theorem At_pair {P : Program} {f : FuncId} {args : Array Value} {w : World} {z : Int × Int} {x y : Int} (e : z = (x, y))
    (h : Calls P f args w fun e w' => e = .returned (.tuple #[.int .i64 z.1, .int .i64 z.2]) ∧ Below w.heap.size w w') :
    Calls P f args w fun e w' => e = .returned (.tuple #[.int .i64 x, .int .i64 y]) ∧ Below w.heap.size w w' := by
  rw [e] at h; exact h

set_option maxHeartbeats 1000000 in
theorem place_any (c : Cfg) (g n : Int) (A B : Option Addr) (ca cb : Nat) (w : World) (h : CfgAt w c A B) (hca : c.reps.length ≤ ca) :
    Calls Tryz.prog 87 #[.agg #[.slice A c.reps.length ca, .slice B c.bnds.length cb], .int .i64 g, .int .i64 n] w fun e w' => e = .returned (.int .i64 (placeZ c g n)) ∧ Below w.heap.size w w' := by
  obtain ⟨W, eW, HB, c0, c1⟩ := box2 w (.slice A c.reps.length ca) (.slice B c.bnds.length cb) 25
  have h := h.later HB
  cases hf : formedB c
  · have HE : Hid (placeZ c g n = -1) := place_not (by simp [hasB, hf])
    go_enter Tryz.func87, Tryz.ntmps87
    go_wp2_with (go_at_call 55; refine (formed_any c A B ca cb _ h).mono ?_; rintro e w1 ⟨rfl, hb⟩; replace c0 := keep hb c0; replace h := h.later hb; replace HB := keepB HB hb)
    go_ret
    exact ⟨ret_int HE.out, HB⟩
  · by_cases g0 : 0 ≤ g
    · by_cases g1 : g < c.reps.length
      · by_cases n0 : 0 ≤ n
        · obtain ⟨k, rfl⟩ := Int.eq_ofNat_of_zero_le g0
          have hk : k < c.reps.length := by omega
          obtain ⟨b, off, x, e, hc, HX⟩ := IntsAt.at' h.ints hk
          subst e
          by_cases n1 : n < x
          · have HE : Hid (placeZ c k n = sumTo c.reps k + n) := place_found hf hk n0 (by rw [HX.out]; exact n1)
            have HS : Hid (∀ k, k ≤ c.reps.length → (k : Int) ≤ sumTo c.reps k ∧ sumTo c.reps k ≤ 5 * k) := sumTo_range hf
            have HR : Hid (∀ k, k < c.reps.length → 1 ≤ c.reps.getD k 0 ∧ c.reps.getD k 0 ≤ 5) := fun k hk => formed_range hf hk
            have hx := HR.out k hk
            rw [HX.out] at hx
            have hn := (formed_len hf).2.1
            go_enter Tryz.func87, Tryz.ntmps87
            go_wp2_with (go_at_call 55; refine (formed_any c _ B ca cb _ h).mono ?_; rintro e w1 ⟨rfl, hb⟩; replace c0 := keep hb c0; replace hc := keep hb hc; replace h := h.later hb; replace HB := keepB HB hb)
            go_loop [2, 41] (fun q i => ∃ (j : Nat), j ≤ k ∧ i = .int .i64 j ∧ q = .int .i64 (n + sumTo c.reps j)) (fun _ i => k - (intOf i).toNat)
            case atStart => exact ⟨0, Nat.zero_le _, rfl, by show _ = Value.int .i64 (n + 0); rw [Int.add_zero]⟩
            case round =>
              obtain ⟨j, hj, rfl, rfl⟩ := hrel
              have hsj := HS.out j (by omega)
              by_cases hlt : j < k
              · obtain ⟨b', off', y, e, hc', HY⟩ := IntsAt.at' h.ints (k := j) (by omega)
                injection e with e
                injection e with e1 e2
                subst e1 e2
                have hy := HR.out j (by omega)
                rw [HY.out] at hy
                have HE2 : Hid (sumTo c.reps (j + 1) = sumTo c.reps j + y) := by show _ = _; rw [sumTo, HY.out]
                generalize hs : sumTo c.reps j = s at *
                clear hs
                go_wp2
                go_round
                case rel => exact ⟨j + 1, by omega, by go_num, by rw [HE2.out, Int.add_assoc]⟩
                case measure => simp [intOf]; omega
              · have HK : Hid (placeZ c k n = n + sumTo c.reps j) := by show _ = _; rw [HE.out, show j = k from by omega, Int.add_comm]
                generalize hs : sumTo c.reps j = s at *
                clear hs
                go_wp2
                go_ret
                exact ⟨ret_int HK.out, HB⟩
          · have HE : Hid (placeZ c k n = -1) := place_not (by
              cases hh : hasB c k n
              · rfl
              · have := (has_iff.1 hh).2.2.2.2
                simp only [Int.toNat_natCast, HX.out] at this
                omega)
            go_enter Tryz.func87, Tryz.ntmps87
            go_wp2_with (go_at_call 55; refine (formed_any c _ B ca cb _ h).mono ?_; rintro e w1 ⟨rfl, hb⟩; replace c0 := keep hb c0; replace hc := keep hb hc; replace h := h.later hb; replace HB := keepB HB hb)
            go_ret
            exact ⟨ret_int HE.out, HB⟩
        · have HE : Hid (placeZ c g n = -1) := place_not (by simp [hasB, n0])
          go_enter Tryz.func87, Tryz.ntmps87
          go_wp2_with (go_at_call 55; refine (formed_any c A B ca cb _ h).mono ?_; rintro e w1 ⟨rfl, hb⟩; replace c0 := keep hb c0; replace h := h.later hb; replace HB := keepB HB hb)
          go_ret
          exact ⟨ret_int HE.out, HB⟩
      · have HE : Hid (placeZ c g n = -1) := place_not (by simp [hasB, g1])
        go_enter Tryz.func87, Tryz.ntmps87
        go_wp2_with (go_at_call 55; refine (formed_any c A B ca cb _ h).mono ?_; rintro e w1 ⟨rfl, hb⟩; replace c0 := keep hb c0; replace h := h.later hb; replace HB := keepB HB hb)
        go_ret
        exact ⟨ret_int HE.out, HB⟩
    · have HE : Hid (placeZ c g n = -1) := place_not (by simp [hasB, g0])
      go_enter Tryz.func87, Tryz.ntmps87
      go_wp2_with (go_at_call 55; refine (formed_any c A B ca cb _ h).mono ?_; rintro e w1 ⟨rfl, hb⟩; replace c0 := keep hb c0; replace h := h.later hb; replace HB := keepB HB hb)
      go_ret
      exact ⟨ret_int HE.out, HB⟩

set_option maxHeartbeats 1000000 in
theorem refPlace_any (c : Cfg) (g n : Int) (A B : Option Addr) (ca cb : Nat) (w : World) (h : CfgAt w c A B) :
    Calls Tryz.prog 161 #[.agg #[.slice A c.reps.length ca, .slice B c.bnds.length cb], .int .i64 g, .int .i64 n] w fun e w' => e = .returned (.int .i64 (placeZ c g n)) ∧ Below w.heap.size w w' := by
  obtain ⟨W, eW, HB, c0, c1⟩ := box2 w (.slice A c.reps.length ca) (.slice B c.bnds.length cb) 25
  have h := h.later HB
  have h20 := tot_range c
  have HTOT : ∀ W : World, CfgAt W c A B → Calls Tryz.prog 188 #[.agg #[.slice A c.reps.length ca, .slice B c.bnds.length cb]] W fun e w' => e = .returned (.int .i64 (totZ c)) ∧ Below W.heap.size W w' := fun W hW => refTotal_any c A B ca cb W hW
  have HAT : Hid (∀ p, 0 ≤ p → p < totZ c → atZ c p = (g, n) → placeZ c g n = p) := fun p p0 p1 e => place_of_at p0 p1 e
  have HNO : Hid ((∀ p : Int, 0 ≤ p → p < totZ c → atZ c p ≠ (g, n)) → placeZ c g n = -1) := fun hno => place_not (by
    cases hh : hasB c g n
    · rfl
    · obtain ⟨q0, q1, q2⟩ := at_place hh
      exact absurd q2 (hno _ q0 q1))
  generalize totZ c = tot at *
  have HTOT := Lib.hid HTOT
  go_enter Tryz.func161, Tryz.ntmps161
  go_wp2_with fail
  clear eW
  go_loopw [7] (fun i wr => ∃ k : Int, 0 ≤ k ∧ k ≤ tot ∧ i = .int .i64 k ∧ Below W.heap.size W wr ∧ Hid (∀ p : Int, 0 ≤ p → p < k → atZ c p ≠ (g, n))) (fun i _ => (tot - intOf i).toNat)
  case atStart => exact ⟨0, Int.le_refl _, h20.1, rfl, Below.refl _ _, fun p h0 h1 => by omega⟩
  case round =>
    obtain ⟨k, k0, k1, rfl, hw, HN⟩ := hrel
    have h := h.later hw
    replace c0 := keep hw c0
    replace c1 := keep hw c1
    by_cases hlt : k < tot
    · obtain ⟨x, y, hxy⟩ : ∃ x y, atZ c k = (x, y) := ⟨_, _, rfl⟩
      have HXY := Lib.hid hxy
      clear hxy
      by_cases hxg : x = g
      · by_cases hyn : y = n
        · have HE : Hid (placeZ c g n = k) := HAT.out k k0 hlt (by rw [HXY.out, hxg, hyn])
          have e1 : (x == g) = true := by rw [beq_iff_eq]; exact hxg
          have e2 : (y == n) = true := by rw [beq_iff_eq]; exact hyn
          clear hxg hyn
          go_wp2_with (first
            | (go_at_call 188; refine (HTOT.out _ h).mono ?_; rintro e w1 ⟨rfl, hb⟩; replace c0 := keep hb c0; replace c1 := keep hb c1; replace h := h.later hb; replace hw := keepB hw hb)
            | (go_at_call 27; refine (At_pair HXY.out (refAt_any c k A B ca cb _ h)).mono ?_; rintro e w1 ⟨rfl, hb⟩; replace hw := keepB hw hb))
          go_ret
          exact ⟨ret_int HE.out, keepB HB hw⟩
        · have HM : Hid (∀ p : Int, 0 ≤ p → p < k + 1 → atZ c p ≠ (g, n)) := fun p p0 p1 e => by
            by_cases hpk : p = k
            · subst hpk; rw [HXY.out] at e; injection e with _ e; exact hyn e
            · exact HN.out p p0 (by omega) e
          have e1 : (x == g) = true := by rw [beq_iff_eq]; exact hxg
          have e2 : (y == n) = false := by rw [beq_eq_false_iff_ne]; exact hyn
          clear hxg hyn
          go_wp2_with (first
            | (go_at_call 188; refine (HTOT.out _ h).mono ?_; rintro e w1 ⟨rfl, hb⟩; replace c0 := keep hb c0; replace c1 := keep hb c1; replace h := h.later hb; replace hw := keepB hw hb)
            | (go_at_call 27; refine (At_pair HXY.out (refAt_any c k A B ca cb _ h)).mono ?_; rintro e w1 ⟨rfl, hb⟩; replace hw := keepB hw hb))
          go_roundw
          case rel => exact ⟨k + 1, by omega, by omega, rfl, hw, HM⟩
          case measure => simp [intOf]; omega
      · have HM : Hid (∀ p : Int, 0 ≤ p → p < k + 1 → atZ c p ≠ (g, n)) := fun p p0 p1 e => by
          by_cases hpk : p = k
          · subst hpk; rw [HXY.out] at e; injection e with e _; exact hxg e
          · exact HN.out p p0 (by omega) e
        have e1 : (x == g) = false := by rw [beq_eq_false_iff_ne]; exact hxg
        clear hxg
        go_wp2_with (first
          | (go_at_call 188; refine (HTOT.out _ h).mono ?_; rintro e w1 ⟨rfl, hb⟩; replace c0 := keep hb c0; replace c1 := keep hb c1; replace h := h.later hb; replace hw := keepB hw hb)
          | (go_at_call 27; refine (At_pair HXY.out (refAt_any c k A B ca cb _ h)).mono ?_; rintro e w1 ⟨rfl, hb⟩; replace hw := keepB hw hb))
        go_roundw
        case rel => exact ⟨k + 1, by omega, by omega, rfl, hw, HM⟩
        case measure => simp [intOf]; omega
    · have HE : Hid (placeZ c g n = -1) := HNO.out (fun p p0 p1 => HN.out p p0 (by omega))
      go_wp2_with (go_at_call 188; refine (HTOT.out _ h).mono ?_; rintro e w1 ⟨rfl, hb⟩; replace hw := keepB hw hb)
      go_ret
      exact ⟨ret_int HE.out, keepB HB hw⟩

/-- Up to the k-th no string is longer than 1000. -/
def shortTo (l : List ByteArray) (m : Nat) : Nat → Bool
  | 0 => true
  | k + 1 => shortTo l m k && decide ((l.getD k noStr).size ≤ m)
def fewB (c : Cfg) : Bool := shortTo c.bnds 1000 (min c.bnds.length 20) && decide (c.reps.length ≤ 20) && decide (c.bnds.length ≤ 20)
theorem shortTo_false {l : List ByteArray} {m k n : Nat} (hk : k < n) (h : ¬ (l.getD k noStr).size ≤ m) : shortTo l m n = false := by
  induction n with
  | zero => omega
  | succ n ih =>
    by_cases e : k = n
    · subst e; simp only [shortTo, decide_eq_false h, Bool.and_false]
    · simp [shortTo, ih (by omega)]
theorem shortTo_next {l : List ByteArray} {m k : Nat} {x : ByteArray} (h : shortTo l m k = true) (hx : l.getD k noStr = x) (hs : x.size ≤ m) : shortTo l m (k + 1) = true := by
  simp only [shortTo, h, hx, decide_eq_true hs, Bool.and_self]

set_option maxHeartbeats 1000000 in
theorem few_any (c : Cfg) (A B : Option Addr) (ca cb : Nat) (w : World) (h : CfgAt w c A B) :
    Calls Tryz.prog 34 #[.agg #[.slice A c.reps.length ca, .slice B c.bnds.length cb]] w fun e w' => e = .returned (.bool (fewB c)) ∧ Below w.heap.size w w' := by
  obtain ⟨W, eW, HB, c0, c1⟩ := box2 w (.slice A c.reps.length ca) (.slice B c.bnds.length cb) 25
  have h := h.later HB
  have hn := h.hn
  have hm := h.hm
  go_enter Tryz.func34, Tryz.ntmps34
  go_wp2_with fail
  clear eW
  go_loop [3] (fun i => ∃ k : Nat, k ≤ c.bnds.length ∧ k ≤ 20 ∧ i = .int .i64 k ∧ Hid (shortTo c.bnds 1000 k = true)) (fun i => c.bnds.length - (intOf i).toNat)
  case atStart => exact ⟨0, Nat.zero_le _, by omega, rfl, rfl⟩
  case round =>
    obtain ⟨k, hk, hk2, rfl, HA⟩ := hrel
    by_cases hlt : k < c.bnds.length ∧ k < 20
    · obtain ⟨hl1, hl2⟩ := hlt
      obtain ⟨b, off, x, rfl, hc, HX⟩ := StrsAt.at' h.strs hl1
      by_cases hs : x.size ≤ 1000
      · have HR : Hid (shortTo c.bnds 1000 (k + 1) = true) := shortTo_next HA.out HX.out hs
        go_wp2
        go_round
        case rel => exact ⟨k + 1, by omega, by omega, by go_num, HR⟩
        case measure => simp [intOf]; omega
      · have HF : Hid (fewB c = false) := by show _ = _; rw [fewB, shortTo_false (k := k) (by omega) (by rw [HX.out]; exact hs)]; rfl
        go_wp2
        go_ret
        exact ⟨ret_bool HF.out, HB⟩
    · have HK : Hid (shortTo c.bnds 1000 (min c.bnds.length 20) = true) := by show _ = _; rw [show min c.bnds.length 20 = k from by omega]; exact HA.out
      have HF : Hid (fewB c = (decide (c.reps.length ≤ 20) && decide (c.bnds.length ≤ 20))) := by show _ = _; rw [fewB, HK.out, Bool.true_and]
      by_cases hl1 : k < c.bnds.length
      · have hl2 : ¬ k < 20 := by omega
        by_cases q1 : c.reps.length ≤ 20
        · have q2 : ¬ c.bnds.length ≤ 20 := by omega
          clear hlt
          go_wp2
          go_ret
          exact ⟨ret_bool (by rw [HF.out]; simp [q1, q2]; try omega), HB⟩
        · clear hlt
          go_wp2
          go_ret
          exact ⟨ret_bool (by rw [HF.out]; simp [q1]), HB⟩
      · by_cases q1 : c.reps.length ≤ 20
        · have q2 : c.bnds.length ≤ 20 := by omega
          clear hlt
          go_wp2
          go_ret
          exact ⟨ret_bool (by rw [HF.out]; simp [q1, q2]; try omega), HB⟩
        · clear hlt
          go_wp2
          go_ret
          exact ⟨ret_bool (by rw [HF.out]; simp [q1]), HB⟩
end Go.Proofs.YtjgloipgnnigmaaGreatDoor
/- Layer 7's Home, the program's and the reference's, and the binary search beneath it. -/
namespace Go.Proofs.YtjgloipgnnigmaaGreatDoor
open Go.RowKit Go.Shelf

set_option maxHeartbeats 400000 in
theorem lessStr_any (x y : ByteArray) (w : World) : Calls Tryz.prog 134 #[.string x, .string y] w fun e w' => e = .returned (.bool (lessS x y)) ∧ w = w' := by
  cases hl : lessS x y
  all_goals
    have hl' : Op.bytesLess x.toList y.toList = _ := hl
    clear hl
    go_enter Tryz.func134, Tryz.ntmps134
    go_wp2
    go_ret
    exact ⟨rfl, rfl⟩
set_option maxHeartbeats 400000 in
theorem isNaNStr_any (x : ByteArray) (w : World) : Calls Tryz.prog 135 #[.string x] w fun e w' => e = .returned (.bool false) ∧ w = w' := by
  go_enter Tryz.func135, Tryz.ntmps135
  go_wp2
  go_ret
  exact ⟨by simp, rfl⟩

theorem int_eq {k : IntKind} {a b : Int} (h : a = b) : Value.int k a = Value.int k b := by rw [h]
/-- Where a search ends: below p all are below the key, from p on none is. -/
def SearchEnd (l : List ByteArray) (key : ByteArray) (p : Nat) (f : Bool) : Prop :=
  p ≤ l.length ∧ (∀ m, m < p → lessS (l.getD m noStr) key = true) ∧ (∀ m, p ≤ m → m < l.length → lessS (l.getD m noStr) key = false) ∧ (f = true ↔ p < l.length ∧ l.getD p noStr = key)
def SearchPost (l : List ByteArray) (key : ByteArray) (w : World) (e : Ending) (w' : World) : Prop :=
  ∃ p f, e = .returned (.tuple #[.int .i64 (p : Nat), .bool f]) ∧ SearchEnd l key p f ∧ w = w'

theorem half (i j : Nat) (h : i < j) : i ≤ (i + j) / 2 ∧ (i + j) / 2 < j := by omega

set_option maxHeartbeats 1000000 in
theorem search_any (l : List ByteArray) (key : ByteArray) (B : Option Addr) (cb : Nat) (w : World) (h : StrsAt w B l) (hlen : l.length ≤ 1000000) (hr : risesTo l l.length = true) :
    Calls Tryz.prog 85 #[.slice B l.length cb, .string key] w (SearchPost l key w) := by
  have HR := Lib.hid hr
  clear hr
  go_enter Tryz.func85, Tryz.ntmps85
  go_wp2_with fail
  go_loop [7, 8] (fun i j => ∃ a b : Nat, a ≤ b ∧ b ≤ l.length ∧ i = .int .i64 a ∧ j = .int .i64 b ∧ Hid (∀ m, m < a → lessS (l.getD m noStr) key = true) ∧ Hid (∀ m, b ≤ m → m < l.length → lessS (l.getD m noStr) key = false)) (fun i j => (intOf j - intOf i).toNat)
  case atStart => exact ⟨0, l.length, by omega, by omega, rfl, rfl, fun m hm => by omega, fun m hm hm2 => by omega⟩
  case round =>
    obtain ⟨a, b, hab, hb, rfl, rfl, HA, HB⟩ := hrel
    by_cases hlt : a < b
    · obtain ⟨q1, q2⟩ := half a b hlt
      obtain ⟨bb, off, x, rfl, hc, HX⟩ := StrsAt.at' h (k := (a + b) / 2) (by omega)
      cases hl : lessS x key
      · have HB2 : Hid (∀ m, (a + b) / 2 ≤ m → m < l.length → lessS (l.getD m noStr) key = false) := fun m h1 h2 => by
          by_cases e : m = (a + b) / 2
          · rw [e, HX.out]; exact hl
          · have hm := rises_mono HR.out (i := (a + b) / 2) (j := m) (by omega) h2
            rw [HX.out] at hm
            cases hq : lessS (l.getD m noStr) key
            · rfl
            · rw [lessS_trans hm hq] at hl; cases hl
        go_wp2_with (go_at_call 134; refine (lessStr_any _ _ _).mono ?_; rintro e w1 ⟨rfl, rfl⟩)
        go_round
        case rel => exact ⟨a, (a + b) / 2, by omega, by omega, rfl, int_eq (by omega), HA, HB2⟩
        case measure => simp [intOf]; omega
      · have HA2 : Hid (∀ m, m < (a + b) / 2 + 1 → lessS (l.getD m noStr) key = true) := fun m h1 => by
          by_cases e : m = (a + b) / 2
          · rw [e, HX.out]; exact hl
          · have hm := rises_mono HR.out (i := m) (j := (a + b) / 2) (by omega) (by omega)
            rw [HX.out] at hm
            exact lessS_trans hm hl
        go_wp2_with (go_at_call 134; refine (lessStr_any _ _ _).mono ?_; rintro e w1 ⟨rfl, rfl⟩)
        go_round
        case rel => exact ⟨(a + b) / 2 + 1, b, by omega, by omega, int_eq (by omega), rfl, HA2, HB⟩
        case measure => simp [intOf]; omega
    · have hab2 : a = b := by omega
      subst hab2
      by_cases hal : a < l.length
      · obtain ⟨bb, off, x, rfl, hc, HX⟩ := StrsAt.at' h (k := a) hal
        by_cases hx : x = key
        · have HF : Hid (SearchEnd l key a true) := ⟨hb, HA.out, HB.out, by simp only [true_iff]; exact ⟨hal, by rw [HX.out]; exact hx⟩⟩
          have hbq : (x.toList == key.toList) = true := by rw [hx]; simp
          clear hx
          go_wp2
          go_ret2
          exact ⟨_, _, rfl, HF.out, rfl⟩
        · have HF : Hid (SearchEnd l key a false) := ⟨hb, HA.out, HB.out, by
            constructor
            · intro h; cases h
            · rintro ⟨_, h2⟩; rw [HX.out] at h2; exact absurd h2 hx⟩
          have hbq : (x.toList == key.toList) = false := by rw [beq_eq_false_iff_ne]; exact fun e => hx (bytes_ext e)
          clear hx
          go_wp2_with (go_at_call 135; refine (isNaNStr_any _ _).mono ?_; rintro e w1 ⟨rfl, rfl⟩)
          go_ret2
          exact ⟨_, _, rfl, HF.out, rfl⟩
      · have HF : Hid (SearchEnd l key a false) := ⟨hb, HA.out, HB.out, by
          constructor
          · intro h; cases h
          · rintro ⟨h1, _⟩; omega⟩
        go_wp2
        go_ret2
        exact ⟨_, _, rfl, HF.out, rfl⟩

theorem home_search {c : Cfg} (h : formedB c = true) {key : ByteArray} {p : Nat} {f : Bool} (hs : SearchEnd c.bnds key p f) : homeZ c key = (p : Int) + if f then 1 else 0 := by
  have hr : risesTo c.bnds c.bnds.length = true := by
    simp only [formedB, Bool.and_eq_true] at h; exact h.2
  obtain ⟨h0, h1, h2, h3⟩ := hs
  have := leTo_found hr h0 h1 h2 c.bnds.length (Nat.le_refl _)
  rw [home_yes h, this]
  cases f
  · rw [if_neg (fun q => by simpa using h3.2 q)]; simp; omega
  · rw [if_pos (h3.1 rfl)]; simp; omega

set_option maxHeartbeats 1000000 in
theorem home_any (c : Cfg) (key : ByteArray) (A B : Option Addr) (ca cb : Nat) (w : World) (h : CfgAt w c A B) :
    Calls Tryz.prog 40 #[.agg #[.slice A c.reps.length ca, .slice B c.bnds.length cb], .string key] w fun e w' => e = .returned (.int .i64 (homeZ c key)) ∧ Below w.heap.size w w' := by
  obtain ⟨W, eW, HB, c0, c1⟩ := box2 w (.slice A c.reps.length ca) (.slice B c.bnds.length cb) 25
  have h := h.later HB
  cases hf : formedB c
  · have HE := Lib.hid (home_not hf key)
    go_enter Tryz.func40, Tryz.ntmps40
    go_wp2_with (go_at_call 55; refine (formed_any c A B ca cb _ h).mono ?_; rintro e w1 ⟨rfl, hb⟩; replace c0 := keep hb c0; replace c1 := keep hb c1; replace h := h.later hb; replace HB := keepB HB hb; clear hb)
    go_ret
    exact ⟨ret_int HE.out, HB⟩
  · have hr : risesTo c.bnds c.bnds.length = true := by
      simp only [formedB, Bool.and_eq_true] at hf; exact hf.2
    have HR := Lib.hid hr
    have HFS : Hid (∀ p f, SearchEnd c.bnds key p f → homeZ c key = (p : Int) + if f then 1 else 0) := fun p f hs => home_search hf hs
    have hlen : c.bnds.length ≤ 3 := by have := formed_len hf; omega
    clear hr
    go_enter Tryz.func40, Tryz.ntmps40
    go_wp2_with (first
      | (go_at_call 55; refine (formed_any c A B ca cb _ h).mono ?_; rintro e w1 ⟨rfl, hb⟩; replace c0 := keep hb c0; replace c1 := keep hb c1; replace h := h.later hb; replace HB := keepB HB hb; clear hb)
      | (go_at_call 85; refine (search_any c.bnds key B cb _ h.strs (by omega) HR.out).mono ?_; rintro e w2 ⟨p, f, rfl, hs, rfl⟩; have HS := Lib.hid hs; have hp := hs.1; clear hs; cases f))
    all_goals
      go_ret
      exact ⟨ret_int (by rw [HFS.out _ _ HS.out]; simp), HB⟩

set_option maxHeartbeats 1000000 in
theorem refHome_any (c : Cfg) (key : ByteArray) (A B : Option Addr) (ca cb : Nat) (w : World) (h : CfgAt w c A B) :
    Calls Tryz.prog 30 #[.agg #[.slice A c.reps.length ca, .slice B c.bnds.length cb], .string key] w fun e w' => e = .returned (.int .i64 (homeZ c key)) ∧ Below w.heap.size w w' := by
  obtain ⟨W, eW, HB, c0, c1⟩ := box2 w (.slice A c.reps.length ca) (.slice B c.bnds.length cb) 25
  have h := h.later HB
  cases hf : formedB c
  · have HE := Lib.hid (home_not hf key)
    go_enter Tryz.func30, Tryz.ntmps30
    go_wp2_with (go_at_call 21; refine (refFormed_any c A B ca cb _ h).mono ?_; rintro e w1 ⟨rfl, hb⟩; replace c0 := keep hb c0; replace c1 := keep hb c1; replace h := h.later hb; replace HB := keepB HB hb; clear hb)
    go_ret
    exact ⟨ret_int HE.out, HB⟩
  · have HE := Lib.hid (home_yes hf key)
    have hlen : c.bnds.length ≤ 3 := by have := formed_len hf; omega
    have HLE : Hid (∀ k, leTo c.bnds key k ≤ k) := leTo_le c.bnds key
    go_enter Tryz.func30, Tryz.ntmps30
    go_wp2_with (go_at_call 21; refine (refFormed_any c A B ca cb _ h).mono ?_; rintro e w1 ⟨rfl, hb⟩; replace c0 := keep hb c0; replace c1 := keep hb c1; replace h := h.later hb; replace HB := keepB HB hb; clear hb)
    clear eW
    go_loop [5, 6] (fun g i => ∃ k : Nat, k ≤ c.bnds.length ∧ i = .int .i64 k ∧ g = .int .i64 (leTo c.bnds key k : Nat)) (fun _ i => c.bnds.length - (intOf i).toNat)
    case atStart => exact ⟨0, Nat.zero_le _, rfl, rfl⟩
    case round =>
      obtain ⟨k, hk, rfl, rfl⟩ := hrel
      have hle := HLE.out k
      by_cases hlt : k < c.bnds.length
      · obtain ⟨bb, off, x, rfl, hc, HX⟩ := StrsAt.at' h.strs hlt
        cases hl : lessS key x
        · have HE2 : Hid (leTo c.bnds key (k + 1) = leTo c.bnds key k + 1) := by show _ = _; rw [leTo, HX.out, hl]; rfl
          have hl' := lessS_no hl
          clear hl
          generalize leTo c.bnds key k = g at *
          go_wp2
          go_round
          case rel => exact ⟨k + 1, by omega, by go_num, by rw [HE2.out]; go_num⟩
          case measure => simp [intOf]; omega
        · have HE2 : Hid (leTo c.bnds key (k + 1) = leTo c.bnds key k) := by show _ = _; rw [leTo, HX.out, hl]; rfl
          have hl' := lessS_yes hl
          clear hl
          generalize leTo c.bnds key k = g at *
          go_wp2
          go_round
          case rel => exact ⟨k + 1, by omega, by go_num, by rw [HE2.out]⟩
          case measure => simp [intOf]; omega
      · have HK : Hid (homeZ c key = (leTo c.bnds key k : Nat)) := by show _ = _; rw [HE.out, show k = c.bnds.length from by omega]
        generalize leTo c.bnds key k = g at *
        go_wp2
        go_ret
        exact ⟨ret_int HK.out, HB⟩
end Go.Proofs.YtjgloipgnnigmaaGreatDoor
/- The plain words of layer 7's Groups. -/
namespace Go.Proofs.YtjgloipgnnigmaaGreatDoor

def touchB (c : Cfg) (keys : List ByteArray) (g : Nat) : Bool := keys.any fun s => homeZ c s == (g : Int)
/-- Of the first k groups those that have a key, rising. -/
def groupsTo (c : Cfg) (keys : List ByteArray) (k : Nat) : List Int := ((List.range k).filter (touchB c keys)).map Int.ofNat
def groupsL (c : Cfg) (keys : List ByteArray) : List Int := if formedB c then groupsTo c keys c.reps.length else []

theorem groupsTo_succ (c : Cfg) (keys : List ByteArray) (k : Nat) : groupsTo c keys (k + 1) = groupsTo c keys k ++ if touchB c keys k then [(k : Int)] else [] := by
  unfold groupsTo
  rw [List.range_succ, List.filter_append, List.map_append]
  congr 1
  by_cases h : touchB c keys k <;> simp [h]
theorem groupsTo_rises (c : Cfg) (keys : List ByteArray) : ∀ k, (groupsTo c keys k).Pairwise (· < ·) ∧ ∀ x, x ∈ groupsTo c keys k ↔ ∃ g : Nat, g < k ∧ touchB c keys g = true ∧ (g : Int) = x
  | 0 => by simp [groupsTo]
  | k + 1 => by
    obtain ⟨h1, h2⟩ := groupsTo_rises c keys k
    rw [groupsTo_succ]
    cases ht : touchB c keys k
    · simp only [Bool.false_eq_true, if_false, List.append_nil]
      refine ⟨h1, fun x => ?_⟩
      rw [h2]
      constructor
      · rintro ⟨g, a, b, e⟩; exact ⟨g, by omega, b, e⟩
      · rintro ⟨g, a, b, e⟩
        by_cases eg : g = k
        · subst eg; rw [ht] at b; cases b
        · exact ⟨g, by omega, b, e⟩
    · simp only [if_true]
      refine ⟨?_, fun x => ?_⟩
      · rw [List.pairwise_append]
        refine ⟨h1, by simp, fun a ha b hb => ?_⟩
        simp only [List.mem_singleton] at hb
        obtain ⟨g, hg, _, rfl⟩ := (h2 a).1 ha
        subst hb; omega
      · rw [List.mem_append, h2]
        simp only [List.mem_singleton]
        constructor
        · rintro (⟨g, a, b, e⟩ | e)
          · exact ⟨g, by omega, b, e⟩
          · exact ⟨k, by omega, ht, e.symm⟩
        · rintro ⟨g, a, b, e⟩
          by_cases eg : g = k
          · subst eg; exact .inr e.symm
          · exact .inl ⟨g, by omega, b, e⟩
theorem groupsTo_length (c : Cfg) (keys : List ByteArray) : ∀ k, (groupsTo c keys k).length ≤ k
  | 0 => by simp [groupsTo]
  | k + 1 => by
    have := groupsTo_length c keys k
    rw [groupsTo_succ, List.length_append]
    split <;> simp <;> omega
/-- Sorted and compacted, the keys' groups are the groups. -/
theorem groups_of_homes {c : Cfg} (h : formedB c = true) (keys : List ByteArray) : Lib.compact ((keys.map (homeZ c)).mergeSort fun x y => decide (x ≤ y)) = groupsL c keys := by
  obtain ⟨h1, h2⟩ := groupsTo_rises c keys c.reps.length
  have e : groupsL c keys = groupsTo c keys c.reps.length := by simp [groupsL, h]
  rw [e]
  refine sort_compact _ _ h1 (fun x => ?_)
  rw [h2, List.mem_map]
  constructor
  · rintro ⟨s, hs, rfl⟩
    obtain ⟨q1, q2⟩ := home_range h s
    refine ⟨(homeZ c s).toNat, by omega, ?_, by omega⟩
    unfold touchB
    rw [List.any_eq_true]
    exact ⟨s, hs, by rw [beq_iff_eq]; omega⟩
  · rintro ⟨g, hg, ht, rfl⟩
    unfold touchB at ht
    rw [List.any_eq_true] at ht
    obtain ⟨s, hs, e⟩ := ht
    exact ⟨s, hs, by simpa using e⟩
/-- Of the first k keys, is one of group g? -/
def touchTo (c : Cfg) (keys : List ByteArray) (g : Nat) : Nat → Bool
  | 0 => false
  | k + 1 => touchTo c keys g k || homeZ c (keys.getD k noStr) == (g : Int)
theorem touchTo_take (c : Cfg) (keys : List ByteArray) (g : Nat) : ∀ k, k ≤ keys.length → touchTo c keys g k = (keys.take k).any fun s => homeZ c s == (g : Int)
  | 0, _ => by simp [touchTo]
  | k + 1, hk => by
    have h : k < keys.length := by omega
    rw [List.take_succ_eq_append_getElem h, List.any_append, ← touchTo_take c keys g k (by omega)]
    simp [touchTo, List.getD_eq_getElem?_getD, h]
theorem touchTo_all (c : Cfg) (keys : List ByteArray) (g : Nat) : touchTo c keys g keys.length = touchB c keys g := by
  rw [touchTo_take _ _ _ _ (Nat.le_refl _), List.take_length]; rfl
theorem take_map_snoc {α : Type} (l : List ByteArray) (f : ByteArray → α) (k : Nat) (h : k < l.length) : (l.take (k + 1)).map f = (l.take k).map f ++ [f (l.getD k noStr)] := by
  rw [List.take_succ_eq_append_getElem h, List.map_append]
  simp [List.getD_eq_getElem?_getD, h]
end Go.Proofs.YtjgloipgnnigmaaGreatDoor
/- Layer 7's Groups: what config.Groups returns, of every configuration and at most 1000 keys. -/
namespace Go.Proofs.YtjgloipgnnigmaaGreatDoor
open Go.RowKit Go.Shelf

theorem info_int : (Tryz.prog.info? 3).map (fun i => (i.zero, i.size, i.bytes)) = some (some (.int .i64 0), 1, 8) := by kernel_rfl

/-- A row of ints of the call's own. -/
def IntsPostF (w : World) (l : List Int) (e : Ending) (w' : World) : Prop :=
  ∃ (A : Option Addr) (cap : Nat), e = .returned (.slice A l.length cap) ∧ IntsAt w' A l ∧ Below w.heap.size w w' ∧ ∀ a, A = some a → w.heap.size ≤ a.block
theorem own_intsF {w : World} {base : Nat} {e : TypeId} {v : Value} {l : List Int} (h : w.ownsRow base e 1 v l.length (l.map (Value.int .i64))) :
    ∃ (A : Option Addr) (cap : Nat), v = .slice A l.length cap ∧ l.length ≤ cap ∧ IntsAt w A l ∧ ∀ a, A = some a → base ≤ a.block := by
  obtain ⟨A, cap, e1, h1, h2⟩ := own_ints h
  refine ⟨A, cap, e1, h1, h2, fun a ea => ?_⟩
  rcases h.2 with ⟨e2, _⟩ | ⟨g, cap, cur, e2, hfr, _⟩
  · rw [e1, ea] at e2; cases e2
  · rw [e1, ea] at e2; cases e2; exact hfr
set_option maxRecDepth 100000 in
set_option maxHeartbeats 2000000 in
theorem groups_anyF (c : Cfg) (keys : List ByteArray) (A B K : Option Addr) (ca cb ck : Nat) (w : World) (h : CfgAt w c A B) (hK : StrsAt w K keys) (hlen : keys.length ≤ 1000) :
    Calls Tryz.prog 44 #[.agg #[.slice A c.reps.length ca, .slice B c.bnds.length cb], .slice K keys.length ck] w (IntsPostF w (groupsL c keys)) := by
  obtain ⟨W, eW, HB, c0, c1⟩ := box2 w (.slice A c.reps.length ca) (.slice B c.bnds.length cb) 25
  have h := h.later HB
  have hK := CellsAt.later hK HB
  cases hf : formedB c
  · have HE : Hid (groupsL c keys = []) := by show _ = _; simp [groupsL, hf]
    go_enter Tryz.func44, Tryz.ntmps44
    go_wp2_with (go_at_call 55; refine (formed_any c A B ca cb _ h).mono ?_; rintro e w1 ⟨rfl, hb⟩; replace c0 := keep hb c0; replace c1 := keep hb c1; replace h := h.later hb; replace HB := keepB HB hb; clear hb)
    go_ret
    rw [HE.out]
    exact ⟨none, 0, rfl, fun i hi => by simp at hi, HB, fun a e => by cases e⟩
  · have HE := Lib.hid (groups_of_homes hf keys)
    have HL : Hid (keys.map (homeZ c) = (keys.take keys.length).map (homeZ c)) := by show _ = _; rw [List.take_length]
    obtain ⟨i0, hi, hz0, hz1, hz2⟩ := info_parts info_int
    go_enter Tryz.func44, Tryz.ntmps44
    go_wp2_with (go_at_call 55; refine (formed_any c A B ca cb _ h).mono ?_; rintro e w1 ⟨rfl, hb⟩; replace c0 := keep hb c0; replace c1 := keep hb c1; replace h := h.later hb; replace hK := CellsAt.later hK hb; replace HB := keepB HB hb; clear hb)
    clear eW hf
    go_loopw [5, 13] (fun v i wr => ∃ k : Nat, k ≤ keys.length ∧ i = .int .i64 k ∧ Hid (wr.ownsRow w1.heap.size 3 1 v k (((keys.take k).map (homeZ c)).map (Value.int .i64))) ∧ Below w1.heap.size w1 wr) (fun _ i _ => keys.length - (intOf i).toNat)
    case atStart => exact ⟨0, Nat.zero_le _, rfl, own_nil _ _ _ _, Below.refl _ _⟩
    case round =>
      obtain ⟨k, hk, rfl, HO, hw⟩ := hrel
      by_cases hlt : k < keys.length
      · have h := h.later hw
        have hKr := CellsAt.later hK hw
        replace c0 := keep hw c0
        replace c1 := keep hw c1
        obtain ⟨bb, off, x, rfl, hc, HX⟩ := StrsAt.at' hKr hlt
        obtain ⟨g, hg⟩ : ∃ g, homeZ c x = g := ⟨_, rfl⟩
        have HG := Lib.hid hg
        have HT : Hid ((keys.take (k + 1)).map (homeZ c) = (keys.take k).map (homeZ c) ++ [g]) := by show _ = _; rw [take_map_snoc _ _ _ hlt, HX.out, hg]
        clear hg
        go_wp2_with (first
          | (go_at_call 40; refine (calls_int HG.out (home_any c x A B ca cb _ h)).mono ?_; rintro e w2 ⟨rfl, hb⟩; replace HO := Lib.hid (own_keep HO.out hb); replace hw := keepB hw hb; clear hb)
          | (at_builtin; refine wpList_append_own _ rfl _ _ 22 rfl w1.heap.size 3 i0 (.int .i64 0) 1 8 Tryz.underlying22 hi hz0 hz1 hz2 rfl (by decide) _ _ _ rfl (own_keep HO.out (below1 _ _)) ⟨w2.heap.size, 0, none⟩ 1 1 [.int .i64 g] rfl rfl (cell_one_new _ _ _) one_cell_int (le_maxLen (by omega)) (by omega) (Nat.le_trans hw.size (below1 _ _).size) ?_; intro v3 w3 HO3 hg3 _; replace hw := own_below (hw.alloc hw.size _) (Nat.le_refl _) (own_keep HO.out (below1 _ _)) hg3; replace HO3 := Lib.hid HO3; clear hg3))
        go_roundw
        case rel => exact ⟨k + 1, by omega, by go_num, by show World.ownsRow _ _ _ _ _ _ _; rw [HT.out, List.map_append]; exact HO3.out, hw⟩
        case measure => simp [intOf]; omega
      · have ek : k = keys.length := by omega
        have HO' : Hid (wr.ownsRow w1.heap.size 3 1 u5 (keys.map (homeZ c)).length ((keys.map (homeZ c)).map (Value.int .i64))) := by
          show World.ownsRow _ _ _ _ _ _ _
          have := HO.out
          rw [ek] at this
          rw [List.length_map]
          rw [← HL.out] at this
          exact this
        have hll : (keys.map (homeZ c)).length ≤ 1000000 := by rw [List.length_map]; omega
        have hll2 : (sorted (keys.map (homeZ c))).length ≤ 1000000 := by rw [sorted_length]; exact hll
        have HE2 : Hid (Lib.compact (sorted (keys.map (homeZ c))) = groupsL c keys) := HE.out
        clear HO
        generalize keys.map (homeZ c) = l at *
        go_wp2_with (first
          | (go_at_call 88; refine (sort_own w1.heap.size u5 l _ HO'.out hll).mono ?_; rintro e w2 ⟨rfl, HO2, hg2⟩; replace hw := own_below hw (Nat.le_refl _) HO'.out hg2; replace HO2 := Lib.hid HO2; clear hg2)
          | (go_at_call 89; refine (compact_own w1.heap.size u5 (sorted l) _ HO2.out hll2).mono ?_; rintro e w3 ⟨⟨v3, rfl, HO3⟩, hg3⟩; replace hw := own_below hw (Nat.le_refl _) HO2.out hg3; replace HO3 := Lib.hid HO3; clear hg3))
        go_ret
        have := HO3.out
        rw [HE2.out] at this
        obtain ⟨A', cap', rfl, _, hI, hfr⟩ := own_intsF this
        exact ⟨A', cap', rfl, hI, keepB HB hw, fun a e => Nat.le_trans HB.size (hfr a e)⟩
theorem groups_any (c : Cfg) (keys : List ByteArray) (A B K : Option Addr) (ca cb ck : Nat) (w : World) (h : CfgAt w c A B) (hK : StrsAt w K keys) (hlen : keys.length ≤ 1000) :
    Calls Tryz.prog 44 #[.agg #[.slice A c.reps.length ca, .slice B c.bnds.length cb], .slice K keys.length ck] w (IntsPost w (groupsL c keys)) :=
  (groups_anyF c keys A B K ca cb ck w h hK hlen).mono fun _ _ ⟨A', cap', e, hI, hb, _⟩ => ⟨A', cap', e, hI, hb⟩
end Go.Proofs.YtjgloipgnnigmaaGreatDoor
/- Rows of reads, and of writes, cell by cell. -/
namespace Go.Proofs.YtjgloipgnnigmaaGreatDoor
open Go.RowKit

def rdCells (l : List Rd) : List Value := l.flatMap fun x => [.string x.key, .int .u64 x.ver]
def wrCells (l : List Wr) : List Value := l.flatMap fun x => [.string x.key, .int .i64 x.val.kind, .int .u64 x.val.bits, .string x.val.text]
theorem rdCells_snoc (l : List Rd) (x : Rd) : rdCells (l ++ [x]) = rdCells l ++ [.string x.key, .int .u64 x.ver] := by simp [rdCells]
theorem wrCells_snoc (l : List Wr) (x : Wr) : wrCells (l ++ [x]) = wrCells l ++ [.string x.key, .int .i64 x.val.kind, .int .u64 x.val.bits, .string x.val.text] := by simp [wrCells]
theorem rdCells_append (l m : List Rd) : rdCells (l ++ m) = rdCells l ++ rdCells m := by simp [rdCells]
theorem wrCells_append (l m : List Wr) : wrCells (l ++ m) = wrCells l ++ wrCells m := by simp [wrCells]
theorem rdCells_len : ∀ l : List Rd, (rdCells l).length = l.length * 2
  | [] => rfl
  | x :: l => by have := rdCells_len l; simp [rdCells] at *; omega
theorem wrCells_len : ∀ l : List Wr, (wrCells l).length = l.length * 4
  | [] => rfl
  | x :: l => by have := wrCells_len l; simp [wrCells] at *; omega
theorem rdCells_at : ∀ (l : List Rd) (i : Nat), i < l.length → (rdCells l)[i * 2]? = some (.string (l.getD i noRd).key) ∧ (rdCells l)[i * 2 + 1]? = some (.int .u64 (l.getD i noRd).ver)
  | [], i, h => by simp at h
  | x :: l, 0, _ => by simp [rdCells]
  | x :: l, i + 1, h => by
    have := rdCells_at l i (by simpa using h)
    rw [show (i + 1) * 2 = i * 2 + 2 by omega, show i * 2 + 2 + 1 = (i * 2 + 1) + 2 by omega]
    simpa [rdCells] using this
theorem wrCells_at : ∀ (l : List Wr) (i : Nat), i < l.length → (wrCells l)[i * 4]? = some (.string (l.getD i noWr).key) ∧ (wrCells l)[i * 4 + 1]? = some (.int .i64 (l.getD i noWr).val.kind) ∧ (wrCells l)[i * 4 + 2]? = some (.int .u64 (l.getD i noWr).val.bits) ∧ (wrCells l)[i * 4 + 3]? = some (.string (l.getD i noWr).val.text)
  | [], i, h => by simp at h
  | x :: l, 0, _ => by simp [wrCells]
  | x :: l, i + 1, h => by
    have := wrCells_at l i (by simpa using h)
    rw [show (i + 1) * 4 = i * 4 + 4 by omega, show i * 4 + 4 + 1 = (i * 4 + 1) + 4 by omega, show i * 4 + 4 + 2 = (i * 4 + 2) + 4 by omega, show i * 4 + 4 + 3 = (i * 4 + 3) + 4 by omega]
    simpa [wrCells] using this

/-- A slice's block is none that was there. -/
def FreshP (B : Nat) (A : Option Addr) : Prop := ∀ a, A = some a → B ≤ a.block
/-- What is owned, as reads, or as writes. -/
theorem own_rds {w : World} {base : Nat} {e : TypeId} {v : Value} {l : List Rd} (h : w.ownsRow base e 2 v l.length (rdCells l)) :
    ∃ (A : Option Addr) (cap : Nat), v = .slice A l.length cap ∧ l.length ≤ cap ∧ RdsAt w A l ∧ FreshP base A := by
  rcases h.2 with ⟨rfl, h0⟩ | ⟨g, cap, cur, rfl, hfr, hh, hn, _, _, ht⟩
  · exact ⟨none, 0, by rw [h0], by omega, fun i hi => by omega, fun a e => by cases e⟩
  · refine ⟨some ⟨g, 0, none⟩, cap, rfl, hn, fun i hi => ⟨g, 0, rfl, ?_⟩, fun a e => by cases e; exact hfr⟩
    have hc : ∀ j, j < l.length * 2 → w.cell? ⟨g, 0 + j, none⟩ = (rdCells l)[j]? := by
      intro j hj
      have h1 : (cur.toList.take (l.length * 2))[j]? = (rdCells l)[j]? := by rw [ht]
      rw [List.getElem?_take_of_lt (by omega)] at h1
      simp only [World.cell?, hh, Nat.zero_add, Option.isSome_none, Bool.false_eq_true, if_false]
      rw [← Array.getElem?_toList, h1]
    have := rdCells_at l i hi
    exact ⟨by rw [hc _ (by omega)]; exact this.1, by rw [Nat.add_assoc, hc _ (by omega)]; exact this.2⟩
theorem own_wrs {w : World} {base : Nat} {e : TypeId} {v : Value} {l : List Wr} (h : w.ownsRow base e 4 v l.length (wrCells l)) :
    ∃ (A : Option Addr) (cap : Nat), v = .slice A l.length cap ∧ l.length ≤ cap ∧ WrsAt w A l ∧ FreshP base A := by
  rcases h.2 with ⟨rfl, h0⟩ | ⟨g, cap, cur, rfl, hfr, hh, hn, _, _, ht⟩
  · exact ⟨none, 0, by rw [h0], by omega, fun i hi => by omega, fun a e => by cases e⟩
  · refine ⟨some ⟨g, 0, none⟩, cap, rfl, hn, fun i hi => ⟨g, 0, rfl, ?_⟩, fun a e => by cases e; exact hfr⟩
    have hc : ∀ j, j < l.length * 4 → w.cell? ⟨g, 0 + j, none⟩ = (wrCells l)[j]? := by
      intro j hj
      have h1 : (cur.toList.take (l.length * 4))[j]? = (wrCells l)[j]? := by rw [ht]
      rw [List.getElem?_take_of_lt (by omega)] at h1
      simp only [World.cell?, hh, Nat.zero_add, Option.isSome_none, Bool.false_eq_true, if_false]
      rw [← Array.getElem?_toList, h1]
    have := wrCells_at l i hi
    exact ⟨by rw [hc _ (by omega)]; exact this.1, by rw [Nat.add_assoc, hc _ (by omega)]; exact this.2.1, by rw [Nat.add_assoc, hc _ (by omega)]; exact this.2.2.1, by rw [Nat.add_assoc, hc _ (by omega)]; exact this.2.2.2⟩
end Go.Proofs.YtjgloipgnnigmaaGreatDoor
/- append to a row of the call's own, where it comes up in a region whose order is drawn. No function of the program is named here. -/
namespace Go.Proofs.YtjgloipgnnigmaaGreatDoor
open Go.RowKit

theorem ready_append_own_at {P : Program} {w : World} {ops : Array Oper} {o : Oper} {a : Act} {Q : Exit → Act → World → Prop} {next : Act → World → Prop} (hgd : o.guard = none) (s x : Operand) (t : TypeId)
    (ho : o.op = .call { callee := .builtin .append, args := #[s, x], argTypes := #[t, t] })
    (base : Nat) (e : TypeId) (i : TypeInfo) (z : Value) (size bytes : Nat) (ht : P.underlying t = some (.slice e)) (hi : P.info? e = some i) (hz : i.zero = some z)
    (hsize : i.size = size) (hby : i.bytes = bytes) (hzs : z.cells.size = size) (hsz : 0 < size)
    (v : Value) (n : Nat) (xs : List Value) (hs : a.eval s = v) (hown : w.ownsRow base e size v n xs)
    (ad : Addr) (m c : Nat) (news : List Value) (hx : a.eval x = .slice (some ad) m c) (hl : news.length = m * size) (hnews : ∀ j u, news[j]? = some u → w.cell? (ad.add j) = some u) (h1 : ∀ u ∈ news, u.oneCell' = true)
    (h63 : n + m ≤ maxLen) (hbytes : (n + m) * bytes ≤ 140737488355328) (hbase : base ≤ w.heap.size)
    (h : ∀ v' w', w'.ownsRow base e size v' (n + m) (xs ++ news) → w.grownBy w' v.ownBlock → (v'.ownBlock = v.ownBlock ∨ v'.ownBlock = some w.heap.size) → next (a.put o.dst v') w') :
    if Region.wanted o (yielded ops a.tmps) = true then Oper.wp P o a w next Q else next (a.put o.dst undef) w := by
  rw [if_pos (by simp [Region.wanted, hgd])]
  obtain ⟨v', w', hr, h2, h3, _, h5⟩ := run_append_own_at (P := P) w base t o.type e i z size bytes ht hi hz hsize hby hzs hsz v n xs hown ad m c news hl hnews h1 h63 hbytes hbase
  unfold Oper.wp execOp
  simp only [ho, resolve, invoke, builtin, Sem.run_bind, Sem.run_pure, Result.andThen_ok, List.map_toArray, List.map_cons, List.map_nil, hs, hx, hr]
  exact h v' w' h2 h3 h5
theorem own_form {w : World} {base n size : Nat} {e : TypeId} {v : Value} {xs : List Value} (h : w.ownsRow base e size v n xs) : ∃ A c, v = .slice A n c := by
  rcases h.2 with ⟨rfl, rfl⟩ | ⟨g, cap, cur, rfl, _⟩
  · exact ⟨_, _, rfl⟩
  · exact ⟨_, _, rfl⟩
end Go.Proofs.YtjgloipgnnigmaaGreatDoor
