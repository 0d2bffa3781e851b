/- Blocks of three cells; votes in plain Lean. -/
import Derived.Test.YtcldpmkhpmlcbaaGreatDoorRefAp14
import Derived.Test.YtcldpmkhpmlcbaaGreatDoorJ1
import Derived.Test.YtcldpmkhpmlcbaaGreatDoorJ2
import Derived.Test.YtcldpmkhpmlcbaaGreatDoorJ4
import Derived.Sort.KeysCollected
set_option linter.unusedVariables false
set_option linter.unusedSimpArgs false
namespace Go.Proofs.YtcldpmkhpmlcbaaGreatDoor
open Go.RowKit Go.Maps Go.Shelf Go.Sort

def voteR (s : StD) (x : Rd) : Bool := decide ((seenV (getK s.ks x.key) s.last).num = x.ver)
def voteB (s : StD) (l : List Rd) : Bool := l.all (voteR s)
theorem box1 (w : World) (u : Value) (t : TypeId) : ∃ W : World, w.alloc (.cells #[u] t) = W ∧ Below w.heap.size w W ∧ W.cell? ⟨w.heap.size, 0, none⟩ = some u :=
  ⟨_, rfl, below1 _ _, by simp⟩
theorem keepD {W : World} {a : Addr} {v : Value} (h : W.cell? a = some v) : W.drew.cell? a = some v := h
theorem keepS {W : World} {b c i j : Nat} {v u : Value} (h : W.cell? ⟨b, i, none⟩ = some v) (hne : ¬ (b = c)) : (W.setCell ⟨c, j, none⟩ u).cell? ⟨b, i, none⟩ = some v := by
  rw [World.cell?_of_block (Below.heap_setCell _ _ _ _ hne)]; exact h
def Blk3 (w : World) (g : Nat) (a b c : Value) : Prop := ∃ t, w.heap[g]? = some (.cells #[a, b, c] t (0, 0))
theorem Blk3.newd {W w1 : World} {a b c : Value} {t : TypeId} (hb : Below (W.alloc (.cells #[a, b, c] t)).drew.heap.size (W.alloc (.cells #[a, b, c] t)).drew w1) : Blk3 w1 W.heap.size a b c :=
  ⟨t, obj_later (w := (W.alloc (.cells #[a, b, c] t)).drew) (heap_alloc_new W _) hb⟩
theorem Blk3.later {w w' : World} {g : Nat} {a b c : Value} (h : Blk3 w g a b c) (hb : Below w.heap.size w w') : Blk3 w' g a b c := by
  obtain ⟨t, h⟩ := h
  exact ⟨t, obj_later h hb⟩
theorem Blk3.facts {w : World} {g : Nat} {a b c : Value} (h : Blk3 w g a b c) : w.cell? ⟨g, 0, none⟩ = some a ∧ w.cell? ⟨g, 1, none⟩ = some b ∧ w.cell? ⟨g, 2, none⟩ = some c ∧ w.frozen? ⟨g, 0, none⟩ = false ∧ w.frozen? ⟨g, 1, none⟩ = false ∧ w.frozen? ⟨g, 2, none⟩ = false := by
  obtain ⟨t, h⟩ := h
  exact cells3 h
theorem calls_b16 {P : Program} {f : FuncId} {args : Array Value} {w : World} {z x : Bool} (e : z = x) (h : Calls P f args w fun e w' => e = .returned (.bool z) ∧ Below w.heap.size w w') : Calls P f args w fun e w' => e = .returned (.bool x) ∧ Below w.heap.size w w' := by
  rw [e] at h; exact h
end Go.Proofs.YtcldpmkhpmlcbaaGreatDoor
/- config.Formed and the reference's Formed: both tell formedB of every configuration. -/
namespace Go.Proofs.YtcldpmkhpmlcbaaGreatDoor
open Go.RowKit Go.Shelf

theorem repOK_no {n : Int} (h1 : n ≠ 1) (h3 : n ≠ 3) (h5 : n ≠ 5) : repOK n = false := by simp [repOK, h1, h3, h5]
theorem lessS_def (a b : ByteArray) : Op.bytesLess a.toList b.toList = lessS a b := rfl

set_option maxHeartbeats 1000000 in
theorem formed_any (c : Cfg) (A B : Option Addr) (ca cb : Nat) (w : World) (h : CfgAt w c A B) :
    Calls Tryz.prog 37 #[.agg #[.slice A c.reps.length ca, .slice B c.bnds.length cb]] w fun e w' => e = .returned (.bool (formedB c)) ∧ Below w.heap.size w w' := by
  cases hz : sizesB c
  · rw [formed_sizes hz]
    have hn := h.hn
    have hm := h.hm
    by_cases z1 : 1 ≤ c.reps.length
    · by_cases z2 : c.reps.length ≤ 4
      · have z3 : c.bnds.length + 1 ≠ c.reps.length := by
          intro e
          simp [sizesB, z1, z2, e] at hz
        have z3' : ((c.bnds.length : Int) != (c.reps.length : Int) - 1) = true := by rw [bne_iff_ne]; omega
        clear hz z3
        obtain ⟨W, eW, HB, c0, c1⟩ := box2 w (.slice A c.reps.length ca) (.slice B c.bnds.length cb) 25
        go_enter Tryz.func37, Tryz.ntmps37
        go_wp2
        go_ret
        exact ⟨rfl, HB⟩
      · clear hz
        obtain ⟨W, eW, HB, c0, c1⟩ := box2 w (.slice A c.reps.length ca) (.slice B c.bnds.length cb) 25
        go_enter Tryz.func37, Tryz.ntmps37
        go_wp2
        go_ret
        exact ⟨rfl, HB⟩
    · clear hz
      obtain ⟨W, eW, HB, c0, c1⟩ := box2 w (.slice A c.reps.length ca) (.slice B c.bnds.length cb) 25
      go_enter Tryz.func37, Tryz.ntmps37
      go_wp2
      go_ret
      exact ⟨rfl, HB⟩
  · have h1 : 1 ≤ c.reps.length ∧ c.reps.length ≤ 4 ∧ c.bnds.length + 1 = c.reps.length := by simpa [sizesB, and_assoc] using hz
    obtain ⟨z1, z2, z3⟩ := h1
    have z3' : ((c.bnds.length : Int) != (c.reps.length : Int) - 1) = false := by rw [bne_eq_false_iff_eq]; omega
    have zm : c.bnds.length ≤ 3 := by omega
    have HZ := Lib.hid hz
    clear z3 hz
    obtain ⟨W, eW, HB, c0, c1⟩ := box2 w (.slice A c.reps.length ca) (.slice B c.bnds.length cb) 25
    have h := h.later HB
    go_enter Tryz.func37, Tryz.ntmps37
    go_wp2_with fail
    clear eW z3'
    go_loop [30] (fun i => ∃ k : Nat, k ≤ c.reps.length ∧ i = .int .i64 k ∧ Hid (repsTo c.reps k = true)) (fun i => c.reps.length - (intOf i).toNat)
    case atStart => exact ⟨0, Nat.zero_le _, rfl, rfl⟩
    case round =>
      obtain ⟨k, hk, rfl, HA⟩ := hrel
      by_cases hlt : k < c.reps.length
      · obtain ⟨b, off, x, rfl, hc, HX⟩ := IntsAt.at' h.ints hlt
        cases hr : repOK x
        · have HF : Hid (formedB c = false) := formed_rep hlt (by rw [HX.out]; exact hr)
          have n1 : (x != 1) = true := by rw [bne_iff_ne]; rintro rfl; exact absurd hr (by decide)
          have n3 : (x != 3) = true := by rw [bne_iff_ne]; rintro rfl; exact absurd hr (by decide)
          have n5 : (x != 5) = true := by rw [bne_iff_ne]; rintro rfl; exact absurd hr (by decide)
          clear hr
          go_wp2
          go_ret
          exact ⟨ret_bool HF.out, HB⟩
        · have HR : Hid (repsTo c.reps (k + 1) = true) := by show _ = _; simp only [repsTo, HA.out, HX.out, hr, Bool.and_self]
          have hor : x = 1 ∨ x = 3 ∨ x = 5 := by simpa [repOK, or_assoc] using hr
          clear hr
          rcases hor with rfl | rfl | rfl
          all_goals
            go_wp2
            go_round
            case rel => exact ⟨k + 1, by omega, by go_num, HR⟩
            case measure => simp [intOf]; omega
      · have ek : k = c.reps.length := by omega
        have HR : Hid (repsTo c.reps c.reps.length = true) := by rw [← ek]; exact HA
        clear HA
        go_wp2
        go_loopw [48] (fun i wr => ∃ k : Nat, k ≤ c.bnds.length ∧ i = .int .i64 k ∧ Hid (risesTo c.bnds k = true) ∧ Below W.heap.size W wr) (fun i _ => c.bnds.length - (intOf i).toNat)
        case atStart => exact ⟨0, Nat.zero_le _, rfl, rfl, Below.refl _ _⟩
        case round =>
          obtain ⟨k, hk, rfl, HA, hw⟩ := hrel
          have hB := keepB HB hw
          have h := h.later hw
          replace c0 := keep hw c0
          replace c1 := keep hw c1
          by_cases hlt : k < c.bnds.length
          · obtain ⟨b, off, x, rfl, hc, HX⟩ := StrsAt.at' h.strs hlt
            have hsx : x.size ≤ maxLen := by have := h.hs k hlt; rw [HX.out] at this; exact this
            cases hkey : keyB x
            · have HF : Hid (formedB c = false) := formed_bnd hlt (by simp only [riseAt, HX.out, hkey, Bool.false_and])
              go_wp2_with (go_at_call 79; refine (key_any _ _ hsx).mono ?_; rintro e w2 ⟨rfl, hb⟩; replace hB := keepB hB hb)
              go_ret
              exact ⟨ret_bool HF.out, hB⟩
            · by_cases hk0 : k = 0
              · have HR : Hid (risesTo c.bnds (k + 1) = true) := risesTo_next0 HA.out HX.out hkey hk0
                have hg : decide (0 < k) = false := by rw [decide_eq_false_iff_not]; omega
                clear hk0
                go_wp2_with (go_at_call 79; refine (key_any _ _ hsx).mono ?_; rintro e w2 ⟨rfl, hb⟩; replace hw := hw.trans (hb.mono hw.size))
                go_roundw
                case rel => exact ⟨k + 1, by omega, by go_num, HR, hw⟩
                case measure => simp [intOf]; omega
              · obtain ⟨b', off', y, e, hc', HY⟩ := StrsAt.at' h.strs (k := k - 1) (by omega)
                injection e with e
                injection e with e1 e2
                subst e1 e2
                have hg : decide (0 < k) = true := by rw [decide_eq_true_iff]; omega
                have hi : ((k : Int) - 1).toNat = k - 1 := by omega
                have hk1 : 1 ≤ k := by omega
                cases hl : lessS y x
                · have HF : Hid (formedB c = false) := formed_bnd hlt (by simp only [riseAt, HX.out, HY.out, hkey, hl, beq_eq_false_iff_ne.2 hk0, Bool.false_or, Bool.and_false])
                  have hl' : Op.bytesLess y.toList x.toList = false := hl
                  clear hl hk0
                  go_wp2_with (go_at_call 79; refine (key_any _ _ hsx).mono ?_; rintro e w2 ⟨rfl, hb⟩; replace hc' := keep hb hc'; replace c1 := keep hb c1; replace hB := keepB hB hb)
                  go_ret
                  exact ⟨ret_bool HF.out, hB⟩
                · have HR : Hid (risesTo c.bnds (k + 1) = true) := risesTo_next HA.out HX.out HY.out hkey hl
                  have hl' : Op.bytesLess y.toList x.toList = true := hl
                  clear hl hk0
                  go_wp2_with (go_at_call 79; refine (key_any _ _ hsx).mono ?_; rintro e w2 ⟨rfl, hb⟩; replace hc' := keep hb hc'; replace c1 := keep hb c1; replace hw := hw.trans (hb.mono hw.size))
                  go_roundw
                  case rel => exact ⟨k + 1, by omega, by go_num, HR, hw⟩
                  case measure => simp [intOf]; omega
          · have ek : k = c.bnds.length := by omega
            have HF : Hid (formedB c = true) := formed_all HZ.out HR.out (by rw [← ek]; exact HA.out)
            go_wp2
            go_ret
            exact ⟨ret_bool HF.out, hB⟩
end Go.Proofs.YtcldpmkhpmlcbaaGreatDoor
/- The reference's Formed of layer 7: formedB of every configuration. -/
namespace Go.Proofs.YtcldpmkhpmlcbaaGreatDoor
open Go.RowKit Go.Shelf

set_option maxHeartbeats 1000000 in
theorem refFormed_any (c : Cfg) (A B : Option Addr) (ca cb : Nat) (w : World) (h : CfgAt w c A B) :
    Calls Tryz.prog 44 #[.agg #[.slice A c.reps.length ca, .slice B c.bnds.length cb]] w fun e w' => e = .returned (.bool (formedB c)) ∧ Below w.heap.size w w' := by
  obtain ⟨W, eW, HB, c0, c1⟩ := box2 w (.slice A c.reps.length ca) (.slice B c.bnds.length cb) 25
  cases hz : sizesB c
  · rw [formed_sizes hz]
    have hn := h.hn
    have hm := h.hm
    by_cases z1 : 1 ≤ c.reps.length
    · by_cases z2 : c.reps.length ≤ 4
      · have z3 : c.bnds.length + 1 ≠ c.reps.length := by
          intro e
          simp [sizesB, z1, z2, e] at hz
        have z3' : ((c.bnds.length : Int) != (c.reps.length : Int) - 1) = true := by rw [bne_iff_ne]; omega
        clear hz z3
        go_enter Tryz.func44, Tryz.ntmps44
        go_wp2
        go_ret
        exact ⟨rfl, HB⟩
      · clear hz
        go_enter Tryz.func44, Tryz.ntmps44
        go_wp2
        go_ret
        exact ⟨rfl, HB⟩
    · clear hz
      go_enter Tryz.func44, Tryz.ntmps44
      go_wp2
      go_ret
      exact ⟨rfl, HB⟩
  · have h1 : 1 ≤ c.reps.length ∧ c.reps.length ≤ 4 ∧ c.bnds.length + 1 = c.reps.length := by simpa [sizesB, and_assoc] using hz
    obtain ⟨z1, z2, z3⟩ := h1
    have z3' : ((c.bnds.length : Int) != (c.reps.length : Int) - 1) = false := by rw [bne_eq_false_iff_eq]; omega
    have zm : c.bnds.length ≤ 3 := by omega
    have HZ := Lib.hid hz
    have HZ3 := Lib.hid z3
    clear z3 hz
    have h := h.later HB
    go_enter Tryz.func44, Tryz.ntmps44
    go_wp2_with fail
    clear eW z3'
    go_loop [4] (fun i => ∃ k : Nat, k ≤ c.reps.length ∧ i = .int .i64 k ∧ Hid (repsTo c.reps k = true)) (fun i => c.reps.length - (intOf i).toNat)
    case atStart => exact ⟨0, Nat.zero_le _, rfl, rfl⟩
    case round =>
      obtain ⟨k, hk, rfl, HA⟩ := hrel
      by_cases hlt : k < c.reps.length
      · obtain ⟨b, off, x, rfl, hc, HX⟩ := IntsAt.at' h.ints hlt
        cases hr : repOK x
        · have HF : Hid (formedB c = false) := formed_rep hlt (by rw [HX.out]; exact hr)
          have n1 : (x != 1) = true := by rw [bne_iff_ne]; rintro rfl; exact absurd hr (by decide)
          have n3 : (x != 3) = true := by rw [bne_iff_ne]; rintro rfl; exact absurd hr (by decide)
          have n5 : (x != 5) = true := by rw [bne_iff_ne]; rintro rfl; exact absurd hr (by decide)
          clear hr
          go_wp2
          go_ret
          exact ⟨ret_bool HF.out, HB⟩
        · have HR : Hid (repsTo c.reps (k + 1) = true) := by show _ = _; simp only [repsTo, HA.out, HX.out, hr, Bool.and_self]
          have hor : x = 1 ∨ x = 3 ∨ x = 5 := by simpa [repOK, or_assoc] using hr
          clear hr
          rcases hor with rfl | rfl | rfl
          all_goals
            go_wp2
            go_round
            case rel => exact ⟨k + 1, by omega, by go_num, HR⟩
            case measure => simp [intOf]; omega
      · have ek : k = c.reps.length := by omega
        have HR : Hid (repsTo c.reps c.reps.length = true) := by rw [← ek]; exact HA
        clear HA
        go_wp2
        go_loopw [5] (fun i wr => ∃ k : Nat, k ≤ c.bnds.length ∧ i = .int .i64 k ∧ Hid (risesTo c.bnds k = true) ∧ Below W.heap.size W wr) (fun i _ => c.bnds.length - (intOf i).toNat)
        case atStart => exact ⟨0, Nat.zero_le _, rfl, rfl, Below.refl _ _⟩
        case round =>
          obtain ⟨k, hk, rfl, HA, hw⟩ := hrel
          have hB := keepB HB hw
          have h := h.later hw
          replace c0 := keep hw c0
          replace c1 := keep hw c1
          have hk2 := HZ3.out
          by_cases hlt : k < c.bnds.length
          · obtain ⟨b, off, x, rfl, hc, HX⟩ := StrsAt.at' h.strs hlt
            have hlt2 : (k : Int) < (c.reps.length : Int) - 1 := by omega
            clear hk2
            have hsx : x.size ≤ maxLen := by have := h.hs k hlt; rw [HX.out] at this; exact this
            have hki : (k : Int) < (c.bnds.length : Int) := by omega
            cases hkey : keyB x
            · have HF : Hid (formedB c = false) := formed_bnd hlt (by simp only [riseAt, HX.out, hkey, Bool.false_and])
              go_wp2
              go_quiet ((go_at_call 56; exact quiet_left (refKey_any _ _ hsx)))
              go_wp2
              go_ret
              exact ⟨ret_bool HF.out, below_drewN hB _⟩
            · by_cases hk0 : k = 0
              · have HR : Hid (risesTo c.bnds (k + 1) = true) := risesTo_next0 HA.out HX.out hkey hk0
                have hg : decide (0 < k) = false := by rw [decide_eq_false_iff_not]; omega
                clear hk0
                go_wp2
                go_quiet ((go_at_call 56; exact quiet_left (refKey_any _ _ hsx)))
                go_wp2
                go_roundw
                case rel => exact ⟨k + 1, by omega, by go_num, HR, below_drewN hw _⟩
                case measure => simp [intOf]; omega
              · obtain ⟨b', off', y, e, hc', HY⟩ := StrsAt.at' h.strs (k := k - 1) (by omega)
                injection e with e
                injection e with e1 e2
                subst e1 e2
                have hg : decide (0 < k) = true := by rw [decide_eq_true_iff]; omega
                have hi : ((k : Int) - 1).toNat = k - 1 := by omega
                have hk1 : 1 ≤ k := by omega
                have hk1i : (1 : Int) ≤ (k : Int) := by omega
                have hk2i : (k : Int) - 1 < (c.bnds.length : Int) := by omega
                cases hl : lessS y x
                · have HF : Hid (formedB c = false) := formed_bnd hlt (by simp only [riseAt, HX.out, HY.out, hkey, hl, beq_eq_false_iff_ne.2 hk0, Bool.false_or, Bool.and_false])
                  have hl' : (Op.bytesLess x.toList y.toList || x.toList == y.toList) = true := lessS_no hl
                  clear hl hk0
                  go_wp2
                  go_quiet ((go_at_call 56; exact quiet_left (refKey_any _ _ hsx)))
                  go_wp2
                  go_ret
                  exact ⟨ret_bool HF.out, below_drewN hB _⟩
                · have HR : Hid (risesTo c.bnds (k + 1) = true) := risesTo_next HA.out HX.out HY.out hkey hl
                  have hl' : (Op.bytesLess x.toList y.toList || x.toList == y.toList) = false := lessS_yes hl
                  clear hl hk0
                  go_wp2
                  go_quiet ((go_at_call 56; exact quiet_left (refKey_any _ _ hsx)))
                  go_wp2
                  go_roundw
                  case rel => exact ⟨k + 1, by omega, by go_num, HR, below_drewN hw _⟩
                  case measure => simp [intOf]; omega
          · have ek : k = c.bnds.length := by omega
            have hlt2 : ¬ (k : Int) < (c.reps.length : Int) - 1 := by omega
            clear hk2
            have HF : Hid (formedB c = true) := formed_all HZ.out HR.out (by rw [← ek]; exact HA.out)
            clear ek
            go_wp2
            go_ret
            exact ⟨ret_bool HF.out, hB⟩
end Go.Proofs.YtcldpmkhpmlcbaaGreatDoor
/- The plain words of layer 7's places: how many replicas, whose place, whose replica. -/
namespace Go.Proofs.YtcldpmkhpmlcbaaGreatDoor

def sumTo (l : List Int) : Nat → Int
  | 0 => 0
  | k + 1 => sumTo l k + l.getD k 0
def totZ (c : Cfg) : Int := if formedB c then sumTo c.reps c.reps.length else 0
/-- From group g on: whose is the place p? -/
def atGo (l : List Int) : Nat → Nat → Int → Int × Int
  | 0, _, _ => (-1, -1)
  | f + 1, g, p => if p < l.getD g 0 then ((g : Int), p) else atGo l f (g + 1) (p - l.getD g 0)
def atZ (c : Cfg) (p : Int) : Int × Int := if 0 ≤ p ∧ p < totZ c then atGo c.reps c.reps.length 0 p else (-1, -1)
def hasB (c : Cfg) (g n : Int) : Bool := formedB c && decide (0 ≤ g) && decide (g < c.reps.length) && decide (0 ≤ n) && decide (n < c.reps.getD g.toNat 0)
def placeZ (c : Cfg) (g n : Int) : Int := if hasB c g n then sumTo c.reps g.toNat + n else -1

theorem formed_repOK {c : Cfg} (h : formedB c = true) {k : Nat} (hk : k < c.reps.length) : repOK (c.reps.getD k 0) = true := by
  cases hr : repOK (c.reps.getD k 0)
  · rw [formed_rep hk hr] at h; cases h
  · rfl
theorem formed_range {c : Cfg} (h : formedB c = true) {k : Nat} (hk : k < c.reps.length) : 1 ≤ c.reps.getD k 0 ∧ c.reps.getD k 0 ≤ 5 := by
  have := formed_repOK h hk
  simp only [repOK, Bool.or_eq_true, beq_iff_eq, or_assoc] at this
  omega
theorem formed_len {c : Cfg} (h : formedB c = true) : 1 ≤ c.reps.length ∧ c.reps.length ≤ 4 ∧ c.bnds.length + 1 = c.reps.length := by
  have : sizesB c = true := by
    cases hz : sizesB c
    · rw [formed_sizes hz] at h; cases h
    · rfl
  simpa [sizesB, and_assoc] using this
theorem sumTo_range {c : Cfg} (h : formedB c = true) : ∀ k, k ≤ c.reps.length → (k : Int) ≤ sumTo c.reps k ∧ sumTo c.reps k ≤ 5 * k
  | 0, _ => by simp [sumTo]
  | k + 1, hk => by
    have h1 := sumTo_range h k (by omega)
    have h2 := formed_range h (k := k) (by omega)
    simp only [sumTo]
    omega
theorem sumTo_mono {c : Cfg} (h : formedB c = true) {i j : Nat} (hij : i ≤ j) (hj : j ≤ c.reps.length) : sumTo c.reps i ≤ sumTo c.reps j := by
  induction j with
  | zero => have : i = 0 := by omega
            subst this; exact Int.le_refl _
  | succ j ih =>
    by_cases e : i = j + 1
    · subst e; exact Int.le_refl _
    · have h1 := ih (by omega) (by omega)
      have h2 := formed_range h (k := j) (by omega)
      simp only [sumTo]
      omega
theorem tot_range (c : Cfg) : 0 ≤ totZ c ∧ totZ c ≤ 20 := by
  unfold totZ
  split
  · rename_i h
    have h1 := sumTo_range h _ (Nat.le_refl _)
    have h2 := formed_len h
    omega
  · omega

/-- At a replica's place: that replica. -/
theorem atGo_found {c : Cfg} (h : formedB c = true) (g : Nat) (hg : g < c.reps.length) (n : Int) (h0 : 0 ≤ n) (hn : n < c.reps.getD g 0) :
    ∀ (f j : Nat), j ≤ g → g < j + f → atGo c.reps f j (sumTo c.reps g - sumTo c.reps j + n) = ((g : Int), n)
  | 0, j, hj, hf => by omega
  | f + 1, j, hj, hf => by
    unfold atGo
    by_cases e : j = g
    · subst e
      rw [Int.sub_self, Int.zero_add, if_pos hn]
    · have hm := sumTo_mono h (i := j + 1) (j := g) (by omega) (by omega)
      have hs : sumTo c.reps (j + 1) = sumTo c.reps j + c.reps.getD j 0 := rfl
      rw [if_neg (by omega)]
      have := atGo_found h g hg n h0 hn f (j + 1) (by omega) (by omega)
      rw [hs] at this
      rw [← this]
      congr 1
      omega
theorem at_found {c : Cfg} (h : formedB c = true) {g : Nat} (hg : g < c.reps.length) {n : Int} (h0 : 0 ≤ n) (hn : n < c.reps.getD g 0) : atZ c (sumTo c.reps g + n) = ((g : Int), n) := by
  have h1 := sumTo_range h g (by omega)
  have h2 := sumTo_mono h (i := g + 1) (j := c.reps.length) (by omega) (Nat.le_refl _)
  have hs : sumTo c.reps (g + 1) = sumTo c.reps g + c.reps.getD g 0 := rfl
  have ht : totZ c = sumTo c.reps c.reps.length := by simp [totZ, h]
  unfold atZ
  rw [if_pos (by omega)]
  have := atGo_found h g hg n h0 hn c.reps.length 0 (by omega) (by omega)
  have h00 : sumTo c.reps 0 = 0 := rfl
  rw [h00, Int.sub_zero] at this
  exact this
theorem at_none {c : Cfg} {p : Int} (h : ¬ (0 ≤ p ∧ p < totZ c)) : atZ c p = (-1, -1) := by
  unfold atZ; rw [if_neg h]
/-- Each place up to the first k groups' is some replica's. -/
theorem split_place {c : Cfg} (h : formedB c = true) {p : Int} (h0 : 0 ≤ p) : ∀ k, k ≤ c.reps.length → p < sumTo c.reps k → ∃ (g : Nat) (n : Int), g < k ∧ 0 ≤ n ∧ n < c.reps.getD g 0 ∧ p = sumTo c.reps g + n
  | 0, _, hp => by simp [sumTo] at hp; omega
  | k + 1, hk, hp => by
    by_cases hlt : p < sumTo c.reps k
    · obtain ⟨g, n, hg, a, b, e⟩ := split_place h h0 k (by omega) hlt
      exact ⟨g, n, by omega, a, b, e⟩
    · have hs : sumTo c.reps (k + 1) = sumTo c.reps k + c.reps.getD k 0 := rfl
      exact ⟨k, p - sumTo c.reps k, by omega, by omega, by omega, by omega⟩
theorem tot_formed {c : Cfg} {p : Int} (h0 : 0 ≤ p) (h : p < totZ c) : formedB c = true := by
  cases hf : formedB c
  · simp [totZ, hf] at h; omega
  · rfl
/-- Whose place is p, of those that are: the one replica that has it. -/
theorem at_some {c : Cfg} {p : Int} (h0 : 0 ≤ p) (h : p < totZ c) : ∃ (g : Nat) (n : Int), g < c.reps.length ∧ 0 ≤ n ∧ n < c.reps.getD g 0 ∧ p = sumTo c.reps g + n ∧ atZ c p = ((g : Int), n) := by
  have hf := tot_formed h0 h
  have ht : totZ c = sumTo c.reps c.reps.length := by simp [totZ, hf]
  obtain ⟨g, n, hg, a, b, rfl⟩ := split_place hf h0 c.reps.length (Nat.le_refl _) (by omega)
  exact ⟨g, n, hg, a, b, rfl, at_found hf hg a b⟩
theorem has_iff {c : Cfg} {g n : Int} : hasB c g n = true ↔ formedB c = true ∧ 0 ≤ g ∧ g < c.reps.length ∧ 0 ≤ n ∧ n < c.reps.getD g.toNat 0 := by
  simp only [hasB, Bool.and_eq_true, decide_eq_true_eq, and_assoc]
theorem place_found {c : Cfg} (h : formedB c = true) {g : Nat} (hg : g < c.reps.length) {n : Int} (h0 : 0 ≤ n) (hn : n < c.reps.getD g 0) : placeZ c g n = sumTo c.reps g + n := by
  have : hasB c g n = true := has_iff.2 ⟨h, by omega, by omega, h0, by simpa using hn⟩
  unfold placeZ
  rw [if_pos this]
  simp
/-- A place's replica has that place. -/
theorem place_at {c : Cfg} {p : Int} (h0 : 0 ≤ p) (h : p < totZ c) : placeZ c (atZ c p).1 (atZ c p).2 = p := by
  obtain ⟨g, n, hg, a, b, e, e2⟩ := at_some h0 h
  rw [e2]
  rw [place_found (tot_formed h0 h) hg a b, e]
theorem place_none (c : Cfg) : placeZ c (-1) (-1) = -1 := by
  have : hasB c (-1) (-1) = false := by simp [hasB]
  simp [placeZ, this]
/-- A replica's place is its own. -/
theorem at_place {c : Cfg} {g n : Int} (h : hasB c g n = true) : 0 ≤ placeZ c g n ∧ placeZ c g n < totZ c ∧ atZ c (placeZ c g n) = (g, n) := by
  obtain ⟨hf, h1, h2, h3, h4⟩ := has_iff.1 h
  obtain ⟨k, rfl⟩ := Int.eq_ofNat_of_zero_le h1
  have h4' : n < c.reps.getD k 0 := by simpa using h4
  have hk : k < c.reps.length := by omega
  rw [place_found hf hk h3 h4']
  have q1 := sumTo_range hf k (by omega)
  have q2 := sumTo_mono hf (i := k + 1) (j := c.reps.length) (by omega) (Nat.le_refl _)
  have hs : sumTo c.reps (k + 1) = sumTo c.reps k + c.reps.getD k 0 := rfl
  have ht : totZ c = sumTo c.reps c.reps.length := by simp [totZ, hf]
  exact ⟨by omega, by omega, at_found hf hk h3 h4'⟩
/-- Of all places, the one at which a replica is found is its place. -/
theorem place_of_at {c : Cfg} {p g n : Int} (h0 : 0 ≤ p) (h : p < totZ c) (e : atZ c p = (g, n)) : placeZ c g n = p := by
  have := place_at h0 h
  rw [e] at this
  exact this
theorem place_not {c : Cfg} {g n : Int} (h : hasB c g n = false) : placeZ c g n = -1 := by simp [placeZ, h]
theorem at_has {c : Cfg} {p : Int} (h0 : 0 ≤ p) (h : p < totZ c) : hasB c (atZ c p).1 (atZ c p).2 = true := by
  obtain ⟨g, n, hg, a, b, e, e2⟩ := at_some h0 h
  rw [e2]
  exact has_iff.2 ⟨tot_formed h0 h, by simp, by simpa using hg, a, by simpa using b⟩
end Go.Proofs.YtcldpmkhpmlcbaaGreatDoor
/- Layer 7's Total, At and Place, the program's and the reference's: what each returns, of every configuration. -/
namespace Go.Proofs.YtcldpmkhpmlcbaaGreatDoor
open Go.RowKit Go.Shelf

theorem ret_int {k : IntKind} {a b : Int} (h : a = b) : Ending.returned (.int k b) = .returned (.int k a) := by rw [h]
theorem tot_yes {c : Cfg} (h : formedB c = true) : totZ c = sumTo c.reps c.reps.length := by simp [totZ, h]
theorem tot_no {c : Cfg} (h : formedB c = false) : totZ c = 0 := by simp [totZ, h]

end Go.Proofs.YtcldpmkhpmlcbaaGreatDoor
/- Layer 7's At and Place, the program's and the reference's: what each returns, of every configuration. -/
namespace Go.Proofs.YtcldpmkhpmlcbaaGreatDoor
open Go.RowKit Go.Shelf

theorem ret_pair {a b : Int} {p : Int × Int} (h : p = (a, b)) : Ending.returned (.tuple #[.int .i64 a, .int .i64 b]) = .returned (.tuple #[.int .i64 p.1, .int .i64 p.2]) := by rw [h]

theorem atGo_hit {l : List Int} {f g : Nat} {p x : Int} (hx : l.getD g 0 = x) (h : p < x) : atGo l (f + 1) g p = ((g : Int), p) := by
  unfold atGo; rw [hx, if_pos h]
theorem atGo_next {l : List Int} {f g : Nat} {p x : Int} (hx : l.getD g 0 = x) (h : ¬ p < x) : atGo l (f + 1) g p = atGo l f (g + 1) (p - x) := by
  conv => lhs; unfold atGo
  rw [hx, if_neg h]

end Go.Proofs.YtcldpmkhpmlcbaaGreatDoor
/- The plain words of layer 7's Home: how many bounds are not above a key. -/
namespace Go.Proofs.YtcldpmkhpmlcbaaGreatDoor

/-- Of the first k strings those that are not above the key. -/
def leTo (l : List ByteArray) (key : ByteArray) : Nat → Nat
  | 0 => 0
  | k + 1 => leTo l key k + if lessS key (l.getD k noStr) then 0 else 1
def homeN (c : Cfg) (key : ByteArray) : Nat := leTo c.bnds key c.bnds.length
def homeZ (c : Cfg) (key : ByteArray) : Int := if formedB c then (homeN c key : Int) else -1

theorem leTo_le (l : List ByteArray) (key : ByteArray) : ∀ k, leTo l key k ≤ k
  | 0 => Nat.le_refl _
  | k + 1 => by have := leTo_le l key k; simp only [leTo]; split <;> omega
/-- Behind a search: below p all are below the key, from p on none is. -/
theorem leTo_found {l : List ByteArray} {key : ByteArray} {n p : Nat} (h : risesTo l n = true) (hp : p ≤ n) (h1 : ∀ m, m < p → lessS (l.getD m noStr) key = true) (h2 : ∀ m, p ≤ m → m < n → lessS (l.getD m noStr) key = false) :
    ∀ k, k ≤ n → leTo l key k = min k p + if p < k ∧ l.getD p noStr = key then 1 else 0
  | 0, _ => by simp [leTo]
  | k + 1, hk => by
    have ih := leTo_found h hp h1 h2 k (by omega)
    have step : leTo l key (k + 1) = leTo l key k + (if lessS key (l.getD k noStr) = true then 0 else 1) := rfl
    rw [step, ih]
    by_cases hkp : k < p
    · have hx := lessS_asym (h1 k hkp)
      rw [if_neg (c := lessS key (l.getD k noStr) = true) (by rw [hx]; decide), if_neg (c := p < k ∧ l.getD p noStr = key) (fun q => by have := q.1; omega), if_neg (c := p < k + 1 ∧ l.getD p noStr = key) (fun q => by have := q.1; omega)]
      omega
    · have hn := h2 k (by omega) (by omega)
      by_cases e : k = p
      · subst e
        rw [if_neg (c := k < k ∧ l.getD k noStr = key) (fun q => by have := q.1; omega)]
        by_cases ek : l.getD k noStr = key
        · rw [if_neg (c := lessS key (l.getD k noStr) = true) (by rw [ek, lessS_irr]; decide), if_pos (c := k < k + 1 ∧ l.getD k noStr = key) ⟨by omega, ek⟩]; omega
        · have hx : lessS key (l.getD k noStr) = true := by
            cases hx : lessS key (l.getD k noStr)
            · exact absurd (lessS_tri hn hx) ek
            · rfl
          rw [if_pos (c := lessS key (l.getD k noStr) = true) hx, if_neg (c := k < k + 1 ∧ l.getD k noStr = key) (fun q => ek q.2)]; omega
      · have hlt := rises_mono h (i := p) (j := k) (by omega) (by omega)
        have hx : lessS key (l.getD k noStr) = true := by
          have hpn := h2 p (Nat.le_refl _) (by omega)
          cases hq : lessS key (l.getD p noStr)
          · have := lessS_tri hpn hq; rw [← this]; exact hlt
          · exact lessS_trans hq hlt
        rw [if_pos (c := lessS key (l.getD k noStr) = true) hx]
        by_cases ek : l.getD p noStr = key
        · rw [if_pos (c := p < k ∧ l.getD p noStr = key) ⟨by omega, ek⟩, if_pos (c := p < k + 1 ∧ l.getD p noStr = key) ⟨by omega, ek⟩]; omega
        · rw [if_neg (c := p < k ∧ l.getD p noStr = key) (fun q => ek q.2), if_neg (c := p < k + 1 ∧ l.getD p noStr = key) (fun q => ek q.2)]; omega
theorem leTo_mono_key {l : List ByteArray} {a b : ByteArray} (hab : lessS b a = false) : ∀ k, leTo l a k ≤ leTo l b k
  | 0 => Nat.le_refl _
  | k + 1 => by
    have ih := leTo_mono_key (l := l) hab k
    simp only [leTo]
    cases hb : lessS b (l.getD k noStr)
    · split <;> simp_all <;> omega
    · have ha : lessS a (l.getD k noStr) = true := by
        cases hq : lessS a b
        · have := lessS_tri hab hq; rw [← this]; exact hb
        · exact lessS_trans hq hb
      rw [ha]; simp; exact ih
/-- At a bound: the group that it begins. -/
theorem home_bound {c : Cfg} (h : formedB c = true) {i : Nat} (hi : i < c.bnds.length) : homeZ c (c.bnds.getD i noStr) = i + 1 := by
  have hr : risesTo c.bnds c.bnds.length = true := by
    simp only [formedB, Bool.and_eq_true] at h; exact h.2
  have := leTo_found (l := c.bnds) (key := c.bnds.getD i noStr) (p := i) hr (by omega) (fun m hm => rises_mono hr hm hi)
    (fun m hm hmn => by
      by_cases e : m = i
      · subst e; exact lessS_irr _
      · exact lessS_asym (rises_mono hr (by omega) hmn)) c.bnds.length (Nat.le_refl _)
  rw [if_pos ⟨hi, rfl⟩] at this
  simp only [homeZ, h, if_true, homeN, this]
  omega
theorem home_range {c : Cfg} (h : formedB c = true) (key : ByteArray) : 0 ≤ homeZ c key ∧ homeZ c key < c.reps.length := by
  have h1 := leTo_le c.bnds key c.bnds.length
  have h2 := (formed_len h).2.2
  simp only [homeZ, h, if_true, homeN]
  omega
theorem home_mono {c : Cfg} (h : formedB c = true) {a b : ByteArray} (hab : lessS b a = false) : homeZ c a ≤ homeZ c b := by
  have := leTo_mono_key (l := c.bnds) hab c.bnds.length
  simp only [homeZ, h, if_true, homeN]
  omega
theorem home_not {c : Cfg} (h : formedB c = false) (key : ByteArray) : homeZ c key = -1 := by simp [homeZ, h]
theorem home_yes {c : Cfg} (h : formedB c = true) (key : ByteArray) : homeZ c key = (leTo c.bnds key c.bnds.length : Nat) := by simp [homeZ, h, homeN]
/-- The empty key is of the first group. -/
theorem home_empty {c : Cfg} (h : formedB c = true) : homeZ c ⟨#[]⟩ = 0 := by
  have hr : risesTo c.bnds c.bnds.length = true := by
    simp only [formedB, Bool.and_eq_true] at h; exact h.2
  have hno : ∀ s : ByteArray, lessS s ⟨#[]⟩ = false := fun s => by
    have e : (⟨#[]⟩ : ByteArray).toList = [] := by rw [ByteArray.toList_eq]
    simp only [lessS, e]
    cases s.toList <;> rfl
  have := leTo_found (l := c.bnds) (key := ⟨#[]⟩) (p := 0) hr (by omega) (fun m hm => by omega) (fun m _ _ => hno _) c.bnds.length (Nat.le_refl _)
  have hne : ¬ (0 < c.bnds.length ∧ c.bnds.getD 0 noStr = ⟨#[]⟩) := by
    rintro ⟨h0, e⟩
    have hk := rises_key hr h0
    rw [e] at hk
    exact absurd hk (by decide)
  rw [if_neg hne] at this
  rw [home_yes h, this]
  simp
end Go.Proofs.YtcldpmkhpmlcbaaGreatDoor
/- slices.Sorted(maps.Keys(s.keys)): the keys of a store, rising. -/
namespace Go.Proofs.YtcldpmkhpmlcbaaGreatDoor
open Go.RowKit Go.Maps Go.Sort

def keysL (m : KV) : List (List UInt8) := m.map fun p => p.1.data.toList
theorem keysL_pair {m : KV} (h : RisesK m) : (keysL m).Pairwise fun a b => a < b := by
  refine List.pairwise_map.2 (h.imp fun {p q} hpq => ?_)
  have e : ∀ b : ByteArray, b.toList = b.data.toList := fun b => by rw [ByteArray.toList_eq]
  simp only [lessS, bytesLess_eq, decide_eq_true_eq, e] at hpq
  exact hpq
theorem keysL_nodup {m : KV} (h : RisesK m) : (keysL m).Nodup := (keysL_pair h).imp fun hab e => by subst e; exact List.lt_irrefl _ hab
theorem getK_empty {m : KV} {x : ByteArray} (h : ∀ p ∈ m, p.1 ≠ x) : getK m x = [] := getK_none h
theorem mem_keysL {m : KV} (h : RisesK m) (hne : ∀ p ∈ m, p.2 ≠ []) (x : List UInt8) : x ∈ keysL m ↔ (!(getK m ⟨x.toArray⟩).isEmpty) = true := by
  constructor
  · intro hx
    obtain ⟨p, hp, rfl⟩ := List.mem_map.1 hx
    have e : (⟨p.1.data.toList.toArray⟩ : ByteArray) = p.1 := rfl
    rw [e, getK_mem h (l := p.2) hp]
    have := hne p hp
    cases hq : p.2 with
    | nil => exact absurd hq this
    | cons a l => rfl
  · intro hx
    by_cases hm : getK m ⟨x.toArray⟩ = []
    · rw [hm] at hx; cases hx
    · exact List.mem_map.2 ⟨_, getK_in hm, by simp⟩
theorem keys_perm {w : World} {B N mb : Nat} {D : DataW Value} {V : ByteArray → Value} {O : Nat → Prop} {m : KV} (h : KeysAt w B N mb D V O m) (hr : RisesK m) (hne : ∀ p ∈ m, p.2 ≠ []) : (keysL m).Perm (strKeys D) := by
  refine Collected.perm (left := fun _ => false) ⟨keysL_nodup hr, fun x => ?_⟩ h.own keyS Tryz.underlying9 (fun _ => rfl)
  have e := h.has ⟨x.toArray⟩
  rw [show lit ⟨x.toArray⟩ = Lit.string x by simp [lit]] at e
  rw [mem_keysL hr hne, e]
  simp
theorem keys_sorted {w : World} {B N mb : Nat} {D : DataW Value} {V : ByteArray → Value} {O : Nat → Prop} {m : KV} (h : KeysAt w B N mb D V O m) (hr : RisesK m) (hne : ∀ p ∈ m, p.2 ≠ []) {ss : List (List UInt8)} (hp : ss.Perm (strKeys D)) : ss.mergeSort (fun x y => decide (x ≤ y)) = keysL m := by
  have e : ss.mergeSort leB = (keysL m).mergeSort leB := mergeSort_of_perm (hp.trans (keys_perm h hr hne).symm)
  refine e.trans (List.mergeSort_of_pairwise ((keysL_pair hr).imp fun hab => ?_))
  simp only [leB, decide_eq_true_eq]
  exact List.le_of_lt hab
theorem keysL_cells (m : KV) : (keysL m).map encStr = (m.map fun p => Value.string p.1) := by
  rw [keysL, List.map_map]
  exact List.map_congr_left fun p _ => by simp [encStr]
theorem keysL_len (m : KV) : (keysL m).length = m.length := List.length_map ..
end Go.Proofs.YtcldpmkhpmlcbaaGreatDoor
