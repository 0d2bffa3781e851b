/- Blocks of three cells; votes in plain Lean. -/
import Derived.Test.YtcldpmkhpmlcbaaGreatDoorRefAp14
import Derived.Test.YtcldpmkhpmlcbaaGreatDoorJ1
import Derived.Test.YtcldpmkhpmlcbaaGreatDoorJ2
import Derived.Test.YtcldpmkhpmlcbaaGreatDoorJ4
import Derived.Sort.KeysCollected
set_option linter.unusedVariables false
set_option linter.unusedSimpArgs false
namespace Go.Proofs.YtcldpmkhpmlcbaaGreatDoor
open Go.RowKit Go.Maps Go.Shelf Go.Sort

def voteR (s : StD) (x : Rd) : Bool := decide ((seenV (getK s.ks x.key) s.last).num = x.ver)
def voteB (s : StD) (l : List Rd) : Bool := l.all (voteR s)
theorem box1 (w : World) (u : Value) (t : TypeId) : ∃ W : World, w.alloc (.cells #[u] t) = W ∧ Below w.heap.size w W ∧ W.cell? ⟨w.heap.size, 0, none⟩ = some u :=
  ⟨_, rfl, below1 _ _, by simp⟩
theorem keepD {W : World} {a : Addr} {v : Value} (h : W.cell? a = some v) : W.drew.cell? a = some v := h
theorem keepS {W : World} {b c i j : Nat} {v u : Value} (h : W.cell? ⟨b, i, none⟩ = some v) (hne : ¬ (b = c)) : (W.setCell ⟨c, j, none⟩ u).cell? ⟨b, i, none⟩ = some v := by
  rw [World.cell?_of_block (Below.heap_setCell _ _ _ _ hne)]; exact h
def Blk3 (w : World) (g : Nat) (a b c : Value) : Prop := ∃ t, w.heap[g]? = some (.cells #[a, b, c] t (0, 0))
theorem Blk3.newd {W w1 : World} {a b c : Value} {t : TypeId} (hb : Below (W.alloc (.cells #[a, b, c] t)).drew.heap.size (W.alloc (.cells #[a, b, c] t)).drew w1) : Blk3 w1 W.heap.size a b c :=
  ⟨t, obj_later (w := (W.alloc (.cells #[a, b, c] t)).drew) (heap_alloc_new W _) hb⟩
theorem Blk3.later {w w' : World} {g : Nat} {a b c : Value} (h : Blk3 w g a b c) (hb : Below w.heap.size w w') : Blk3 w' g a b c := by
  obtain ⟨t, h⟩ := h
  exact ⟨t, obj_later h hb⟩
theorem Blk3.facts {w : World} {g : Nat} {a b c : Value} (h : Blk3 w g a b c) : w.cell? ⟨g, 0, none⟩ = some a ∧ w.cell? ⟨g, 1, none⟩ = some b ∧ w.cell? ⟨g, 2, none⟩ = some c ∧ w.frozen? ⟨g, 0, none⟩ = false ∧ w.frozen? ⟨g, 1, none⟩ = false ∧ w.frozen? ⟨g, 2, none⟩ = false := by
  obtain ⟨t, h⟩ := h
  exact cells3 h
theorem calls_b16 {P : Program} {f : FuncId} {args : Array Value} {w : World} {z x : Bool} (e : z = x) (h : Calls P f args w fun e w' => e = .returned (.bool z) ∧ Below w.heap.size w w') : Calls P f args w fun e w' => e = .returned (.bool x) ∧ Below w.heap.size w w' := by
  rw [e] at h; exact h
end Go.Proofs.YtcldpmkhpmlcbaaGreatDoor
/- config.Formed and the reference's Formed: both tell formedB of every configuration. -/
namespace Go.Proofs.YtcldpmkhpmlcbaaGreatDoor
open Go.RowKit Go.Shelf

set_option maxHeartbeats 1000000 in
theorem formed_any (c : Cfg) (A B : Option Addr) (ca cb : Nat) (w : World) (h : CfgAt w c A B) :
    Calls Tryz.prog 37 #[.agg #[.slice A c.reps.length ca, .slice B c.bnds.length cb]] w fun e w' => e = .returned (.bool (formedB c)) ∧ Below w.heap.size w w' := by
  cases hz : sizesB c
  · rw [formed_sizes hz]
    have hn := h.hn
    have hm := h.hm
    by_cases z1 : 1 ≤ c.reps.length
    · by_cases z2 : c.reps.length ≤ 4
      · have z3 : c.bnds.length + 1 ≠ c.reps.length := by
          intro e
          simp [sizesB, z1, z2, e] at hz
        have z3' : ((c.bnds.length : Int) != (c.reps.length : Int) - 1) = true := by rw [bne_iff_ne]; omega
        clear hz z3
        obtain ⟨W, eW, HB, c0, c1⟩ := box2 w (.slice A c.reps.length ca) (.slice B c.bnds.length cb) 25
        go_enter Tryz.func37, Tryz.ntmps37
        go_wp2
        go_ret
        exact ⟨rfl, HB⟩
      · clear hz
        obtain ⟨W, eW, HB, c0, c1⟩ := box2 w (.slice A c.reps.length ca) (.slice B c.bnds.length cb) 25
        go_enter Tryz.func37, Tryz.ntmps37
        go_wp2
        go_ret
        exact ⟨rfl, HB⟩
    · clear hz
      obtain ⟨W, eW, HB, c0, c1⟩ := box2 w (.slice A c.reps.length ca) (.slice B c.bnds.length cb) 25
      go_enter Tryz.func37, Tryz.ntmps37
      go_wp2
      go_ret
      exact ⟨rfl, HB⟩
  · have h1 : 1 ≤ c.reps.length ∧ c.reps.length ≤ 4 ∧ c.bnds.length + 1 = c.reps.length := by simpa [sizesB, and_assoc] using hz
    obtain ⟨z1, z2, z3⟩ := h1
    have z3' : ((c.bnds.length : Int) != (c.reps.length : Int) - 1) = false := by rw [bne_eq_false_iff_eq]; omega
    have zm : c.bnds.length ≤ 3 := by omega
    have HZ := Lib.hid hz
    clear z3 hz
    obtain ⟨W, eW, HB, c0, c1⟩ := box2 w (.slice A c.reps.length ca) (.slice B c.bnds.length cb) 25
    have h := h.later HB
    go_enter Tryz.func37, Tryz.ntmps37
    go_wp2_with fail
    clear eW z3'
    go_loop [30] (fun i => ∃ k : Nat, k ≤ c.reps.length ∧ i = .int .i64 k ∧ Hid (repsTo c.reps k = true)) (fun i => c.reps.length - (intOf i).toNat)
    case atStart => exact ⟨0, Nat.zero_le _, rfl, rfl⟩
    case round =>
      obtain ⟨k, hk, rfl, HA⟩ := hrel
      by_cases hlt : k < c.reps.length
      · obtain ⟨b, off, x, rfl, hc, HX⟩ := IntsAt.at' h.ints hlt
        cases hr : repOK x
        · have HF : Hid (formedB c = false) := formed_rep hlt (by rw [HX.out]; exact hr)
          have n1 : (x != 1) = true := by rw [bne_iff_ne]; rintro rfl; exact absurd hr (by decide)
          have n3 : (x != 3) = true := by rw [bne_iff_ne]; rintro rfl; exact absurd hr (by decide)
          have n5 : (x != 5) = true := by rw [bne_iff_ne]; rintro rfl; exact absurd hr (by decide)
          clear hr
          go_wp2
          go_ret
          exact ⟨ret_bool HF.out, HB⟩
        · have HR : Hid (repsTo c.reps (k + 1) = true) := by show _ = _; simp only [repsTo, HA.out, HX.out, hr, Bool.and_self]
          have hor : x = 1 ∨ x = 3 ∨ x = 5 := by simpa [repOK, or_assoc] using hr
          clear hr
          rcases hor with rfl | rfl | rfl
          all_goals
            go_wp2
            go_round
            case rel => exact ⟨k + 1, by omega, by go_num, HR⟩
            case measure => simp [intOf]; omega
      · have ek : k = c.reps.length := by omega
        have HR : Hid (repsTo c.reps c.reps.length = true) := by rw [← ek]; exact HA
        clear HA
        go_wp2
        go_loopw [48] (fun i wr => ∃ k : Nat, k ≤ c.bnds.length ∧ i = .int .i64 k ∧ Hid (risesTo c.bnds k = true) ∧ Below W.heap.size W wr) (fun i _ => c.bnds.length - (intOf i).toNat)
        case atStart => exact ⟨0, Nat.zero_le _, rfl, rfl, Below.refl _ _⟩
        case round =>
          obtain ⟨k, hk, rfl, HA, hw⟩ := hrel
          have hB := keepB HB hw
          have h := h.later hw
          replace c0 := keep hw c0
          replace c1 := keep hw c1
          by_cases hlt : k < c.bnds.length
          · obtain ⟨b, off, x, rfl, hc, HX⟩ := StrsAt.at' h.strs hlt
            have hsx : x.size ≤ maxLen := by have := h.hs k hlt; rw [HX.out] at this; exact this
            cases hkey : keyB x
            · have HF : Hid (formedB c = false) := formed_bnd hlt (by simp only [riseAt, HX.out, hkey, Bool.false_and])
              go_wp2_with (go_at_call 79; refine (key_any _ _ hsx).mono ?_; rintro e w2 ⟨rfl, hb⟩; replace hB := keepB hB hb)
              go_ret
              exact ⟨ret_bool HF.out, hB⟩
            · by_cases hk0 : k = 0
              · have HR : Hid (risesTo c.bnds (k + 1) = true) := risesTo_next0 HA.out HX.out hkey hk0
                have hg : decide (0 < k) = false := by rw [decide_eq_false_iff_not]; omega
                clear hk0
                go_wp2_with (go_at_call 79; refine (key_any _ _ hsx).mono ?_; rintro e w2 ⟨rfl, hb⟩; replace hw := hw.trans (hb.mono hw.size))
                go_roundw
                case rel => exact ⟨k + 1, by omega, by go_num, HR, hw⟩
                case measure => simp [intOf]; omega
              · obtain ⟨b', off', y, e, hc', HY⟩ := StrsAt.at' h.strs (k := k - 1) (by omega)
                injection e with e
                injection e with e1 e2
                subst e1 e2
                have hg : decide (0 < k) = true := by rw [decide_eq_true_iff]; omega
                have hi : ((k : Int) - 1).toNat = k - 1 := by omega
                have hk1 : 1 ≤ k := by omega
                cases hl : lessS y x
                · have HF : Hid (formedB c = false) := formed_bnd hlt (by simp only [riseAt, HX.out, HY.out, hkey, hl, beq_eq_false_iff_ne.2 hk0, Bool.false_or, Bool.and_false])
                  have hl' : Op.bytesLess y.toList x.toList = false := hl
                  clear hl hk0
                  go_wp2_with (go_at_call 79; refine (key_any _ _ hsx).mono ?_; rintro e w2 ⟨rfl, hb⟩; replace hc' := keep hb hc'; replace c1 := keep hb c1; replace hB := keepB hB hb)
                  go_ret
                  exact ⟨ret_bool HF.out, hB⟩
                · have HR : Hid (risesTo c.bnds (k + 1) = true) := risesTo_next HA.out HX.out HY.out hkey hl
                  have hl' : Op.bytesLess y.toList x.toList = true := hl
                  clear hl hk0
                  go_wp2_with (go_at_call 79; refine (key_any _ _ hsx).mono ?_; rintro e w2 ⟨rfl, hb⟩; replace hc' := keep hb hc'; replace c1 := keep hb c1; replace hw := hw.trans (hb.mono hw.size))
                  go_roundw
                  case rel => exact ⟨k + 1, by omega, by go_num, HR, hw⟩
                  case measure => simp [intOf]; omega
          · have ek : k = c.bnds.length := by omega
            have HF : Hid (formedB c = true) := formed_all HZ.out HR.out (by rw [← ek]; exact HA.out)
            go_wp2
            go_ret
            exact ⟨ret_bool HF.out, hB⟩
end Go.Proofs.YtcldpmkhpmlcbaaGreatDoor
/- The reference's Formed of layer 7: formedB of every configuration. -/
namespace Go.Proofs.YtcldpmkhpmlcbaaGreatDoor
open Go.RowKit Go.Shelf

set_option maxHeartbeats 1000000 in
theorem refFormed_any (c : Cfg) (A B : Option Addr) (ca cb : Nat) (w : World) (h : CfgAt w c A B) :
    Calls Tryz.prog 44 #[.agg #[.slice A c.reps.length ca, .slice B c.bnds.length cb]] w fun e w' => e = .returned (.bool (formedB c)) ∧ Below w.heap.size w w' := by
  obtain ⟨W, eW, HB, c0, c1⟩ := box2 w (.slice A c.reps.length ca) (.slice B c.bnds.length cb) 25
  cases hz : sizesB c
  · rw [formed_sizes hz]
    have hn := h.hn
    have hm := h.hm
    by_cases z1 : 1 ≤ c.reps.length
    · by_cases z2 : c.reps.length ≤ 4
      · have z3 : c.bnds.length + 1 ≠ c.reps.length := by
          intro e
          simp [sizesB, z1, z2, e] at hz
        have z3' : ((c.bnds.length : Int) != (c.reps.length : Int) - 1) = true := by rw [bne_iff_ne]; omega
        clear hz z3
        go_enter Tryz.func44, Tryz.ntmps44
        go_wp2
        go_ret
        exact ⟨rfl, HB⟩
      · clear hz
        go_enter Tryz.func44, Tryz.ntmps44
        go_wp2
        go_ret
        exact ⟨rfl, HB⟩
    · clear hz
      go_enter Tryz.func44, Tryz.ntmps44
      go_wp2
      go_ret
      exact ⟨rfl, HB⟩
  · have h1 : 1 ≤ c.reps.length ∧ c.reps.length ≤ 4 ∧ c.bnds.length + 1 = c.reps.length := by simpa [sizesB, and_assoc] using hz
    obtain ⟨z1, z2, z3⟩ := h1
    have z3' : ((c.bnds.length : Int) != (c.reps.length : Int) - 1) = false := by rw [bne_eq_false_iff_eq]; omega
    have zm : c.bnds.length ≤ 3 := by omega
    have HZ := Lib.hid hz
    have HZ3 := Lib.hid z3
    clear z3 hz
    have h := h.later HB
    go_enter Tryz.func44, Tryz.ntmps44
    go_wp2_with fail
    clear eW z3'
    go_loop [4] (fun i => ∃ k : Nat, k ≤ c.reps.length ∧ i = .int .i64 k ∧ Hid (repsTo c.reps k = true)) (fun i => c.reps.length - (intOf i).toNat)
    case atStart => exact ⟨0, Nat.zero_le _, rfl, rfl⟩
    case round =>
      obtain ⟨k, hk, rfl, HA⟩ := hrel
      by_cases hlt : k < c.reps.length
      · obtain ⟨b, off, x, rfl, hc, HX⟩ := IntsAt.at' h.ints hlt
        cases hr : repOK x
        · have HF : Hid (formedB c = false) := formed_rep hlt (by rw [HX.out]; exact hr)
          have n1 : (x != 1) = true := by rw [bne_iff_ne]; rintro rfl; exact absurd hr (by decide)
          have n3 : (x != 3) = true := by rw [bne_iff_ne]; rintro rfl; exact absurd hr (by decide)
          have n5 : (x != 5) = true := by rw [bne_iff_ne]; rintro rfl; exact absurd hr (by decide)
          clear hr
          go_wp2
          go_ret
          exact ⟨ret_bool HF.out, HB⟩
        · have HR : Hid (repsTo c.reps (k + 1) = true) := by show _ = _; simp only [repsTo, HA.out, HX.out, hr, Bool.and_self]
          have hor : x = 1 ∨ x = 3 ∨ x = 5 := by simpa [repOK, or_assoc] using hr
          clear hr
          rcases hor with rfl | rfl | rfl
          all_goals
            go_wp2
            go_round
            case rel => exact ⟨k + 1, by omega, by go_num, HR⟩
            case measure => simp [intOf]; omega
      · have ek : k = c.reps.length := by omega
        have HR : Hid (repsTo c.reps c.reps.length = true) := by rw [← ek]; exact HA
        clear HA
        go_wp2
        go_loopw [5] (fun i wr => ∃ k : Nat, k ≤ c.bnds.length ∧ i = .int .i64 k ∧ Hid (risesTo c.bnds k = true) ∧ Below W.heap.size W wr) (fun i _ => c.bnds.length - (intOf i).toNat)
        case atStart => exact ⟨0, Nat.zero_le _, rfl, rfl, Below.refl _ _⟩
        case round =>
          obtain ⟨k, hk, rfl, HA, hw⟩ := hrel
          have hB := keepB HB hw
          have h := h.later hw
          replace c0 := keep hw c0
          replace c1 := keep hw c1
          have hk2 := HZ3.out
          by_cases hlt : k < c.bnds.length
          · obtain ⟨b, off, x, rfl, hc, HX⟩ := StrsAt.at' h.strs hlt
            have hlt2 : (k : Int) < (c.reps.length : Int) - 1 := by omega
            clear hk2
            have hsx : x.size ≤ maxLen := by have := h.hs k hlt; rw [HX.out] at this; exact this
            have hki : (k : Int) < (c.bnds.length : Int) := by omega
            cases hkey : keyB x
            · have HF : Hid (formedB c = false) := formed_bnd hlt (by simp only [riseAt, HX.out, hkey, Bool.false_and])
              go_wp2
              go_quiet ((go_at_call 56; exact quiet_left (refKey_any _ _ hsx)))
              go_wp2
              go_ret
              exact ⟨ret_bool HF.out, below_drewN hB _⟩
            · by_cases hk0 : k = 0
              · have HR : Hid (risesTo c.bnds (k + 1) = true) := risesTo_next0 HA.out HX.out hkey hk0
                have hg : decide (0 < k) = false := by rw [decide_eq_false_iff_not]; omega
                clear hk0
                go_wp2
                go_quiet ((go_at_call 56; exact quiet_left (refKey_any _ _ hsx)))
                go_wp2
                go_roundw
                case rel => exact ⟨k + 1, by omega, by go_num, HR, below_drewN hw _⟩
                case measure => simp [intOf]; omega
              · obtain ⟨b', off', y, e, hc', HY⟩ := StrsAt.at' h.strs (k := k - 1) (by omega)
                injection e with e
                injection e with e1 e2
                subst e1 e2
                have hg : decide (0 < k) = true := by rw [decide_eq_true_iff]; omega
                have hi : ((k : Int) - 1).toNat = k - 1 := by omega
                have hk1 : 1 ≤ k := by omega
                have hk1i : (1 : Int) ≤ (k : Int) := by omega
                have hk2i : (k : Int) - 1 < (c.bnds.length : Int) := by omega
                cases hl : lessS y x
                · have HF : Hid (formedB c = false) := formed_bnd hlt (by simp only [riseAt, HX.out, HY.out, hkey, hl, beq_eq_false_iff_ne.2 hk0, Bool.false_or, Bool.and_false])
                  have hl' : (Op.bytesLess x.toList y.toList || x.toList == y.toList) = true := lessS_no hl
                  clear hl hk0
                  go_wp2
                  go_quiet ((go_at_call 56; exact quiet_left (refKey_any _ _ hsx)))
                  go_wp2
                  go_ret
                  exact ⟨ret_bool HF.out, below_drewN hB _⟩
                · have HR : Hid (risesTo c.bnds (k + 1) = true) := risesTo_next HA.out HX.out HY.out hkey hl
                  have hl' : (Op.bytesLess x.toList y.toList || x.toList == y.toList) = false := lessS_yes hl
                  clear hl hk0
                  go_wp2
                  go_quiet ((go_at_call 56; exact quiet_left (refKey_any _ _ hsx)))
                  go_wp2
                  go_roundw
                  case rel => exact ⟨k + 1, by omega, by go_num, HR, below_drewN hw _⟩
                  case measure => simp [intOf]; omega
          · have ek : k = c.bnds.length := by omega
            have hlt2 : ¬ (k : Int) < (c.reps.length : Int) - 1 := by omega
            clear hk2
            have HF : Hid (formedB c = true) := formed_all HZ.out HR.out (by rw [← ek]; exact HA.out)
            clear ek
            go_wp2
            go_ret
            exact ⟨ret_bool HF.out, hB⟩
end Go.Proofs.YtcldpmkhpmlcbaaGreatDoor
/- The plain words of layer 7's places: how many replicas, whose place, whose replica. -/
namespace Go.Proofs.YtcldpmkhpmlcbaaGreatDoor

theorem formed_len {c : Cfg} (h : formedB c = true) : 1 ≤ c.reps.length ∧ c.reps.length ≤ 4 ∧ c.bnds.length + 1 = c.reps.length := by
  have : sizesB c = true := by
    cases hz : sizesB c
    · rw [formed_sizes hz] at h; cases h
    · rfl
  simpa [sizesB, and_assoc] using this
end Go.Proofs.YtcldpmkhpmlcbaaGreatDoor
/- Layer 7's Total, At and Place, the program's and the reference's: what each returns, of every configuration. -/
namespace Go.Proofs.YtcldpmkhpmlcbaaGreatDoor
open Go.RowKit Go.Shelf

theorem ret_int {k : IntKind} {a b : Int} (h : a = b) : Ending.returned (.int k b) = .returned (.int k a) := by rw [h]
end Go.Proofs.YtcldpmkhpmlcbaaGreatDoor
/- Layer 7's At and Place, the program's and the reference's: what each returns, of every configuration. -/
namespace Go.Proofs.YtcldpmkhpmlcbaaGreatDoor
open Go.RowKit Go.Shelf

end Go.Proofs.YtcldpmkhpmlcbaaGreatDoor
/- The plain words of layer 7's Home: how many bounds are not above a key. -/
namespace Go.Proofs.YtcldpmkhpmlcbaaGreatDoor

/-- Of the first k strings those that are not above the key. -/
def leTo (l : List ByteArray) (key : ByteArray) : Nat → Nat
  | 0 => 0
  | k + 1 => leTo l key k + if lessS key (l.getD k noStr) then 0 else 1
def homeN (c : Cfg) (key : ByteArray) : Nat := leTo c.bnds key c.bnds.length
def homeZ (c : Cfg) (key : ByteArray) : Int := if formedB c then (homeN c key : Int) else -1

theorem leTo_le (l : List ByteArray) (key : ByteArray) : ∀ k, leTo l key k ≤ k
  | 0 => Nat.le_refl _
  | k + 1 => by have := leTo_le l key k; simp only [leTo]; split <;> omega
/-- Behind a search: below p all are below the key, from p on none is. -/
theorem leTo_found {l : List ByteArray} {key : ByteArray} {n p : Nat} (h : risesTo l n = true) (hp : p ≤ n) (h1 : ∀ m, m < p → lessS (l.getD m noStr) key = true) (h2 : ∀ m, p ≤ m → m < n → lessS (l.getD m noStr) key = false) :
    ∀ k, k ≤ n → leTo l key k = min k p + if p < k ∧ l.getD p noStr = key then 1 else 0
  | 0, _ => by simp [leTo]
  | k + 1, hk => by
    have ih := leTo_found h hp h1 h2 k (by omega)
    have step : leTo l key (k + 1) = leTo l key k + (if lessS key (l.getD k noStr) = true then 0 else 1) := rfl
    rw [step, ih]
    by_cases hkp : k < p
    · have hx := lessS_asym (h1 k hkp)
      rw [if_neg (c := lessS key (l.getD k noStr) = true) (by rw [hx]; decide), if_neg (c := p < k ∧ l.getD p noStr = key) (fun q => by have := q.1; omega), if_neg (c := p < k + 1 ∧ l.getD p noStr = key) (fun q => by have := q.1; omega)]
      omega
    · have hn := h2 k (by omega) (by omega)
      by_cases e : k = p
      · subst e
        rw [if_neg (c := k < k ∧ l.getD k noStr = key) (fun q => by have := q.1; omega)]
        by_cases ek : l.getD k noStr = key
        · rw [if_neg (c := lessS key (l.getD k noStr) = true) (by rw [ek, lessS_irr]; decide), if_pos (c := k < k + 1 ∧ l.getD k noStr = key) ⟨by omega, ek⟩]; omega
        · have hx : lessS key (l.getD k noStr) = true := by
            cases hx : lessS key (l.getD k noStr)
            · exact absurd (lessS_tri hn hx) ek
            · rfl
          rw [if_pos (c := lessS key (l.getD k noStr) = true) hx, if_neg (c := k < k + 1 ∧ l.getD k noStr = key) (fun q => ek q.2)]; omega
      · have hlt := rises_mono h (i := p) (j := k) (by omega) (by omega)
        have hx : lessS key (l.getD k noStr) = true := by
          have hpn := h2 p (Nat.le_refl _) (by omega)
          cases hq : lessS key (l.getD p noStr)
          · have := lessS_tri hpn hq; rw [← this]; exact hlt
          · exact lessS_trans hq hlt
        rw [if_pos (c := lessS key (l.getD k noStr) = true) hx]
        by_cases ek : l.getD p noStr = key
        · rw [if_pos (c := p < k ∧ l.getD p noStr = key) ⟨by omega, ek⟩, if_pos (c := p < k + 1 ∧ l.getD p noStr = key) ⟨by omega, ek⟩]; omega
        · rw [if_neg (c := p < k ∧ l.getD p noStr = key) (fun q => ek q.2), if_neg (c := p < k + 1 ∧ l.getD p noStr = key) (fun q => ek q.2)]; omega
theorem home_range {c : Cfg} (h : formedB c = true) (key : ByteArray) : 0 ≤ homeZ c key ∧ homeZ c key < c.reps.length := by
  have h1 := leTo_le c.bnds key c.bnds.length
  have h2 := (formed_len h).2.2
  simp only [homeZ, h, if_true, homeN]
  omega
theorem home_not {c : Cfg} (h : formedB c = false) (key : ByteArray) : homeZ c key = -1 := by simp [homeZ, h]
theorem home_yes {c : Cfg} (h : formedB c = true) (key : ByteArray) : homeZ c key = (leTo c.bnds key c.bnds.length : Nat) := by simp [homeZ, h, homeN]
end Go.Proofs.YtcldpmkhpmlcbaaGreatDoor
/- slices.Sorted(maps.Keys(s.keys)): the keys of a store, rising. -/
namespace Go.Proofs.YtcldpmkhpmlcbaaGreatDoor
open Go.RowKit Go.Maps Go.Sort

def keysL (m : KV) : List (List UInt8) := m.map fun p => p.1.data.toList
theorem keysL_pair {m : KV} (h : RisesK m) : (keysL m).Pairwise fun a b => a < b := by
  refine List.pairwise_map.2 (h.imp fun {p q} hpq => ?_)
  have e : ∀ b : ByteArray, b.toList = b.data.toList := fun b => by rw [ByteArray.toList_eq]
  simp only [lessS, bytesLess_eq, decide_eq_true_eq, e] at hpq
  exact hpq
theorem keysL_nodup {m : KV} (h : RisesK m) : (keysL m).Nodup := (keysL_pair h).imp fun hab e => by subst e; exact List.lt_irrefl _ hab
theorem mem_keysL {m : KV} (h : RisesK m) (hne : ∀ p ∈ m, p.2 ≠ []) (x : List UInt8) : x ∈ keysL m ↔ (!(getK m ⟨x.toArray⟩).isEmpty) = true := by
  constructor
  · intro hx
    obtain ⟨p, hp, rfl⟩ := List.mem_map.1 hx
    have e : (⟨p.1.data.toList.toArray⟩ : ByteArray) = p.1 := rfl
    rw [e, getK_mem h (l := p.2) hp]
    have := hne p hp
    cases hq : p.2 with
    | nil => exact absurd hq this
    | cons a l => rfl
  · intro hx
    by_cases hm : getK m ⟨x.toArray⟩ = []
    · rw [hm] at hx; cases hx
    · exact List.mem_map.2 ⟨_, getK_in hm, by simp⟩
theorem keys_perm {w : World} {B N mb : Nat} {D : DataW Value} {V : ByteArray → Value} {O : Nat → Prop} {m : KV} (h : KeysAt w B N mb D V O m) (hr : RisesK m) (hne : ∀ p ∈ m, p.2 ≠ []) : (keysL m).Perm (strKeys D) := by
  refine Collected.perm (left := fun _ => false) ⟨keysL_nodup hr, fun x => ?_⟩ h.own keyS Tryz.underlying9 (fun _ => rfl)
  have e := h.has ⟨x.toArray⟩
  rw [show lit ⟨x.toArray⟩ = Lit.string x by simp [lit]] at e
  rw [mem_keysL hr hne, e]
  simp
end Go.Proofs.YtcldpmkhpmlcbaaGreatDoor
