/- Layer 7's Home, the program's and the reference's, and the binary search beneath it. -/
import Derived.Test.YtjgloipgnnigmaaGreatDoorPlace07
import Derived.Test.YtjgloipgnnigmaaGreatDoorHomeM07
namespace Go.Proofs.YtjgloipgnnigmaaGreatDoor
open Go.RowKit Go.Shelf

set_option maxHeartbeats 400000 in
theorem lessStr_any (x y : ByteArray) (w : World) : Calls Tryz.prog 134 #[.string x, .string y] w fun e w' => e = .returned (.bool (lessS x y)) ∧ w = w' := by
  cases hl : lessS x y
  all_goals
    have hl' : Op.bytesLess x.toList y.toList = _ := hl
    clear hl
    go_enter Tryz.func134, Tryz.ntmps134
    go_wp2
    go_ret
    exact ⟨rfl, rfl⟩
set_option maxHeartbeats 400000 in
theorem isNaNStr_any (x : ByteArray) (w : World) : Calls Tryz.prog 135 #[.string x] w fun e w' => e = .returned (.bool false) ∧ w = w' := by
  go_enter Tryz.func135, Tryz.ntmps135
  go_wp2
  go_ret
  exact ⟨by simp, rfl⟩

theorem int_eq {k : IntKind} {a b : Int} (h : a = b) : Value.int k a = Value.int k b := by rw [h]
/-- Where a search ends: below p all are below the key, from p on none is. -/
def SearchEnd (l : List ByteArray) (key : ByteArray) (p : Nat) (f : Bool) : Prop :=
  p ≤ l.length ∧ (∀ m, m < p → lessS (l.getD m noStr) key = true) ∧ (∀ m, p ≤ m → m < l.length → lessS (l.getD m noStr) key = false) ∧ (f = true ↔ p < l.length ∧ l.getD p noStr = key)
def SearchPost (l : List ByteArray) (key : ByteArray) (w : World) (e : Ending) (w' : World) : Prop :=
  ∃ p f, e = .returned (.tuple #[.int .i64 (p : Nat), .bool f]) ∧ SearchEnd l key p f ∧ w = w'

theorem half (i j : Nat) (h : i < j) : i ≤ (i + j) / 2 ∧ (i + j) / 2 < j := by omega

set_option maxHeartbeats 1000000 in
theorem search_any (l : List ByteArray) (key : ByteArray) (B : Option Addr) (cb : Nat) (w : World) (h : StrsAt w B l) (hlen : l.length ≤ 1000000) (hr : risesTo l l.length = true) :
    Calls Tryz.prog 85 #[.slice B l.length cb, .string key] w (SearchPost l key w) := by
  have HR := Lib.hid hr
  clear hr
  go_enter Tryz.func85, Tryz.ntmps85
  go_wp2_with fail
  go_loop [7, 8] (fun i j => ∃ a b : Nat, a ≤ b ∧ b ≤ l.length ∧ i = .int .i64 a ∧ j = .int .i64 b ∧ Hid (∀ m, m < a → lessS (l.getD m noStr) key = true) ∧ Hid (∀ m, b ≤ m → m < l.length → lessS (l.getD m noStr) key = false)) (fun i j => (intOf j - intOf i).toNat)
  case atStart => exact ⟨0, l.length, by omega, by omega, rfl, rfl, fun m hm => by omega, fun m hm hm2 => by omega⟩
  case round =>
    obtain ⟨a, b, hab, hb, rfl, rfl, HA, HB⟩ := hrel
    by_cases hlt : a < b
    · obtain ⟨q1, q2⟩ := half a b hlt
      obtain ⟨bb, off, x, rfl, hc, HX⟩ := StrsAt.at' h (k := (a + b) / 2) (by omega)
      cases hl : lessS x key
      · have HB2 : Hid (∀ m, (a + b) / 2 ≤ m → m < l.length → lessS (l.getD m noStr) key = false) := fun m h1 h2 => by
          by_cases e : m = (a + b) / 2
          · rw [e, HX.out]; exact hl
          · have hm := rises_mono HR.out (i := (a + b) / 2) (j := m) (by omega) h2
            rw [HX.out] at hm
            cases hq : lessS (l.getD m noStr) key
            · rfl
            · rw [lessS_trans hm hq] at hl; cases hl
        go_wp2_with (go_at_call 134; refine (lessStr_any _ _ _).mono ?_; rintro e w1 ⟨rfl, rfl⟩)
        go_round
        case rel => exact ⟨a, (a + b) / 2, by omega, by omega, rfl, int_eq (by omega), HA, HB2⟩
        case measure => simp [intOf]; omega
      · have HA2 : Hid (∀ m, m < (a + b) / 2 + 1 → lessS (l.getD m noStr) key = true) := fun m h1 => by
          by_cases e : m = (a + b) / 2
          · rw [e, HX.out]; exact hl
          · have hm := rises_mono HR.out (i := m) (j := (a + b) / 2) (by omega) (by omega)
            rw [HX.out] at hm
            exact lessS_trans hm hl
        go_wp2_with (go_at_call 134; refine (lessStr_any _ _ _).mono ?_; rintro e w1 ⟨rfl, rfl⟩)
        go_round
        case rel => exact ⟨(a + b) / 2 + 1, b, by omega, by omega, int_eq (by omega), rfl, HA2, HB⟩
        case measure => simp [intOf]; omega
    · have hab2 : a = b := by omega
      subst hab2
      by_cases hal : a < l.length
      · obtain ⟨bb, off, x, rfl, hc, HX⟩ := StrsAt.at' h (k := a) hal
        by_cases hx : x = key
        · have HF : Hid (SearchEnd l key a true) := ⟨hb, HA.out, HB.out, by simp only [true_iff]; exact ⟨hal, by rw [HX.out]; exact hx⟩⟩
          have hbq : (x.toList == key.toList) = true := by rw [hx]; simp
          clear hx
          go_wp2
          go_ret2
          exact ⟨_, _, rfl, HF.out, rfl⟩
        · have HF : Hid (SearchEnd l key a false) := ⟨hb, HA.out, HB.out, by
            constructor
            · intro h; cases h
            · rintro ⟨_, h2⟩; rw [HX.out] at h2; exact absurd h2 hx⟩
          have hbq : (x.toList == key.toList) = false := by rw [beq_eq_false_iff_ne]; exact fun e => hx (bytes_ext e)
          clear hx
          go_wp2_with (go_at_call 135; refine (isNaNStr_any _ _).mono ?_; rintro e w1 ⟨rfl, rfl⟩)
          go_ret2
          exact ⟨_, _, rfl, HF.out, rfl⟩
      · have HF : Hid (SearchEnd l key a false) := ⟨hb, HA.out, HB.out, by
          constructor
          · intro h; cases h
          · rintro ⟨h1, _⟩; omega⟩
        go_wp2
        go_ret2
        exact ⟨_, _, rfl, HF.out, rfl⟩

theorem home_search {c : Cfg} (h : formedB c = true) {key : ByteArray} {p : Nat} {f : Bool} (hs : SearchEnd c.bnds key p f) : homeZ c key = (p : Int) + if f then 1 else 0 := by
  have hr : risesTo c.bnds c.bnds.length = true := by
    simp only [formedB, Bool.and_eq_true] at h; exact h.2
  obtain ⟨h0, h1, h2, h3⟩ := hs
  have := leTo_found hr h0 h1 h2 c.bnds.length (Nat.le_refl _)
  rw [home_yes h, this]
  cases f
  · rw [if_neg (fun q => by simpa using h3.2 q)]; simp; omega
  · rw [if_pos (h3.1 rfl)]; simp; omega

set_option maxHeartbeats 1000000 in
theorem home_any (c : Cfg) (key : ByteArray) (A B : Option Addr) (ca cb : Nat) (w : World) (h : CfgAt w c A B) :
    Calls Tryz.prog 40 #[.agg #[.slice A c.reps.length ca, .slice B c.bnds.length cb], .string key] w fun e w' => e = .returned (.int .i64 (homeZ c key)) ∧ Below w.heap.size w w' := by
  obtain ⟨W, eW, HB, c0, c1⟩ := box2 w (.slice A c.reps.length ca) (.slice B c.bnds.length cb) 25
  have h := h.later HB
  cases hf : formedB c
  · have HE := Lib.hid (home_not hf key)
    go_enter Tryz.func40, Tryz.ntmps40
    go_wp2_with (go_at_call 55; refine (formed_any c A B ca cb _ h).mono ?_; rintro e w1 ⟨rfl, hb⟩; replace c0 := keep hb c0; replace c1 := keep hb c1; replace h := h.later hb; replace HB := keepB HB hb; clear hb)
    go_ret
    exact ⟨ret_int HE.out, HB⟩
  · have hr : risesTo c.bnds c.bnds.length = true := by
      simp only [formedB, Bool.and_eq_true] at hf; exact hf.2
    have HR := Lib.hid hr
    have HFS : Hid (∀ p f, SearchEnd c.bnds key p f → homeZ c key = (p : Int) + if f then 1 else 0) := fun p f hs => home_search hf hs
    have hlen : c.bnds.length ≤ 3 := by have := formed_len hf; omega
    clear hr
    go_enter Tryz.func40, Tryz.ntmps40
    go_wp2_with (first
      | (go_at_call 55; refine (formed_any c A B ca cb _ h).mono ?_; rintro e w1 ⟨rfl, hb⟩; replace c0 := keep hb c0; replace c1 := keep hb c1; replace h := h.later hb; replace HB := keepB HB hb; clear hb)
      | (go_at_call 85; refine (search_any c.bnds key B cb _ h.strs (by omega) HR.out).mono ?_; rintro e w2 ⟨p, f, rfl, hs, rfl⟩; have HS := Lib.hid hs; have hp := hs.1; clear hs; cases f))
    all_goals
      go_ret
      exact ⟨ret_int (by rw [HFS.out _ _ HS.out]; simp), HB⟩

set_option maxHeartbeats 1000000 in
theorem refHome_any (c : Cfg) (key : ByteArray) (A B : Option Addr) (ca cb : Nat) (w : World) (h : CfgAt w c A B) :
    Calls Tryz.prog 30 #[.agg #[.slice A c.reps.length ca, .slice B c.bnds.length cb], .string key] w fun e w' => e = .returned (.int .i64 (homeZ c key)) ∧ Below w.heap.size w w' := by
  obtain ⟨W, eW, HB, c0, c1⟩ := box2 w (.slice A c.reps.length ca) (.slice B c.bnds.length cb) 25
  have h := h.later HB
  cases hf : formedB c
  · have HE := Lib.hid (home_not hf key)
    go_enter Tryz.func30, Tryz.ntmps30
    go_wp2_with (go_at_call 21; refine (refFormed_any c A B ca cb _ h).mono ?_; rintro e w1 ⟨rfl, hb⟩; replace c0 := keep hb c0; replace c1 := keep hb c1; replace h := h.later hb; replace HB := keepB HB hb; clear hb)
    go_ret
    exact ⟨ret_int HE.out, HB⟩
  · have HE := Lib.hid (home_yes hf key)
    have hlen : c.bnds.length ≤ 3 := by have := formed_len hf; omega
    have HLE : Hid (∀ k, leTo c.bnds key k ≤ k) := leTo_le c.bnds key
    go_enter Tryz.func30, Tryz.ntmps30
    go_wp2_with (go_at_call 21; refine (refFormed_any c A B ca cb _ h).mono ?_; rintro e w1 ⟨rfl, hb⟩; replace c0 := keep hb c0; replace c1 := keep hb c1; replace h := h.later hb; replace HB := keepB HB hb; clear hb)
    clear eW
    go_loop [5, 6] (fun g i => ∃ k : Nat, k ≤ c.bnds.length ∧ i = .int .i64 k ∧ g = .int .i64 (leTo c.bnds key k : Nat)) (fun _ i => c.bnds.length - (intOf i).toNat)
    case atStart => exact ⟨0, Nat.zero_le _, rfl, rfl⟩
    case round =>
      obtain ⟨k, hk, rfl, rfl⟩ := hrel
      have hle := HLE.out k
      by_cases hlt : k < c.bnds.length
      · obtain ⟨bb, off, x, rfl, hc, HX⟩ := StrsAt.at' h.strs hlt
        cases hl : lessS key x
        · have HE2 : Hid (leTo c.bnds key (k + 1) = leTo c.bnds key k + 1) := by show _ = _; rw [leTo, HX.out, hl]; rfl
          have hl' := lessS_no hl
          clear hl
          generalize leTo c.bnds key k = g at *
          go_wp2
          go_round
          case rel => exact ⟨k + 1, by omega, by go_num, by rw [HE2.out]; go_num⟩
          case measure => simp [intOf]; omega
        · have HE2 : Hid (leTo c.bnds key (k + 1) = leTo c.bnds key k) := by show _ = _; rw [leTo, HX.out, hl]; rfl
          have hl' := lessS_yes hl
          clear hl
          generalize leTo c.bnds key k = g at *
          go_wp2
          go_round
          case rel => exact ⟨k + 1, by omega, by go_num, by rw [HE2.out]⟩
          case measure => simp [intOf]; omega
      · have HK : Hid (homeZ c key = (leTo c.bnds key k : Nat)) := by show _ = _; rw [HE.out, show k = c.bnds.length from by omega]
        generalize leTo c.bnds key k = g at *
        go_wp2
        go_ret
        exact ⟨ret_int HK.out, HB⟩
end Go.Proofs.YtjgloipgnnigmaaGreatDoor
