/- Layer 1's Canon, the program's and the reference's. -/
import Derived.Test.YtjgloipgnnigmaaGreatDoorKey
namespace Go.Proofs.YtjgloipgnnigmaaGreatDoor
open Go.RowKit Go.Shelf

/-- A number's bits are a NaN's. -/
def nanB (n : Nat) : Bool := decide (9218868437227405312 < n % 9223372036854775808)
def canonN (n : Nat) : Nat := if nanB n then 9221120237041090560 else n

theorem datum_self (d : Ieee.Datum) : (d.order d != some .eq) = d.isNaN := by
  cases d with
  | nan => rfl
  | infinity s => cases s <;> rfl
  | number s m i =>
    simp [Ieee.Datum.order, Ieee.Datum.isNaN]
theorem read_nan (n : Nat) : (Ieee.double.read n).isNaN = nanB n := by
  have h1 : Ieee.double.signWeight = 9223372036854775808 := rfl
  have h2 : Ieee.double.binade = 4503599627370496 := rfl
  have h3 : Ieee.double.infRung = 9218868437227405312 := rfl
  unfold Ieee.Format.read nanB
  rw [h1, h2, h3]
  dsimp only
  split
  · simp [Ieee.Datum.isNaN]; omega
  · split
    · simp [Ieee.Datum.isNaN]; omega
    · split
      · simp [Ieee.Datum.isNaN]; omega
      · simp [Ieee.Datum.isNaN]; omega
theorem order_self (n : Nat) : (FloatKind.f64.format.order n n != some .eq) = nanB n := by
  have : FloatKind.f64.format.order n n = (Ieee.double.read n).order (Ieee.double.read n) := rfl
  rw [this, datum_self, read_nan]

theorem frombits_run (n : Nat) (w : World) : (callFunc 157 #[.int .u64 n]).run Tryz.prog w = .ok (.value (.float .f64 n)) w := by
  rw [run_callFunc_extern Tryz.func157 (by kernel_rfl) (by kernel_rfl) (by kernel_rfl) (e := Extern.MathFloatBits.float64frombits) (by kernel_rfl)]
  rfl

set_option maxRecDepth 100000 in
theorem isNaN_any (n : Nat) (w : World) : Calls Tryz.prog 156 #[.float .f64 n] w fun e w' => e = .returned (.bool (nanB n)) ∧ w = w' := by
  have h := order_self n
  go_enter Tryz.func156, Tryz.ntmps156
  go_wp2
  go_ret
  exact ⟨rfl, rfl⟩
theorem canon_nan {n : Nat} (h : nanB n = true) : canonN n = 9221120237041090560 := by simp [canonN, h]
theorem canon_num {n : Nat} (h : nanB n = false) : canonN n = n := by simp [canonN, h]
theorem ret_u64 {a b : Nat} (h : a = b) : Ending.returned (.int .u64 b) = .returned (.int .u64 a) := by rw [h]
set_option maxRecDepth 100000 in
theorem canon_any (n : Nat) (w : World) : Calls Tryz.prog 106 #[.int .u64 n] w fun e w' => e = .returned (.int .u64 (canonN n)) ∧ w = w' := by
  have hd := frombits_run n
  cases hn : nanB n
  · have HC := Lib.hid (canon_num hn)
    go_enter Tryz.func106, Tryz.ntmps106
    go_wp2_with (go_at_call 156; refine (isNaN_any n _).mono ?_; rintro e w1 ⟨rfl, rfl⟩)
    go_ret
    exact ⟨ret_u64 HC.out, rfl⟩
  · have HC := Lib.hid (canon_nan hn)
    go_enter Tryz.func106, Tryz.ntmps106
    go_wp2_with (go_at_call 156; refine (isNaN_any n _).mono ?_; rintro e w1 ⟨rfl, rfl⟩)
    go_ret
    exact ⟨ret_u64 HC.out, rfl⟩
theorem and_11 (x : Int) (h0 : 0 ≤ x) (h1 : x < 18446744073709551616) : bits .and .u64 x 2047 = x % 2048 := bits_mask .u64 64 (by decide) wraps_u64 11 (by decide) x h0 h1
theorem and_52 (x : Int) (h0 : 0 ≤ x) (h1 : x < 18446744073709551616) : bits .and .u64 x 4503599627370495 = x % 4503599627370496 := bits_mask .u64 64 (by decide) wraps_u64 52 (by decide) x h0 h1
theorem ret_parts {m m' : Bool} {a a' b b' : Int} (h : m = m') (ha : a = a') (hb : b = b') : Ending.returned (.tuple #[.bool m, .int .u64 a, .int .u64 b]) = .returned (.tuple #[.bool m', .int .u64 a', .int .u64 b']) := by rw [h, ha, hb]
set_option maxRecDepth 100000 in
theorem parts_any (n : Nat) (hn : n < 18446744073709551616) (m : Bool) (E F : Nat) (hm : decide (9223372036854775808 ≤ n) = m) (hE : n / 4503599627370496 % 2048 = E) (hF : n % 4503599627370496 = F) (w : World) :
    Calls Tryz.prog 189 #[.int .u64 n] w fun e w' => e = .returned (.tuple #[.bool m, .int .u64 E, .int .u64 F]) ∧ w = w' := by
  have HP : Ending.returned (.tuple #[.bool (decide ((9223372036854775808 : Int) ≤ n)), .int .u64 (bits .and .u64 (n / 4503599627370496) 2047), .int .u64 (bits .and .u64 n 4503599627370495)]) = .returned (.tuple #[.bool m, .int .u64 E, .int .u64 F]) := by
    subst hm hE hF
    refine ret_parts ?_ ?_ ?_
    · rw [decide_eq_decide]; omega
    · rw [and_11 _ (by omega) (by omega)]; omega
    · rw [and_52 _ (by omega) (by omega)]; omega
  have HP := Lib.hid HP
  clear hm hE hF
  go_enter Tryz.func189, Tryz.ntmps189
  go_wp2
  go_ret3
  exact ⟨HP.out, rfl⟩
def kindN (m : Bool) (E F : Nat) : Nat := if E = 2047 ∧ F ≠ 0 then 0 else if E = 2047 ∧ m = true then 1 else if E = 2047 then 6 else if E = 0 ∧ F = 0 ∧ m = true then 3 else if E = 0 ∧ F = 0 then 4 else if m = true then 2 else 5
set_option maxRecDepth 100000 in
theorem refKind_any (n : Nat) (hn : n < 18446744073709551616) (m : Bool) (E F : Nat) (hm : decide (9223372036854775808 ≤ n) = m) (hE : n / 4503599627370496 % 2048 = E) (hF : n % 4503599627370496 = F) (w : World) :
    Calls Tryz.prog 164 #[.int .u64 n] w fun e w' => e = .returned (.int .i64 (kindN m E F)) ∧ w = w' := by
  have HP := Lib.hid (parts_any n hn m E F hm hE hF)
  clear hm hE hF hn
  have hE : E = 0 ∨ E = 2047 ∨ (E ≠ 0 ∧ E ≠ 2047) := by omega
  have hF : F = 0 ∨ F ≠ 0 := by omega
  rcases hE with rfl | rfl | ⟨e1, e2⟩ <;> rcases hF with rfl | f1 <;> cases m
  all_goals
    go_enter Tryz.func164, Tryz.ntmps164
    go_wp2_with (go_at_call 189; refine (HP.out _).mono ?_; rintro e w1 ⟨rfl, rfl⟩)
    go_ret
    exact ⟨by simp [kindN, *], rfl⟩
theorem kind_zero (n : Nat) : kindN (decide (9223372036854775808 ≤ n)) (n / 4503599627370496 % 2048) (n % 4503599627370496) = 0 ↔ nanB n = true := by
  unfold kindN nanB
  simp only [decide_eq_true_eq]
  split
  · omega
  · split
    · omega
    · split
      · omega
      · split
        · omega
        · split
          · omega
          · split <;> omega
set_option maxRecDepth 100000 in
theorem refCanon_any (n : Nat) (hn : n < 18446744073709551616) (w : World) :
    Calls Tryz.prog 120 #[.int .u64 n] w fun e w' => e = .returned (.int .u64 (canonN n)) ∧ w = w' := by
  have HP := Lib.hid (refKind_any n hn _ _ _ rfl rfl rfl)
  have hz := kind_zero n
  clear hn
  revert HP hz
  generalize kindN (decide (9223372036854775808 ≤ n)) (n / 4503599627370496 % 2048) (n % 4503599627370496) = K
  intro HP hz
  by_cases hk : K = 0
  · subst hk
    have HC := Lib.hid (canon_nan (hz.1 rfl))
    clear hz
    go_enter Tryz.func120, Tryz.ntmps120
    go_wp2_with (go_at_call 164; refine (HP.out _).mono ?_; rintro e w1 ⟨rfl, rfl⟩)
    go_ret
    exact ⟨ret_u64 HC.out, rfl⟩
  · have hb : nanB n = false := by cases h : nanB n; rfl; exact absurd (hz.2 h) hk
    have HC := Lib.hid (canon_num hb)
    have hk' : ((K : Int) == 0) = false := by simp; omega
    clear hz hb
    go_enter Tryz.func120, Tryz.ntmps120
    go_wp2_with (go_at_call 164; refine (HP.out _).mono ?_; rintro e w1 ⟨rfl, rfl⟩)
    go_ret
    exact ⟨ret_u64 HC.out, rfl⟩
end Go.Proofs.YtjgloipgnnigmaaGreatDoor
