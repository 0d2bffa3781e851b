/- value.Key and the reference's Key: both tell keyB of every string. -/
import Derived.Test.YtboiafchmdflpaaGreatDoorG1
import Derived.Test.YtboiafchmdflpaaGreatDoorShelfA
import Derived.WalkSpells
import Derived.WalkLawsBesides
import Derived.Lib.ValidU
namespace Go.Proofs.YtboiafchmdflpaaGreatDoor
open Go.RowKit Go.Shelf

def cutset : ByteArray := ⟨#[97, 98, 99, 100, 101, 102, 103, 104, 105, 106, 107, 108, 109, 110, 111, 112, 113, 114, 115, 116, 117, 118, 119, 120, 121, 122, 48, 49, 50, 51, 52, 53, 54, 55, 56, 57]⟩
theorem cut_ld (b : UInt8) : cutset.data.toList.contains b = ldB b := by
  have h : ((List.range 256).all fun n => cutset.data.toList.contains (UInt8.ofNat n) == ldB (UInt8.ofNat n)) = true := by decide +kernel
  have := List.all_eq_true.1 h b.toNat (List.mem_range.2 b.toNat_lt)
  simpa using this
theorem dropWhile_nil {p : UInt8 → Bool} : ∀ l : List UInt8, l.dropWhile p = [] ↔ l.all p = true
  | [] => by simp
  | a :: l => by
    cases h : p a
    · simp [h]
    · simp [h, dropWhile_nil l]
theorem trimS_nil (l : List UInt8) : Lib.trimS l cutset.data.toList = [] ↔ l.all ldB = true := by
  have e : (fun b => cutset.data.toList.contains b) = ldB := funext cut_ld
  have e' : (cutset.data.toList.contains ·) = ldB := e
  unfold Lib.trimS Lib.trimLeftS Lib.trimRightS
  rw [e', dropWhile_nil]
  constructor
  · intro h
    have h2 : (l.reverse.dropWhile ldB) = [] := by
      cases hd : l.reverse.dropWhile ldB with
      | nil => rfl
      | cons x xs =>
        exfalso
        have hx : ldB x = false := by
          have := List.head?_dropWhile_not ldB l.reverse
          rw [hd] at this
          simpa using this
        rw [hd] at h
        simp [hx] at h
    rw [dropWhile_nil] at h2
    simpa using h2
  · intro h
    have h2 : l.reverse.dropWhile ldB = [] := by rw [dropWhile_nil]; simpa using h
    rw [h2]; rfl

set_option maxHeartbeats 400000 in
theorem key_any (s : ByteArray) (w : World) (hs : s.size ≤ maxLen) :
    Calls Tryz.prog 41 #[.string s] w fun e w' => e = .returned (.bool (keyB s)) ∧ Below w.heap.size w w' := by
  unfold maxLen at hs
  by_cases h1 : 1 ≤ s.size
  · by_cases h2 : s.size ≤ 12
    · have hcon := Tryz.strings_Trim_laid s cutset w (by omega) (by decide) (ascii_of_all (by decide))
      have hnil := trimS_nil s.data.toList
      have ek : keyB s = s.data.toList.all ldB := by simp [keyB, h1, h2]
      rw [ek]; clear ek
      cases hb : s.data.toList.all ldB
      · have hr : (⟨(Lib.trimS s.data.toList cutset.data.toList).toArray⟩ : ByteArray).toList.isEmpty = false := by
          rw [ByteArray.toList_eq]
          cases hx : Lib.trimS s.data.toList cutset.data.toList with
          | nil => rw [hnil.1 hx] at hb; cases hb
          | cons => simp
        generalize (⟨(Lib.trimS s.data.toList cutset.data.toList).toArray⟩ : ByteArray) = r at hcon hr
        unfold cutset at hcon
        clear hnil hb
        go_enter Tryz.func41, Tryz.ntmps41
        go_wp2_with (go_at_call 59; refine hcon.mono ?_; rintro e w' ⟨rfl, hB⟩)
        go_ret
        exact ⟨rfl, hB⟩
      · have hr : (⟨(Lib.trimS s.data.toList cutset.data.toList).toArray⟩ : ByteArray).toList.isEmpty = true := by
          rw [ByteArray.toList_eq, hnil.2 hb]; rfl
        generalize (⟨(Lib.trimS s.data.toList cutset.data.toList).toArray⟩ : ByteArray) = r at hcon hr
        unfold cutset at hcon
        clear hnil hb
        go_enter Tryz.func41, Tryz.ntmps41
        go_wp2_with (go_at_call 59; refine hcon.mono ?_; rintro e w' ⟨rfl, hB⟩)
        go_ret
        exact ⟨rfl, hB⟩
    · have ek : keyB s = false := by simp [keyB, h2]
      rw [ek]; clear ek
      go_enter Tryz.func41, Tryz.ntmps41
      go_wp2
      go_ret
      exact ⟨rfl, Below.refl _ _⟩
  · have ek : keyB s = false := by simp [keyB, h1]
    rw [ek]; clear ek
    go_enter Tryz.func41, Tryz.ntmps41
    go_wp2
    go_ret
    exact ⟨rfl, Below.refl _ _⟩

theorem ret_bool {a b : Bool} (h : a = b) : Ending.returned (.bool b) = .returned (.bool a) := by rw [h]
theorem take_snoc (s : ByteArray) (k : Nat) (h : k < s.size) : s.data.toList.take (k + 1) = s.data.toList.take k ++ [s[k]] := by
  rw [List.take_succ_eq_append_getElem (by simpa using h)]; rfl
theorem ld_of (c : UInt8) : ldB c = ((decide (97 ≤ (c.toNat : Int)) && decide ((c.toNat : Int) ≤ 122)) || (decide (48 ≤ (c.toNat : Int)) && decide ((c.toNat : Int) ≤ 57))) := by
  unfold ldB
  have e1 : decide (97 ≤ c.toNat) = decide (97 ≤ (c.toNat : Int)) := decide_eq_decide.2 (by omega)
  have e2 : decide (c.toNat ≤ 122) = decide ((c.toNat : Int) ≤ 122) := decide_eq_decide.2 (by omega)
  have e3 : decide (48 ≤ c.toNat) = decide (48 ≤ (c.toNat : Int)) := decide_eq_decide.2 (by omega)
  have e4 : decide (c.toNat ≤ 57) = decide ((c.toNat : Int) ≤ 57) := decide_eq_decide.2 (by omega)
  rw [e1, e2, e3, e4]
theorem ld_yes {c : UInt8} (h : (97 ≤ (c.toNat : Int) ∧ (c.toNat : Int) ≤ 122) ∨ (48 ≤ (c.toNat : Int) ∧ (c.toNat : Int) ≤ 57)) : ldB c = true := by
  rw [ld_of]; simpa using h
theorem ld_no {c : UInt8} (h : ¬ ((97 ≤ (c.toNat : Int) ∧ (c.toNat : Int) ≤ 122) ∨ (48 ≤ (c.toNat : Int) ∧ (c.toNat : Int) ≤ 57))) : ldB c = false := by
  rw [ld_of, Bool.eq_false_iff]; simpa using h
theorem all_false {s : ByteArray} {k : Nat} (h : k < s.size) (hl : ldB s[k] = false) : s.data.toList.all ldB = false := by
  have : s[k] ∈ s.data.toList := by
    have : s.data.toList[k]'(by simpa using h) ∈ s.data.toList := List.getElem_mem _
    exact this
  rw [List.all_eq_false]
  exact ⟨_, this, by simp [hl]⟩

set_option maxHeartbeats 400000 in
theorem refKey_any (s : ByteArray) (w : World) (hs : s.size ≤ maxLen) :
    Calls Tryz.prog 64 #[.string s] w fun e w' => e = .returned (.bool (keyB s)) ∧ w = w' := by
  unfold maxLen at hs
  go_enter Tryz.func64, Tryz.ntmps64
  go_wp2
  go_loop [3] (fun i => ∃ k : Nat, k ≤ s.size ∧ i = .int .i64 k ∧ (s.data.toList.take k).all ldB = true) (fun i => s.size - (intOf i).toNat)
  case atStart => exact ⟨0, Nat.zero_le _, rfl, rfl⟩
  case round =>
    obtain ⟨k, hk, rfl, ha⟩ := hrel
    have HA : Hid ((s.data.toList.take k).all ldB = true) := ha
    clear ha
    by_cases hlt : k < s.size
    · have HT := Lib.hid (take_snoc s k hlt)
      have HF : Hid (ldB s[k] = false → s.data.toList.all ldB = false) := Lib.hid (fun h => all_false hlt h)
      go_wp2
      all_goals first
        | (go_ret
           exact ⟨ret_bool (by rw [keyB, HF.out (ld_no (by omega)), Bool.and_false]), rfl⟩)
        | (go_round
           case rel => exact ⟨k + 1, by omega, by go_num, by rw [HT.out, List.all_append, HA.out, List.all_cons, ld_yes (by omega)]; rfl⟩
           case measure => simp [intOf]; omega)
    · have hall : s.data.toList.all ldB = true := by rw [← List.take_of_length_le (l := s.data.toList) (i := k) (by simp; omega)]; exact HA.out
      have HK : Hid (keyB s = (decide (1 ≤ s.size) && decide (s.size ≤ 12))) := Lib.hid (by rw [keyB, hall, Bool.and_true])
      clear hall
      by_cases h1 : 1 ≤ s.size
      · by_cases h2 : s.size ≤ 12
        all_goals
          go_wp2
          go_ret
          exact ⟨ret_bool (by rw [HK.out]; simp [h1, h2]; try omega), rfl⟩
      · go_wp2
        go_ret
        exact ⟨ret_bool (by rw [HK.out]; simp [h1]), rfl⟩
end Go.Proofs.YtboiafchmdflpaaGreatDoor
/- Layer 1's Canon, the program's and the reference's. -/
namespace Go.Proofs.YtboiafchmdflpaaGreatDoor
open Go.RowKit Go.Shelf

/-- A number's bits are a NaN's. -/
def nanB (n : Nat) : Bool := decide (9218868437227405312 < n % 9223372036854775808)
def canonN (n : Nat) : Nat := if nanB n then 9221120237041090560 else n

theorem datum_self (d : Ieee.Datum) : (d.order d != some .eq) = d.isNaN := by
  cases d with
  | nan => rfl
  | infinity s => cases s <;> rfl
  | number s m i =>
    simp [Ieee.Datum.order, Ieee.Datum.isNaN]
theorem read_nan (n : Nat) : (Ieee.double.read n).isNaN = nanB n := by
  have h1 : Ieee.double.signWeight = 9223372036854775808 := rfl
  have h2 : Ieee.double.binade = 4503599627370496 := rfl
  have h3 : Ieee.double.infRung = 9218868437227405312 := rfl
  unfold Ieee.Format.read nanB
  rw [h1, h2, h3]
  dsimp only
  split
  · simp [Ieee.Datum.isNaN]; omega
  · split
    · simp [Ieee.Datum.isNaN]; omega
    · split
      · simp [Ieee.Datum.isNaN]; omega
      · simp [Ieee.Datum.isNaN]; omega
theorem order_self (n : Nat) : (FloatKind.f64.format.order n n != some .eq) = nanB n := by
  have : FloatKind.f64.format.order n n = (Ieee.double.read n).order (Ieee.double.read n) := rfl
  rw [this, datum_self, read_nan]

theorem frombits_run (n : Nat) (w : World) : (callFunc 78 #[.int .u64 n]).run Tryz.prog w = .ok (.value (.float .f64 n)) w := by
  rw [run_callFunc_extern Tryz.func78 (by kernel_rfl) (by kernel_rfl) (by kernel_rfl) (e := Extern.MathFloatBits.float64frombits) (by kernel_rfl)]
  rfl

set_option maxRecDepth 100000 in
theorem isNaN_any (n : Nat) (w : World) : Calls Tryz.prog 77 #[.float .f64 n] w fun e w' => e = .returned (.bool (nanB n)) ∧ w = w' := by
  have h := order_self n
  go_enter Tryz.func77, Tryz.ntmps77
  go_wp2
  go_ret
  exact ⟨rfl, rfl⟩
theorem canon_nan {n : Nat} (h : nanB n = true) : canonN n = 9221120237041090560 := by simp [canonN, h]
theorem canon_num {n : Nat} (h : nanB n = false) : canonN n = n := by simp [canonN, h]
theorem ret_u64 {a b : Nat} (h : a = b) : Ending.returned (.int .u64 b) = .returned (.int .u64 a) := by rw [h]
set_option maxRecDepth 100000 in
theorem canon_any (n : Nat) (w : World) : Calls Tryz.prog 60 #[.int .u64 n] w fun e w' => e = .returned (.int .u64 (canonN n)) ∧ w = w' := by
  have hd := frombits_run n
  cases hn : nanB n
  · have HC := Lib.hid (canon_num hn)
    go_enter Tryz.func60, Tryz.ntmps60
    go_wp2_with (go_at_call 77; refine (isNaN_any n _).mono ?_; rintro e w1 ⟨rfl, rfl⟩)
    go_ret
    exact ⟨ret_u64 HC.out, rfl⟩
  · have HC := Lib.hid (canon_nan hn)
    go_enter Tryz.func60, Tryz.ntmps60
    go_wp2_with (go_at_call 77; refine (isNaN_any n _).mono ?_; rintro e w1 ⟨rfl, rfl⟩)
    go_ret
    exact ⟨ret_u64 HC.out, rfl⟩
theorem and_11 (x : Int) (h0 : 0 ≤ x) (h1 : x < 18446744073709551616) : bits .and .u64 x 2047 = x % 2048 := bits_mask .u64 64 (by decide) wraps_u64 11 (by decide) x h0 h1
theorem and_52 (x : Int) (h0 : 0 ≤ x) (h1 : x < 18446744073709551616) : bits .and .u64 x 4503599627370495 = x % 4503599627370496 := bits_mask .u64 64 (by decide) wraps_u64 52 (by decide) x h0 h1
theorem ret_parts {m m' : Bool} {a a' b b' : Int} (h : m = m') (ha : a = a') (hb : b = b') : Ending.returned (.tuple #[.bool m, .int .u64 a, .int .u64 b]) = .returned (.tuple #[.bool m', .int .u64 a', .int .u64 b']) := by rw [h, ha, hb]
set_option maxRecDepth 100000 in
theorem parts_any (n : Nat) (hn : n < 18446744073709551616) (m : Bool) (E F : Nat) (hm : decide (9223372036854775808 ≤ n) = m) (hE : n / 4503599627370496 % 2048 = E) (hF : n % 4503599627370496 = F) (w : World) :
    Calls Tryz.prog 104 #[.int .u64 n] w fun e w' => e = .returned (.tuple #[.bool m, .int .u64 E, .int .u64 F]) ∧ w = w' := by
  have HP : Ending.returned (.tuple #[.bool (decide ((9223372036854775808 : Int) ≤ n)), .int .u64 (bits .and .u64 (n / 4503599627370496) 2047), .int .u64 (bits .and .u64 n 4503599627370495)]) = .returned (.tuple #[.bool m, .int .u64 E, .int .u64 F]) := by
    subst hm hE hF
    refine ret_parts ?_ ?_ ?_
    · rw [decide_eq_decide]; omega
    · rw [and_11 _ (by omega) (by omega)]; omega
    · rw [and_52 _ (by omega) (by omega)]; omega
  have HP := Lib.hid HP
  clear hm hE hF
  go_enter Tryz.func104, Tryz.ntmps104
  go_wp2
  go_ret3
  exact ⟨HP.out, rfl⟩
def kindN (m : Bool) (E F : Nat) : Nat := if E = 2047 ∧ F ≠ 0 then 0 else if E = 2047 ∧ m = true then 1 else if E = 2047 then 6 else if E = 0 ∧ F = 0 ∧ m = true then 3 else if E = 0 ∧ F = 0 then 4 else if m = true then 2 else 5
set_option maxRecDepth 100000 in
theorem refKind_any (n : Nat) (hn : n < 18446744073709551616) (m : Bool) (E F : Nat) (hm : decide (9223372036854775808 ≤ n) = m) (hE : n / 4503599627370496 % 2048 = E) (hF : n % 4503599627370496 = F) (w : World) :
    Calls Tryz.prog 92 #[.int .u64 n] w fun e w' => e = .returned (.int .i64 (kindN m E F)) ∧ w = w' := by
  have HP := Lib.hid (parts_any n hn m E F hm hE hF)
  clear hm hE hF hn
  have hE : E = 0 ∨ E = 2047 ∨ (E ≠ 0 ∧ E ≠ 2047) := by omega
  have hF : F = 0 ∨ F ≠ 0 := by omega
  rcases hE with rfl | rfl | ⟨e1, e2⟩ <;> rcases hF with rfl | f1 <;> cases m
  all_goals
    go_enter Tryz.func92, Tryz.ntmps92
    go_wp2_with (go_at_call 104; refine (HP.out _).mono ?_; rintro e w1 ⟨rfl, rfl⟩)
    go_ret
    exact ⟨by simp [kindN, *], rfl⟩
theorem kind_zero (n : Nat) : kindN (decide (9223372036854775808 ≤ n)) (n / 4503599627370496 % 2048) (n % 4503599627370496) = 0 ↔ nanB n = true := by
  unfold kindN nanB
  simp only [decide_eq_true_eq]
  split
  · omega
  · split
    · omega
    · split
      · omega
      · split
        · omega
        · split
          · omega
          · split <;> omega
set_option maxRecDepth 100000 in
theorem refCanon_any (n : Nat) (hn : n < 18446744073709551616) (w : World) :
    Calls Tryz.prog 68 #[.int .u64 n] w fun e w' => e = .returned (.int .u64 (canonN n)) ∧ w = w' := by
  have HP := Lib.hid (refKind_any n hn _ _ _ rfl rfl rfl)
  have hz := kind_zero n
  clear hn
  revert HP hz
  generalize kindN (decide (9223372036854775808 ≤ n)) (n / 4503599627370496 % 2048) (n % 4503599627370496) = K
  intro HP hz
  by_cases hk : K = 0
  · subst hk
    have HC := Lib.hid (canon_nan (hz.1 rfl))
    clear hz
    go_enter Tryz.func68, Tryz.ntmps68
    go_wp2_with (go_at_call 92; refine (HP.out _).mono ?_; rintro e w1 ⟨rfl, rfl⟩)
    go_ret
    exact ⟨ret_u64 HC.out, rfl⟩
  · have hb : nanB n = false := by cases h : nanB n; rfl; exact absurd (hz.2 h) hk
    have HC := Lib.hid (canon_num hb)
    have hk' : ((K : Int) == 0) = false := by simp; omega
    clear hz hb
    go_enter Tryz.func68, Tryz.ntmps68
    go_wp2_with (go_at_call 92; refine (HP.out _).mono ?_; rintro e w1 ⟨rfl, rfl⟩)
    go_ret
    exact ⟨ret_u64 HC.out, rfl⟩
end Go.Proofs.YtboiafchmdflpaaGreatDoor
/- Layers 4 and 8's data: values, reads, writes, transactions; how they lie in memory. -/
namespace Go.Proofs.YtboiafchmdflpaaGreatDoor
open Go.RowKit Go.Shelf

structure Val where
  kind : Int
  bits : Nat
  text : ByteArray
structure Rd where
  key : ByteArray
  ver : Nat
structure Wr where
  key : ByteArray
  val : Val
structure Tx where
  ses : Int
  seq : Int
  rds : List Rd
  wrs : List Wr
instance : Inhabited Rd := ⟨⟨noStr, 0⟩⟩
instance : Inhabited Wr := ⟨⟨noStr, ⟨0, 0, noStr⟩⟩⟩
def Val.cell (v : Val) : Value := .agg #[.int .i64 v.kind, .int .u64 v.bits, .string v.text]
def noRd : Rd := ⟨noStr, 0⟩
def noWr : Wr := ⟨noStr, ⟨0, 0, noStr⟩⟩

/-- A value's text is a string of Go's, its bits a word. -/
structure Val.Good (v : Val) : Prop where
  b : v.bits < 18446744073709551616
  t : v.text.size ≤ 9223372036854775807
  k0 : -9223372036854775808 ≤ v.kind
  k1 : v.kind ≤ 9223372036854775807

def formedV (v : Val) : Bool :=
  if v.kind = 0 then decide (v.bits = 0) && decide (v.text = noStr)
  else if v.kind = 1 then decide (v.text = noStr) && decide (canonN v.bits = v.bits)
  else decide (v.kind = 2) && decide (v.bits = 0) && decide (v.text.size ≤ 40) && Lib.validD v.text.data.toList

/-- Reads, and writes, that lie in memory. -/
def RdsAt (w : World) (A : Option Addr) (l : List Rd) : Prop :=
  ∀ i, i < l.length → ∃ b off, A = some ⟨b, off, none⟩ ∧ w.cell? ⟨b, off + i * 2, none⟩ = some (.string (l.getD i noRd).key) ∧ w.cell? ⟨b, off + i * 2 + 1, none⟩ = some (.int .u64 (l.getD i noRd).ver)
def WrsAt (w : World) (A : Option Addr) (l : List Wr) : Prop :=
  ∀ i, i < l.length → ∃ b off, A = some ⟨b, off, none⟩ ∧ w.cell? ⟨b, off + i * 4, none⟩ = some (.string (l.getD i noWr).key) ∧ w.cell? ⟨b, off + i * 4 + 1, none⟩ = some (.int .i64 (l.getD i noWr).val.kind) ∧
    w.cell? ⟨b, off + i * 4 + 2, none⟩ = some (.int .u64 (l.getD i noWr).val.bits) ∧ w.cell? ⟨b, off + i * 4 + 3, none⟩ = some (.string (l.getD i noWr).val.text)
theorem RdsAt.later {w w' : World} {A : Option Addr} {l : List Rd} (h : RdsAt w A l) (hb : Below w.heap.size w w') : RdsAt w' A l := by
  intro i hi
  obtain ⟨b, off, e, h0, h1⟩ := h i hi
  exact ⟨b, off, e, keep hb h0, keep hb h1⟩
theorem WrsAt.later {w w' : World} {A : Option Addr} {l : List Wr} (h : WrsAt w A l) (hb : Below w.heap.size w w') : WrsAt w' A l := by
  intro i hi
  obtain ⟨b, off, e, h0, h1, h2, h3⟩ := h i hi
  exact ⟨b, off, e, keep hb h0, keep hb h1, keep hb h2, keep hb h3⟩
theorem RdsAt.at' {w : World} {A : Option Addr} {l : List Rd} (h : RdsAt w A l) {k : Nat} (hk : k < l.length) :
    ∃ b off s n, A = some ⟨b, off, none⟩ ∧ w.cell? ⟨b, off + k * 2, none⟩ = some (.string s) ∧ w.cell? ⟨b, off + k * 2 + 1, none⟩ = some (.int .u64 (n : Nat)) ∧ Hid (l.getD k noRd = ⟨s, n⟩) := by
  obtain ⟨b, off, e, h0, h1⟩ := h k hk
  exact ⟨b, off, _, _, e, h0, h1, rfl⟩
theorem WrsAt.at' {w : World} {A : Option Addr} {l : List Wr} (h : WrsAt w A l) {k : Nat} (hk : k < l.length) :
    ∃ b off s z n t, A = some ⟨b, off, none⟩ ∧ w.cell? ⟨b, off + k * 4, none⟩ = some (.string s) ∧ w.cell? ⟨b, off + k * 4 + 1, none⟩ = some (.int .i64 z) ∧
      w.cell? ⟨b, off + k * 4 + 2, none⟩ = some (.int .u64 (n : Nat)) ∧ w.cell? ⟨b, off + k * 4 + 3, none⟩ = some (.string t) ∧ Hid (l.getD k noWr = ⟨s, ⟨z, n, t⟩⟩) := by
  obtain ⟨b, off, e, h0, h1, h2, h3⟩ := h k hk
  exact ⟨b, off, _, _, _, _, e, h0, h1, h2, h3, rfl⟩

structure TxAt (w : World) (t : Tx) (A B : Option Addr) : Prop where
  rds : RdsAt w A t.rds
  wrs : WrsAt w B t.wrs
  rk : ∀ k, k < t.rds.length → (t.rds.getD k noRd).key.size ≤ 9223372036854775807
  wk : ∀ k, k < t.wrs.length → (t.wrs.getD k noWr).key.size ≤ 9223372036854775807
  wv : ∀ k, k < t.wrs.length → (t.wrs.getD k noWr).val.Good
  rn : t.rds.length ≤ 9223372036854775807
  wn : t.wrs.length ≤ 9223372036854775807
theorem TxAt.later {w w' : World} {t : Tx} {A B : Option Addr} (h : TxAt w t A B) (hb : Below w.heap.size w w') : TxAt w' t A B :=
  ⟨h.rds.later hb, h.wrs.later hb, h.rk, h.wk, h.wv, h.rn, h.wn⟩

/-- A transaction's value: its id's two numbers, its two slices. -/
def txV (t : Tx) (A B : Option Addr) (ca cb : Nat) : Value := .agg #[.int .i64 t.ses, .int .i64 t.seq, .slice A t.rds.length ca, .slice B t.wrs.length cb]

theorem box3 (w : World) (u v x : Value) (t : TypeId) : ∃ W : World, w.alloc (.cells #[u, v, x] t) = W ∧ Below w.heap.size w W ∧ W.cell? ⟨w.heap.size, 0, none⟩ = some u ∧ W.cell? ⟨w.heap.size, 1, none⟩ = some v ∧ W.cell? ⟨w.heap.size, 2, none⟩ = some x :=
  ⟨_, rfl, below1 _ _, by simp, by simp, by simp⟩
theorem box4 (w : World) (u v x y : Value) (t : TypeId) : ∃ W : World, w.alloc (.cells #[u, v, x, y] t) = W ∧ Below w.heap.size w W ∧ W.cell? ⟨w.heap.size, 0, none⟩ = some u ∧ W.cell? ⟨w.heap.size, 1, none⟩ = some v ∧ W.cell? ⟨w.heap.size, 2, none⟩ = some x ∧ W.cell? ⟨w.heap.size, 3, none⟩ = some y :=
  ⟨_, rfl, below1 _ _, by simp, by simp, by simp, by simp⟩
end Go.Proofs.YtboiafchmdflpaaGreatDoor
/- Layer 14's statements' data: an Op, a script; few: whether a script is looked at. -/
namespace Go.Proofs.YtboiafchmdflpaaGreatDoor
open Go.RowKit Go.Shelf

theorem all_bad {α : Type} {l : List α} {d : α} {p : α → Bool} {k : Nat} {x : α} (hk : k < l.length) (h : l.getD k d = x) (hx : p x = false) : l.all p = false := by
  rw [List.getD_eq_getElem?_getD, List.getElem?_eq_getElem hk] at h
  simp only [Option.getD_some] at h
  rw [List.all_eq_false]
  exact ⟨l[k], List.getElem_mem hk, by rw [h, hx]; simp⟩
theorem all_next {α : Type} {l : List α} {d : α} {p : α → Bool} {k : Nat} {x : α} (hk : k < l.length) (h : l.getD k d = x) (hx : p x = true) (ha : (l.take k).all p = true) : (l.take (k + 1)).all p = true := by
  rw [List.getD_eq_getElem?_getD, List.getElem?_eq_getElem hk] at h
  simp only [Option.getD_some] at h
  rw [List.take_succ_eq_append_getElem hk, List.all_append, ha, h]
  simp [hx]
theorem take_bad {α : Type} {l : List α} {d : α} {p : α → Bool} {k n : Nat} {x : α} (hk : k < l.length) (hn : k < n) (h : l.getD k d = x) (hx : p x = false) : (l.take n).all p = false := by
  refine all_bad (d := d) (k := k) (x := x) (by simp; omega) ?_ hx
  rw [← h]
  simp [List.getD_eq_getElem?_getD, hn]
def wrFew (x : Wr) : Bool := decide (x.key.size ≤ 1000) && decide (x.val.text.size ≤ 1000)
def fewW (l : List Wr) : Bool := (l.take 20).all wrFew && decide (l.length ≤ 12)

structure WrsOK (l : List Wr) : Prop where
  k : ∀ i, i < l.length → (l.getD i noWr).key.size ≤ 9223372036854775807
  v : ∀ i, i < l.length → (l.getD i noWr).val.Good
  n : l.length ≤ 9223372036854775807
theorem ret_bool14 {a b : Bool} (h : a = b) : Ending.returned (.bool b) = .returned (.bool a) := by rw [h]
theorem calls_same {P : Program} {f : FuncId} {args : Array Value} {w : World} {z x : Bool} (e : z = x) (h : Calls P f args w fun e w' => e = .returned (.bool z) ∧ w = w') : Calls P f args w fun e w' => e = .returned (.bool x) ∧ w = w' := by
  rw [e] at h; exact h
set_option maxRecDepth 100000 in
set_option maxHeartbeats 1000000 in
theorem fewW_any (l : List Wr) (A : Option Addr) (ca : Nat) (w : World) (hA : WrsAt w A l) (hl : WrsOK l) :
    Calls Tryz.prog 17 #[.slice A l.length ca] w fun e w' => e = .returned (.bool (fewW l)) ∧ w = w' := by
  have hn := hl.n
  have HK := Lib.hid hl
  clear hl
  go_enter Tryz.func17, Tryz.ntmps17
  go_wp2_with fail
  go_loop [3] (fun i => ∃ k : Nat, k ≤ l.length ∧ k ≤ 20 ∧ i = .int .i64 k ∧ Hid ((l.take k).all wrFew = true)) (fun i => l.length - (intOf i).toNat)
  case atStart => exact ⟨0, Nat.zero_le _, by omega, rfl, rfl⟩
  case round =>
    obtain ⟨k, hk, hk20, rfl, HA⟩ := hrel
    by_cases hlt : k < l.length
    · by_cases h20 : k < 20
      · obtain ⟨b, off, s, z, n, x, rfl, d0, d1, d2, d3, HX⟩ := hA.at' hlt
        have hki : (k : Int) < l.length := by omega
        have hs := HK.out.k k hlt
        have hx := (HK.out.v k hlt).t
        rw [HX.out] at hs hx
        simp only at hs hx
        by_cases hb : 1000 < s.size
        · have HF : Hid (fewW l = false) := by show _ = _; rw [fewW, take_bad hlt h20 HX.out (by simp [wrFew]; omega)]; rfl
          go_wp2
          go_ret
          exact ⟨ret_bool14 HF.out, rfl⟩
        · by_cases hb2 : 1000 < x.size
          · have HF : Hid (fewW l = false) := by show _ = _; rw [fewW, take_bad hlt h20 HX.out (by simp [wrFew]; omega)]; rfl
            go_wp2
            go_ret
            exact ⟨ret_bool14 HF.out, rfl⟩
          · have HR : Hid ((l.take (k + 1)).all wrFew = true) := all_next hlt HX.out (by simp [wrFew]; omega) HA.out
            go_wp2
            go_round
            case rel => exact ⟨k + 1, by omega, by omega, by go_num, HR⟩
            case measure => simp [intOf]; omega
      · have ek : k = 20 := by omega
        have HF : Hid (fewW l = decide (l.length ≤ 12)) := by show _ = _; rw [fewW, ← ek, HA.out]; rfl
        have hbig : ¬ l.length ≤ 12 := by omega
        have q : decide ((l.length : Int) ≤ 12) = false := by rw [decide_eq_false_iff_not]; omega
        have HF2 : Hid (fewW l = false) := by show _ = _; rw [HF.out, decide_eq_false hbig]
        clear ek
        go_wp2
        go_ret
        exact ⟨ret_bool14 HF2.out, rfl⟩
    · have ek : k = l.length := by omega
      have HF : Hid (fewW l = decide (l.length ≤ 12)) := by
        show _ = _
        have h1 : l.take 20 = l.take k := by rw [ek, List.take_length, List.take_of_length_le (by omega)]
        rw [fewW, h1, HA.out]; rfl
      clear ek
      by_cases h12 : l.length ≤ 12
      · have HF2 : Hid (fewW l = true) := by show _ = _; rw [HF.out, decide_eq_true h12]
        have q : decide ((l.length : Int) ≤ 12) = true := by rw [decide_eq_true_iff]; omega
        go_wp2
        go_ret
        exact ⟨ret_bool14 HF2.out, rfl⟩
      · have HF2 : Hid (fewW l = false) := by show _ = _; rw [HF.out, decide_eq_false h12]
        have q : decide ((l.length : Int) ≤ 12) = false := by rw [decide_eq_false_iff_not]; omega
        go_wp2
        go_ret
        exact ⟨ret_bool14 HF2.out, rfl⟩

/-! ### Ops and scripts -/
structure OpD where
  kind : Int
  l : List Wr
  key : ByteArray
  upto : ByteArray
  num : Nat
  by8 : Nat
instance : Inhabited OpD := ⟨⟨0, [], noStr, noStr, 0, 0⟩⟩
def noOp : OpD := ⟨0, [], noStr, noStr, 0, 0⟩
structure OpOK (o : OpD) : Prop where
  l : WrsOK o.l
  k : o.key.size ≤ 9223372036854775807
  t : o.upto.size ≤ 9223372036854775807
  n : o.num < 18446744073709551616
  b : o.by8 < 256
def opFew (o : OpD) : Bool := fewW o.l && decide (o.key.size ≤ 1000) && decide (o.upto.size ≤ 1000)
def fewS (l : List OpD) : Bool := (l.take 100).all opFew && decide (l.length ≤ 60)
/-- Ops that lie in memory; LA, LC: each one's writes' address and capacity. -/
def OpsAt (w : World) (S : Option Addr) (l : List OpD) (LA : Nat → Option Addr) (LC : Nat → Nat) : Prop :=
  ∀ i, i < l.length → ∃ b off, S = some ⟨b, off, none⟩ ∧ w.cell? ⟨b, off + i * 6, none⟩ = some (.int .i64 (l.getD i noOp).kind) ∧ w.cell? ⟨b, off + i * 6 + 1, none⟩ = some (.slice (LA i) (l.getD i noOp).l.length (LC i)) ∧
    w.cell? ⟨b, off + i * 6 + 2, none⟩ = some (.string (l.getD i noOp).key) ∧ w.cell? ⟨b, off + i * 6 + 3, none⟩ = some (.string (l.getD i noOp).upto) ∧ w.cell? ⟨b, off + i * 6 + 4, none⟩ = some (.int .u64 ((l.getD i noOp).num : Nat)) ∧
    w.cell? ⟨b, off + i * 6 + 5, none⟩ = some (.int .u8 ((l.getD i noOp).by8 : Nat)) ∧ WrsAt w (LA i) (l.getD i noOp).l
theorem OpsAt.later {w w' : World} {S : Option Addr} {l : List OpD} {LA : Nat → Option Addr} {LC : Nat → Nat} (h : OpsAt w S l LA LC) (hb : Below w.heap.size w w') : OpsAt w' S l LA LC := by
  intro i hi
  obtain ⟨b, off, e, h0, h1, h2, h3, h4, h5, h6⟩ := h i hi
  exact ⟨b, off, e, keep hb h0, keep hb h1, keep hb h2, keep hb h3, keep hb h4, keep hb h5, h6.later hb⟩
set_option maxRecDepth 100000 in
set_option maxHeartbeats 2000000 in
theorem fewS_any (l : List OpD) (S : Option Addr) (LA : Nat → Option Addr) (LC : Nat → Nat) (ca : Nat) (w : World) (hS : OpsAt w S l LA LC) (hl : ∀ i, i < l.length → OpOK (l.getD i noOp)) (hn : l.length ≤ 9223372036854775807) :
    Calls Tryz.prog 6 #[.slice S l.length ca] w fun e w' => e = .returned (.bool (fewS l)) ∧ w = w' := by
  have HK := Lib.hid hl
  have HS := Lib.hid hS
  clear hl hS
  go_enter Tryz.func6, Tryz.ntmps6
  go_wp2_with fail
  go_loop [3] (fun i => ∃ k : Nat, k ≤ l.length ∧ k ≤ 100 ∧ i = .int .i64 k ∧ Hid ((l.take k).all opFew = true)) (fun i => l.length - (intOf i).toNat)
  case atStart => exact ⟨0, Nat.zero_le _, by omega, rfl, rfl⟩
  case round =>
    obtain ⟨k, hk, hk100, rfl, HA⟩ := hrel
    by_cases hlt : k < l.length
    · by_cases h100 : k < 100
      · obtain ⟨b, off, rfl, d0, d1, d2, d3, d4, d5, d6⟩ := HS.out k hlt
        have hok := HK.out k hlt
        obtain ⟨o, HX⟩ : ∃ o, Hid (l.getD k noOp = o) := ⟨_, rfl⟩
        rw [HX.out] at d0 d1 d2 d3 d4 d5 d6 hok
        have hs := hok.k
        have ht := hok.t
        have HL := Lib.hid hok.l
        have hki : (k : Int) < l.length := by omega
        clear hok d0 d4 d5
        cases hf : fewW o.l
        · have HF : Hid (fewS l = false) := by show _ = _; rw [fewS, take_bad hlt h100 HX.out (by simp [opFew, hf])]; rfl
          have HFW := Lib.hid hf
          clear hf
          go_wp2_with (go_at_call 17; refine (calls_same HFW.out (fewW_any o.l _ _ _ d6 HL.out)).mono ?_; rintro e w1 ⟨rfl, rfl⟩)
          go_ret
          exact ⟨ret_bool14 HF.out, rfl⟩
        · have HFW := Lib.hid hf
          clear hf
          by_cases hb : 1000 < o.key.size
          · have HF : Hid (fewS l = false) := by show _ = _; rw [fewS, take_bad hlt h100 HX.out (by simp [opFew, HFW.out]; omega)]; rfl
            go_wp2_with (go_at_call 17; refine (calls_same HFW.out (fewW_any o.l _ _ _ d6 HL.out)).mono ?_; rintro e w1 ⟨rfl, rfl⟩)
            go_ret
            exact ⟨ret_bool14 HF.out, rfl⟩
          · by_cases hb2 : 1000 < o.upto.size
            · have HF : Hid (fewS l = false) := by show _ = _; rw [fewS, take_bad hlt h100 HX.out (by simp [opFew, HFW.out]; omega)]; rfl
              go_wp2_with (go_at_call 17; refine (calls_same HFW.out (fewW_any o.l _ _ _ d6 HL.out)).mono ?_; rintro e w1 ⟨rfl, rfl⟩)
              go_ret
              exact ⟨ret_bool14 HF.out, rfl⟩
            · have HR : Hid ((l.take (k + 1)).all opFew = true) := all_next hlt HX.out (by simp [opFew, HFW.out]; omega) HA.out
              go_wp2_with (go_at_call 17; refine (calls_same HFW.out (fewW_any o.l _ _ _ d6 HL.out)).mono ?_; rintro e w1 ⟨rfl, rfl⟩)
              go_round
              case rel => exact ⟨k + 1, by omega, by omega, by go_num, HR⟩
              case measure => simp [intOf]; omega
      · have ek : k = 100 := by omega
        have HF : Hid (fewS l = decide (l.length ≤ 60)) := by show _ = _; rw [fewS, ← ek, HA.out]; rfl
        have hbig : ¬ l.length ≤ 60 := by omega
        have q : decide ((l.length : Int) ≤ 60) = false := by rw [decide_eq_false_iff_not]; omega
        have HF2 : Hid (fewS l = false) := by show _ = _; rw [HF.out, decide_eq_false hbig]
        clear ek
        go_wp2
        go_ret
        exact ⟨ret_bool14 HF2.out, rfl⟩
    · have ek : k = l.length := by omega
      have HF : Hid (fewS l = decide (l.length ≤ 60)) := by
        show _ = _
        have h1 : l.take 100 = l.take k := by rw [ek, List.take_length, List.take_of_length_le (by omega)]
        rw [fewS, h1, HA.out]; rfl
      clear ek
      by_cases h12 : l.length ≤ 60
      · have HF2 : Hid (fewS l = true) := by show _ = _; rw [HF.out, decide_eq_true h12]
        have q : decide ((l.length : Int) ≤ 60) = true := by rw [decide_eq_true_iff]; omega
        go_wp2
        go_ret
        exact ⟨ret_bool14 HF2.out, rfl⟩
      · have HF2 : Hid (fewS l = false) := by show _ = _; rw [HF.out, decide_eq_false h12]
        have q : decide ((l.length : Int) ≤ 60) = false := by rw [decide_eq_false_iff_not]; omega
        go_wp2
        go_ret
        exact ⟨ret_bool14 HF2.out, rfl⟩
end Go.Proofs.YtboiafchmdflpaaGreatDoor
