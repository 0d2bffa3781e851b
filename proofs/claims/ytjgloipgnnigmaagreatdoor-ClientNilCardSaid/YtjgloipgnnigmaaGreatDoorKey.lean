/- value.Key and the reference's Key: both tell keyB of every string. -/
import Derived.Test.YtjgloipgnnigmaaGreatDoorBase
import Derived.Test.YtjgloipgnnigmaaGreatDoorModel07
import Derived.Test.YtjgloipgnnigmaaGreatDoorShelfA
import Derived.WalkSpells
import Derived.WalkLawsBesides
namespace Go.Proofs.YtjgloipgnnigmaaGreatDoor
open Go.RowKit Go.Shelf

def cutset : ByteArray := ⟨#[97, 98, 99, 100, 101, 102, 103, 104, 105, 106, 107, 108, 109, 110, 111, 112, 113, 114, 115, 116, 117, 118, 119, 120, 121, 122, 48, 49, 50, 51, 52, 53, 54, 55, 56, 57]⟩
theorem cut_ld (b : UInt8) : cutset.data.toList.contains b = ldB b := by
  have h : ((List.range 256).all fun n => cutset.data.toList.contains (UInt8.ofNat n) == ldB (UInt8.ofNat n)) = true := by decide +kernel
  have := List.all_eq_true.1 h b.toNat (List.mem_range.2 b.toNat_lt)
  simpa using this
theorem dropWhile_nil {p : UInt8 → Bool} : ∀ l : List UInt8, l.dropWhile p = [] ↔ l.all p = true
  | [] => by simp
  | a :: l => by
    cases h : p a
    · simp [h]
    · simp [h, dropWhile_nil l]
theorem trimS_nil (l : List UInt8) : Lib.trimS l cutset.data.toList = [] ↔ l.all ldB = true := by
  have e : (fun b => cutset.data.toList.contains b) = ldB := funext cut_ld
  have e' : (cutset.data.toList.contains ·) = ldB := e
  unfold Lib.trimS Lib.trimLeftS Lib.trimRightS
  rw [e', dropWhile_nil]
  constructor
  · intro h
    have h2 : (l.reverse.dropWhile ldB) = [] := by
      cases hd : l.reverse.dropWhile ldB with
      | nil => rfl
      | cons x xs =>
        exfalso
        have hx : ldB x = false := by
          have := List.head?_dropWhile_not ldB l.reverse
          rw [hd] at this
          simpa using this
        rw [hd] at h
        simp [hx] at h
    rw [dropWhile_nil] at h2
    simpa using h2
  · intro h
    have h2 : l.reverse.dropWhile ldB = [] := by rw [dropWhile_nil]; simpa using h
    rw [h2]; rfl

set_option maxHeartbeats 400000 in
theorem key_any (s : ByteArray) (w : World) (hs : s.size ≤ maxLen) :
    Calls Tryz.prog 36 #[.string s] w fun e w' => e = .returned (.bool (keyB s)) ∧ Below w.heap.size w w' := by
  unfold maxLen at hs
  by_cases h1 : 1 ≤ s.size
  · by_cases h2 : s.size ≤ 12
    · have hcon := Tryz.strings_Trim_laid s cutset w (by omega) (by decide) (ascii_of_all (by decide))
      have hnil := trimS_nil s.data.toList
      have ek : keyB s = s.data.toList.all ldB := by simp [keyB, h1, h2]
      rw [ek]; clear ek
      cases hb : s.data.toList.all ldB
      · have hr : (⟨(Lib.trimS s.data.toList cutset.data.toList).toArray⟩ : ByteArray).toList.isEmpty = false := by
          rw [ByteArray.toList_eq]
          cases hx : Lib.trimS s.data.toList cutset.data.toList with
          | nil => rw [hnil.1 hx] at hb; cases hb
          | cons => simp
        generalize (⟨(Lib.trimS s.data.toList cutset.data.toList).toArray⟩ : ByteArray) = r at hcon hr
        unfold cutset at hcon
        clear hnil hb
        go_enter Tryz.func36, Tryz.ntmps36
        go_wp2_with (go_at_call 78; refine hcon.mono ?_; rintro e w' ⟨rfl, hB⟩)
        go_ret
        exact ⟨rfl, hB⟩
      · have hr : (⟨(Lib.trimS s.data.toList cutset.data.toList).toArray⟩ : ByteArray).toList.isEmpty = true := by
          rw [ByteArray.toList_eq, hnil.2 hb]; rfl
        generalize (⟨(Lib.trimS s.data.toList cutset.data.toList).toArray⟩ : ByteArray) = r at hcon hr
        unfold cutset at hcon
        clear hnil hb
        go_enter Tryz.func36, Tryz.ntmps36
        go_wp2_with (go_at_call 78; refine hcon.mono ?_; rintro e w' ⟨rfl, hB⟩)
        go_ret
        exact ⟨rfl, hB⟩
    · have ek : keyB s = false := by simp [keyB, h2]
      rw [ek]; clear ek
      go_enter Tryz.func36, Tryz.ntmps36
      go_wp2
      go_ret
      exact ⟨rfl, Below.refl _ _⟩
  · have ek : keyB s = false := by simp [keyB, h1]
    rw [ek]; clear ek
    go_enter Tryz.func36, Tryz.ntmps36
    go_wp2
    go_ret
    exact ⟨rfl, Below.refl _ _⟩

theorem ret_bool {a b : Bool} (h : a = b) : Ending.returned (.bool b) = .returned (.bool a) := by rw [h]
theorem take_snoc (s : ByteArray) (k : Nat) (h : k < s.size) : s.data.toList.take (k + 1) = s.data.toList.take k ++ [s[k]] := by
  rw [List.take_succ_eq_append_getElem (by simpa using h)]; rfl
theorem ld_of (c : UInt8) : ldB c = ((decide (97 ≤ (c.toNat : Int)) && decide ((c.toNat : Int) ≤ 122)) || (decide (48 ≤ (c.toNat : Int)) && decide ((c.toNat : Int) ≤ 57))) := by
  unfold ldB
  have e1 : decide (97 ≤ c.toNat) = decide (97 ≤ (c.toNat : Int)) := decide_eq_decide.2 (by omega)
  have e2 : decide (c.toNat ≤ 122) = decide ((c.toNat : Int) ≤ 122) := decide_eq_decide.2 (by omega)
  have e3 : decide (48 ≤ c.toNat) = decide (48 ≤ (c.toNat : Int)) := decide_eq_decide.2 (by omega)
  have e4 : decide (c.toNat ≤ 57) = decide ((c.toNat : Int) ≤ 57) := decide_eq_decide.2 (by omega)
  rw [e1, e2, e3, e4]
theorem ld_yes {c : UInt8} (h : (97 ≤ (c.toNat : Int) ∧ (c.toNat : Int) ≤ 122) ∨ (48 ≤ (c.toNat : Int) ∧ (c.toNat : Int) ≤ 57)) : ldB c = true := by
  rw [ld_of]; simpa using h
theorem ld_no {c : UInt8} (h : ¬ ((97 ≤ (c.toNat : Int) ∧ (c.toNat : Int) ≤ 122) ∨ (48 ≤ (c.toNat : Int) ∧ (c.toNat : Int) ≤ 57))) : ldB c = false := by
  rw [ld_of, Bool.eq_false_iff]; simpa using h
theorem all_false {s : ByteArray} {k : Nat} (h : k < s.size) (hl : ldB s[k] = false) : s.data.toList.all ldB = false := by
  have : s[k] ∈ s.data.toList := by
    have : s.data.toList[k]'(by simpa using h) ∈ s.data.toList := List.getElem_mem _
    exact this
  rw [List.all_eq_false]
  exact ⟨_, this, by simp [hl]⟩

set_option maxHeartbeats 400000 in
theorem refKey_any (s : ByteArray) (w : World) (hs : s.size ≤ maxLen) :
    Calls Tryz.prog 56 #[.string s] w fun e w' => e = .returned (.bool (keyB s)) ∧ w = w' := by
  unfold maxLen at hs
  go_enter Tryz.func56, Tryz.ntmps56
  go_wp2
  go_loop [3] (fun i => ∃ k : Nat, k ≤ s.size ∧ i = .int .i64 k ∧ (s.data.toList.take k).all ldB = true) (fun i => s.size - (intOf i).toNat)
  case atStart => exact ⟨0, Nat.zero_le _, rfl, rfl⟩
  case round =>
    obtain ⟨k, hk, rfl, ha⟩ := hrel
    have HA : Hid ((s.data.toList.take k).all ldB = true) := ha
    clear ha
    by_cases hlt : k < s.size
    · have HT := Lib.hid (take_snoc s k hlt)
      have HF : Hid (ldB s[k] = false → s.data.toList.all ldB = false) := Lib.hid (fun h => all_false hlt h)
      go_wp2
      all_goals first
        | (go_ret
           exact ⟨ret_bool (by rw [keyB, HF.out (ld_no (by omega)), Bool.and_false]), rfl⟩)
        | (go_round
           case rel => exact ⟨k + 1, by omega, by go_num, by rw [HT.out, List.all_append, HA.out, List.all_cons, ld_yes (by omega)]; rfl⟩
           case measure => simp [intOf]; omega)
    · have hall : s.data.toList.all ldB = true := by rw [← List.take_of_length_le (l := s.data.toList) (i := k) (by simp; omega)]; exact HA.out
      have HK : Hid (keyB s = (decide (1 ≤ s.size) && decide (s.size ≤ 12))) := Lib.hid (by rw [keyB, hall, Bool.and_true])
      clear hall
      by_cases h1 : 1 ≤ s.size
      · by_cases h2 : s.size ≤ 12
        all_goals
          go_wp2
          go_ret
          exact ⟨ret_bool (by rw [HK.out]; simp [h1, h2]; try omega), rfl⟩
      · go_wp2
        go_ret
        exact ⟨ret_bool (by rw [HK.out]; simp [h1]), rfl⟩
end Go.Proofs.YtjgloipgnnigmaaGreatDoor
