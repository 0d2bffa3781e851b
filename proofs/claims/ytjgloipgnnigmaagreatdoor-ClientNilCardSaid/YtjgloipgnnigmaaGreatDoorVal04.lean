/- Layer 4's Formed, the program's and the reference's. -/
import Derived.Test.YtjgloipgnnigmaaGreatDoorModel08
import Derived.Test.YtjgloipgnnigmaaGreatDoorShelfA
namespace Go.Proofs.YtjgloipgnnigmaaGreatDoor
open Go.RowKit Go.Shelf

def Tabs (w : World) : Prop := Lib.Utf8Tabs 0 1 w
theorem Tabs.later {w w' : World} (h : Tabs w) (hb : Below w.heap.size w w') : Tabs w' := Utf8Tabs_below h hb

theorem str_cases (s : ByteArray) : s = { data := #[] } ∨ (s.toList.isEmpty = false ∧ (¬ s.toList = []) ∧ decide (s = noStr) = false) := by
  by_cases h : s = { data := #[] }
  · exact .inl h
  · have h0 : ¬ s.toList = [] := fun e => h ((toList_nil_iff_emptyBytes s).1 e)
    exact .inr ⟨by simpa using h0, h0, by simpa using (show ¬ s = noStr from h)⟩
theorem dec_no : decide (({ data := #[] } : ByteArray) = noStr) = true := decide_eq_true rfl
theorem fv0 (n : Nat) (s : ByteArray) : formedV ⟨0, n, s⟩ = (decide (n = 0) && decide (s = noStr)) := rfl
theorem fv1 (n : Nat) (s : ByteArray) : formedV ⟨1, n, s⟩ = (decide (s = noStr) && decide (canonN n = n)) := rfl
theorem fv2 (n : Nat) (s : ByteArray) : formedV ⟨2, n, s⟩ = (decide (n = 0) && decide (s.size ≤ 40) && Lib.validD s.data.toList) := by simp [formedV]
theorem fv3 {k : Int} (n : Nat) (s : ByteArray) (h0 : k ≠ 0) (h1 : k ≠ 1) (h2 : k ≠ 2) : formedV ⟨k, n, s⟩ = false := by simp [formedV, h0, h1, h2]
theorem kind_cases (k : Int) : k = 0 ∨ k = 1 ∨ k = 2 ∨ ((k == 0) = false ∧ (k == 1) = false ∧ (k == 2) = false) := by
  by_cases h0 : k = 0; exact .inl h0
  by_cases h1 : k = 1; exact .inr (.inl h1)
  by_cases h2 : k = 2; exact .inr (.inr (.inl h2))
  exact .inr (.inr (.inr ⟨by simpa using h0, by simpa using h1, by simpa using h2⟩))

set_option maxRecDepth 100000 in
theorem formedV_any (k : Int) (n : Nat) (s : ByteArray) (hs : s.size ≤ 9223372036854775807) (w : World) (hT : Tabs w) :
    Calls Tryz.prog 52 #[.agg #[.int .i64 k, .int .u64 n, .string s]] w fun e w' => e = .returned (.bool (formedV ⟨k, n, s⟩)) ∧ Below w.heap.size w w' := by
  obtain ⟨W, eW, HB, c0, c1, c2⟩ := box3 w (.int .i64 k) (.int .u64 n) (.string s) 28
  have hT := hT.later HB
  have hn : n = 0 ∨ (¬ n = 0) := by omega
  rcases kind_cases k with rfl | rfl | rfl | ⟨k0, k1, k2⟩
  · rcases hn with rfl | n1 <;> rcases str_cases s with rfl | ⟨s1, s2, s3⟩
    all_goals
      try rw [show ((0 : Nat) : Int) = 0 from rfl] at eW
      go_enter Tryz.func52, Tryz.ntmps52
      go_wp2
      go_ret
      exact ⟨ret_bool (by rw [fv0]; simp [dec_no, *]), by first | exact HB | exact below_drew HB⟩
  · have hc : ((canonN n : Int) == (n : Int)) = decide (canonN n = n) := by
      by_cases h : canonN n = n
      · simp [h]
      · simp [h]; omega
    rcases str_cases s with rfl | ⟨s1, s2, s3⟩
    all_goals
      have hc' := Lib.hid hc
      clear hc
      go_enter Tryz.func52, Tryz.ntmps52
      go_wp2_with fail
      go_quiet ((go_at_call 106; exact quiet_left (canon_any n _)))
      go_wp2
      go_ret
      exact ⟨ret_bool (by rw [fv1]; rw [← hc'.out]; simp [dec_no, *]), below_drewN HB _⟩
  · by_cases hs4 : s.size ≤ 40
    · rcases hn with rfl | n1
      all_goals
        try rw [show ((0 : Nat) : Int) = 0 from rfl] at eW
        go_enter Tryz.func52, Tryz.ntmps52
        go_wp2_with (go_at_call 107; refine (Tryz.utf8_ValidString s _ hs hT).mono ?_; rintro e w1 ⟨rfl, hb⟩; replace HB := keepB HB hb)
        go_ret
        exact ⟨ret_bool (by rw [fv2]; simp [*]), by first | exact HB | exact below_drew HB⟩
    · rcases hn with rfl | n1
      all_goals
        try rw [show ((0 : Nat) : Int) = 0 from rfl] at eW
        go_enter Tryz.func52, Tryz.ntmps52
        go_wp2
        go_ret
        exact ⟨ret_bool (by rw [fv2]; simp [*]), by first | exact HB | exact below_drew HB⟩
  · go_enter Tryz.func52, Tryz.ntmps52
    go_wp2
    go_ret
    exact ⟨ret_bool (by rw [fv3 _ _ (by simpa using k0) (by simpa using k1) (by simpa using k2)]), HB⟩

/-- U+FFFD of one byte is an error; of three it is written so. -/
theorem fffd (n b0 b1 b2 b3 : Nat) (h : (Lib.decodeN n b0 b1 b2 b3).1 = 65533) :
    (Lib.decodeN n b0 b1 b2 b3).2 = if 3 ≤ n ∧ b0 = 239 ∧ b1 = 191 ∧ b2 = 189 then 3 else 1 := by
  unfold Lib.decodeN at h ⊢
  split at h
  · omega
  · rename_i q0
    rw [if_neg q0]
    split at h
    · rename_i q1
      rw [if_pos q1]
      split at h
      · omega
      · rename_i q2
        rw [if_neg q2, if_neg (by omega)]
    · rename_i q1
      rw [if_neg q1]
      split at h
      · rename_i q2
        rw [if_pos q2]
        split at h
        · rename_i q3
          rw [if_pos q3, if_pos (by simp only at h; omega)]
        · rename_i q3
          rw [if_neg q3, if_neg (by omega)]
      · rename_i q2
        rw [if_neg q2]
        split at h
        · rename_i q3
          rw [if_pos q3]
          split at h
          · rename_i q4
            simp only at h
            omega
          · rename_i q4
            rw [if_neg q4, if_neg (by omega)]
        · rename_i q3
          rw [if_neg q3, if_neg (by omega)]
theorem get_at (s : ByteArray) (i : Nat) (h : i < s.size) : s.get! i = s[i]'h := by
  cases s with
  | mk d => exact getElem!_pos d i h
def validAt (s : ByteArray) (pos : Nat) : Bool := Lib.validD (s.data.toList.drop pos)
theorem validAt_end {s : ByteArray} {pos : Nat} (h : ¬ pos < s.size) : validAt s pos = true := by
  have h' : s.data.size ≤ pos := by have : s.data.size = s.size := rfl; omega
  have : s.data.toList.drop pos = [] := List.drop_eq_nil_of_le (by simpa using h')
  unfold validAt
  rw [this]
  exact Lib.validD_nil
theorem validAt_step {s : ByteArray} {pos : Nat} (h : pos < s.size) : validAt s pos = if (Utf8.decode s pos).1 = 65533 ∧ (Utf8.decode s pos).2 = 1 then false else validAt s (pos + (Utf8.decode s pos).2) := by
  have hne : s.data.toList.drop pos ≠ [] := by
    intro h0
    have := congrArg List.length h0
    have hz : s.data.size = s.size := rfl
    simp at this
    omega
  unfold validAt
  rw [Lib.validD_step _ hne, Lib.decodeL_drop, List.drop_drop]
theorem validAt_rune {s : ByteArray} {pos r wd : Nat} (h : pos < s.size) (hd : Utf8.decode s pos = (r, wd)) (hr : r ≠ 65533) : validAt s pos = validAt s (pos + wd) := by
  rw [validAt_step h, hd, if_neg (by simp; omega)]
theorem validAt_short {s : ByteArray} {pos wd : Nat} (h : pos < s.size) (hd : Utf8.decode s pos = (65533, wd)) (hr : s.size - pos < 3) : validAt s pos = false := by
  have hw := fffd (s.size - pos) _ _ _ _ (by rw [← Lib.decode_at, hd])
  rw [← Lib.decode_at, hd, if_neg (by omega)] at hw
  rw [validAt_step h, hd, if_pos ⟨rfl, hw⟩]
theorem validAt_bytes {s : ByteArray} {pos wd : Nat} (h : pos < s.size) (h1 : pos + 1 < s.size) (h2 : pos + 2 < s.size) (hd : Utf8.decode s pos = (65533, wd)) :
    validAt s pos = if (s[pos]'h).toNat = 239 ∧ (s[pos + 1]'h1).toNat = 191 ∧ (s[pos + 2]'h2).toNat = 189 then validAt s (pos + wd) else false := by
  have hw := fffd (s.size - pos) _ _ _ _ (by rw [← Lib.decode_at, hd])
  rw [← Lib.decode_at, hd, get_at _ _ h, get_at _ _ h1, get_at _ _ h2] at hw
  simp only at hw
  rw [validAt_step h, hd]
  by_cases hc : (s[pos]'h).toNat = 239 ∧ (s[pos + 1]'h1).toNat = 191 ∧ (s[pos + 2]'h2).toNat = 189
  · rw [if_pos ⟨by omega, hc⟩] at hw
    rw [if_pos hc, if_neg (by simp; omega)]
  · rw [if_neg (fun x => hc x.2)] at hw
    rw [if_neg hc, if_pos ⟨rfl, hw⟩]

set_option maxRecDepth 100000 in
theorem valid_any (s : ByteArray) (hs : s.size ≤ 9223372036854775807) (w : World) : Calls Tryz.prog 121 #[.string s] w fun e w' => e = .returned (.bool (Lib.validD s.data.toList)) ∧ Below w.heap.size w w' := by
  have HV : Hid (Lib.validD s.data.toList = validAt s 0) := rfl
  go_enter Tryz.func121, Tryz.ntmps121
  go_wp2_with fail
  go_loopw [] (fun wr => ∃ pos : Nat, Hid (validAt s pos = validAt s 0) ∧ wr = w.iter s pos) (fun wr => s.size - wr.iterPos w.heap.size)
  case atStart => exact ⟨0, rfl, rfl⟩
  case round =>
    obtain ⟨pos, hpos, rfl⟩ := hrel
    by_cases hp : pos < s.size
    · have hwd := Lib.width_pos s pos
      have hnx : ∀ ty, (Instr.next (.pointer (some ⟨w.heap.size, 0, none⟩)) true ty).run Tryz.prog (w.iter s pos) = _ := fun ty => run_next_any w s pos ty hp
      obtain ⟨⟨r, wd⟩, hd⟩ : ∃ x, Utf8.decode s pos = x := ⟨_, rfl⟩
      simp only [hd] at hnx hwd
      by_cases hr : r = 65533
      · subst hr
        by_cases h3 : s.size - pos < 3
        · have HQ := Lib.hid (validAt_short hp hd h3)
          have h3' : (s.size : Int) - pos < 3 := by omega
          clear hd
          go_wp2
          go_ret
          exact ⟨ret_bool (by rw [HV.out, ← hpos.out, HQ.out]), below1 _ _⟩
        · have h1 : pos + 1 < s.size := by omega
          have h2 : pos + 2 < s.size := by omega
          have HQ := Lib.hid (validAt_bytes hp h1 h2 hd)
          have h3' : ¬ ((s.size : Int) - pos < 3) := by omega
          clear hd h3
          by_cases e0 : (s[pos]'hp).toNat = 239
          · have q0 : (((s[pos]'hp).toNat : Int) != 239) = false := by rw [e0]; rfl
            by_cases e1 : (s[pos + 1]'h1).toNat = 191
            · have q1 : (((s[pos + 1]'h1).toNat : Int) != 191) = false := by rw [e1]; rfl
              by_cases e2 : (s[pos + 2]'h2).toNat = 189
              · have q2 : (((s[pos + 2]'h2).toNat : Int) != 189) = false := by rw [e2]; rfl
                have HF : Hid (validAt s pos = validAt s (pos + wd)) := by show _ = _; rw [HQ.out, if_pos ⟨e0, e1, e2⟩]
                clear e0 e1 e2 HQ
                go_wp2
                go_roundw
                case rel => exact ⟨pos + wd, by show _ = _; rw [← HF.out, hpos.out], rfl⟩
                case measure => simp; omega
              · have q2 : (((s[pos + 2]'h2).toNat : Int) != 189) = true := by simp; omega
                have HF : Hid (validAt s pos = false) := by show _ = _; rw [HQ.out, if_neg (by omega)]
                clear e0 e1 e2 HQ
                go_wp2
                go_ret
                exact ⟨ret_bool (by rw [HV.out, ← hpos.out, HF.out]), below1 _ _⟩
            · have q1 : (((s[pos + 1]'h1).toNat : Int) != 191) = true := by simp; omega
              have HF : Hid (validAt s pos = false) := by show _ = _; rw [HQ.out, if_neg (by omega)]
              clear e0 e1 HQ
              go_wp2
              go_ret
              exact ⟨ret_bool (by rw [HV.out, ← hpos.out, HF.out]), below1 _ _⟩
          · have q0 : (((s[pos]'hp).toNat : Int) != 239) = true := by simp; omega
            have HF : Hid (validAt s pos = false) := by show _ = _; rw [HQ.out, if_neg (by omega)]
            clear e0 HQ
            go_wp2
            go_ret
            exact ⟨ret_bool (by rw [HV.out, ← hpos.out, HF.out]), below1 _ _⟩
      · have HQ := Lib.hid (validAt_rune hp hd hr)
        have hr' : ((r : Int) == 65533) = false := by simp; omega
        clear hd hr
        go_wp2
        go_roundw
        case rel => exact ⟨pos + wd, by show _ = _; rw [← HQ.out, hpos.out], rfl⟩
        case measure => simp; omega
    · have hnx : ∀ ty, (Instr.next (.pointer (some ⟨w.heap.size, 0, none⟩)) true ty).run Tryz.prog (w.iter s pos) = _ := fun ty => run_next_end w s pos ty hp
      have HE := Lib.hid (validAt_end hp)
      go_wp2
      go_ret
      exact ⟨ret_bool (by rw [HV.out, ← hpos.out, HE.out]), below1 _ _⟩

set_option maxRecDepth 100000 in
theorem refFormedV_any (k : Int) (n : Nat) (s : ByteArray) (hn : n < 18446744073709551616) (hs : s.size ≤ 9223372036854775807) (w : World) :
    Calls Tryz.prog 72 #[.agg #[.int .i64 k, .int .u64 n, .string s]] w fun e w' => e = .returned (.bool (formedV ⟨k, n, s⟩)) ∧ Below w.heap.size w w' := by
  obtain ⟨W, eW, HB, c0, c1, c2⟩ := box3 w (.int .i64 k) (.int .u64 n) (.string s) 28
  rcases kind_cases k with rfl | rfl | rfl | ⟨k0, k1, k2⟩
  · have hn : n = 0 ∨ (¬ n = 0) := by omega
    rcases hn with rfl | n1 <;> rcases str_cases s with rfl | ⟨s1, s2, s3⟩
    all_goals
      try rw [show ((0 : Nat) : Int) = 0 from rfl] at eW
      go_enter Tryz.func72, Tryz.ntmps72
      go_wp2
      go_ret
      exact ⟨ret_bool (by rw [fv0]; simp [dec_no, *]), by first | exact HB | exact below_drew HB⟩
  · have hc : ((canonN n : Int) == (n : Int)) = decide (canonN n = n) := by
      by_cases h : canonN n = n
      · simp [h]
      · simp [h]; omega
    rcases str_cases s with rfl | ⟨s1, s2, s3⟩
    all_goals
      have hc' := Lib.hid hc
      clear hc
      go_enter Tryz.func72, Tryz.ntmps72
      go_wp2_with fail
      go_quiet ((go_at_call 120; exact quiet_left (refCanon_any n hn _)))
      go_wp2
      go_ret
      exact ⟨ret_bool (by rw [fv1]; rw [← hc'.out]; simp [dec_no, *]), below_drewN HB _⟩
  · have hn : n = 0 ∨ (¬ n = 0) := by omega
    by_cases hs4 : s.size ≤ 40
    · rcases hn with rfl | n1
      all_goals
        try rw [show ((0 : Nat) : Int) = 0 from rfl] at eW
        go_enter Tryz.func72, Tryz.ntmps72
        go_wp2_with (go_at_call 121; refine (valid_any s hs _).mono ?_; rintro e w1 ⟨rfl, hb⟩; replace HB := keepB HB hb)
        go_ret
        exact ⟨ret_bool (by rw [fv2]; simp [*]), by first | exact HB | exact below_drew HB⟩
    · rcases hn with rfl | n1
      all_goals
        try rw [show ((0 : Nat) : Int) = 0 from rfl] at eW
        go_enter Tryz.func72, Tryz.ntmps72
        go_wp2
        go_ret
        exact ⟨ret_bool (by rw [fv2]; simp [*]), by first | exact HB | exact below_drew HB⟩
  · go_enter Tryz.func72, Tryz.ntmps72
    go_wp2
    go_ret
    exact ⟨ret_bool (by rw [fv3 _ _ (by simpa using k0) (by simpa using k1) (by simpa using k2)]), HB⟩
end Go.Proofs.YtjgloipgnnigmaaGreatDoor
