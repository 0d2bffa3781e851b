/- Layer 4's Formed, the program's and the reference's. -/
import Derived.Test.YtjgloipgnnigmaaGreatDoorJ1
import Derived.Test.YtjgloipgnnigmaaGreatDoorShelfA
import Derived.Laws.AppendOwn
import Derived.Lib.SlicesCompact
import Derived.Test.YtjgloipgnnigmaaGreatDoorShelfB
import Derived.Sort.OwnSortedInts
import Derived.Maps.AppendAt
set_option linter.unusedVariables false
set_option linter.unusedSimpArgs false
namespace Go.Proofs.YtjgloipgnnigmaaGreatDoor
open Go.RowKit Go.Shelf

def Tabs (w : World) : Prop := Lib.Utf8Tabs 0 1 w
theorem Tabs.later {w w' : World} (h : Tabs w) (hb : Below w.heap.size w w') : Tabs w' := Utf8Tabs_below h hb

theorem str_cases (s : ByteArray) : s = { data := #[] } ∨ (s.toList.isEmpty = false ∧ (¬ s.toList = []) ∧ decide (s = noStr) = false) := by
  by_cases h : s = { data := #[] }
  · exact .inl h
  · have h0 : ¬ s.toList = [] := fun e => h ((toList_nil_iff_emptyBytes s).1 e)
    exact .inr ⟨by simpa using h0, h0, by simpa using (show ¬ s = noStr from h)⟩
theorem dec_no : decide (({ data := #[] } : ByteArray) = noStr) = true := decide_eq_true rfl
theorem fv0 (n : Nat) (s : ByteArray) : formedV ⟨0, n, s⟩ = (decide (n = 0) && decide (s = noStr)) := rfl
theorem fv1 (n : Nat) (s : ByteArray) : formedV ⟨1, n, s⟩ = (decide (s = noStr) && decide (canonN n = n)) := rfl
theorem fv2 (n : Nat) (s : ByteArray) : formedV ⟨2, n, s⟩ = (decide (n = 0) && decide (s.size ≤ 40) && Lib.validD s.data.toList) := by simp [formedV]
theorem fv3 {k : Int} (n : Nat) (s : ByteArray) (h0 : k ≠ 0) (h1 : k ≠ 1) (h2 : k ≠ 2) : formedV ⟨k, n, s⟩ = false := by simp [formedV, h0, h1, h2]
theorem kind_cases (k : Int) : k = 0 ∨ k = 1 ∨ k = 2 ∨ ((k == 0) = false ∧ (k == 1) = false ∧ (k == 2) = false) := by
  by_cases h0 : k = 0; exact .inl h0
  by_cases h1 : k = 1; exact .inr (.inl h1)
  by_cases h2 : k = 2; exact .inr (.inr (.inl h2))
  exact .inr (.inr (.inr ⟨by simpa using h0, by simpa using h1, by simpa using h2⟩))

set_option maxRecDepth 100000 in
theorem formedV_any (k : Int) (n : Nat) (s : ByteArray) (hs : s.size ≤ 9223372036854775807) (w : World) (hT : Tabs w) :
    Calls Tryz.prog 52 #[.agg #[.int .i64 k, .int .u64 n, .string s]] w fun e w' => e = .returned (.bool (formedV ⟨k, n, s⟩)) ∧ Below w.heap.size w w' := by
  obtain ⟨W, eW, HB, c0, c1, c2⟩ := box3 w (.int .i64 k) (.int .u64 n) (.string s) 28
  have hT := hT.later HB
  have hn : n = 0 ∨ (¬ n = 0) := by omega
  rcases kind_cases k with rfl | rfl | rfl | ⟨k0, k1, k2⟩
  · rcases hn with rfl | n1 <;> rcases str_cases s with rfl | ⟨s1, s2, s3⟩
    all_goals
      try rw [show ((0 : Nat) : Int) = 0 from rfl] at eW
      go_enter Tryz.func52, Tryz.ntmps52
      go_wp2
      go_ret
      exact ⟨ret_bool (by rw [fv0]; simp [dec_no, *]), by first | exact HB | exact below_drew HB⟩
  · have hc : ((canonN n : Int) == (n : Int)) = decide (canonN n = n) := by
      by_cases h : canonN n = n
      · simp [h]
      · simp [h]; omega
    rcases str_cases s with rfl | ⟨s1, s2, s3⟩
    all_goals
      have hc' := Lib.hid hc
      clear hc
      go_enter Tryz.func52, Tryz.ntmps52
      go_wp2_with fail
      go_quiet ((go_at_call 106; exact quiet_left (canon_any n _)))
      go_wp2
      go_ret
      exact ⟨ret_bool (by rw [fv1]; rw [← hc'.out]; simp [dec_no, *]), below_drewN HB _⟩
  · by_cases hs4 : s.size ≤ 40
    · rcases hn with rfl | n1
      all_goals
        try rw [show ((0 : Nat) : Int) = 0 from rfl] at eW
        go_enter Tryz.func52, Tryz.ntmps52
        go_wp2_with (go_at_call 107; refine (Tryz.utf8_ValidString s _ hs hT).mono ?_; rintro e w1 ⟨rfl, hb⟩; replace HB := keepB HB hb)
        go_ret
        exact ⟨ret_bool (by rw [fv2]; simp [*]), by first | exact HB | exact below_drew HB⟩
    · rcases hn with rfl | n1
      all_goals
        try rw [show ((0 : Nat) : Int) = 0 from rfl] at eW
        go_enter Tryz.func52, Tryz.ntmps52
        go_wp2
        go_ret
        exact ⟨ret_bool (by rw [fv2]; simp [*]), by first | exact HB | exact below_drew HB⟩
  · go_enter Tryz.func52, Tryz.ntmps52
    go_wp2
    go_ret
    exact ⟨ret_bool (by rw [fv3 _ _ (by simpa using k0) (by simpa using k1) (by simpa using k2)]), HB⟩

/-- U+FFFD of one byte is an error; of three it is written so. -/
theorem fffd (n b0 b1 b2 b3 : Nat) (h : (Lib.decodeN n b0 b1 b2 b3).1 = 65533) :
    (Lib.decodeN n b0 b1 b2 b3).2 = if 3 ≤ n ∧ b0 = 239 ∧ b1 = 191 ∧ b2 = 189 then 3 else 1 := by
  unfold Lib.decodeN at h ⊢
  split at h
  · omega
  · rename_i q0
    rw [if_neg q0]
    split at h
    · rename_i q1
      rw [if_pos q1]
      split at h
      · omega
      · rename_i q2
        rw [if_neg q2, if_neg (by omega)]
    · rename_i q1
      rw [if_neg q1]
      split at h
      · rename_i q2
        rw [if_pos q2]
        split at h
        · rename_i q3
          rw [if_pos q3, if_pos (by simp only at h; omega)]
        · rename_i q3
          rw [if_neg q3, if_neg (by omega)]
      · rename_i q2
        rw [if_neg q2]
        split at h
        · rename_i q3
          rw [if_pos q3]
          split at h
          · rename_i q4
            simp only at h
            omega
          · rename_i q4
            rw [if_neg q4, if_neg (by omega)]
        · rename_i q3
          rw [if_neg q3, if_neg (by omega)]
theorem get_at (s : ByteArray) (i : Nat) (h : i < s.size) : s.get! i = s[i]'h := by
  cases s with
  | mk d => exact getElem!_pos d i h
def validAt (s : ByteArray) (pos : Nat) : Bool := Lib.validD (s.data.toList.drop pos)
theorem validAt_end {s : ByteArray} {pos : Nat} (h : ¬ pos < s.size) : validAt s pos = true := by
  have h' : s.data.size ≤ pos := by have : s.data.size = s.size := rfl; omega
  have : s.data.toList.drop pos = [] := List.drop_eq_nil_of_le (by simpa using h')
  unfold validAt
  rw [this]
  exact Lib.validD_nil
theorem validAt_step {s : ByteArray} {pos : Nat} (h : pos < s.size) : validAt s pos = if (Utf8.decode s pos).1 = 65533 ∧ (Utf8.decode s pos).2 = 1 then false else validAt s (pos + (Utf8.decode s pos).2) := by
  have hne : s.data.toList.drop pos ≠ [] := by
    intro h0
    have := congrArg List.length h0
    have hz : s.data.size = s.size := rfl
    simp at this
    omega
  unfold validAt
  rw [Lib.validD_step _ hne, Lib.decodeL_drop, List.drop_drop]
theorem validAt_rune {s : ByteArray} {pos r wd : Nat} (h : pos < s.size) (hd : Utf8.decode s pos = (r, wd)) (hr : r ≠ 65533) : validAt s pos = validAt s (pos + wd) := by
  rw [validAt_step h, hd, if_neg (by simp; omega)]
theorem validAt_short {s : ByteArray} {pos wd : Nat} (h : pos < s.size) (hd : Utf8.decode s pos = (65533, wd)) (hr : s.size - pos < 3) : validAt s pos = false := by
  have hw := fffd (s.size - pos) _ _ _ _ (by rw [← Lib.decode_at, hd])
  rw [← Lib.decode_at, hd, if_neg (by omega)] at hw
  rw [validAt_step h, hd, if_pos ⟨rfl, hw⟩]
theorem validAt_bytes {s : ByteArray} {pos wd : Nat} (h : pos < s.size) (h1 : pos + 1 < s.size) (h2 : pos + 2 < s.size) (hd : Utf8.decode s pos = (65533, wd)) :
    validAt s pos = if (s[pos]'h).toNat = 239 ∧ (s[pos + 1]'h1).toNat = 191 ∧ (s[pos + 2]'h2).toNat = 189 then validAt s (pos + wd) else false := by
  have hw := fffd (s.size - pos) _ _ _ _ (by rw [← Lib.decode_at, hd])
  rw [← Lib.decode_at, hd, get_at _ _ h, get_at _ _ h1, get_at _ _ h2] at hw
  simp only at hw
  rw [validAt_step h, hd]
  by_cases hc : (s[pos]'h).toNat = 239 ∧ (s[pos + 1]'h1).toNat = 191 ∧ (s[pos + 2]'h2).toNat = 189
  · rw [if_pos ⟨by omega, hc⟩] at hw
    rw [if_pos hc, if_neg (by simp; omega)]
  · rw [if_neg (fun x => hc x.2)] at hw
    rw [if_neg hc, if_pos ⟨rfl, hw⟩]

set_option maxRecDepth 100000 in
theorem valid_any (s : ByteArray) (hs : s.size ≤ 9223372036854775807) (w : World) : Calls Tryz.prog 121 #[.string s] w fun e w' => e = .returned (.bool (Lib.validD s.data.toList)) ∧ Below w.heap.size w w' := by
  have HV : Hid (Lib.validD s.data.toList = validAt s 0) := rfl
  go_enter Tryz.func121, Tryz.ntmps121
  go_wp2_with fail
  go_loopw [] (fun wr => ∃ pos : Nat, Hid (validAt s pos = validAt s 0) ∧ wr = w.iter s pos) (fun wr => s.size - wr.iterPos w.heap.size)
  case atStart => exact ⟨0, rfl, rfl⟩
  case round =>
    obtain ⟨pos, hpos, rfl⟩ := hrel
    by_cases hp : pos < s.size
    · have hwd := Lib.width_pos s pos
      have hnx : ∀ ty, (Instr.next (.pointer (some ⟨w.heap.size, 0, none⟩)) true ty).run Tryz.prog (w.iter s pos) = _ := fun ty => run_next_any w s pos ty hp
      obtain ⟨⟨r, wd⟩, hd⟩ : ∃ x, Utf8.decode s pos = x := ⟨_, rfl⟩
      simp only [hd] at hnx hwd
      by_cases hr : r = 65533
      · subst hr
        by_cases h3 : s.size - pos < 3
        · have HQ := Lib.hid (validAt_short hp hd h3)
          have h3' : (s.size : Int) - pos < 3 := by omega
          clear hd
          go_wp2
          go_ret
          exact ⟨ret_bool (by rw [HV.out, ← hpos.out, HQ.out]), below1 _ _⟩
        · have h1 : pos + 1 < s.size := by omega
          have h2 : pos + 2 < s.size := by omega
          have HQ := Lib.hid (validAt_bytes hp h1 h2 hd)
          have h3' : ¬ ((s.size : Int) - pos < 3) := by omega
          clear hd h3
          by_cases e0 : (s[pos]'hp).toNat = 239
          · have q0 : (((s[pos]'hp).toNat : Int) != 239) = false := by rw [e0]; rfl
            by_cases e1 : (s[pos + 1]'h1).toNat = 191
            · have q1 : (((s[pos + 1]'h1).toNat : Int) != 191) = false := by rw [e1]; rfl
              by_cases e2 : (s[pos + 2]'h2).toNat = 189
              · have q2 : (((s[pos + 2]'h2).toNat : Int) != 189) = false := by rw [e2]; rfl
                have HF : Hid (validAt s pos = validAt s (pos + wd)) := by show _ = _; rw [HQ.out, if_pos ⟨e0, e1, e2⟩]
                clear e0 e1 e2 HQ
                go_wp2
                go_roundw
                case rel => exact ⟨pos + wd, by show _ = _; rw [← HF.out, hpos.out], rfl⟩
                case measure => simp; omega
              · have q2 : (((s[pos + 2]'h2).toNat : Int) != 189) = true := by simp; omega
                have HF : Hid (validAt s pos = false) := by show _ = _; rw [HQ.out, if_neg (by omega)]
                clear e0 e1 e2 HQ
                go_wp2
                go_ret
                exact ⟨ret_bool (by rw [HV.out, ← hpos.out, HF.out]), below1 _ _⟩
            · have q1 : (((s[pos + 1]'h1).toNat : Int) != 191) = true := by simp; omega
              have HF : Hid (validAt s pos = false) := by show _ = _; rw [HQ.out, if_neg (by omega)]
              clear e0 e1 HQ
              go_wp2
              go_ret
              exact ⟨ret_bool (by rw [HV.out, ← hpos.out, HF.out]), below1 _ _⟩
          · have q0 : (((s[pos]'hp).toNat : Int) != 239) = true := by simp; omega
            have HF : Hid (validAt s pos = false) := by show _ = _; rw [HQ.out, if_neg (by omega)]
            clear e0 HQ
            go_wp2
            go_ret
            exact ⟨ret_bool (by rw [HV.out, ← hpos.out, HF.out]), below1 _ _⟩
      · have HQ := Lib.hid (validAt_rune hp hd hr)
        have hr' : ((r : Int) == 65533) = false := by simp; omega
        clear hd hr
        go_wp2
        go_roundw
        case rel => exact ⟨pos + wd, by show _ = _; rw [← HQ.out, hpos.out], rfl⟩
        case measure => simp; omega
    · have hnx : ∀ ty, (Instr.next (.pointer (some ⟨w.heap.size, 0, none⟩)) true ty).run Tryz.prog (w.iter s pos) = _ := fun ty => run_next_end w s pos ty hp
      have HE := Lib.hid (validAt_end hp)
      go_wp2
      go_ret
      exact ⟨ret_bool (by rw [HV.out, ← hpos.out, HE.out]), below1 _ _⟩

set_option maxRecDepth 100000 in
theorem refFormedV_any (k : Int) (n : Nat) (s : ByteArray) (hn : n < 18446744073709551616) (hs : s.size ≤ 9223372036854775807) (w : World) :
    Calls Tryz.prog 72 #[.agg #[.int .i64 k, .int .u64 n, .string s]] w fun e w' => e = .returned (.bool (formedV ⟨k, n, s⟩)) ∧ Below w.heap.size w w' := by
  obtain ⟨W, eW, HB, c0, c1, c2⟩ := box3 w (.int .i64 k) (.int .u64 n) (.string s) 28
  rcases kind_cases k with rfl | rfl | rfl | ⟨k0, k1, k2⟩
  · have hn : n = 0 ∨ (¬ n = 0) := by omega
    rcases hn with rfl | n1 <;> rcases str_cases s with rfl | ⟨s1, s2, s3⟩
    all_goals
      try rw [show ((0 : Nat) : Int) = 0 from rfl] at eW
      go_enter Tryz.func72, Tryz.ntmps72
      go_wp2
      go_ret
      exact ⟨ret_bool (by rw [fv0]; simp [dec_no, *]), by first | exact HB | exact below_drew HB⟩
  · have hc : ((canonN n : Int) == (n : Int)) = decide (canonN n = n) := by
      by_cases h : canonN n = n
      · simp [h]
      · simp [h]; omega
    rcases str_cases s with rfl | ⟨s1, s2, s3⟩
    all_goals
      have hc' := Lib.hid hc
      clear hc
      go_enter Tryz.func72, Tryz.ntmps72
      go_wp2_with fail
      go_quiet ((go_at_call 120; exact quiet_left (refCanon_any n hn _)))
      go_wp2
      go_ret
      exact ⟨ret_bool (by rw [fv1]; rw [← hc'.out]; simp [dec_no, *]), below_drewN HB _⟩
  · have hn : n = 0 ∨ (¬ n = 0) := by omega
    by_cases hs4 : s.size ≤ 40
    · rcases hn with rfl | n1
      all_goals
        try rw [show ((0 : Nat) : Int) = 0 from rfl] at eW
        go_enter Tryz.func72, Tryz.ntmps72
        go_wp2_with (go_at_call 121; refine (valid_any s hs _).mono ?_; rintro e w1 ⟨rfl, hb⟩; replace HB := keepB HB hb)
        go_ret
        exact ⟨ret_bool (by rw [fv2]; simp [*]), by first | exact HB | exact below_drew HB⟩
    · rcases hn with rfl | n1
      all_goals
        try rw [show ((0 : Nat) : Int) = 0 from rfl] at eW
        go_enter Tryz.func72, Tryz.ntmps72
        go_wp2
        go_ret
        exact ⟨ret_bool (by rw [fv2]; simp [*]), by first | exact HB | exact below_drew HB⟩
  · go_enter Tryz.func72, Tryz.ntmps72
    go_wp2
    go_ret
    exact ⟨ret_bool (by rw [fv3 _ _ (by simpa using k0) (by simpa using k1) (by simpa using k2)]), HB⟩
end Go.Proofs.YtjgloipgnnigmaaGreatDoor
/- Slices that a call owns: they stay in later worlds, and read as lists. Plain lists: what slices.Sort and slices.Compact make of a list of ints. -/
namespace Go.Proofs.YtjgloipgnnigmaaGreatDoor
open Go.RowKit

theorem own_keep {w w1 : World} {base n size : Nat} {e : TypeId} {v : Value} {xs : List Value} (h : w.ownsRow base e size v n xs) (hb : Below w.heap.size w w1) : w1.ownsRow base e size v n xs := by
  refine ⟨h.1, ?_⟩
  rcases h.2 with h2 | ⟨g, cap, cur, hv, hg, hh, r⟩
  · exact .inl h2
  · exact .inr ⟨g, cap, cur, hv, hg, by rw [hb.block g (Array.getElem?_eq_some_iff.1 hh).1]; exact hh, r⟩
theorem own_nil (w : World) (base size : Nat) (e : TypeId) : w.ownsRow base e size (.slice none 0 0) 0 [] := ⟨by simp, .inl ⟨rfl, rfl⟩⟩

theorem own_ge {w : World} {base n size : Nat} {e : TypeId} {v : Value} {xs : List Value} (h : w.ownsRow base e size v n xs) : ∀ k, v.ownBlock = some k → base ≤ k := by
  rcases h.2 with ⟨rfl, _⟩ | ⟨g, cap, cur, rfl, hg, _⟩
  · intro k hk; cases hk
  · intro k hk; simp [Value.ownBlock] at hk; omega
/-- Behind an append (or a sort) of what is owned: all below the base is as it was. -/
theorem own_below {a w w' : World} {base n size : Nat} {e : TypeId} {v : Value} {xs : List Value} (h : Below base a w) (hB : base ≤ a.heap.size) (ho : w.ownsRow base e size v n xs) (hg : w.grownBy w' v.ownBlock) : Below base a w' :=
  h.grown hg (Nat.le_trans hB h.size) (own_ge ho)
theorem calls_int {P : Program} {f : FuncId} {args : Array Value} {w : World} {z x : Int} (e : z = x)
    (h : Calls P f args w fun e w' => e = .returned (.int .i64 z) ∧ Below w.heap.size w w') :
    Calls P f args w fun e w' => e = .returned (.int .i64 x) ∧ Below w.heap.size w w' := by
  rw [e] at h; exact h
theorem one_cell_int {k : IntKind} {x : Int} : ∀ u ∈ [Value.int k x], u.oneCell' = true := fun u hu => by
  cases List.mem_singleton.1 hu; rfl
theorem one_cell_str {x : ByteArray} : ∀ u ∈ [Value.string x], u.oneCell' = true := fun u hu => by
  cases List.mem_singleton.1 hu; rfl
theorem le_maxLen {n : Nat} (h : n ≤ 1000000) : n ≤ maxLen := by unfold maxLen; omega
/-- A list of ints handed back, in memory of the call's own. -/
def IntsPost (w : World) (l : List Int) (e : Ending) (w' : World) : Prop :=
  ∃ (A : Option Addr) (cap : Nat), e = .returned (.slice A l.length cap) ∧ IntsAt w' A l ∧ Below w.heap.size w w'

/-- What is owned, as cells: one cell an element. -/
theorem own_cells {w : World} {base n : Nat} {e : TypeId} {v : Value} {f : Nat → Value} (h : w.ownsRow base e 1 v n ((List.range n).map f)) :
    ∃ (A : Option Addr) (cap : Nat), v = .slice A n cap ∧ n ≤ cap ∧ CellsAt w A n f := by
  rcases h.2 with ⟨rfl, rfl⟩ | ⟨g, cap, cur, rfl, _, hh, hn, _, _, ht⟩
  · exact ⟨none, 0, rfl, by omega, fun i hi => by omega⟩
  · refine ⟨some ⟨g, 0, none⟩, cap, rfl, hn, fun i hi => ⟨g, 0, rfl, ?_⟩⟩
    have h1 : (cur.toList.take (n * 1))[i]? = ((List.range n).map f)[i]? := by rw [ht]
    rw [List.getElem?_take_of_lt (by omega)] at h1
    simp only [World.cell?, hh, Nat.zero_add, Option.isSome_none, Bool.false_eq_true, if_false]
    rw [← Array.getElem?_toList, h1]
    simp [hi]
theorem map_range_getD {α : Type} (l : List α) (d : α) (g : α → Value) : l.map g = (List.range l.length).map fun i => g (l.getD i d) := by
  apply List.ext_getElem
  · simp
  · intro i h1 h2
    have hi : i < l.length := by simpa using h1
    simp [List.getD_eq_getElem?_getD, hi]
theorem own_ints {w : World} {base : Nat} {e : TypeId} {v : Value} {l : List Int} (h : w.ownsRow base e 1 v l.length (l.map (Value.int .i64))) :
    ∃ (A : Option Addr) (cap : Nat), v = .slice A l.length cap ∧ l.length ≤ cap ∧ IntsAt w A l := by
  rw [map_range_getD l 0] at h
  exact own_cells h
theorem own_strs {w : World} {base : Nat} {e : TypeId} {v : Value} {l : List ByteArray} (h : w.ownsRow base e 1 v l.length (l.map Value.string)) :
    ∃ (A : Option Addr) (cap : Nat), v = .slice A l.length cap ∧ l.length ≤ cap ∧ StrsAt w A l := by
  rw [map_range_getD l noStr] at h
  exact own_cells h

section
variable {P : Program} {w : World}
theorem append_nil_run (w : World) (base : Nat) (t ty e : TypeId) (i : TypeInfo) (size : Nat) (ht : P.underlying t = some (.slice e)) (hi : P.info? e = some i)
    (v : Value) (n : Nat) (xs : List Value) (hown : w.ownsRow base e size v n xs) (c : Nat) : (Builtin.append_ #[t, t] ty #[v, .slice none 0 c]).run P w = .ok v w := by
  rcases hown.2 with ⟨rfl, rfl⟩ | ⟨g, cap, cur, rfl, _, _, hnc, _⟩
  · simp [Builtin.append_, run_underlying ht, sizeOf, typeInfo, hi, Builtin.lenOf, Builtin.firstCells]
  · simp [Builtin.append_, run_underlying ht, sizeOf, typeInfo, hi, Builtin.lenOf, Builtin.firstCells, hnc, storeCells]
/-- append(v, keys...) where v is owned and keys are a slice of strings, nil let in. -/
theorem wpList_append_strs {ops : Array Oper} {rest : List Oper} {o : Oper} {a : Act} {Q : Exit → Act → World → Prop} (hgd : o.guard = none) (s x : Operand) (t : TypeId)
    (ho : o.op = .call { callee := .builtin .append, args := #[s, x], argTypes := #[t, t] })
    (base : Nat) (e : TypeId) (i : TypeInfo) (z : Value) (bytes : Nat) (ht : P.underlying t = some (.slice e)) (hi : P.info? e = some i) (hz : i.zero = some z)
    (hsize : i.size = 1) (hby : i.bytes = bytes) (hzs : z.cells.size = 1)
    (v : Value) (n : Nat) (xs : List Value) (hs : a.eval s = v) (hown : w.ownsRow base e 1 v n xs)
    (K : Option Addr) (keys : List ByteArray) (c : Nat) (hx : a.eval x = .slice K keys.length c) (hK : StrsAt w K keys)
    (h63 : n + keys.length ≤ maxLen) (hbytes : (n + keys.length) * bytes ≤ 140737488355328) (hbase : base ≤ w.heap.size)
    (h : ∀ v' w', w'.ownsRow base e 1 v' (n + keys.length) (xs ++ keys.map Value.string) → w.grownBy w' v.ownBlock → wpList P ops Q rest (a.put o.dst v') w') : wpList P ops Q (o :: rest) a w := by
  by_cases h0 : 0 < keys.length
  · obtain ⟨b, off, rfl, _⟩ := hK 0 h0
    refine wpList_append_own w hgd s x t ho base e i z 1 bytes ht hi hz hsize hby hzs (by decide) v n xs hs hown ⟨b, off, none⟩ keys.length c (keys.map Value.string) hx (by simp) (fun j u hu => ?_) (fun u hu => ?_) h63 hbytes hbase (fun v' w' h1 h2 _ => h v' w' h1 h2)
    · have hj : j < keys.length := by
        rcases Nat.lt_or_ge j keys.length with q | q
        · exact q
        · rw [List.getElem?_eq_none (by simpa using q)] at hu; cases hu
      obtain ⟨b', off', e', hc⟩ := hK j hj
      cases e'
      rw [Go.WideShapes.add_plain, hc, ← hu]
      simp [List.getD_eq_getElem?_getD, hj]
    · obtain ⟨s', _, rfl⟩ := List.mem_map.1 hu
      rfl
  · have hk : keys = [] := List.eq_nil_of_length_eq_zero (by omega)
    subst hk
    cases K with
    | some ad =>
      exact wpList_append_own w hgd s x t ho base e i z 1 bytes ht hi hz hsize hby hzs (by decide) v n xs hs hown ad 0 c [] hx (by simp) (fun j u hu => by simp at hu) (fun u hu => by simp at hu) h63 hbytes hbase (fun v' w' h1 h2 _ => h v' w' h1 h2)
    | none =>
      refine wpList_plain hgd fun _ hK' => ?_
      have hrun := append_nil_run w base t o.type e i 1 ht hi v n xs hown c
      unfold Oper.wp execOp
      have hx' : a.eval x = .slice none 0 c := hx
      simp only [ho, resolve, invoke, builtin, Sem.run_bind, Sem.run_pure, Result.andThen_ok, List.map_toArray, List.map_cons, List.map_nil, hs, hx', hrun]
      exact hK' _ _ (h v w (by simpa using hown) (World.grownBy.refl w _))
end

/-! ### Plain lists -/
/-- Two rising lists with the same members are one. -/
theorem rising_ext : ∀ {l m : List Int}, l.Pairwise (· < ·) → m.Pairwise (· < ·) → (∀ x, x ∈ l ↔ x ∈ m) → l = m
  | [], [], _, _, _ => rfl
  | [], b :: m, _, _, h => by simpa using (h b).2 (by simp)
  | a :: l, [], _, _, h => by simpa using (h a).1 (by simp)
  | a :: l, b :: m, hl, hm, h => by
    rw [List.pairwise_cons] at hl hm
    have hab : a = b := by
      have h1 := (h a).1 (by simp)
      have h2 := (h b).2 (by simp)
      simp only [List.mem_cons] at h1 h2
      rcases h1 with rfl | h1
      · rfl
      · rcases h2 with rfl | h2
        · rfl
        · have := hm.1 a h1; have := hl.1 b h2; omega
    subst hab
    congr 1
    refine rising_ext hl.2 hm.2 (fun x => ?_)
    constructor
    · intro hx
      have := (h x).1 (by simp [hx])
      simp only [List.mem_cons] at this
      rcases this with rfl | this
      · exact absurd (hl.1 x hx) (by omega)
      · exact this
    · intro hx
      have := (h x).2 (by simp [hx])
      simp only [List.mem_cons] at this
      rcases this with rfl | this
      · exact absurd (hm.1 x hx) (by omega)
      · exact this

theorem compact_spec (d : Array Int) (hs : ∀ i j, i < j → j < d.size → d[i]! ≤ d[j]!) : ∀ m, m ≤ d.size →
    (Lib.compactUpTo d m).Pairwise (· < ·) ∧ ∀ x, x ∈ Lib.compactUpTo d m ↔ ∃ j, j < m ∧ d[j]! = x
  | 0, _ => by simp [Lib.compactUpTo]
  | m + 1, hm => by
    obtain ⟨h1, h2⟩ := compact_spec d hs m (by omega)
    rw [Lib.compactUpTo_succ]
    cases hk : Lib.keeps d m
    · have hne : m ≠ 0 ∧ d[m]! = d[m - 1]! := by
        have := hk
        simp only [Lib.keeps, decide_eq_false_iff_not, not_or, ne_eq, Decidable.not_not] at this
        exact this
      simp only [Bool.false_eq_true, if_false, List.append_nil]
      refine ⟨h1, fun x => ?_⟩
      rw [h2]
      constructor
      · rintro ⟨j, hj, e⟩; exact ⟨j, by omega, e⟩
      · rintro ⟨j, hj, e⟩
        by_cases ej : j = m
        · subst ej; exact ⟨j - 1, by omega, by rw [← hne.2]; exact e⟩
        · exact ⟨j, by omega, e⟩
    · simp only [if_true]
      refine ⟨?_, fun x => ?_⟩
      · rw [List.pairwise_append]
        refine ⟨h1, by simp, fun a ha b hb => ?_⟩
        simp only [List.mem_singleton] at hb
        subst hb
        obtain ⟨j, hj, rfl⟩ := (h2 a).1 ha
        have hle := hs j m hj (by omega)
        have hne : m = 0 ∨ d[m]! ≠ d[m - 1]! := by simpa [Lib.keeps] using hk
        rcases hne with e | hne
        · omega
        · by_cases ej : j = m - 1
          · subst ej; omega
          · have q1 := hs j (m - 1) (by omega) (by omega)
            have q2 := hs (m - 1) m (by omega) (by omega)
            omega
      · rw [List.mem_append, h2]
        simp only [List.mem_singleton]
        constructor
        · rintro (⟨j, hj, e⟩ | e)
          · exact ⟨j, by omega, e⟩
          · exact ⟨m, by omega, e.symm⟩
        · rintro ⟨j, hj, e⟩
          by_cases ej : j = m
          · subst ej; exact .inr e.symm
          · exact .inl ⟨j, by omega, e⟩
/-- What Sort and then Compact make of a list: the rising list of its members. -/
theorem sort_compact (l r : List Int) (hr : r.Pairwise (· < ·)) (hm : ∀ x, x ∈ l ↔ x ∈ r) : Lib.compact (l.mergeSort fun x y => decide (x ≤ y)) = r := by
  have hp := List.mergeSort_perm l (fun x y => decide (x ≤ y))
  have hsrt : (l.mergeSort fun x y => decide (x ≤ y)).Pairwise fun x y => decide (x ≤ y) = true :=
    List.pairwise_mergeSort (fun a b c h1 h2 => by simp only [decide_eq_true_eq] at *; omega) (fun a b => by simp only [Bool.or_eq_true, decide_eq_true_eq]; omega) l
  generalize l.mergeSort (fun x y => decide (x ≤ y)) = s at *
  have hs : ∀ i j, i < j → j < s.toArray.size → s.toArray[i]! ≤ s.toArray[j]! := by
    intro i j hij hj
    have hj' : j < s.length := by simpa using hj
    have := List.pairwise_iff_getElem.1 hsrt i j (by omega) hj' hij
    simp only [decide_eq_true_eq] at this
    rw [getElem!_pos s.toArray i (by simp; omega), getElem!_pos s.toArray j (by simp; omega)]
    simpa using this
  obtain ⟨h1, h2⟩ := compact_spec s.toArray hs s.length (by simp)
  refine rising_ext h1 hr (fun x => ?_)
  rw [show Lib.compact s = Lib.compactUpTo s.toArray s.length from rfl, h2, ← hm, ← hp.mem_iff, List.mem_iff_getElem]
  constructor
  · rintro ⟨j, hj, e⟩
    rw [getElem!_pos s.toArray j (by simp; omega)] at e
    exact ⟨j, hj, by simpa using e⟩
  · rintro ⟨j, hj, e⟩
    refine ⟨j, hj, ?_⟩
    rw [getElem!_pos s.toArray j (by simp; omega)]
    simpa using e
end Go.Proofs.YtjgloipgnnigmaaGreatDoor
/- Layer 8's keys: all keys of a transaction, in one list. -/
namespace Go.Proofs.YtjgloipgnnigmaaGreatDoor
open Go.RowKit Go.Shelf

theorem info_str8 : (Tryz.prog.info? 9).map (fun i => (i.zero, i.size, i.bytes)) = some (some (.string ByteArray.empty), 1, 16) := by kernel_rfl

def rKeys (t : Tx) : List ByteArray := t.rds.map (·.key)
def wKeys (t : Tx) : List ByteArray := t.wrs.map (·.key)
def StrsPost (w : World) (l : List ByteArray) (e : Ending) (w' : World) : Prop :=
  ∃ (A : Option Addr) (cap : Nat), e = .returned (.slice A l.length cap) ∧ l.length ≤ cap ∧ StrsAt w' A l ∧ Below w.heap.size w w'

theorem take_keyR {l : List Rd} {k : Nat} {s : ByteArray} {n : Nat} (hk : k < l.length) (h : l.getD k noRd = ⟨s, n⟩) : (l.take (k + 1)).map (·.key) = (l.take k).map (·.key) ++ [s] := by
  rw [List.take_succ_eq_append_getElem hk, List.map_append]
  rw [List.getD_eq_getElem?_getD, List.getElem?_eq_getElem hk] at h
  simp only [Option.getD_some] at h
  simp [h]
theorem take_keyW {l : List Wr} {k : Nat} {s : ByteArray} {v : Val} (hk : k < l.length) (h : l.getD k noWr = ⟨s, v⟩) : (l.take (k + 1)).map (·.key) = (l.take k).map (·.key) ++ [s] := by
  rw [List.take_succ_eq_append_getElem hk, List.map_append]
  rw [List.getD_eq_getElem?_getD, List.getElem?_eq_getElem hk] at h
  simp only [Option.getD_some] at h
  simp [h]
theorem cell_one_new2 (w : World) (o : Obj) (v : Value) (t : TypeId) : ∀ (j : Nat) (u : Value), [v][j]? = some u → ((w.alloc o).alloc (.cells #[v] t)).cell? ((⟨w.heap.size + 1, 0, none⟩ : Addr).add j) = some u := by
  intro j u hu
  cases j with
  | zero => simp at hu; subst hu; simp [Addr.add]
  | succ j => simp at hu

set_option maxRecDepth 100000 in
set_option maxHeartbeats 2000000 in
theorem keys_any (t : Tx) (A B : Option Addr) (ca cb : Nat) (w : World) (h : TxAt w t A B) (hn : t.rds.length ≤ 6) (hm : t.wrs.length ≤ 6) :
    Calls Tryz.prog 136 #[txV t A B ca cb] w (StrsPost w (rKeys t ++ wKeys t)) := by
  unfold txV
  obtain ⟨W, eW, HB, c0, c1, c2, c3⟩ := box4 w (.int .i64 t.ses) (.int .i64 t.seq) (.slice A t.rds.length ca) (.slice B t.wrs.length cb) 37
  have h := h.later HB
  obtain ⟨i0, hi, hz0, hz1, hz2⟩ := info_parts info_str8
  go_enter Tryz.func136, Tryz.ntmps136
  go_wp2_with fail
  clear eW

  go_loopw [3, 11] (fun v i wr => ∃ k : Nat, k ≤ t.rds.length ∧ i = .int .i64 k ∧ Hid (wr.ownsRow W.heap.size 9 1 v k (((t.rds.take k).map (·.key)).map Value.string)) ∧ Below W.heap.size W wr) (fun _ i _ => t.rds.length - (intOf i).toNat)
  case atStart => exact ⟨0, Nat.zero_le _, rfl, own_nil _ _ _ _, Below.refl _ _⟩
  case round =>
    obtain ⟨k, hk, rfl, HO, hw⟩ := hrel
    have hr := h.later hw
    replace c0 := keep hw c0
    replace c2 := keep hw c2
    replace c3 := keep hw c3
    by_cases hlt : k < t.rds.length
    · obtain ⟨b, off, s, n, rfl, d0, d1, HX⟩ := hr.rds.at' hlt
      have HT := Lib.hid (take_keyR hlt HX.out)
      go_wp2_with (at_builtin; refine wpList_append_own _ rfl _ _ 23 rfl W.heap.size 9 i0 (.string noStr) 1 16 Tryz.underlying23 hi hz0 hz1 hz2 rfl (by decide) _ _ _ rfl (own_keep HO.out (below2 _ _ _)) ⟨wr.heap.size + 1, 0, none⟩ 1 1 [.string s] rfl rfl (cell_one_new2 _ _ _ _) one_cell_str (le_maxLen (by omega)) (by omega) (Nat.le_trans hw.size (below2 _ _ _).size) ?_; intro v3 w3 HO3 hg3 _; replace hw := own_below (keepB hw (below2 _ _ _)) (Nat.le_refl _) (own_keep HO.out (below2 _ _ _)) hg3; replace HO3 := Lib.hid HO3; clear hg3)
      go_roundw
      case rel => exact ⟨k + 1, by omega, by go_num, by show World.ownsRow _ _ _ _ _ _ _; rw [HT.out, List.map_append]; exact HO3.out, hw⟩
      case measure => simp [intOf]; omega
    · have ek : k = t.rds.length := by omega
      have HO1 : Hid (wr.ownsRow W.heap.size 9 1 u3 (rKeys t).length ((rKeys t ++ (t.wrs.take 0).map (·.key)).map Value.string)) := by
        show World.ownsRow _ _ _ _ _ _ _
        have := HO.out
        rw [ek, List.take_length] at this
        rw [rKeys, List.length_map, List.take_zero, List.map_nil, List.append_nil]
        exact this
      have hKL : (rKeys t).length ≤ 6 := by rw [rKeys, List.length_map]; exact hn
      have HR : Hid (rKeys t ++ wKeys t = rKeys t ++ (t.wrs.take t.wrs.length).map (·.key)) := by show _ = _; rw [List.take_length]; rfl
      have HN : Hid ((rKeys t ++ wKeys t).length = (rKeys t).length + t.wrs.length) := by show _ = _; rw [List.length_append]; simp [wKeys]
      clear HO hr
      generalize rKeys t = L at *
      go_wp2_with fail
      clear ek hlt hk
      obtain ⟨wb, rfl⟩ : ∃ wb : World, wb = wr := ⟨_, rfl⟩
      go_loopw [3, 24] (fun v i wr => ∃ j : Nat, j ≤ t.wrs.length ∧ i = .int .i64 j ∧ Hid (wr.ownsRow W.heap.size 9 1 v (L.length + j) ((L ++ (t.wrs.take j).map (·.key)).map Value.string)) ∧ Below W.heap.size W wr) (fun _ i _ => t.wrs.length - (intOf i).toNat)
      case atStart => exact ⟨0, Nat.zero_le _, rfl, HO1, hw⟩
      case round =>
        obtain ⟨j, hj, rfl, HO, hw2⟩ := hrel
        clear HO1 hw
        have hr := h.later hw2
        by_cases hlj : j < t.wrs.length
        · obtain ⟨b, off, s, z, n, x, rfl, d0, d1, d2, d3, HX⟩ := hr.wrs.at' hlj
          have HT := Lib.hid (take_keyW hlj HX.out)
          go_wp2_with (at_builtin; refine wpList_append_own _ rfl _ _ 23 rfl W.heap.size 9 i0 (.string noStr) 1 16 Tryz.underlying23 hi hz0 hz1 hz2 rfl (by decide) _ _ _ rfl (own_keep HO.out (below2 _ _ _)) ⟨wr.heap.size + 1, 0, none⟩ 1 1 [.string s] rfl rfl (cell_one_new2 _ _ _ _) one_cell_str (le_maxLen (by omega)) (by omega) (Nat.le_trans hw2.size (below2 _ _ _).size) ?_; intro v3 w3 HO3 hg3 _; replace hw2 := own_below (keepB hw2 (below2 _ _ _)) (Nat.le_refl _) (own_keep HO.out (below2 _ _ _)) hg3; replace HO3 := Lib.hid HO3; clear hg3)
          go_roundw
          case rel => exact ⟨j + 1, by omega, by go_num, by show World.ownsRow _ _ _ _ _ _ _; rw [HT.out, ← List.append_assoc, List.map_append]; exact HO3.out, hw2⟩
          case measure => simp [intOf]; omega
        · have ej : j = t.wrs.length := by omega
          go_wp2
          go_ret
          have := HO.out
          rw [ej, ← HR.out, ← HN.out] at this
          obtain ⟨A', cap', rfl, hc, hI⟩ := own_strs this
          exact ⟨A', cap', rfl, hc, hI, keepB HB hw2⟩
end Go.Proofs.YtjgloipgnnigmaaGreatDoor
/- Layer 8's rises, Id and Less; whether a write's value is formed. -/
namespace Go.Proofs.YtjgloipgnnigmaaGreatDoor
open Go.RowKit Go.Shelf

set_option maxHeartbeats 1000000 in
theorem rises_any (l : List ByteArray) (K : Option Addr) (ck : Nat) (w : World) (hK : StrsAt w K l) (hn : l.length ≤ 9223372036854775807) (hs : ∀ k, k < l.length → (l.getD k noStr).size ≤ 9223372036854775807) :
    Calls Tryz.prog 143 #[.slice K l.length ck] w fun e w' => e = .returned (.bool (risesTo l l.length)) ∧ Below w.heap.size w w' := by
  go_enter Tryz.func143, Tryz.ntmps143
  go_wp2_with fail

  go_loopw [7] (fun i wr => ∃ k : Nat, k ≤ l.length ∧ i = .int .i64 k ∧ Hid (risesTo l k = true) ∧ Below w.heap.size w wr) (fun i _ => l.length - (intOf i).toNat)
  case atStart => exact ⟨0, Nat.zero_le _, rfl, rfl, Below.refl _ _⟩
  case round =>
    obtain ⟨k, hk, rfl, HA, hw⟩ := hrel
    have hKr := CellsAt.later hK hw
    by_cases hlt : k < l.length
    · obtain ⟨b, off, x, rfl, hc, HX⟩ := StrsAt.at' hKr hlt
      have hsx : x.size ≤ maxLen := by have := hs k hlt; rw [HX.out] at this; exact this
      cases hkey : keyB x
      · have HF : Hid (risesTo l l.length = false) := risesTo_false hlt (by simp only [riseAt, HX.out, hkey, Bool.false_and])
        go_wp2_with (go_at_call 36; refine (key_any _ _ hsx).mono ?_; rintro e w2 ⟨rfl, hb⟩; replace hw := keepB hw hb)
        go_ret
        exact ⟨ret_bool HF.out, hw⟩
      · by_cases hk0 : k = 0
        · have HR : Hid (risesTo l (k + 1) = true) := risesTo_next0 HA.out HX.out hkey hk0
          have hg : decide (0 < k) = false := by rw [decide_eq_false_iff_not]; omega
          clear hk0
          go_wp2_with (go_at_call 36; refine (key_any _ _ hsx).mono ?_; rintro e w2 ⟨rfl, hb⟩; replace hw := keepB hw hb)
          go_roundw
          case rel => exact ⟨k + 1, by omega, by go_num, HR, hw⟩
          case measure => simp [intOf]; omega
        · obtain ⟨b', off', y, e, hc', HY⟩ := StrsAt.at' hKr (k := k - 1) (by omega)
          injection e with e
          injection e with e1 e2
          subst e1 e2
          have hg : decide (0 < k) = true := by rw [decide_eq_true_iff]; omega
          have hi : ((k : Int) - 1).toNat = k - 1 := by omega
          have hk1 : 1 ≤ k := by omega
          cases hl : lessS y x
          · have HF : Hid (risesTo l l.length = false) := risesTo_false hlt (by simp only [riseAt, HX.out, HY.out, hkey, hl, beq_eq_false_iff_ne.2 hk0, Bool.false_or, Bool.and_false])
            have hl' : Op.bytesLess y.toList x.toList = false := hl
            clear hl hk0
            go_wp2_with (go_at_call 36; refine (key_any _ _ hsx).mono ?_; rintro e w2 ⟨rfl, hb⟩; replace hc' := keep hb hc'; replace hw := keepB hw hb)
            go_ret
            exact ⟨ret_bool HF.out, hw⟩
          · have HR : Hid (risesTo l (k + 1) = true) := risesTo_next HA.out HX.out HY.out hkey hl
            have hl' : Op.bytesLess y.toList x.toList = true := hl
            clear hl hk0
            go_wp2_with (go_at_call 36; refine (key_any _ _ hsx).mono ?_; rintro e w2 ⟨rfl, hb⟩; replace hc' := keep hb hc'; replace hw := keepB hw hb)
            go_roundw
            case rel => exact ⟨k + 1, by omega, by go_num, HR, hw⟩
            case measure => simp [intOf]; omega
    · have ek : k = l.length := by omega
      have HF : Hid (risesTo l l.length = true) := by show _ = _; rw [← ek]; exact HA.out
      go_wp2
      go_ret
      exact ⟨ret_bool HF.out, hw⟩

def idB (s q : Int) : Bool := decide (1 ≤ s) && decide (s ≤ 8) && decide (1 ≤ q) && decide (q ≤ 1048576)
def idLess (s q s' q' : Int) : Bool := decide (s < s') || (decide (s = s') && decide (q < q'))
theorem id_any (s q : Int) (w : World) : Calls Tryz.prog 98 #[.agg #[.int .i64 s, .int .i64 q]] w fun e w' => e = .returned (.bool (idB s q)) ∧ Below w.heap.size w w' := by
  obtain ⟨W, eW, HB, c0, c1⟩ := box2 w (.int .i64 s) (.int .i64 q) 33
  have HI : Hid (idB s q = (decide (1 ≤ s) && decide (s ≤ 8) && decide (1 ≤ q) && decide (q ≤ 1048576))) := rfl
  go_enter Tryz.func98, Tryz.ntmps98
  go_wp2
  all_goals go_ret
  all_goals refine ⟨ret_bool ?_, HB⟩
  all_goals rw [HI.out]
  all_goals simp [*] <;> omega
theorem refId_any (s q : Int) (w : World) : Calls Tryz.prog 71 #[.agg #[.int .i64 s, .int .i64 q]] w fun e w' => e = .returned (.bool (idB s q)) ∧ Below w.heap.size w w' := by
  obtain ⟨W, eW, HB, c0, c1⟩ := box2 w (.int .i64 s) (.int .i64 q) 33
  have HI : Hid (idB s q = (decide (1 ≤ s) && decide (s ≤ 8) && decide (1 ≤ q) && decide (q ≤ 1048576))) := rfl
  go_enter Tryz.func71, Tryz.ntmps71
  go_wp2
  all_goals go_ret
  all_goals refine ⟨ret_bool ?_, HB⟩
  all_goals rw [HI.out]
  all_goals simp [*] <;> omega
end Go.Proofs.YtjgloipgnnigmaaGreatDoor
/- slices.Sort and slices.Compact at []int, in the words of a slice that the call owns. -/
namespace Go.Proofs.YtjgloipgnnigmaaGreatDoor
open Go.RowKit Go.Sort

def sorted (l : List Int) : List Int := l.mergeSort fun x y => decide (x ≤ y)
theorem sorted_length (l : List Int) : (sorted l).length = l.length := by simp [sorted]

/-- slices.Sort of a slice that is owned: it owns the sorted list. -/
theorem sort_own (base : Nat) (v : Value) (l : List Int) (w : World) (h : w.ownsRow base 3 1 v l.length (l.map (Value.int .i64))) (hl : l.length ≤ 1000000) :
    Calls Tryz.prog 88 #[v] w fun e w' => e = .returned (.tuple #[]) ∧ w'.ownsRow base 3 1 v (sorted l).length ((sorted l).map (Value.int .i64)) ∧ w.grownBy w' v.ownBlock := by
  rcases h.2 with ⟨rfl, h0⟩ | ⟨g, cap, cur, rfl, hbase, hb, h1, h2, h3, h4⟩
  · have hl0 : l = [] := List.eq_nil_of_length_eq_zero h0
    subst hl0
    refine (Tryz.slices_Sort_int_none none 0 w).mono ?_
    rintro e w' ⟨rfl, rfl⟩
    have e0 : sorted [] = [] := by simp [sorted]
    rw [e0]
    exact ⟨rfl, own_nil _ _ _ _, World.grownBy.refl _ _⟩
  · have hH := holds_of_blockI hb (by simpa using h4)
    refine (Tryz.slices_Sort_int g 0 cap l w hH (Array.getElem?_eq_some_iff.1 hb).1 (by omega)).mono ?_
    rintro e w' ⟨rfl, n, os, rfl⟩
    refine ⟨rfl, ?_, grownBy_sortedI _⟩
    have := ownsRow_sortedI (n := n) (os := os) (ss := l) (ts := sorted l) (by simp [sorted]) hbase hb h1 h2 h3
    rw [sorted_length]
    exact this

/-- slices.Compact of a slice that is owned: the slice that it hands back owns the compact list. -/
theorem compact_own (base : Nat) (v : Value) (l : List Int) (w : World) (h : w.ownsRow base 3 1 v l.length (l.map (Value.int .i64))) (hl : l.length ≤ 1000000) :
    Calls Tryz.prog 89 #[v] w fun e w' => (∃ v', e = .returned v' ∧ w'.ownsRow base 3 1 v' (Lib.compact l).length ((Lib.compact l).map (Value.int .i64))) ∧ w.grownBy w' v.ownBlock := by
  rcases h.2 with ⟨rfl, h0⟩ | ⟨g, cap, cur, rfl, hbase, hb, h1, h2, h3, h4⟩
  · have hl0 : l = [] := List.eq_nil_of_length_eq_zero h0
    subst hl0
    refine (Tryz.slices_Compact_int_empty none 0 w).mono ?_
    rintro e w' ⟨rfl, rfl⟩
    exact ⟨⟨_, rfl, own_nil _ _ _ _⟩, World.grownBy.refl _ _⟩
  · have hH := holds_of_blockI hb (by simpa using h4)
    have hle : (Lib.compact l).length ≤ l.length := by
      have := List.length_filter_le (Lib.keeps l.toArray) (List.range l.length)
      simpa [Lib.compact, Lib.compactUpTo] using this
    refine (Tryz.slices_Compact_int g 0 cap l w hH (by omega) h1).mono ?_
    rintro e w' ⟨rfl, q, rfl⟩
    have hg := grownBy_sortedI (w := w) (g := g) (n := q) (os := #[]) (Lib.compact l ++ List.replicate (l.length - (Lib.compact l).length) 0).toArray
    have ho := ownsRow_sortedI (n := q) (os := #[]) (ss := l) (ts := Lib.compact l ++ List.replicate (l.length - (Lib.compact l).length) 0) (by simp; omega) hbase hb h1 h2 h3
    rw [grow_empty] at hg ho
    refine ⟨⟨_, rfl, ?_⟩, hg⟩
    obtain ⟨q1, q2⟩ := ho
    refine ⟨by simp, ?_⟩
    rcases q2 with ⟨e, _⟩ | ⟨g', cap', cur', e, hbase', hb', hn', hc', hz', ht'⟩
    · cases e
    · cases e
      refine .inr ⟨g, cap, cur', rfl, hbase', hb', by omega, hc', hz', ?_⟩
      have : cur'.toList.take (Lib.compact l).length = (cur'.toList.take (l.length * 1)).take (Lib.compact l).length := by
        rw [List.take_take, show min (Lib.compact l).length (l.length * 1) = (Lib.compact l).length from by omega]
      rw [Nat.mul_one, this, ht']
      simp
end Go.Proofs.YtjgloipgnnigmaaGreatDoor
/- append(v, row...): v is a row of the call's own, the other row may be nil. -/
namespace Go.Proofs.YtjgloipgnnigmaaGreatDoor
open Go.RowKit

section
variable {P : Program} {w : World}
/-- append(v, row...) where v is owned and the row may be nil. -/
theorem wpList_append_row {ops : Array Oper} {rest : List Oper} {o : Oper} {a : Act} {Q : Exit → Act → World → Prop} (hgd : o.guard = none) (s x : Operand) (t : TypeId)
    (ho : o.op = .call { callee := .builtin .append, args := #[s, x], argTypes := #[t, t] })
    (base : Nat) (e : TypeId) (i : TypeInfo) (z : Value) (size bytes : Nat) (ht : P.underlying t = some (.slice e)) (hi : P.info? e = some i) (hz : i.zero = some z)
    (hsize : i.size = size) (hby : i.bytes = bytes) (hzs : z.cells.size = size) (hsz : 0 < size)
    (v : Value) (n : Nat) (xs : List Value) (hs : a.eval s = v) (hown : w.ownsRow base e size v n xs)
    (K : Option Addr) (m c : Nat) (news : List Value) (hx : a.eval x = .slice K m c) (hl : news.length = m * size) (hK : K = none → m = 0) (hnews : ∀ ad, K = some ad → ∀ j u, news[j]? = some u → w.cell? (ad.add j) = some u) (h1 : ∀ u ∈ news, u.oneCell' = true)
    (h63 : n + m ≤ maxLen) (hbytes : (n + m) * bytes ≤ 140737488355328) (hbase : base ≤ w.heap.size)
    (h : ∀ v' w', w'.ownsRow base e size v' (n + m) (xs ++ news) → w.grownBy w' v.ownBlock → (v'.ownBlock = v.ownBlock ∨ v'.ownBlock = some w.heap.size) → wpList P ops Q rest (a.put o.dst v') w') : wpList P ops Q (o :: rest) a w := by
  cases K with
  | some ad => exact wpList_append_own_at w hgd s x t ho base e i z size bytes ht hi hz hsize hby hzs hsz v n xs hs hown ad m c news hx hl (hnews ad rfl) h1 h63 hbytes hbase (fun v' w' h1 h2 _ h3 => h v' w' h1 h2 h3)
  | none =>
    have hm := hK rfl
    subst hm
    have hn0 : news = [] := List.eq_nil_of_length_eq_zero (by omega)
    subst hn0
    refine wpList_plain hgd fun _ hK' => ?_
    have hrun := append_nil_run w base t o.type e i size ht hi v n xs hown c
    unfold Oper.wp execOp
    simp only [ho, resolve, invoke, builtin, Sem.run_bind, Sem.run_pure, Result.andThen_ok, List.map_toArray, List.map_cons, List.map_nil, hs, hx, hrun]
    exact hK' _ _ (h v w (by simpa using hown) (World.grownBy.refl w _) (.inl rfl))
end
end Go.Proofs.YtjgloipgnnigmaaGreatDoor
