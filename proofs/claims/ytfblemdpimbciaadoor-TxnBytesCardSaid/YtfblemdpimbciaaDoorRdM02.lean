/- Layer 2's readers in plain Lean; what a value's bytes are read as. -/
import Derived.Test.YtfblemdpimbciaaDoorPut04
namespace Go.Proofs.YtfblemdpimbciaaDoor
open Go.RowKit Go.Shelf

theorem rev_ind {α : Type} {P : List α → Prop} (h0 : P []) (h1 : ∀ l a, P l → P (l ++ [a])) (l : List α) : P l := by
  have h : ∀ l : List α, P l.reverse := fun l => by
    induction l with
    | nil => exact h0
    | cons a l ih => rw [List.reverse_cons]; exact h1 _ _ ih
  have := h l.reverse
  rwa [List.reverse_reverse] at this
/-- What a number's bytes tell. -/
def beN (l : List UInt8) : Nat := l.foldl (fun x b => x * 256 + b.toNat) 0
theorem beN_snoc (l : List UInt8) (b : UInt8) : beN (l ++ [b]) = beN l * 256 + b.toNat := by simp [beN, List.foldl_append]
theorem beN_lt (l : List UInt8) : beN l < 256 ^ l.length := by
  refine rev_ind (P := fun l => beN l < 256 ^ l.length) ?_ ?_ l
  · simp [beN]
  · intro l b ih
    rw [beN_snoc, List.length_append, List.length_singleton, Nat.pow_succ]
    have := b.toNat_lt
    omega
theorem beL_succ (x n : Nat) : beL x (n + 1) = beL (x / 256) n ++ [UInt8.ofNat x] := by
  unfold beL
  rw [List.range_succ, List.map_append]
  congr 1
  · apply List.map_congr_left
    intro i hi
    have hi : i < n := by simpa using hi
    congr 1
    rw [Nat.div_div_eq_div_mul, show (256 : Nat) = 2 ^ 8 from rfl, ← Nat.pow_add]
    congr 2
    omega
  · simp
theorem beN_beL : ∀ (n x : Nat), x < 256 ^ n → beN (beL x n) = x
  | 0, x, h => by simp at h; subst h; rfl
  | n + 1, x, h => by
    rw [beL_succ, beN_snoc, beN_beL n (x / 256) (by rw [Nat.pow_succ] at h; omega), UInt8.toNat_ofNat']
    omega
theorem beL_beN (l : List UInt8) : beL (beN l) l.length = l := by
  refine rev_ind (P := fun l => beL (beN l) l.length = l) ?_ ?_ l
  · rfl
  · intro l b ih
    rw [List.length_append, List.length_singleton, beL_succ, beN_snoc]
    have := b.toNat_lt
    rw [show (beN l * 256 + b.toNat) / 256 = beN l by omega, ih]
    congr 2
    apply UInt8.toNat_inj.1
    rw [UInt8.toNat_ofNat']
    omega
/-! ### Readers in plain Lean -/
def strL (l : List UInt8) : ByteArray := ⟨l.toArray⟩
theorem strL_data (l : List UInt8) : (strL l).data.toList = l := rfl
theorem strL_of (s : ByteArray) : strL s.data.toList = s := rfl
theorem strL_size (l : List UInt8) : (strL l).size = l.length := by simp [strL, ByteArray.size]
/-- What is left to a reader; none: it has failed. -/
abbrev RS := Option (List UInt8)
def takeN : RS → Nat → Nat × RS
  | none, _ => (0, none)
  | some l, n => if n ≤ l.length then (beN (l.take n), some (l.drop n)) else (0, none)
def takeT (s : RS) (most : Nat) : ByteArray × RS :=
  match (takeN s 2).2 with
  | none => (noStr, none)
  | some l => if (takeN s 2).1 ≤ most ∧ (takeN s 2).1 ≤ l.length then (strL (l.take (takeN s 2).1), some (l.drop (takeN s 2).1)) else (noStr, none)
theorem takeN_some (l : List UInt8) (n : Nat) : takeN (some l) n = if n ≤ l.length then (beN (l.take n), some (l.drop n)) else (0, none) := rfl
theorem takeN_none (n : Nat) : takeN none n = (0, none) := rfl
theorem takeT_none (n : Nat) : takeT none n = (noStr, none) := rfl
theorem takeN_lt (s : RS) (n : Nat) : (takeN s n).1 < 256 ^ n := by
  have h0 : 0 < 256 ^ n := Nat.pow_pos (by decide)
  cases s with
  | none => exact h0
  | some l =>
    rw [takeN_some]
    split
    · rename_i h
      have := beN_lt (l.take n)
      rw [List.length_take, Nat.min_eq_left h] at this
      exact this
    · exact h0
theorem takeN_put {x n : Nat} (h : x < 256 ^ n) (r : List UInt8) : takeN (some (beL x n ++ r)) n = (x, some r) := by
  have e : (beL x n ++ r).take n = beL x n := by rw [List.take_append_of_le_length (by rw [beL_length]; exact Nat.le_refl _), List.take_of_length_le (by rw [beL_length]; exact Nat.le_refl _)]
  have e2 : (beL x n ++ r).drop n = r := by rw [List.drop_append, List.drop_eq_nil_of_le (by rw [beL_length]; exact Nat.le_refl _), beL_length, Nat.sub_self]; rfl
  rw [takeN_some, if_pos (by rw [List.length_append, beL_length]; omega), e, e2, beN_beL n x h]
theorem takeN_inv {s : RS} {n x : Nat} {r : List UInt8} (h : takeN s n = (x, some r)) : s = some (beL x n ++ r) := by
  cases s with
  | none => cases h
  | some l =>
    rw [takeN_some] at h
    split at h
    · rename_i hn
      simp only [Prod.mk.injEq, Option.some.injEq] at h
      obtain ⟨rfl, rfl⟩ := h
      have := beL_beN (l.take n)
      rw [List.length_take, Nat.min_eq_left hn] at this
      rw [this, List.take_append_drop]
    · cases h
theorem takeT_put {s : ByteArray} {most : Nat} (h : s.size ≤ most) (hm : most < 65536) (r : List UInt8) : takeT (some (beL s.size 2 ++ s.data.toList ++ r)) most = (s, some r) := by
  have e := takeN_put (x := s.size) (n := 2) (by omega) (s.data.toList ++ r)
  rw [← List.append_assoc] at e
  have hl : s.data.toList.length = s.size := by rw [Array.length_toList]; rfl
  unfold takeT
  rw [e]
  simp only
  rw [if_pos ⟨h, by rw [List.length_append]; omega⟩, List.take_append_of_le_length (by omega), List.take_of_length_le (by omega), strL_of, List.drop_append, List.drop_eq_nil_of_le (by omega), hl, Nat.sub_self]
  rfl
theorem takeT_inv {s : RS} {most : Nat} {t : ByteArray} {r : List UInt8} (h : takeT s most = (t, some r)) : s = some (beL t.size 2 ++ t.data.toList ++ r) ∧ t.size ≤ most := by
  unfold takeT at h
  split at h
  · cases h
  · rename_i l hl
    split at h
    · rename_i hn
      simp only [Prod.mk.injEq, Option.some.injEq] at h
      obtain ⟨rfl, rfl⟩ := h
      have e := takeN_inv (s := s) (n := 2) (x := (takeN s 2).1) (r := l) (by rw [← hl])
      rw [strL_size, strL_data, List.length_take, Nat.min_eq_left hn.2]
      refine ⟨?_, hn.1⟩
      rw [List.append_assoc, List.take_append_drop]
      exact e
    · cases h
theorem takeT_size (s : RS) (most : Nat) : (takeT s most).1.size ≤ most := by
  unfold takeT
  split
  · exact Nat.zero_le _
  · split
    · rename_i hn
      rw [strL_size, List.length_take]; omega
    · exact Nat.zero_le _
def zVal : Val := ⟨0, 0, noStr⟩
def takeV (s : RS) : Val × RS :=
  let k := takeN s 1
  let b := if k.1 = 1 then takeN k.2 8 else (0, k.2)
  let t := if k.1 = 2 then takeT b.2 40 else (noStr, b.2)
  if t.2.isSome && formedV ⟨k.1, b.1, t.1⟩ then (⟨k.1, b.1, t.1⟩, t.2) else (zVal, none)
theorem takeV_none : takeV none = (zVal, none) := rfl
theorem takeV_inv {s : RS} {v : Val} {r : List UInt8} (h : takeV s = (v, some r)) : s = some (encV v ++ r) ∧ formedV v = true := by
  unfold takeV at h
  obtain ⟨k, s1, hk⟩ : ∃ k s1, takeN s 1 = (k, s1) := ⟨_, _, rfl⟩
  rw [hk] at h
  by_cases k1 : k = 1
  · subst k1
    obtain ⟨b, s2, hb⟩ : ∃ b s2, takeN s1 8 = (b, s2) := ⟨_, _, rfl⟩
    simp only [if_true, hb, show ¬ ((1 : Nat) = 2) by decide, if_false] at h
    split at h
    · rename_i hf
      simp only [Prod.mk.injEq] at h
      obtain ⟨rfl, rfl⟩ := h
      simp only [Bool.and_eq_true] at hf
      have e1 := takeN_inv hb
      subst e1
      have e2 := takeN_inv hk
      refine ⟨?_, hf.2⟩
      rw [e2]
      simp [encV]
    · cases h
  · by_cases k2 : k = 2
    · subst k2
      obtain ⟨b, s2, hb⟩ : ∃ b s2, takeT s1 40 = (b, s2) := ⟨_, _, rfl⟩
      simp only [if_true, hb, show ¬ ((2 : Nat) = 1) by decide, if_false] at h
      split at h
      · rename_i hf
        simp only [Prod.mk.injEq] at h
        obtain ⟨rfl, rfl⟩ := h
        simp only [Bool.and_eq_true] at hf
        have e1 := (takeT_inv hb).1
        subst e1
        have e2 := takeN_inv hk
        refine ⟨?_, hf.2⟩
        rw [e2]
        simp [encV]
      · cases h
    · simp only [k1, k2, if_false] at h
      split at h
      · rename_i hf
        simp only [Prod.mk.injEq] at h
        obtain ⟨rfl, rfl⟩ := h
        simp only [Bool.and_eq_true] at hf
        have e2 := takeN_inv hk
        refine ⟨?_, hf.2⟩
        rw [e2]
        have h1 : ¬ (k : Int) = 1 := by omega
        have h2 : ¬ (k : Int) = 2 := by omega
        simp [encV, h1, h2]
      · cases h
theorem takeV_put {v : Val} (hb : v.bits < 18446744073709551616) (hf : formedV v = true) (r : List UInt8) : takeV (some (encV v ++ r)) = (v, some r) := by
  obtain ⟨k, b, t⟩ := v
  have hb : b < 18446744073709551616 := hb
  have hk := formedV_kinds hf
  have hf' := hf
  unfold formedV at hf'
  simp only at hf' hk
  rcases hk with rfl | rfl | ⟨rfl, h40⟩
  · simp only [if_true, Bool.and_eq_true, decide_eq_true_eq] at hf'
    obtain ⟨rfl, rfl⟩ := hf'
    have e := takeN_put (x := 0) (n := 1) (by decide) r
    rw [show encV ⟨0, 0, noStr⟩ ++ r = beL 0 1 ++ r by simp [encV]]
    unfold takeV
    simp only [e, Nat.zero_ne_one, if_false, show ¬ ((0 : Nat) = 2) by decide]
    rw [if_pos (by simpa using hf)]
    rfl
  · simp only [show ¬ ((1 : Int) = 0) by decide, if_false, if_true, Bool.and_eq_true, decide_eq_true_eq] at hf'
    obtain ⟨rfl, _⟩ := hf'
    have e := takeN_put (x := 1) (n := 1) (by decide) (beL b 8 ++ r)
    have e2 := takeN_put (x := b) (n := 8) (by omega) r
    rw [show encV ⟨1, b, noStr⟩ ++ r = beL 1 1 ++ (beL b 8 ++ r) by simp [encV]]
    unfold takeV
    simp only [e, e2, if_true, if_false, show ¬ ((1 : Nat) = 2) by decide]
    rw [if_pos (by simpa using hf)]
    rfl
  · simp only [show ¬ ((2 : Int) = 0) by decide, show ¬ ((2 : Int) = 1) by decide, if_false, Bool.and_eq_true, decide_eq_true_eq] at hf'
    obtain ⟨⟨⟨_, rfl⟩, _⟩, _⟩ := hf'
    have e := takeN_put (x := 2) (n := 1) (by decide) (beL t.size 2 ++ t.data.toList ++ r)
    have e2 := takeT_put (s := t) (most := 40) h40 (by decide) r
    rw [show encV ⟨2, 0, t⟩ ++ r = beL 2 1 ++ (beL t.size 2 ++ t.data.toList ++ r) by simp [encV]]
    unfold takeV
    simp only [e, e2, if_true, if_false, show ¬ ((2 : Nat) = 1) by decide]
    rw [if_pos (by simpa using hf)]
    rfl
/-- What is taken as a value is small. -/
def smallV (v : Val) : Prop := v.bits < 18446744073709551616 ∧ v.text.size ≤ 40 ∧ 0 ≤ v.kind ∧ v.kind < 256
theorem small_if {c : Bool} {v : Val} {s : RS} (h : smallV v) : smallV (if c then (v, s) else (zVal, none)).1 := by
  cases c
  · show smallV zVal; exact ⟨by decide, by decide, by decide, by decide⟩
  · exact h
theorem takeV_small (s : RS) : smallV (takeV s).1 := by
  refine small_if ⟨?_, ?_, by simp, ?_⟩
  · dsimp only
    split
    · exact takeN_lt _ 8
    · exact Nat.zero_lt_succ _
  · dsimp only
    split
    · exact takeT_size _ 40
    · exact Nat.zero_le _
  · have := takeN_lt s 1
    simp only
    omega
end Go.Proofs.YtfblemdpimbciaaDoor
