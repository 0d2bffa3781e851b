/- Layer 14's laws in plain Lean: what is seen at rising numbers, scanned in part, collected. -/
import Derived.Test.YtboiafchmdflpaaDoorScanM14
namespace Go.Proofs.YtboiafchmdflpaaDoor
open Go.RowKit Go.Maps

/-! ### Seen -/
theorem seenV_le (l : List Ver) (n : Nat) : (seenV l n).num ≤ n := by
  induction l with
  | nil => exact Nat.zero_le _
  | cons v l ih =>
    by_cases hv : v.num ≤ n
    · rw [seenV_cons_lo hv]; exact hv
    · rw [seenV_cons_hi (by omega)]; exact ih
theorem seenV_up {l : List Ver} (n : Nat) : seenV l (n + 1) = seenV l n ∨ (seenV l (n + 1)).num = n + 1 := by
  induction l with
  | nil => exact .inl rfl
  | cons v l ih =>
    by_cases hv : v.num ≤ n
    · rw [seenV_cons_lo hv, seenV_cons_lo (by omega)]; exact .inl rfl
    · by_cases h1 : v.num = n + 1
      · rw [seenV_cons_lo (n := n + 1) (by omega)]; exact .inr h1
      · rw [seenV_cons_hi (by omega), seenV_cons_hi (by omega)]; exact ih
theorem seenV_self {l : List Ver} (hf : Falls l) (n : Nat) (h0 : (seenV l n).num ≠ 0) : seenV l (seenV l n).num = seenV l n := by
  induction l with
  | nil => exact absurd rfl h0
  | cons v l ih =>
    obtain ⟨h1, h2⟩ := List.pairwise_cons.1 hf
    by_cases hv : v.num ≤ n
    · rw [seenV_cons_lo hv, seenV_cons_lo (Nat.le_refl _)]
    · have hle := seenV_le l n
      rw [seenV_cons_hi (n := n) (by omega)] at h0 ⊢
      rw [seenV_cons_hi (by omega)]
      exact ih h2 h0
theorem seenV_mem' (l : List Ver) (n : Nat) : seenV l n = noVer ∨ seenV l n ∈ l := by
  rw [seenV]
  cases hf : l.find? fun v => decide (v.num ≤ n) with
  | none => exact .inl rfl
  | some u => exact .inr (List.mem_of_find?_eq_some hf)

/-! ### Scan -/
theorem inRange_all (k : ByteArray) : inRange noStr noStr k = true := by
  have e : ∀ l : List UInt8, Op.bytesLess l [] = false := fun l => by cases l <;> rfl
  have e2 : noStr.toList = [] := by rw [ByteArray.toList_eq]; rfl
  simp [inRange, lessS, e, e2]
theorem scanAll_part (m : KV) (a b : ByteArray) (n : Nat) : scanAll m a b n = (scanAll m noStr noStr n).filter fun x => inRange a b x.key := by
  rw [scanAll, scanAll, List.filter_map, List.filter_filter]
  congr 1
  refine List.filter_congr fun p _ => ?_
  simp [Function.comp, inRange_all]
theorem scanAll_len (m : KV) (a b : ByteArray) (n : Nat) : (scanAll m a b n).length ≤ m.length := by
  rw [scanAll, List.length_map]; exact List.length_filter_le _ _
theorem scanAll_mem {m : KV} (h : RisesK m) {a b : ByteArray} {n : Nat} {x : It} (hx : x ∈ scanAll m a b n) : (⟨x.num, x.val⟩ : Ver) = seenV (getK m x.key) n ∧ x.val.kind ≠ 0 ∧ ∃ p ∈ m, p.1 = x.key := by
  obtain ⟨p, hp, rfl⟩ := List.mem_map.1 hx
  obtain ⟨hp, hc⟩ := List.mem_filter.1 hp
  simp only [Bool.and_eq_true, Bool.not_eq_true', decide_eq_false_iff_not] at hc
  refine ⟨?_, hc.2, p, hp, rfl⟩
  rw [getK_mem h (l := p.2) hp]
theorem scanAll_rises {m : KV} (h : RisesK m) (a b : ByteArray) (n : Nat) : (scanAll m a b n).Pairwise fun x y => lessS x.key y.key = true := by
  rw [scanAll, List.pairwise_map]
  exact (List.Pairwise.filter _ h)
theorem scanAll_next {m : KV} (h : RisesK m) {a b : ByteArray} {n k : Nat} (hk : k + 1 < (scanAll m a b n).length) : lessS ((scanAll m a b n).getD k noIt).key ((scanAll m a b n).getD (k + 1) noIt).key = true := by
  have := List.pairwise_iff_getElem.1 (scanAll_rises h a b n) k (k + 1) (by omega) hk (by omega)
  rw [List.getD_eq_getElem?_getD, List.getElem?_eq_getElem (by omega), List.getD_eq_getElem?_getD, List.getElem?_eq_getElem hk]
  exact this

/-! ### Collect -/
theorem scanAll_colK {m : KV} (h : RisesK m) (a b : ByteArray) {low n : Nat} (hn : low ≤ n) : scanAll (colK m low) a b n = scanAll m a b n := by
  induction m with
  | nil => rfl
  | cons p m ih =>
    obtain ⟨h1, h2⟩ := List.pairwise_cons.1 h
    have hs := seen_colV p.2 hn
    have e0 : ∀ (q : ByteArray × List Ver) (r : KV), scanAll (q :: r) a b n = (if scanP a b n q then [scanIt q n] else []) ++ scanAll r a b n := fun q r => by
      rw [scanAll_eq, scanAll_eq, List.filter_cons]
      split
      · rfl
      · rfl
    have hp : scanP a b n (p.1, colV p.2 low) = scanP a b n p := by rw [scanP, scanP]; simp only [hs.1]
    rw [colK]
    split
    · rename_i he
      have h0 : colV p.2 low = [] := by simpa using he
      rw [h0] at hs
      have : scanP a b n p = false := by
        rw [scanP]
        have hk : (seenV p.2 n).val.kind = 0 := hs.1.symm
        simp [hk]
      rw [ih h2, e0, this]
      rfl
    · rw [e0, e0, ih h2, hp]
      split
      · rename_i hsp
        have hk : (seenV p.2 n).val.kind ≠ 0 := by
          rw [scanP] at hsp
          simp only [Bool.and_eq_true, Bool.not_eq_true', decide_eq_false_iff_not] at hsp
          exact hsp.2
        rw [scanIt, scanIt]
        simp only [hs.2 hk]
      · rfl
theorem countK_colK {m : KV} (h : RisesK m) (hf : ∀ p ∈ m, Falls p.2) (low : Nat) : countK (colK m low) ≤ countK m := by
  rw [countK, countK, ← items_colK h hf]
  exact List.length_filter_le _ _
end Go.Proofs.YtboiafchmdflpaaDoor
