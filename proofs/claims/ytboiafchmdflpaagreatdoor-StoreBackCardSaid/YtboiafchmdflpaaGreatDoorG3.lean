/- Layer 14 in plain Lean: versions of keys; what is applied, seen, scanned, collected; the reference's list of items is the same, laid flat. -/
import Derived.Test.YtboiafchmdflpaaGreatDoorG2
import Derived.Test.YtboiafchmdflpaaGreatDoorG1
import Derived.Deep.AppendLies
import Derived.WalkSpells
import Derived.IntWalk
import Derived.Outline
import Derived.Maps.RangeWalk
import Derived.Maps.OwnSet
import Derived.Maps.Ext
import Derived.Sort.KeysCollected
namespace Go.Proofs.YtboiafchmdflpaaGreatDoor
open Go.RowKit

structure Ver where
  num : Nat
  val : Val
structure It where
  key : ByteArray
  val : Val
  num : Nat
def noVal : Val := ⟨0, 0, noStr⟩
def noVer : Ver := ⟨0, noVal⟩
def noIt : It := ⟨noStr, noVal, 0⟩
instance : Inhabited Ver := ⟨noVer⟩
instance : Inhabited It := ⟨noIt⟩
/-- Keys, rising, each with its versions, the last one ahead. -/
abbrev KV := List (ByteArray × List Ver)
def getK : KV → ByteArray → List Ver
  | [], _ => []
  | p :: m, k => if p.1 = k then p.2 else getK m k
def putK : KV → ByteArray → List Ver → KV
  | [], k, l => [(k, l)]
  | p :: m, k, l => if lessS p.1 k = true then p :: putK m k l else if p.1 = k then (k, l) :: m else (k, l) :: p :: m
/-- One key's items. -/
def itemsOf (p : ByteArray × List Ver) : List It := p.2.map fun v => ⟨p.1, v.val, v.num⟩
def items (m : KV) : List It := m.flatMap itemsOf

def RisesK (m : KV) : Prop := m.Pairwise fun p q => lessS p.1 q.1 = true
theorem lessS_ne {a b : ByteArray} (h : lessS a b = true) : a ≠ b := fun e => by rw [e, lessS_irr] at h; cases h
theorem getK_none {m : KV} {k : ByteArray} (h : ∀ p ∈ m, p.1 ≠ k) : getK m k = [] := by
  induction m with
  | nil => rfl
  | cons p m ih => rw [getK, if_neg (h p (by simp)), ih fun q hq => h q (by simp [hq])]
theorem getK_low {m : KV} {k : ByteArray} {p : ByteArray × List Ver} (h : RisesK (p :: m)) (hk : lessS k p.1 = true) : getK (p :: m) k = [] := by
  refine getK_none fun q hq => ?_
  rcases List.mem_cons.1 hq with rfl | hq
  · exact (lessS_ne hk).symm
  · exact (lessS_ne (lessS_trans hk ((List.pairwise_cons.1 h).1 q hq))).symm
theorem getK_mem {m : KV} {k : ByteArray} {l : List Ver} (h : RisesK m) (hm : (k, l) ∈ m) : getK m k = l := by
  induction m with
  | nil => cases hm
  | cons p m ih =>
    obtain ⟨h1, h2⟩ := List.pairwise_cons.1 h
    rcases List.mem_cons.1 hm with rfl | hm
    · simp [getK]
    · rw [getK, if_neg (lessS_ne (h1 _ hm)), ih h2 hm]
theorem mem_putK {m : KV} {k : ByteArray} {l : List Ver} {q : ByteArray × List Ver} (h : q ∈ putK m k l) : q = (k, l) ∨ q ∈ m := by
  induction m with
  | nil => left; simpa [putK] using h
  | cons p m ih =>
    unfold putK at h
    split at h
    · rcases List.mem_cons.1 h with rfl | h
      · right; simp
      · rcases ih h with e | h
        · exact .inl e
        · exact .inr (by simp [h])
    · split at h
      · rcases List.mem_cons.1 h with e | h
        · exact .inl e
        · exact .inr (by simp [h])
      · rcases List.mem_cons.1 h with e | h
        · exact .inl e
        · exact .inr h
theorem putK_rises {m : KV} (h : RisesK m) (k : ByteArray) (l : List Ver) : RisesK (putK m k l) := by
  induction m with
  | nil => simp [putK, RisesK]
  | cons p m ih =>
    obtain ⟨h1, h2⟩ := List.pairwise_cons.1 h
    unfold putK
    split
    · rename_i hk
      refine List.pairwise_cons.2 ⟨fun q hq => ?_, ih h2⟩
      rcases mem_putK hq with rfl | hq
      · exact hk
      · exact h1 q hq
    · split
      · rename_i hk e
        subst e
        exact List.pairwise_cons.2 ⟨fun q hq => h1 q hq, h2⟩
      · rename_i hk e
        have hkp : lessS k p.1 = true := by
          cases h' : lessS k p.1
          · exact absurd (lessS_tri (by simpa using hk) h') e
          · rfl
        refine List.pairwise_cons.2 ⟨fun q hq => ?_, h⟩
        rcases List.mem_cons.1 hq with rfl | hq
        · exact hkp
        · exact lessS_trans hkp (h1 q hq)
theorem getK_putK {m : KV} (h : RisesK m) (k : ByteArray) (l : List Ver) (x : ByteArray) : getK (putK m k l) x = if x = k then l else getK m x := by
  induction m with
  | nil =>
    by_cases e : x = k
    · subst e; simp [putK, getK]
    · simp [putK, getK, e, Ne.symm e]
  | cons p m ih =>
    obtain ⟨h1, h2⟩ := List.pairwise_cons.1 h
    unfold putK
    by_cases hk : lessS p.1 k = true
    · rw [if_pos hk, getK, ih h2, getK]
      by_cases e : x = k
      · subst e; rw [if_neg (lessS_ne hk), if_pos rfl, if_pos rfl]
      · rw [if_neg e, if_neg e]
    · rw [if_neg hk]
      by_cases e : p.1 = k
      · rw [if_pos e]
        subst e
        by_cases ex : x = p.1
        · subst ex; simp [getK]
        · rw [getK, if_neg (Ne.symm ex), if_neg ex, getK, if_neg (Ne.symm ex)]
      · rw [if_neg e, getK]
        by_cases ex : k = x
        · subst ex; simp
        · rw [if_neg ex, if_neg (Ne.symm ex)]

/-! ### The reference's list -/
def insF (L : List It) (x : It) : List It := L.takeWhile (fun y => lessS y.key x.key) ++ x :: L.dropWhile (fun y => lessS y.key x.key)
theorem itemsOf_key {p : ByteArray × List Ver} {x : It} (h : x ∈ itemsOf p) : x.key = p.1 := by
  obtain ⟨v, _, rfl⟩ := List.mem_map.1 h; rfl
theorem items_key {m : KV} {x : It} (h : x ∈ items m) : ∃ p ∈ m, x.key = p.1 := by
  obtain ⟨p, hp, hx⟩ := List.mem_flatMap.1 h
  exact ⟨p, hp, itemsOf_key hx⟩
theorem takeWhile_append_all {α : Type} {p : α → Bool} {l m : List α} (h : ∀ x ∈ l, p x = true) : (l ++ m).takeWhile p = l ++ m.takeWhile p := by
  induction l with
  | nil => rfl
  | cons a l ih => simp [h a (by simp), ih fun x hx => h x (by simp [hx])]
theorem dropWhile_append_all {α : Type} {p : α → Bool} {l m : List α} (h : ∀ x ∈ l, p x = true) : (l ++ m).dropWhile p = m.dropWhile p := by
  induction l with
  | nil => rfl
  | cons a l ih => simp [h a (by simp), ih fun x hx => h x (by simp [hx])]
theorem while_none {α : Type} {p : α → Bool} {l : List α} (h : ∀ x ∈ l, p x = false) : l.takeWhile p = [] ∧ l.dropWhile p = l := by
  cases l with
  | nil => exact ⟨rfl, rfl⟩
  | cons a l => simp [h a (by simp)]
theorem insF_items {m : KV} (h : RisesK m) (k : ByteArray) (v : Ver) : insF (items m) ⟨k, v.val, v.num⟩ = items (putK m k (v :: getK m k)) := by
  induction m with
  | nil => rfl
  | cons p m ih =>
    obtain ⟨h1, h2⟩ := List.pairwise_cons.1 h
    have e0 : items (p :: m) = itemsOf p ++ items m := rfl
    unfold putK
    by_cases hk : lessS p.1 k = true
    · rw [if_pos hk, getK, if_neg (lessS_ne hk)]
      have hall : ∀ x ∈ itemsOf p, (fun y : It => lessS y.key k) x = true := fun x hx => by show lessS x.key k = true; rw [itemsOf_key hx]; exact hk
      rw [insF, e0]
      simp only
      rw [takeWhile_append_all hall, dropWhile_append_all hall, show items (p :: putK m k (v :: getK m k)) = itemsOf p ++ items (putK m k (v :: getK m k)) from rfl, ← ih h2, insF, List.append_assoc]
    · rw [if_neg hk]
      have hno : ∀ x ∈ items (p :: m), (fun y : It => lessS y.key k) x = false := fun x hx => by
        obtain ⟨q, hq, e⟩ := items_key hx
        show lessS x.key k = false
        rw [e]
        rcases List.mem_cons.1 hq with rfl | hq
        · simpa using hk
        · cases h' : lessS q.1 k
          · rfl
          · exact absurd (lessS_trans (h1 q hq) h') hk
      have hw := while_none hno
      rw [insF]
      simp only
      rw [hw.1, hw.2, List.nil_append]
      by_cases e : p.1 = k
      · subst e
        rw [if_pos rfl, getK, if_pos rfl]
        rfl
      · have hkp : lessS k p.1 = true := by
          cases h' : lessS k p.1
          · exact absurd (lessS_tri (by simpa using hk) h') e
          · rfl
        rw [if_neg e, getK_low h hkp]
        rfl

/-! ### What is seen -/
def seenV (l : List Ver) (n : Nat) : Ver := (l.find? fun v => decide (v.num ≤ n)).getD noVer
def seenF (L : List It) (k : ByteArray) (n : Nat) : Ver := ((L.find? fun x => decide (x.key = k) && decide (x.num ≤ n)).map fun x => (⟨x.num, x.val⟩ : Ver)).getD noVer
theorem find_none {α : Type} {p : α → Bool} {l : List α} (h : ∀ x ∈ l, p x = false) : l.find? p = none := by
  rw [List.find?_eq_none]; intro x hx; simp [h x hx]
theorem find_itemsOf (k : ByteArray) (l : List Ver) (n : Nat) : ((itemsOf (k, l)).find? fun x => decide (x.key = k) && decide (x.num ≤ n)) = (l.find? fun v => decide (v.num ≤ n)).map fun v => (⟨k, v.val, v.num⟩ : It) := by
  induction l with
  | nil => rfl
  | cons v l ih =>
    have e : itemsOf (k, v :: l) = ⟨k, v.val, v.num⟩ :: itemsOf (k, l) := rfl
    rw [e, List.find?_cons, List.find?_cons, ih]
    by_cases hv : v.num ≤ n <;> simp [hv]
theorem seenF_items {m : KV} (h : RisesK m) (k : ByteArray) (n : Nat) : seenF (items m) k n = seenV (getK m k) n := by
  induction m with
  | nil => rfl
  | cons p m ih =>
    obtain ⟨h1, h2⟩ := List.pairwise_cons.1 h
    obtain ⟨k', l'⟩ := p
    have e0 : items ((k', l') :: m) = itemsOf (k', l') ++ items m := rfl
    by_cases e : k' = k
    · subst e
      have hm : (items m).find? (fun x => decide (x.key = k') && decide (x.num ≤ n)) = none := find_none fun x hx => by
        obtain ⟨q, hq, e⟩ := items_key hx
        have := lessS_ne (h1 q hq)
        simp [e, Ne.symm this]
      rw [seenF, e0, List.find?_append, hm, find_itemsOf, getK, if_pos rfl, seenV]
      cases (l'.find? fun v => decide (v.num ≤ n)) <;> rfl
    · have hm : (itemsOf (k', l')).find? (fun x => decide (x.key = k) && decide (x.num ≤ n)) = none := find_none fun x hx => by
        have := itemsOf_key hx
        simp only at this
        simp [this, e]
      rw [seenF, e0, List.find?_append, hm, getK, if_neg e, ← ih h2]
      rfl

/-! ### A store -/
structure StD where
  ks : KV
  last : Nat
  low : Nat
def wrOK (l : List Wr) (k : Nat) : Bool := keyB (l.getD k noWr).key && formedV (l.getD k noWr).val && (k == 0 || lessS (l.getD (k - 1) noWr).key (l.getD k noWr).key)
def wrsTo (l : List Wr) : Nat → Bool
  | 0 => true
  | k + 1 => wrsTo l k && wrOK l k
def wrsOK (l : List Wr) : Bool := wrsTo l l.length
def putW (n : Nat) (m : KV) (x : Wr) : KV := putK m x.key (⟨n, x.val⟩ :: getK m x.key)
def putWs (n : Nat) (m : KV) (l : List Wr) : KV := l.foldl (putW n) m
def applyS (s : StD) (n : Nat) (l : List Wr) : StD := if n ≤ s.last then s else if wrsOK l then ⟨putWs n s.ks l, n, s.low⟩ else s
def applyE (s : StD) (n : Nat) (l : List Wr) : Int := if n ≤ s.last then 1 else if wrsOK l then 0 else 2
theorem wrsTo_false {l : List Wr} {k n : Nat} (hk : k < n) (h : wrOK l k = false) : wrsTo l n = false := by
  induction n with
  | zero => omega
  | succ n ih =>
    by_cases e : k = n
    · subst e; simp [wrsTo, h]
    · simp [wrsTo, ih (by omega)]
theorem wrsTo_le {l : List Wr} {k n : Nat} (hk : k ≤ n) (h : wrsTo l n = true) : wrsTo l k = true := by
  induction n with
  | zero => obtain rfl : k = 0 := by omega
            exact h
  | succ n ih =>
    by_cases e : k = n + 1
    · subst e; exact h
    · simp only [wrsTo, Bool.and_eq_true] at h
      exact ih (by omega) h.1
theorem putWs_rises {n : Nat} (l : List Wr) {m : KV} (h : RisesK m) : RisesK (putWs n m l) := by
  induction l generalizing m with
  | nil => exact h
  | cons x l ih => exact ih (putK_rises h _ _)
theorem putWs_snoc (n : Nat) (m : KV) (l : List Wr) (x : Wr) : putWs n m (l ++ [x]) = putW n (putWs n m l) x := by simp [putWs, List.foldl_append]

/-! ### Collect -/
def colV : List Ver → Nat → List Ver
  | [], _ => []
  | v :: l, low => if low < v.num then v :: colV l low else if v.val.kind = 0 then [] else [v]
def Falls (l : List Ver) : Prop := l.Pairwise fun a b => b.num < a.num
def needV (l : List Ver) (low : Nat) (v : Ver) : Bool := decide (low < v.num) || (decide (v.num = (seenV l low).num) && !decide (v.val.kind = 0))
theorem seenV_cons_hi {v : Ver} {l : List Ver} {n : Nat} (h : n < v.num) : seenV (v :: l) n = seenV l n := by
  have : decide (v.num ≤ n) = false := by simp; omega
  rw [seenV, List.find?_cons, this]; rfl
theorem seenV_cons_lo {v : Ver} {l : List Ver} {n : Nat} (h : v.num ≤ n) : seenV (v :: l) n = v := by
  rw [seenV, List.find?_cons, decide_eq_true h]; rfl
theorem colV_filter {l : List Ver} (h : Falls l) (low : Nat) : l.filter (needV l low) = colV l low := by
  induction l with
  | nil => rfl
  | cons v l ih =>
    obtain ⟨h1, h2⟩ := List.pairwise_cons.1 h
    by_cases hv : low < v.num
    · rw [colV, if_pos hv, ← ih h2, List.filter_cons, if_pos (by simp [needV, hv])]
      congr 1
      refine List.filter_congr fun x hx => ?_
      rw [needV, needV, seenV_cons_hi hv]
    · have hs := seenV_cons_lo (l := l) (show v.num ≤ low by omega)
      have hl : l.filter (needV (v :: l) low) = [] := by
        rw [List.filter_eq_nil_iff]
        intro x hx
        have := h1 x hx
        rw [needV, hs]
        simp; omega
      rw [colV, if_neg hv, List.filter_cons, hl, needV, hs]
      by_cases hk : v.val.kind = 0
      · rw [if_pos hk]; simp [hv, hk]
      · rw [if_neg hk]; simp [hk]
theorem colV_sub {l : List Ver} {low : Nat} : ∀ v ∈ colV l low, v ∈ l := by
  induction l with
  | nil => simp [colV]
  | cons v l ih =>
    intro x hx
    unfold colV at hx
    split at hx
    · rcases List.mem_cons.1 hx with rfl | hx
      · simp
      · simp [ih x hx]
    · split at hx
      · cases hx
      · rcases List.mem_cons.1 hx with rfl | hx
        · simp
        · cases hx
theorem colV_falls {l : List Ver} (h : Falls l) (low : Nat) : Falls (colV l low) := by
  induction l with
  | nil => exact h
  | cons v l ih =>
    obtain ⟨h1, h2⟩ := List.pairwise_cons.1 h
    unfold colV
    split
    · exact List.pairwise_cons.2 ⟨fun x hx => h1 x (colV_sub x hx), ih h2⟩
    · split <;> simp [Falls]
theorem colV_twice (l : List Ver) (low : Nat) : colV (colV l low) low = colV l low := by
  induction l with
  | nil => rfl
  | cons v l ih =>
    rw [colV]
    split
    · rename_i h; rw [colV, if_pos h, ih]
    · split
      · rfl
      · rename_i h1 h2; rw [colV, if_neg h1, if_neg h2]
/-- At a number from low on the same is seen, or Nothing as before. -/
theorem seen_colV (l : List Ver) {low n : Nat} (h : low ≤ n) : (seenV (colV l low) n).val.kind = (seenV l n).val.kind ∧ ((seenV l n).val.kind ≠ 0 → seenV (colV l low) n = seenV l n) := by
  induction l with
  | nil => exact ⟨rfl, fun _ => rfl⟩
  | cons v l ih =>
    rw [colV]
    by_cases hn : v.num ≤ n
    · rw [seenV_cons_lo hn]
      split
      · rw [seenV_cons_lo hn]; exact ⟨rfl, fun _ => rfl⟩
      · split
        · rename_i h0; exact ⟨h0.symm, fun hk => absurd h0 hk⟩
        · rw [seenV_cons_lo hn]; exact ⟨rfl, fun _ => rfl⟩
    · have : low < v.num := by omega
      rw [if_pos this, seenV_cons_hi (by omega), seenV_cons_hi (by omega)]
      exact ih
def colK : KV → Nat → KV
  | [], _ => []
  | p :: m, low => if (colV p.2 low).isEmpty then colK m low else (p.1, colV p.2 low) :: colK m low
theorem mem_colK {m : KV} {low : Nat} {q : ByteArray × List Ver} (h : q ∈ colK m low) : ∃ p ∈ m, q = (p.1, colV p.2 low) ∧ colV p.2 low ≠ [] := by
  induction m with
  | nil => cases h
  | cons p m ih =>
    rw [colK] at h
    split at h
    · obtain ⟨p', hp', r⟩ := ih h; exact ⟨p', by simp [hp'], r⟩
    · rename_i hne
      rcases List.mem_cons.1 h with rfl | h
      · exact ⟨p, by simp, rfl, by simpa using hne⟩
      · obtain ⟨p', hp', r⟩ := ih h; exact ⟨p', by simp [hp'], r⟩
theorem colK_rises {m : KV} (h : RisesK m) (low : Nat) : RisesK (colK m low) := by
  induction m with
  | nil => exact h
  | cons p m ih =>
    obtain ⟨h1, h2⟩ := List.pairwise_cons.1 h
    rw [colK]
    split
    · exact ih h2
    · refine List.pairwise_cons.2 ⟨fun q hq => ?_, ih h2⟩
      obtain ⟨p', hp', rfl, _⟩ := mem_colK hq
      exact h1 p' hp'
theorem getK_colK {m : KV} (h : RisesK m) (low : Nat) (k : ByteArray) : getK (colK m low) k = colV (getK m k) low := by
  induction m with
  | nil => rfl
  | cons p m ih =>
    obtain ⟨h1, h2⟩ := List.pairwise_cons.1 h
    rw [colK, getK]
    by_cases e : p.1 = k
    · rw [if_pos e]
      split
      · rename_i he
        rw [ih h2, getK_none (fun q hq => e ▸ (lessS_ne (h1 q hq)).symm)]
        have h0 : colV p.2 low = [] := by simpa using he
        rw [h0]; rfl
      · rw [getK, if_pos e]
    · rw [if_neg e]
      split
      · exact ih h2
      · rw [getK, if_neg e, ih h2]
theorem items_colK {m : KV} (h : RisesK m) (hf : ∀ p ∈ m, Falls p.2) (low : Nat) : (items m).filter (fun x => needV (getK m x.key) low ⟨x.num, x.val⟩) = items (colK m low) := by
  have key : ∀ m' : KV, (∀ p ∈ m', p ∈ m) → (items m').filter (fun x => needV (getK m x.key) low ⟨x.num, x.val⟩) = items (colK m' low) := by
    intro m'
    induction m' with
    | nil => intro _; rfl
    | cons p m' ih =>
      intro hm
      obtain ⟨k, l⟩ := p
      have hp := hm (k, l) (by simp)
      have e1 : (itemsOf (k, l)).filter (fun x => needV (getK m x.key) low ⟨x.num, x.val⟩) = itemsOf (k, colV l low) := by
        rw [itemsOf, List.filter_map, ← colV_filter (hf _ hp) low, itemsOf]
        congr 1
        refine List.filter_congr fun v hv => ?_
        simp only [Function.comp]
        rw [getK_mem h hp]
      have e2 := ih fun p hp => hm p (by simp [hp])
      rw [show items ((k, l) :: m') = itemsOf (k, l) ++ items m' from rfl, List.filter_append, e1, e2, colK]
      split
      · rename_i he
        have : colV l low = [] := by simpa using he
        rw [this]; rfl
      · rfl
  exact key m fun _ h => h

/-! ### Scan -/
def inRange (a b k : ByteArray) : Bool := !lessS k a && (decide (b = noStr) || lessS k b)
def scanAll (m : KV) (a b : ByteArray) (n : Nat) : List It := (m.filter fun p => inRange a b p.1 && !decide ((seenV p.2 n).val.kind = 0)).map fun p => ⟨p.1, (seenV p.2 n).val, (seenV p.2 n).num⟩
def scanS (s : StD) (a b : ByteArray) (n : Nat) (most : Int) : List It := if n < s.low then [] else (scanAll s.ks a b n).take most.toNat
def getV (s : StD) (k : ByteArray) (n : Nat) : Ver := if n < s.low then noVer else seenV (getK s.ks k) n
def oldE (s : StD) (n : Nat) : Int := if n < s.low then 9 else 0
def countK (m : KV) : Nat := (items m).length
def colOK (s : StD) (low : Nat) : Bool := decide (s.low ≤ low) && decide (low ≤ s.last)
def colS (s : StD) (low : Nat) : StD := if colOK s low then ⟨colK s.ks low, s.last, low⟩ else s
def colN (s : StD) (low : Nat) : Int := if colOK s low then (countK s.ks : Int) - (countK (colK s.ks low) : Int) else 0
def colE (s : StD) (low : Nat) : Int := if colOK s low then 0 else 1
def st0 : StD := ⟨[], 0, 0⟩

structure StOK (s : StD) : Prop where
  rises : RisesK s.ks
  ne : ∀ p ∈ s.ks, p.2 ≠ []
  falls : ∀ p ∈ s.ks, Falls p.2
  top : ∀ p ∈ s.ks, ∀ v ∈ p.2, 1 ≤ v.num ∧ v.num ≤ s.last
  key : ∀ p ∈ s.ks, keyB p.1 = true
  val : ∀ p ∈ s.ks, ∀ v ∈ p.2, formedV v.val = true
  cut : ∀ p ∈ s.ks, colV p.2 s.low = p.2
  low : s.low ≤ s.last
theorem st0_ok : StOK st0 := ⟨by simp [RisesK, st0], by simp [st0], by simp [st0], by simp [st0], by simp [st0], by simp [st0], by simp [st0], by simp [st0]⟩
theorem getK_in {m : KV} {k : ByteArray} (h : getK m k ≠ []) : (k, getK m k) ∈ m := by
  induction m with
  | nil => exact absurd rfl h
  | cons p m ih =>
    rw [getK] at h ⊢
    split
    · rename_i e; subst e; simp
    · rename_i e; rw [if_neg e] at h; simp [ih h]
theorem StOK.getK {s : StD} (h : StOK s) (k : ByteArray) : Falls (getK s.ks k) ∧ (∀ v ∈ getK s.ks k, 1 ≤ v.num ∧ v.num ≤ s.last) ∧ (∀ v ∈ getK s.ks k, formedV v.val = true) ∧ colV (getK s.ks k) s.low = getK s.ks k := by
  by_cases hk : Go.Proofs.YtboiafchmdflpaaGreatDoor.getK s.ks k = []
  · rw [hk]; exact ⟨by simp [Falls], by simp, by simp, rfl⟩
  · have hm := getK_in hk
    exact ⟨h.falls _ hm, h.top _ hm, h.val _ hm, h.cut _ hm⟩
theorem wrsOK_at {l : List Wr} (h : wrsOK l = true) {k : Nat} (hk : k < l.length) : keyB (l.getD k noWr).key = true ∧ formedV (l.getD k noWr).val = true := by
  have := wrsTo_le (Nat.succ_le_of_lt hk) h
  simp only [wrsTo, wrOK, Bool.and_eq_true] at this
  exact ⟨this.2.1.1, this.2.1.2⟩
theorem wrsOK_mem {l : List Wr} (h : wrsOK l = true) : ∀ x ∈ l, keyB x.key = true ∧ formedV x.val = true := fun x hx => by
  obtain ⟨k, hk, rfl⟩ := List.mem_iff_getElem.1 hx
  have := wrsOK_at h hk
  rwa [List.getD_eq_getElem?_getD, List.getElem?_eq_getElem hk] at this
/-- In the midst of Apply: what has been put is of the number n, each key once. -/
structure MidOK (m : KV) (last low n : Nat) (seen : List Wr) : Prop where
  rises : RisesK m
  ne : ∀ p ∈ m, p.2 ≠ []
  falls : ∀ p ∈ m, Falls p.2
  top : ∀ p ∈ m, ∀ v ∈ p.2, 1 ≤ v.num ∧ (v.num ≤ last ∨ (v.num = n ∧ ∃ x ∈ seen, x.key = p.1))
  key : ∀ p ∈ m, keyB p.1 = true
  val : ∀ p ∈ m, ∀ v ∈ p.2, formedV v.val = true
  cut : ∀ p ∈ m, colV p.2 low = p.2
theorem mid_step {m : KV} {last low n : Nat} {seen : List Wr} {x : Wr} (h : MidOK m last low n seen) (hn : last < n) (hl : low ≤ last) (hk : keyB x.key = true) (hv : formedV x.val = true) (hx : ∀ y ∈ seen, y.key ≠ x.key) : MidOK (putW n m x) last low n (seen ++ [x]) := by
  have hold : ∀ v ∈ Go.Proofs.YtboiafchmdflpaaGreatDoor.getK m x.key, v.num ≤ last := fun v hv => by
    have hm := getK_in (List.ne_nil_of_mem hv)
    rcases (h.top _ hm v hv).2 with h1 | ⟨_, y, hy, e⟩
    · exact h1
    · exact absurd e (hx y hy)
  have hg : ∀ p ∈ putW n m x, p = (x.key, (⟨n, x.val⟩ : Ver) :: Go.Proofs.YtboiafchmdflpaaGreatDoor.getK m x.key) ∨ p ∈ m := fun p hp => mem_putK hp
  refine ⟨putK_rises h.rises _ _, fun p hp => ?_, fun p hp => ?_, fun p hp => ?_, fun p hp => ?_, fun p hp => ?_, fun p hp => ?_⟩
  · rcases hg p hp with rfl | hp
    · simp
    · exact h.ne p hp
  · rcases hg p hp with rfl | hp
    · refine List.pairwise_cons.2 ⟨fun v hv => by have := hold v hv; show v.num < n; omega, ?_⟩
      by_cases e : Go.Proofs.YtboiafchmdflpaaGreatDoor.getK m x.key = []
      · rw [e]; exact List.Pairwise.nil
      · exact h.falls _ (getK_in e)
    · exact h.falls p hp
  · intro v hv
    rcases hg p hp with rfl | hp
    · rcases List.mem_cons.1 hv with rfl | hv
      · exact ⟨by show 1 ≤ n; omega, .inr ⟨rfl, x, by simp, rfl⟩⟩
      · exact ⟨(h.top _ (getK_in (List.ne_nil_of_mem hv)) v hv).1, .inl (hold v hv)⟩
    · refine ⟨(h.top p hp v hv).1, ?_⟩
      rcases (h.top p hp v hv).2 with h1 | ⟨h1, y, hy, e⟩
      · exact .inl h1
      · exact .inr ⟨h1, y, by simp [hy], e⟩
  · rcases hg p hp with rfl | hp
    · exact hk
    · exact h.key p hp
  · intro v hv'
    rcases hg p hp with rfl | hp
    · rcases List.mem_cons.1 hv' with rfl | hv'
      · exact hv
      · exact h.val _ (getK_in (List.ne_nil_of_mem hv')) v hv'
    · exact h.val p hp v hv'
  · rcases hg p hp with rfl | hp
    · show colV (_ :: _) low = _
      rw [colV, if_pos (show low < n by omega)]
      by_cases e : Go.Proofs.YtboiafchmdflpaaGreatDoor.getK m x.key = []
      · rw [e]; rfl
      · rw [h.cut _ (getK_in e)]
    · exact h.cut p hp
theorem rise_lt {l : List Wr} (h : wrsOK l = true) : ∀ {i k : Nat}, i < k → k < l.length → lessS (l.getD i noWr).key (l.getD k noWr).key = true := by
  intro i k hik hk
  induction k with
  | zero => omega
  | succ k ih =>
    have := wrsTo_le (Nat.succ_le_of_lt hk) h
    simp only [wrsTo, wrOK, Bool.and_eq_true, Bool.or_eq_true, beq_iff_eq] at this
    have h2 : lessS (l.getD k noWr).key (l.getD (k + 1) noWr).key = true := by
      rcases this.2.2 with e | e
      · omega
      · simpa using e
    by_cases e : i = k
    · subst e; exact h2
    · exact lessS_trans (ih (by omega) (by omega)) h2
theorem mid_to {s : StD} {n : Nat} {l : List Wr} (h : StOK s) (hn : s.last < n) (hl : wrsOK l = true) : ∀ k, k ≤ l.length → MidOK (putWs n s.ks (l.take k)) s.last s.low n (l.take k) := by
  intro k
  induction k with
  | zero => intro _; exact ⟨h.rises, h.ne, h.falls, fun p hp v hv => ⟨(h.top p hp v hv).1, .inl (h.top p hp v hv).2⟩, h.key, h.val, h.cut⟩
  | succ k ih =>
    intro hk
    have e : l.getD k noWr = l[k] := by rw [List.getD_eq_getElem?_getD, List.getElem?_eq_getElem (by omega)]; rfl
    rw [List.take_succ_eq_append_getElem (by omega), putWs_snoc, ← e]
    have h2 := wrsOK_at hl (show k < l.length by omega)
    refine mid_step (ih (by omega)) hn h.low h2.1 h2.2 fun y hy => ?_
    obtain ⟨i, hi, rfl⟩ := List.mem_iff_getElem.1 hy
    simp only [List.length_take] at hi
    have := rise_lt hl (show i < k by omega) (by omega)
    rw [List.getElem_take]
    rw [List.getD_eq_getElem?_getD, List.getElem?_eq_getElem (show i < l.length by omega)] at this
    exact lessS_ne this
theorem apply_ok {s : StD} (h : StOK s) (n : Nat) (l : List Wr) : StOK (applyS s n l) := by
  unfold applyS
  split
  · exact h
  · split
    · rename_i hn hl
      have hm := mid_to h (show s.last < n by omega) hl l.length (Nat.le_refl _)
      rw [List.take_length] at hm
      refine ⟨hm.rises, hm.ne, hm.falls, fun p hp v hv => ⟨(hm.top p hp v hv).1, ?_⟩, hm.key, hm.val, hm.cut, ?_⟩
      · show v.num ≤ n
        rcases (hm.top p hp v hv).2 with h1 | ⟨h1, _⟩ <;> omega
      · show s.low ≤ n
        have := h.low
        omega
    · exact h
theorem col_ok {s : StD} (h : StOK s) (n : Nat) : StOK (colS s n) := by
  unfold colS
  split
  · rename_i hc
    simp only [colOK, Bool.and_eq_true, decide_eq_true_eq] at hc
    refine ⟨colK_rises h.rises _, fun p hp => ?_, fun p hp => ?_, fun p hp v hv => ?_, fun p hp => ?_, fun p hp v hv => ?_, fun p hp => ?_, hc.2⟩
    all_goals obtain ⟨q, hq, rfl, hne⟩ := mem_colK hp
    · exact hne
    · exact colV_falls (h.falls q hq) _
    · exact h.top q hq v (colV_sub v hv)
    · exact h.key q hq
    · exact h.val q hq v (colV_sub v hv)
    · exact colV_twice _ _
  · exact h
end Go.Proofs.YtboiafchmdflpaaGreatDoor
/- Rows of versions; slices.Insert(s, 0, v) at versions. -/
namespace Go.Proofs.YtboiafchmdflpaaGreatDoor
open Go.RowKit

def verC (v : Ver) : List Value := [.int .u64 (v.num : Int), .int .i64 v.val.kind, .int .u64 (v.val.bits : Int), .string v.val.text]
def verCs (l : List Ver) : List Value := l.flatMap verC
theorem verCs_cons (v : Ver) (l : List Ver) : verCs (v :: l) = verC v ++ verCs l := rfl
theorem verCs_len : ∀ l : List Ver, (verCs l).length = l.length * 4
  | [] => rfl
  | x :: l => by have := verCs_len l; rw [verCs_cons, List.length_append, this]; simp [verC]; omega
theorem verC_one (v : Ver) : ∀ u ∈ verC v, u.oneCell' = true := fun u hu => by
  simp only [verC, List.mem_cons, List.not_mem_nil, or_false] at hu
  rcases hu with rfl | rfl | rfl | rfl <;> rfl
theorem verCs_one (l : List Ver) : ∀ u ∈ verCs l, u.oneCell' = true := fun u hu => by
  obtain ⟨x, _, hu⟩ := List.mem_flatMap.1 hu
  exact verC_one x u hu
theorem info_ver : (Tryz.prog.info? 72).map (fun i => (i.zero, i.size, i.bytes)) = some (some (.agg #[.int .u64 0, .int .i64 0, .int .u64 0, .string ByteArray.empty]), 4, 40) := by kernel_rfl
/-- A slice of versions of the call's own. -/
def OwnV (w : World) (B : Nat) (v : Value) (l : List Ver) : Prop := w.ownsRow B 72 4 v l.length (verCs l)
def InsPost (w : World) (B : Nat) (v0 : Value) (l : List Ver) (e : Ending) (w' : World) : Prop :=
  ∃ v', e = .returned v' ∧ OwnV w' B v' l ∧ w.grownBy w' v0.ownBlock ∧ (v'.ownBlock = v0.ownBlock ∨ ∃ g, v'.ownBlock = some g ∧ w.heap.size ≤ g)

theorem min_fst {a b n k : Nat} (h : a ≤ b) (hn : n = a * k) : n = Nat.min a b * k := by rw [show Nat.min a b = a from Nat.min_eq_left h]; exact hn
theorem verCs_append (l m : List Ver) : verCs (l ++ m) = verCs l ++ verCs m := by simp [verCs]
theorem one_cells (v : Ver) : ∀ (w : World) (vb : Nat), w.heap[vb]? = some (.cells (verC v).toArray 72 (0, 0)) → ∀ j u, (verC v)[j]? = some u → w.cell? ((⟨vb, 0, none⟩ : Addr).add j) = some u := fun w vb h j u hu => by
  rw [Go.WideShapes.add_plain, cell_of_row w vb (0 + j) _ _ (0, 0) h, ← hu]
  simp
theorem min_snd {a b n k : Nat} (h : b ≤ a) (hn : n = b * k) : n = Nat.min a b * k := by rw [show Nat.min a b = b from Nat.min_eq_right h]; exact hn
theorem splice_two {α : Type} (L c x : List α) : (splice (splice L 0 c) c.length x).take (c.length + x.length) = c ++ x := by
  have e : (splice L 0 c) = c ++ L.drop c.length := by simp [splice]
  rw [e, splice, List.take_left, ← List.append_assoc]
  exact List.take_left' (by simp)
theorem splice_two' {α : Type} (L c x : List α) (h : c.length + x.length ≤ L.length) : (splice (splice L c.length x) 0 c).take (c.length + x.length) = c ++ x := by
  have e : (splice L c.length x).drop c.length = x ++ L.drop (c.length + x.length) := by
    rw [splice, List.drop_append_of_le_length (by simp; omega), List.drop_take_self, List.nil_append]
  rw [splice, List.take_zero, List.nil_append, Nat.zero_add, e, ← List.append_assoc]
  exact List.take_left' (by simp)
set_option maxRecDepth 100000 in
set_option maxHeartbeats 2000000 in
theorem insert_any (l : List Ver) (v : Ver) (B vb : Nat) (v0 : Value) (w : World) (h0 : OwnV w B v0 l) (hv : w.heap[vb]? = some (.cells (verC v).toArray 72 (0, 0))) (hne : v0.ownBlock ≠ some vb) (hB : B ≤ w.heap.size) (hn : l.length ≤ 900000) (hnn : l = [] → v0 = .slice none 0 0) :
    Calls Tryz.prog 45 #[v0, .int .i64 0, .slice (some ⟨vb, 0, none⟩) 1 1] w (InsPost w B v0 (v :: l)) := by
  obtain ⟨i0, hi, hz0, hz1, hz2⟩ := info_parts info_ver
  have hsz : (Tryz.prog.info? 72).map (·.size) = some 4 := by kernel_rfl
  have H0 := Lib.hid h0
  have HV := Lib.hid hv
  have hvc := one_cells v
  have HC := Lib.hid hvc
  clear hvc
  have hvlt : vb < w.heap.size := (Array.getElem?_eq_some_iff.1 hv).1
  clear hv
  rcases h0.2 with ⟨rfl, hl0⟩ | ⟨g, cap, cur, rfl, hg, hrow, hncap, hcm, hcs, htk⟩
  · have hl : l = [] := List.eq_nil_of_length_eq_zero hl0
    subst hl
    clear h0 hl0
    go_enter Tryz.func45, Tryz.ntmps45
    go_wp2_with (at_builtin; refine wpList_append_own_at _ rfl _ _ 63 rfl B 72 i0 _ 4 40 Tryz.underlying63 hi hz0 hz1 hz2 rfl (by decide) (.slice none 0 0) 0 [] rfl (own_nil _ _ _ _) ⟨vb, 0, none⟩ 1 1 (verC v) rfl rfl (HC.out _ _ HV.out) (verC_one v) (le_maxLen (by omega)) (by omega) hB ?_; intro v' w1 hown hgr hb1 hb2)
    go_ret
    refine ⟨v', rfl, ?_, hgr, ?_⟩
    · exact hown
    · rcases hb2 with e | e
      · exact .inl e
      · exact .inr ⟨_, e, Nat.le_refl _⟩
  · have hl : l ≠ [] := fun e => by cases hnn e
    have hpos : 0 < l.length := List.length_pos_iff.2 hl
    have HO := Lib.hid (fun j u hj => World.ownsRow.cells (g := g) h0 rfl j u hj)
    have HR := Lib.hid hrow
    have HT := Lib.hid htk
    have hglt : g < w.heap.size := (Array.getElem?_eq_some_iff.1 hrow).1
    have HK := Lib.hid (verCs_len l)
    have HS := Lib.hid hcs
    have HM := Lib.hid hcm
    clear h0 hnn hl hrow htk hcs hcm
    have hb0 : ((l.length : Int) == 0) = false := by rw [beq_eq_false_iff_ne]; omega
    have hb1 : ((0 : Int) == (l.length : Int)) = false := by rw [beq_eq_false_iff_ne]; omega
    have hgv : g ≠ vb := fun e => hne (by rw [e]; rfl)
    clear hne
    by_cases hroom : l.length + 1 ≤ cap
    · have hov : (callFunc 62 #[.slice (some ⟨vb, 0, none⟩) 1 1, .slice (some ⟨g, 4, none⟩) l.length (cap - 1)]).run Tryz.prog w = .ok (.value (.bool false)) w := by
        rw [run_callFunc_extern Tryz.func62 (by kernel_rfl) (by kernel_rfl) (by kernel_rfl) (e := Extern.SlicesOverlaps.overlaps #[63, 63] #[4]) (by kernel_rfl),
          Lib.run_overlaps_apart w 63 4 72 Tryz.underlying63 4 (fun w => by obtain ⟨i1, h1, _, h2, _⟩ := info_parts info_ver; simp [sizeOf, typeInfo, h1, h2]) ⟨vb, 0, none⟩ ⟨g, 4, none⟩ 1 1 l.length (cap - 1) (fun e => hgv e.symm) 72 72 4 (cap * 4)
            (by simp [World.shape?, HV.out, verC]) (by simp [World.shape?, HR.out, HS.out]) (by omega) (by simp [World.frozen?, HV.out]) (by simp [World.frozen?, HV.out])]
        rfl
      have hb2 : ¬ (cap < l.length + 1) := by omega
      have hb3 : ¬ ((cap : Int) < (l.length : Int) + 1) := by omega
      have hcp : ¬ (cap = 0) := by omega
      have hcp1 : ¬ (cap = 1) := by omega
      have hw1 : IntKind.i64.wrap 1 = 1 := by decide
      have hbd : (1 : Int) ≤ (l.length : Int) + 1 := by omega
      have hbd2 : (l.length : Int) + 1 ≤ (cap : Int) := by omega
      have hbd0 : (0 : Int) ≤ (l.length : Int) + 1 := by omega
      have hcap63 : cap ≤ 9223372036854775807 := by have := HM.out; unfold maxLen at this; omega
      go_enter Tryz.func45, Tryz.ntmps45
      go_wp2_with (simp only [hov])
      have hcs := HS.out
      have hcurl : cur.toList.length = cap * 4 := by rw [Array.length_toList, hcs]
      replace hcs := Lib.hid hcs
      replace hcurl := Lib.hid hcurl
      go_region_law ((refine step_copy_spliceS rfl _ _ 63 63 rfl 72 4 Tryz.underlying63 hsz g 4 l.length (cap - 1) ⟨g, 0, none⟩ (l.length + 1) cap (by simp [Act.eval, Act.put]) (by simp [Act.eval, Act.put]) cur.toList 72 (by exact HR.out) (verCs l) (min_snd (by omega) HK.out) HO.out (by rw [hcurl.out, HK.out]; omega) (verCs_one l) ?_; intro n2 w2 hrow2 hgr2))
      all_goals
        have hsl : (splice cur.toList 4 (verCs l)).length = cap * 4 := by rw [length_splice _ _ _ (by rw [hcurl.out, HK.out]; omega)]; exact hcurl.out
        replace hsl := Lib.hid hsl
        go_wp2_with (have _h := hrow2; refine wpList_copy_spliceS rfl _ _ 63 63 rfl 72 4 Tryz.underlying63 hsz g 0 (l.length + 1) cap ⟨vb, 0, none⟩ 1 1 rfl rfl (splice cur.toList 4 (verCs l)) 72 hrow2.out (verC v) (min_fst (by omega) rfl) (fun j u hj => hgr2.cell (HC.out _ _ HV.out j u hj) (by rw [Go.WideShapes.add_plain]; simp; omega)) (by rw [hsl.out]; show 0 + 4 ≤ _; omega) (verC_one v) ?_; intro n3 w3 hrow3 hgr3)
        go_ret
        have hlen : (verC v).length + (verCs l).length ≤ cur.toList.length := by rw [HK.out, hcurl.out]; show 4 + _ ≤ _; omega
        refine ⟨_, rfl, ⟨?_, .inr ⟨g, cap, _, rfl, hg, hrow3.out, hroom, HM.out, ?_, ?_⟩⟩, ?_, .inl rfl⟩
        · rw [verCs_len]
        · have := length_splice (splice cur.toList 4 (verCs l)) 0 (verC v) (by rw [hsl.out]; show 0 + 4 ≤ _; omega)
          rw [List.size_toArray, this, hsl.out]
        · have := splice_two' cur.toList (verC v) (verCs l) hlen
          rw [HK.out] at this
          rw [show (v :: l).length * 4 = (verC v).length + l.length * 4 by show (l.length + 1) * 4 = 4 + _; omega]
          exact this
        · refine ⟨hgr3.os.trans hgr2.os, hgr3.tape.trans hgr2.tape, hgr3.output.trans hgr2.output, Nat.le_trans hgr2.size hgr3.size, fun k hk hne => ?_⟩
          have h2 := hgr2.size
          rw [hgr3.block k (by have h4 : w.drew.heap.size = w.heap.size := rfl; omega) hne, hgr2.block k hk hne]
          rfl
    · have hc3 : (cap : Int) < (l.length : Int) + 1 := by omega
      go_enter Tryz.func45, Tryz.ntmps45
      go_wp2_with (first
        | (at_builtin; refine wpList_append_zeros rfl _ _ 63 3 rfl 72 i0 _ 4 40 Tryz.underlying63 Tryz.underlying3 hi hz0 hz1 hz2 rfl (by decide) (some ⟨g, 0, none⟩) cap (l.length + 1) _ rfl rfl (by simp) (by omega) (by omega) (by omega) (by omega) ?_; intro G cur1 w1 hG1 hG2 hcl1 hrow1 hgr1 hsz1; replace hrow1 := Lib.hid hrow1; replace hcl1 := Lib.hid hcl1; replace hsz1 := Lib.hid hsz1)
        | (have _h := hrow1; refine wpList_copy_spliceS rfl _ _ 63 63 rfl 72 4 Tryz.underlying63 hsz w.heap.size 0 (l.length + 1) G ⟨vb, 0, none⟩ 1 1 rfl rfl cur1 72 hrow1.out (verC v) (min_fst (by omega) rfl) (fun j u hj => hgr1.cell (HC.out _ _ HV.out j u hj) (by simp)) (by have := hcl1.out; show 0 + 4 ≤ _; omega) (verC_one v) ?_; intro n2 w2 hrow2 hgr2))
      have hG3 : ¬ (G = 1) := by omega
      have hcp : ¬ (cap = 0) := by omega
      have hw1 : IntKind.i64.wrap 1 = 1 := by decide
      have hbd : (1 : Int) ≤ (l.length : Int) + 1 := by omega
      have hsl : (splice cur1 0 (verC v)).length = G * 4 := by rw [length_splice _ _ _ (by have := hcl1.out; show 0 + 4 ≤ _; omega)]; exact hcl1.out
      replace hsl := Lib.hid hsl
      go_region_law ((refine step_copy_spliceS rfl _ _ 63 63 rfl 72 4 Tryz.underlying63 hsz w.heap.size 4 l.length (G - 1) ⟨g, 0, none⟩ l.length cap (by simp [Act.eval, Act.put]) (by simp [Act.eval, Act.put]) (splice cur1 0 (verC v)) 72 hrow2.out (verCs l) (min_fst (Nat.le_refl _) HK.out) (fun j u hj => hgr2.cell (hgr1.cell (HO.out j u hj) (by simp)) (by rw [Go.WideShapes.add_plain]; simp; omega)) (by rw [hsl.out, HK.out]; omega) (verCs_one l) ?_; intro n3 w3 hrow3 hgr3))
      all_goals
        go_wp2
        go_ret
        refine ⟨_, rfl, ⟨?_, .inr ⟨w.heap.size, G, _, rfl, hB, hrow3.out, hG1, by unfold maxLen; omega, ?_, ?_⟩⟩, ?_, .inr ⟨w.heap.size, rfl, Nat.le_refl _⟩⟩
        · rw [verCs_len]
        · have := length_splice (splice cur1 0 (verC v)) 4 (verCs l) (by rw [hsl.out, HK.out]; omega)
          rw [List.size_toArray, this, hsl.out]
        · have := splice_two cur1 (verC v) (verCs l)
          rw [HK.out] at this
          rw [show (v :: l).length * 4 = (verC v).length + l.length * 4 by show (l.length + 1) * 4 = 4 + _; omega]
          exact this
        · have hsz1' := hsz1.out
          have h2 := hgr2.size
          refine ⟨hgr3.os.trans (hgr2.os.trans hgr1.os), hgr3.tape.trans (hgr2.tape.trans hgr1.tape), hgr3.output.trans (hgr2.output.trans hgr1.output), by have := hgr3.size; have h4 : w2.drew.heap.size = w2.heap.size := rfl; omega, fun k hk _ => ?_⟩
          rw [hgr3.block k (by show k < w2.heap.size; omega) (by simp; omega), show w2.drew.heap[k]? = w2.heap[k]? from rfl, hgr2.block k (by omega) (by simp; omega), hgr1.block k hk (by simp)]
end Go.Proofs.YtboiafchmdflpaaGreatDoor
/- How a store lies in memory: a map of rows of versions. -/
namespace Go.Proofs.YtboiafchmdflpaaGreatDoor
open Go.RowKit Go.Maps

/-! ### Elements that are held as they are -/
def heldE (v : Value) : Option (DataW Value × List MemPlace) := some (.held v, [])
theorem heldE_inv {v u : Value} {ps : List MemPlace} (h : heldE v = some (.held u, ps)) : v = u := by
  simp only [heldE, Option.some.injEq, Prod.mk.injEq, DataW.held.injEq] at h
  exact h.1
def lit (k : ByteArray) : Lit := .string k.data.toList
theorem lit_inj {a b : ByteArray} (h : lit a = lit b) : a = b := by
  simp only [lit, Lit.string.injEq] at h
  cases a; cases b
  simp at h
  simp [h]
theorem lit_key (k : ByteArray) : WideAt.IsKeyLit (lit k) := trivial
theorem keyS : Keyed Tryz.prog 9 := string_keyed Tryz.underlying9
theorem keyOf_lit {k : ByteArray} (h : k.size ≤ maxLen) : keyOf Tryz.prog 9 (.string k) = some (lit k) := WideMaps.keyOf_string_mk Tryz.underlying9 h
theorem keyOf_inv {key : Value} {kl : Lit} (h : keyOf Tryz.prog 9 key = some kl) : ∃ s : ByteArray, key = .string s ∧ kl = lit s ∧ s.size ≤ maxLen := by
  cases key <;> simp [keyOf, Tryz.underlying9, mapKey] at h
  obtain ⟨hs, rfl⟩ := h
  exact ⟨_, rfl, rfl, hs⟩
theorem atKey_out {D : DataW Value} {kl : Lit} (h : Maps.has D kl = false) (z : DataW Value) : D.atKey kl z = z := by
  cases D <;> try rfl
  rename_i es
  simp only [Maps.has] at h
  have : es.find? (fun p => p.1.sameKey kl) = none := by
    rw [List.find?_eq_none]
    intro p hp hs
    rw [List.any_eq_false] at h
    exact h p hp hs
  simp [DataW.atKey, this]


/-- A map's block mb: at each key the slice V k, which owns the key's versions; no two in one row. -/
structure KeysAt (w : World) (B N mb : Nat) (D : DataW Value) (V : ByteArray → Value) (O : Nat → Prop) (m : KV) : Prop where
  own : w.ownsMap Tryz.prog 9 heldE mb N D
  has : ∀ k, Maps.has D (lit k) = !(getK m k).isEmpty
  at_ : ∀ k z, getK m k ≠ [] → D.atKey (lit k) z = .held (V k)
  row : ∀ k, OwnV w B (V k) (getK m k)
  nil : ∀ k, getK m k = [] → V k = .slice none 0 0
  apart : ∀ k k' g, k ≠ k' → (V k).ownBlock = some g → (V k').ownBlock ≠ some g
  mine : ∀ k g, (V k).ownBlock = some g → O g ∧ g ≠ mb
  hm : O mb
theorem KeysAt.out' {w w' : World} {B N mb : Nat} {D : DataW Value} {V : ByteArray → Value} {O O' : Nat → Prop} {m : KV} (h : KeysAt w B N mb D V O m) (hw : Out O' w w') (hm : ¬ O' mb) (hr : ∀ k g, (V k).ownBlock = some g → ¬ O' g) : KeysAt w' B N mb D V O m :=
  ⟨hw.map h.own hm, h.has, h.at_, fun k => hw.row (h.row k) (fun g hg => hr k g hg), h.nil, h.apart, h.mine, h.hm⟩
theorem KeysAt.out {w w' : World} {B N mb : Nat} {D : DataW Value} {V : ByteArray → Value} {O O' : Nat → Prop} {m : KV} (h : KeysAt w B N mb D V O m) (hw : Out O' w w') (hd : ∀ k, O k → ¬ O' k) : KeysAt w' B N mb D V O m :=
  h.out' hw (hd _ h.hm) (fun k g hg => hd g (h.mine k g hg).1)
theorem KeysAt.mono {w : World} {B N mb : Nat} {D : DataW Value} {V : ByteArray → Value} {O O' : Nat → Prop} {m : KV} (h : KeysAt w B N mb D V O m) (hs : ∀ k, O k → O' k) : KeysAt w B N mb D V O' m :=
  ⟨h.own, h.has, h.at_, h.row, h.nil, h.apart, fun k g hg => ⟨hs g (h.mine k g hg).1, (h.mine k g hg).2⟩, hs _ h.hm⟩
theorem KeysAt.later {w w' : World} {B N mb : Nat} {D : DataW Value} {V : ByteArray → Value} {O : Nat → Prop} {m : KV} (h : KeysAt w B N mb D V O m) (hb : Below w.heap.size w w') : KeysAt w' B N mb D V O m :=
  h.out (O' := fun _ => False) (Out.of_below hb) (fun _ _ h => h)
theorem zeroR (w : World) : (zeroValue 63).run Tryz.prog w = .ok (.slice none 0 0) w := by kernel_rfl
/-- 's.keys[k]'. -/
theorem look_of {w : World} {N mb : Nat} {D : DataW Value} {V : ByteArray → Value} {m : KV} (own : w.ownsMap Tryz.prog 9 heldE mb N D) (has : ∀ k, Maps.has D (lit k) = !(getK m k).isEmpty)
    (at_ : ∀ k z, getK m k ≠ [] → D.atKey (lit k) z = .held (V k)) (nil : ∀ k, getK m k = [] → V k = .slice none 0 0) (k : ByteArray) (hk : k.size ≤ maxLen) :
    (Instr.lookup 47 (.map (some mb)) (.string k) false).run Tryz.prog w = .ok (V k) w := by
  refine Exists.elim (own.lookup keyS Tryz.underlying47 (zeroR w) (zd := .held (.slice none 0 0)) rfl (keyOf_lit hk)) fun v ⟨ps, hrun, hv⟩ => ?_
  suffices hvV : v = V k by rw [hrun, hvV]
  by_cases hm : getK m k = []
  · have h0 : Maps.has D (lit k) = false := by rw [has, hm]; rfl
    rw [atKey_out h0] at hv
    rw [nil k hm]
    exact heldE_inv hv
  · rw [at_ k _ hm] at hv
    exact heldE_inv hv
theorem KeysAt.look {w : World} {B N mb : Nat} {D : DataW Value} {V : ByteArray → Value} {O : Nat → Prop} {m : KV} (h : KeysAt w B N mb D V O m) (k : ByteArray) (hk : k.size ≤ maxLen) :
    (Instr.lookup 47 (.map (some mb)) (.string k) false).run Tryz.prog w = .ok (V k) w := look_of h.own h.has h.at_ h.nil k hk
theorem getK_len (m : KV) (k : ByteArray) : (getK m k).length ≤ (items m).length := by
  induction m with
  | nil => exact Nat.le_refl _
  | cons p m ih =>
    have e : (items (p :: m)).length = p.2.length + (items m).length := by
      rw [show items (p :: m) = itemsOf p ++ items m from rfl, List.length_append, itemsOf, List.length_map]
    rw [getK, e]
    split <;> omega
/-- Behind 's.keys[k] = v', v a row of its own. -/
theorem KeysAt.put {w w1 w2 w3 : World} {B N mb : Nat} {D : DataW Value} {V : ByteArray → Value} {O : Nat → Prop} {m : KV} (h : KeysAt w B N mb D V O m) (hris : RisesK m) (hlt : ∀ k, O k → B ≤ k ∧ k < w.heap.size) (hb : Below w.heap.size w w1) {k : ByteArray} {v : Value} {l : List Ver} (hl : l ≠ [])
    (hr : OwnV w2 B v l) (hg : w1.grownBy w2 (V k).ownBlock) (ho : v.ownBlock = (V k).ownBlock ∨ ∃ g, v.ownBlock = some g ∧ w1.heap.size ≤ g)
    (hown : w3.ownsMap Tryz.prog 9 heldE mb (N + 1) (D.put (lit k) (.held v))) (ht : w2.mapTurned w3 mb) :
    KeysAt w3 B (N + 1) mb (D.put (lit k) (.held v)) (fun x => if x = k then v else V x) (ext O w w3) (putK m k l) := by
  have ht' := ht.grown
  have hs1 := hb.size
  have hs2 := hg.size
  have hs3 := ht'.size
  have hmlt : mb < w.heap.size := (hlt mb h.hm).2
  have him : IsMap D := h.own.isMap
  have hvm : ∀ g, v.ownBlock = some g → g ≠ mb := by
    intro g hgv
    rcases ho with e | ⟨g', e, hge⟩
    · rw [e] at hgv; exact (h.mine k g hgv).2
    · rw [e] at hgv; injection hgv with hgv; omega
  refine ⟨hown, fun x => ?_, fun x z hx => ?_, fun x => ?_, fun x hx => ?_, fun x y g hxy hx hy => ?_, fun x g hx => ?_, .inl h.hm⟩
  · rw [getK_putK hris]
    by_cases e : x = k
    · subst e
      rw [if_pos rfl, has_put_same him (lit_key _)]
      cases l with
      | nil => exact absurd rfl hl
      | cons a l => rfl
    · rw [if_neg e, has_put_other (fun he => e (lit_inj he)), h.has]
  · rw [getK_putK hris] at hx
    by_cases e : x = k
    · subst e
      rw [atKey_put_same him (lit_key _)]
      simp
    · rw [if_neg e] at hx
      rw [atKey_put_other (fun he => e (lit_inj he)), h.at_ x z hx]
      simp [e]
  · rw [getK_putK hris]
    by_cases e : x = k
    · subst e
      simp only [↓reduceIte]
      exact hr.kept ht' (by
        cases hv : v.ownBlock with
        | none => exact .inl rfl
        | some g => exact .inr (fun he => hvm g hv (by injection he)))
    · simp only [e, if_false]
      have hold : ∀ g, (V x).ownBlock = some g → g ≠ mb ∧ (V k).ownBlock ≠ some g := fun g hgx => ⟨(h.mine x g hgx).2, h.apart x k g e hgx⟩
      have r1 : OwnV w1 B (V x) (getK m x) := own_keep (h.row x) hb
      have r2 : OwnV w2 B (V x) (getK m x) := r1.kept hg (by
        cases hv : (V x).ownBlock with
        | none => exact .inl rfl
        | some g => exact .inr (fun he => (hold g hv).2 he.symm))
      exact r2.kept ht' (by
        cases hv : (V x).ownBlock with
        | none => exact .inl rfl
        | some g => exact .inr (fun he => (hold g hv).1 (by injection he)))
  · rw [getK_putK hris] at hx
    by_cases e : x = k
    · rw [if_pos e] at hx; exact absurd hx hl
    · rw [if_neg e] at hx
      simp only [e, if_false]
      exact h.nil x hx
  · by_cases ex : x = k
    · replace hx : v.ownBlock = some g := by rw [← hx]; simp [ex]
      have ey : y ≠ k := fun e => hxy (by rw [ex, e])
      replace hy : (V y).ownBlock = some g := by rw [← hy]; simp [ey]
      rcases ho with e | ⟨g', e, hge⟩
      · rw [e] at hx
        exact h.apart k y g (Ne.symm ey) hx hy
      · rw [e] at hx
        injection hx with hx
        have := (hlt g (h.mine y g hy).1).2
        omega
    · replace hx : (V x).ownBlock = some g := by rw [← hx]; simp [ex]
      by_cases ey : y = k
      · replace hy : v.ownBlock = some g := by rw [← hy]; simp [ey]
        rcases ho with e | ⟨g', e, hge⟩
        · rw [e] at hy
          exact h.apart x k g ex hx hy
        · rw [e] at hy
          injection hy with hy
          have := (hlt g (h.mine x g hx).1).2
          omega
      · replace hy : (V y).ownBlock = some g := by rw [← hy]; simp [ey]
        exact h.apart x y g hxy hx hy
  · by_cases ex : x = k
    · replace hx : v.ownBlock = some g := by rw [← hx]; simp [ex]
      refine ⟨?_, hvm g hx⟩
      rcases ho with e | ⟨g', e, hge⟩
      · rw [e] at hx; exact .inl (h.mine k g hx).1
      · have hgl := (hr.lt g hx).2
        rw [e] at hx
        injection hx with hx
        exact .inr ⟨by omega, by omega⟩
    · replace hx : (V x).ownBlock = some g := by rw [← hx]; simp [ex]
      exact ⟨.inl (h.mine x g hx).1, (h.mine x g hx).2⟩

/-! ### A store -/
structure StoreIn (w : World) (B p N mb : Nat) (D : DataW Value) (V : ByteArray → Value) (O : Nat → Prop) (s : StD) : Prop where
  blk : w.heap[p]? = some (.cells #[.map (some mb), .int .u64 (s.last : Int), .int .u64 (s.low : Int)] 49 (0, 0))
  keys : KeysAt w B N mb D V O s.ks
  hp : O p
  n1 : p ≠ mb
  n2 : ∀ k g, (V k).ownBlock = some g → g ≠ p
  lt : ∀ k, O k → B ≤ k ∧ k < w.heap.size
def StoreAt (w : World) (B p N : Nat) (O : Nat → Prop) (s : StD) : Prop := ∃ mb D V, StoreIn w B p N mb D V O s
theorem StoreIn.c0 {w : World} {B p N mb : Nat} {D : DataW Value} {V : ByteArray → Value} {O : Nat → Prop} {s : StD} (h : StoreIn w B p N mb D V O s) : w.cell? ⟨p, 0, none⟩ = some (.map (some mb)) := by
  rw [cell_of_row w p 0 _ _ _ h.blk]; rfl
theorem StoreIn.c1 {w : World} {B p N mb : Nat} {D : DataW Value} {V : ByteArray → Value} {O : Nat → Prop} {s : StD} (h : StoreIn w B p N mb D V O s) : w.cell? ⟨p, 1, none⟩ = some (.int .u64 (s.last : Int)) := by
  rw [cell_of_row w p 1 _ _ _ h.blk]; rfl
theorem StoreIn.c2 {w : World} {B p N mb : Nat} {D : DataW Value} {V : ByteArray → Value} {O : Nat → Prop} {s : StD} (h : StoreIn w B p N mb D V O s) : w.cell? ⟨p, 2, none⟩ = some (.int .u64 (s.low : Int)) := by
  rw [cell_of_row w p 2 _ _ _ h.blk]; rfl
theorem StoreIn.fz {w : World} {B p N mb : Nat} {D : DataW Value} {V : ByteArray → Value} {O : Nat → Prop} {s : StD} (h : StoreIn w B p N mb D V O s) (j : Nat) : w.frozen? ⟨p, j, none⟩ = false := frozen_of_row w p j _ _ h.blk
theorem StoreIn.out {w w' : World} {B p N mb : Nat} {D : DataW Value} {V : ByteArray → Value} {O O' : Nat → Prop} {s : StD} (h : StoreIn w B p N mb D V O s) (hw : Out O' w w') (hd : ∀ k, O k → ¬ O' k) : StoreIn w' B p N mb D V O s :=
  ⟨hw.obj h.blk (hd _ h.hp), h.keys.out hw hd, h.hp, h.n1, h.n2, fun k hk => ⟨(h.lt k hk).1, Nat.lt_of_lt_of_le (h.lt k hk).2 hw.size⟩⟩
theorem StoreIn.later {w w' : World} {B p N mb : Nat} {D : DataW Value} {V : ByteArray → Value} {O : Nat → Prop} {s : StD} (h : StoreIn w B p N mb D V O s) (hb : Below w.heap.size w w') : StoreIn w' B p N mb D V O s :=
  h.out (O' := fun _ => False) (Out.of_below hb) (fun _ _ h => h)
theorem StoreAt.out {w w' : World} {B p N : Nat} {O O' : Nat → Prop} {s : StD} (h : StoreAt w B p N O s) (hw : Out O' w w') (hd : ∀ k, O k → ¬ O' k) : StoreAt w' B p N O s := by
  obtain ⟨mb, D, V, h⟩ := h
  exact ⟨mb, D, V, h.out hw hd⟩
theorem StoreAt.later {w w' : World} {B p N : Nat} {O : Nat → Prop} {s : StD} (h : StoreAt w B p N O s) (hb : Below w.heap.size w w') : StoreAt w' B p N O s :=
  h.out (O' := fun _ => False) (Out.of_below hb) (fun _ _ h => h)
theorem blk_set {w : World} {g j : Nat} {cur : Array Value} {t : TypeId} (v : Value) (h : w.heap[g]? = some (.cells cur t (0, 0))) : (w.setCell ⟨g, j, none⟩ v).heap[g]? = some (.cells (cur.setIfInBounds j v) t (0, 0)) := by
  rw [setCell_eq_setRow w g j cur t (0, 0) v h, setRow_heap w g cur _ t _ h]
theorem out_set (w : World) (b j : Nat) (u : Value) : Out (fun k => k = b) w (w.setCell ⟨b, j, none⟩ u) :=
  ⟨rfl, rfl, rfl, by simp [World.setCell], fun i _ hi => Below.heap_setCell _ _ _ _ hi⟩
theorem StoreIn.setLast {w : World} {B p N mb : Nat} {D : DataW Value} {V : ByteArray → Value} {O : Nat → Prop} {s : StD} (h : StoreIn w B p N mb D V O s) (n : Nat) : StoreIn (w.setCell ⟨p, 1, none⟩ (.int .u64 (n : Int))) B p N mb D V O ⟨s.ks, n, s.low⟩ := by
  have hb := blk_set (j := 1) (.int .u64 (n : Int)) h.blk
  have ho := out_set w p 1 (.int .u64 (n : Int))
  exact { blk := by simpa using hb, keys := h.keys.out' ho (fun e => h.n1 e.symm) (fun k g hg e => h.n2 k g hg e), hp := h.hp, n1 := h.n1, n2 := h.n2, lt := fun k hk => ⟨(h.lt k hk).1, by have := (h.lt k hk).2; have := ho.size; omega⟩ }
theorem StoreIn.setLow {w : World} {B p N mb : Nat} {D : DataW Value} {V : ByteArray → Value} {O : Nat → Prop} {s : StD} (h : StoreIn w B p N mb D V O s) (n : Nat) : StoreIn (w.setCell ⟨p, 2, none⟩ (.int .u64 (n : Int))) B p N mb D V O ⟨s.ks, s.last, n⟩ := by
  have hb := blk_set (j := 2) (.int .u64 (n : Int)) h.blk
  have ho := out_set w p 2 (.int .u64 (n : Int))
  exact { blk := by simpa using hb, keys := h.keys.out' ho (fun e => h.n1 e.symm) (fun k g hg e => h.n2 k g hg e), hp := h.hp, n1 := h.n1, n2 := h.n2, lt := fun k hk => ⟨(h.lt k hk).1, by have := (h.lt k hk).2; have := ho.size; omega⟩ }
theorem ext_eq {O : Nat → Prop} {w w1 w2 : World} (h1 : w.heap.size ≤ w1.heap.size) (h2 : w1.heap.size ≤ w2.heap.size) : ext (ext O w w1) w1 w2 = ext O w w2 := funext fun k => propext (ext_ext h1 h2 k)
/-- Behind 's.keys[k] = v', v a row of its own. -/
theorem StoreIn.put {w w1 w2 w3 : World} {B p N mb : Nat} {D : DataW Value} {V : ByteArray → Value} {O : Nat → Prop} {s : StD} (h : StoreIn w B p N mb D V O s) (hris : RisesK s.ks) (hb : Below w.heap.size w w1) {k : ByteArray} {v : Value} {l : List Ver} (hl : l ≠ [])
    (hr : OwnV w2 B v l) (hg : w1.grownBy w2 (V k).ownBlock) (ho : v.ownBlock = (V k).ownBlock ∨ ∃ g, v.ownBlock = some g ∧ w1.heap.size ≤ g)
    (hown : w3.ownsMap Tryz.prog 9 heldE mb (N + 1) (D.put (lit k) (.held v))) (ht : w2.mapTurned w3 mb) :
    StoreAt w3 B p (N + 1) (ext O w w3) ⟨putK s.ks k l, s.last, s.low⟩ ∧ Out O w w3 := by
  have hs1 := hb.size
  have hs2 := hg.size
  have hs3 := ht.grown.size
  have hk := h.keys.put hris h.lt hb hl hr hg ho hown ht
  have hplt := (h.lt p h.hp).2
  have hout : Out O w w3 := by
    refine ⟨ht.grown.os.trans (hg.os.trans hb.os), ht.grown.tape.trans (hg.tape.trans hb.tape), ht.grown.output.trans (hg.output.trans hb.output), by omega, fun x hx ho' => ?_⟩
    rw [ht.grown.block x (by omega) (fun e => ho' (by injection e with e; exact e ▸ h.keys.hm)), hg.block x (by omega) (fun e => ho' (h.keys.mine k x e.symm).1), hb.block x hx]
  refine ⟨⟨mb, D.put (lit k) (.held v), fun x => if x = k then v else V x, ?_⟩, hout⟩
  refine { blk := ?_, keys := hk, hp := .inl h.hp, n1 := h.n1, n2 := fun x g hx => ?_, lt := fun x hx => Or.elim hx (fun hx => ⟨(h.lt x hx).1, by have := (h.lt x hx).2; omega⟩) (fun hx => ⟨?_, hx.2⟩) }
  · rw [ht.grown.block p (by omega) (fun e => h.n1 (by injection e)), hg.block p (by omega) (fun e => h.n2 k p e.symm rfl), hb.block p hplt]
    exact h.blk
  · by_cases e : x = k
    · replace hx : v.ownBlock = some g := by rw [← hx]; simp [e]
      rcases ho with eo | ⟨g', eo, hge⟩
      · rw [eo] at hx; exact h.n2 k g hx
      · rw [eo] at hx; injection hx with hx; omega
    · replace hx : (V x).ownBlock = some g := by rw [← hx]; simp [e]
      exact h.n2 x g hx
  · have := (h.lt p h.hp).1
    omega
theorem items_put_len {m : KV} (h : RisesK m) (n : Nat) (x : Wr) : (items (putW n m x)).length = (items m).length + 1 := by
  have := insF_items h x.key ⟨n, x.val⟩
  rw [putW, ← this, insF, List.length_append, List.length_cons]
  have e := congrArg List.length (List.takeWhile_append_dropWhile (p := fun y : It => lessS y.key x.key) (l := items m))
  rw [List.length_append] at e
  simp only at e ⊢
  omega
theorem items_puts_len (n : Nat) : ∀ (l : List Wr) {m : KV}, RisesK m → (items (putWs n m l)).length = (items m).length + l.length
  | [], _, _ => rfl
  | x :: l, m, h => by
    have := items_puts_len n l (m := putW n m x) (putK_rises h _ _)
    rw [show putWs n m (x :: l) = putWs n (putW n m x) l from rfl, this, items_put_len h, List.length_cons]
    omega
end Go.Proofs.YtboiafchmdflpaaGreatDoor
/- A store into the map that is ranged over, at a key that is there. -/
namespace Go.Proofs.YtboiafchmdflpaaGreatDoor
open Go.RowKit Go.Maps
open Go.ChangeMaps Go.MapKept Go.WideShapes
open Go.WideElems (Fit rd rg pl rd_key rd_val rg_of other_key rd_mk)

theorem grownB {w w' : World} (h : Below w.heap.size w w') (row : Option Nat) : w.grownBy w' row := ⟨h.os, h.tape, h.output, h.size, fun i hi _ => h.block i hi⟩
section
variable {H : Type} {P : Program} {k : TypeId} {R : Value → Option (DataW H × List MemPlace)} {w : World} {b r n : Nat} {D : DataW H} {left : Lit → Bool} {cnt : Nat}
theorem has_fit {es : Array MapEntry} {clock : Nat} (K : Keyed P k) (F : Fit P k R es clock) {key : Value} {kl : Lit} (hkey : keyOf P k key = some kl) (hin : Maps.has (DataW.map ((es.toList.map (rg P k R)).foldr DataW.insert [])) kl = true) : ∃ x ∈ es.toList, x.key = key := by
  obtain ⟨p, hp, hs⟩ := List.any_eq_true.1 hin
  obtain ⟨x, hx, rfl⟩ := List.mem_map.1 (mem_sorted.1 hp)
  refine ⟨x, hx, ?_⟩
  obtain ⟨y, hy⟩ := F.reads x hx
  have e := WideAt.sameKey_eq hs
  rw [rg_of hy] at e
  exact K.inj (e ▸ rd_key hy) hkey
theorem setBlock_inj {w : World} {b : Nat} {es0 es es' : Array MapEntry} {c0 c c' : Nat} (hb : w.heap[b]? = some (.map es0 c0)) (h : setBlock w b (.map es c) = setBlock w b (.map es' c')) : es = es' ∧ c = c' := by
  have h1 := heap_setBlock_same hb (.map es c)
  have h2 := heap_setBlock_same hb (.map es' c')
  rw [h, h2] at h1
  injection h1 with h1
  injection h1 with h1 h3
  exact ⟨h1.symm, h3.symm⟩
theorem ranges_put {t e : TypeId} (h : w.ranges P k R b r n D left cnt) (K : Keyed P k) (ht : P.underlying t = some (.map k e)) (hn : n < maxLen) {key val : Value} {kl : Lit} {d : DataW H} {ps : List MemPlace}
    (hkey : keyOf P k key = some kl) (hv : R val = some (d, ps)) (hin : Maps.has D kl = true) :
    ∃ w', (Instr.mapUpdate t (.map (some b)) key val).run P w = .ok () w' ∧ w'.ranges P k R b r n (D.put kl d) left cnt ∧ w.mapTurned w' b := by
  have hne := h.ne
  obtain ⟨es, clock, since, seen, c0, hb, F, hs, rfl, hr, hold, rfl, hl1, hl2, hsc, hsk⟩ := h
  obtain ⟨es', clock', hrun, F', hput, _⟩ := Maps.fit_store (R' := R) K ht hb F (Nat.lt_of_le_of_lt hs hn) (fun _ _ _ _ hz => hz) hkey hv
  obtain ⟨x0, hx0, hk0⟩ := has_fit K F hkey hin
  rcases K.find w hkey es.toList F.keys with ⟨_, h2⟩ | ⟨j, e0, h1, h2, h3⟩
  · exact absurd hk0 (h2 x0 hx0)
  · have hj : es[j]? = some e0 := by simpa using h2
    have hrun2 : (Instr.mapUpdate t (.map (some b)) key val).run P w = .ok () (setBlock w b (.map (es.modify j (fun e' => { e' with key := key, val := val })) clock)) := by
      simp [Instr.mapUpdate, run_underlying ht, MapKept.run_getObj_map hb, K.check w false hkey, h1, hj, h3, K.stays w hkey, MapKept.run_setObj_map _ hb, Result.andThen, setBlock]
    rw [hrun] at hrun2
    injection hrun2 with _ hrun3
    obtain ⟨rfl, rfl⟩ := setBlock_inj hb hrun3
    have hlist : (es.modify j (fun e' => { e' with key := key, val := val })).toList = es.toList.set j { e0 with key := key, val := val } := by rw [Array.toList_modify, modify_eq_set _ _ _ _ h2]
    have hjl : j < es.toList.length := (List.getElem?_eq_some_iff.1 h2).1
    have hm0 : e0 ∈ es.toList := List.mem_of_getElem? h2
    have who : ∀ x ∈ es.toList.set j { e0 with key := key, val := val }, x = { e0 with key := key, val := val } ∨ x ∈ es.toList := by
      intro x hx
      rcases List.mem_or_eq_of_mem_set hx with h | h
      · exact .inr h
      · exact .inl h
    have hrg0 : (rg P k R e0).1 = kl := by
      obtain ⟨y, hy⟩ := F.reads e0 hm0
      have m1 := rd_key hy
      rw [h3, hkey] at m1
      rw [rg_of hy, ← Option.some.inj m1]
    have hrgn : (rg P k R { e0 with key := key, val := val }).1 = kl := by rw [rg_of (rd_mk hkey hv)]
    refine ⟨_, hrun, ⟨_, _, since, seen, c0, heap_setBlock_same hb _, F', by simpa using hs, by rw [DataW.put_eq, hput], (heap_setBlock_other hb _ hne).trans hr, fun x hx => ?_, ?_, fun x hx => ?_, fun x0 hx0 => ?_, hsc, hsk⟩, ⟨es, _, _, _, hb, rfl⟩⟩
    · rw [hlist] at hx
      rcases who x hx with rfl | hx
      · exact hold e0 hm0
      · exact hold x hx
    · have hsz : ∀ a : Array MapEntry, (leftOf a seen).size = (a.toList.filter fun e => !seen.contains e.born).length := fun a => by
        unfold leftOf
        rw [← Array.toList_filter, Array.length_toList]
      rw [hsz, hsz, hlist, ← List.countP_eq_length_filter, ← List.countP_eq_length_filter]
      have e1 : es.toList = es.toList.set j e0 := by
        have hx : es.toList[j] = e0 := by rw [List.getElem?_eq_getElem hjl] at h2; injection h2
        rw [← hx]
        exact (List.set_getElem_self hjl).symm
      conv => rhs; rw [e1]
      have hcp : ∀ y : MapEntry, (es.toList.set j y).countP (fun e => !seen.contains e.born) = (es.toList.eraseIdx j).countP (fun e => !seen.contains e.born) + (if (!seen.contains y.born) = true then 1 else 0) := fun y => by
        rw [(set_perm es.toList j (by simpa using hjl) y).countP_eq, List.countP_cons]
      rw [hcp, hcp]
    · rw [hlist] at hx
      rcases who x hx with rfl | hx
      · rw [hrgn, ← hrg0]
        exact hl1 e0 hm0
      · exact hl1 x hx
    · obtain ⟨x, hx, rfl⟩ := hl2 x0 hx0
      rw [hlist]
      by_cases e : x.key = key
      · refine ⟨{ e0 with key := key, val := val }, List.mem_iff_getElem.2 ⟨j, by simpa using hjl, by simp⟩, ?_⟩
        rw [hrgn]
        obtain ⟨y, hy⟩ := F.reads x hx
        have m1 := rd_key hy
        rw [e, hkey] at m1
        rw [rg_of hy, ← Option.some.inj m1]
      · refine ⟨x, ?_, rfl⟩
        obtain ⟨i, hi, rfl⟩ := List.getElem_of_mem hx
        have hij : i ≠ j := fun e1 => by
          subst e1
          rw [List.getElem?_eq_getElem hi] at h2
          injection h2 with h2
          exact e (by rw [h2]; exact h3)
        exact List.mem_iff_getElem.2 ⟨i, by simpa using hi, by rw [List.getElem_set_ne (Ne.symm hij)]⟩
end
end Go.Proofs.YtboiafchmdflpaaGreatDoor
/- slices.Sorted(maps.Keys(s.keys)): the keys of a store, rising. -/
namespace Go.Proofs.YtboiafchmdflpaaGreatDoor
open Go.RowKit Go.Maps Go.Sort

def keysL (m : KV) : List (List UInt8) := m.map fun p => p.1.data.toList
theorem keysL_pair {m : KV} (h : RisesK m) : (keysL m).Pairwise fun a b => a < b := by
  refine List.pairwise_map.2 (h.imp fun {p q} hpq => ?_)
  have e : ∀ b : ByteArray, b.toList = b.data.toList := fun b => by rw [ByteArray.toList_eq]
  simp only [lessS, bytesLess_eq, decide_eq_true_eq, e] at hpq
  exact hpq
theorem keysL_nodup {m : KV} (h : RisesK m) : (keysL m).Nodup := (keysL_pair h).imp fun hab e => by subst e; exact List.lt_irrefl _ hab
theorem getK_empty {m : KV} {x : ByteArray} (h : ∀ p ∈ m, p.1 ≠ x) : getK m x = [] := getK_none h
theorem mem_keysL {m : KV} (h : RisesK m) (hne : ∀ p ∈ m, p.2 ≠ []) (x : List UInt8) : x ∈ keysL m ↔ (!(getK m ⟨x.toArray⟩).isEmpty) = true := by
  constructor
  · intro hx
    obtain ⟨p, hp, rfl⟩ := List.mem_map.1 hx
    have e : (⟨p.1.data.toList.toArray⟩ : ByteArray) = p.1 := rfl
    rw [e, getK_mem h (l := p.2) hp]
    have := hne p hp
    cases hq : p.2 with
    | nil => exact absurd hq this
    | cons a l => rfl
  · intro hx
    by_cases hm : getK m ⟨x.toArray⟩ = []
    · rw [hm] at hx; cases hx
    · exact List.mem_map.2 ⟨_, getK_in hm, by simp⟩
theorem keys_perm {w : World} {B N mb : Nat} {D : DataW Value} {V : ByteArray → Value} {O : Nat → Prop} {m : KV} (h : KeysAt w B N mb D V O m) (hr : RisesK m) (hne : ∀ p ∈ m, p.2 ≠ []) : (keysL m).Perm (strKeys D) := by
  refine Collected.perm (left := fun _ => false) ⟨keysL_nodup hr, fun x => ?_⟩ h.own keyS Tryz.underlying9 (fun _ => rfl)
  have e := h.has ⟨x.toArray⟩
  rw [show lit ⟨x.toArray⟩ = Lit.string x by simp [lit]] at e
  rw [mem_keysL hr hne, e]
  simp
theorem keys_sorted {w : World} {B N mb : Nat} {D : DataW Value} {V : ByteArray → Value} {O : Nat → Prop} {m : KV} (h : KeysAt w B N mb D V O m) (hr : RisesK m) (hne : ∀ p ∈ m, p.2 ≠ []) {ss : List (List UInt8)} (hp : ss.Perm (strKeys D)) : ss.mergeSort (fun x y => decide (x ≤ y)) = keysL m := by
  have e : ss.mergeSort leB = (keysL m).mergeSort leB := mergeSort_of_perm (hp.trans (keys_perm h hr hne).symm)
  refine e.trans (List.mergeSort_of_pairwise ((keysL_pair hr).imp fun hab => ?_))
  simp only [leB, decide_eq_true_eq]
  exact List.le_of_lt hab
theorem keysL_cells (m : KV) : (keysL m).map encStr = (m.map fun p => Value.string p.1) := by
  rw [keysL, List.map_map]
  exact List.map_congr_left fun p _ => by simp [encStr]
theorem keysL_len (m : KV) : (keysL m).length = m.length := List.length_map ..
end Go.Proofs.YtboiafchmdflpaaGreatDoor
