/- Layer 14's statements' data: an Op, a script; few: whether a script is looked at. -/
import Derived.Test.YtcldpmkhpmlcbaaGreatDoorJ1
import Derived.Test.YtcldpmkhpmlcbaaGreatDoorJ2
import Derived.Deep.AppendLies
import Derived.WalkSpells
import Derived.IntWalk
import Derived.Outline
set_option linter.unusedVariables false
set_option linter.unusedSimpArgs false
namespace Go.Proofs.YtcldpmkhpmlcbaaGreatDoor
open Go.RowKit Go.Shelf

structure WrsOK (l : List Wr) : Prop where
  k : ∀ i, i < l.length → (l.getD i noWr).key.size ≤ 9223372036854775807
  v : ∀ i, i < l.length → (l.getD i noWr).val.Good
  n : l.length ≤ 9223372036854775807
theorem ret_bool14 {a b : Bool} (h : a = b) : Ending.returned (.bool b) = .returned (.bool a) := by rw [h]
/-! ### Ops and scripts -/
structure OpD where
  kind : Int
  l : List Wr
  key : ByteArray
  upto : ByteArray
  num : Nat
  by8 : Nat
instance : Inhabited OpD := ⟨⟨0, [], noStr, noStr, 0, 0⟩⟩
def noOp : OpD := ⟨0, [], noStr, noStr, 0, 0⟩
structure OpOK (o : OpD) : Prop where
  l : WrsOK o.l
  k : o.key.size ≤ 9223372036854775807
  t : o.upto.size ≤ 9223372036854775807
  n : o.num < 18446744073709551616
  b : o.by8 < 256
/-- Ops that lie in memory; LA, LC: each one's writes' address and capacity. -/
def OpsAt (w : World) (S : Option Addr) (l : List OpD) (LA : Nat → Option Addr) (LC : Nat → Nat) : Prop :=
  ∀ i, i < l.length → ∃ b off, S = some ⟨b, off, none⟩ ∧ w.cell? ⟨b, off + i * 6, none⟩ = some (.int .i64 (l.getD i noOp).kind) ∧ w.cell? ⟨b, off + i * 6 + 1, none⟩ = some (.slice (LA i) (l.getD i noOp).l.length (LC i)) ∧
    w.cell? ⟨b, off + i * 6 + 2, none⟩ = some (.string (l.getD i noOp).key) ∧ w.cell? ⟨b, off + i * 6 + 3, none⟩ = some (.string (l.getD i noOp).upto) ∧ w.cell? ⟨b, off + i * 6 + 4, none⟩ = some (.int .u64 ((l.getD i noOp).num : Nat)) ∧
    w.cell? ⟨b, off + i * 6 + 5, none⟩ = some (.int .u8 ((l.getD i noOp).by8 : Nat)) ∧ WrsAt w (LA i) (l.getD i noOp).l
theorem OpsAt.later {w w' : World} {S : Option Addr} {l : List OpD} {LA : Nat → Option Addr} {LC : Nat → Nat} (h : OpsAt w S l LA LC) (hb : Below w.heap.size w w') : OpsAt w' S l LA LC := by
  intro i hi
  obtain ⟨b, off, e, h0, h1, h2, h3, h4, h5, h6⟩ := h i hi
  exact ⟨b, off, e, keep hb h0, keep hb h1, keep hb h2, keep hb h3, keep hb h4, keep hb h5, h6.later hb⟩
end Go.Proofs.YtcldpmkhpmlcbaaGreatDoor
/- Layer 14 in plain Lean: versions of keys; what is applied, seen, scanned, collected; the reference's list of items is the same, laid flat. -/
namespace Go.Proofs.YtcldpmkhpmlcbaaGreatDoor
open Go.RowKit

structure Ver where
  num : Nat
  val : Val
structure It where
  key : ByteArray
  val : Val
  num : Nat
def noVal : Val := ⟨0, 0, noStr⟩
def noVer : Ver := ⟨0, noVal⟩
def noIt : It := ⟨noStr, noVal, 0⟩
instance : Inhabited Ver := ⟨noVer⟩
instance : Inhabited It := ⟨noIt⟩
/-- Keys, rising, each with its versions, the last one ahead. -/
abbrev KV := List (ByteArray × List Ver)
def getK : KV → ByteArray → List Ver
  | [], _ => []
  | p :: m, k => if p.1 = k then p.2 else getK m k
def putK : KV → ByteArray → List Ver → KV
  | [], k, l => [(k, l)]
  | p :: m, k, l => if lessS p.1 k = true then p :: putK m k l else if p.1 = k then (k, l) :: m else (k, l) :: p :: m
/-- One key's items. -/
def itemsOf (p : ByteArray × List Ver) : List It := p.2.map fun v => ⟨p.1, v.val, v.num⟩
def items (m : KV) : List It := m.flatMap itemsOf

def RisesK (m : KV) : Prop := m.Pairwise fun p q => lessS p.1 q.1 = true
theorem lessS_ne {a b : ByteArray} (h : lessS a b = true) : a ≠ b := fun e => by rw [e, lessS_irr] at h; cases h
theorem getK_none {m : KV} {k : ByteArray} (h : ∀ p ∈ m, p.1 ≠ k) : getK m k = [] := by
  induction m with
  | nil => rfl
  | cons p m ih => rw [getK, if_neg (h p (by simp)), ih fun q hq => h q (by simp [hq])]
theorem getK_low {m : KV} {k : ByteArray} {p : ByteArray × List Ver} (h : RisesK (p :: m)) (hk : lessS k p.1 = true) : getK (p :: m) k = [] := by
  refine getK_none fun q hq => ?_
  rcases List.mem_cons.1 hq with rfl | hq
  · exact (lessS_ne hk).symm
  · exact (lessS_ne (lessS_trans hk ((List.pairwise_cons.1 h).1 q hq))).symm
theorem getK_mem {m : KV} {k : ByteArray} {l : List Ver} (h : RisesK m) (hm : (k, l) ∈ m) : getK m k = l := by
  induction m with
  | nil => cases hm
  | cons p m ih =>
    obtain ⟨h1, h2⟩ := List.pairwise_cons.1 h
    rcases List.mem_cons.1 hm with rfl | hm
    · simp [getK]
    · rw [getK, if_neg (lessS_ne (h1 _ hm)), ih h2 hm]
theorem mem_putK {m : KV} {k : ByteArray} {l : List Ver} {q : ByteArray × List Ver} (h : q ∈ putK m k l) : q = (k, l) ∨ q ∈ m := by
  induction m with
  | nil => left; simpa [putK] using h
  | cons p m ih =>
    unfold putK at h
    split at h
    · rcases List.mem_cons.1 h with rfl | h
      · right; simp
      · rcases ih h with e | h
        · exact .inl e
        · exact .inr (by simp [h])
    · split at h
      · rcases List.mem_cons.1 h with e | h
        · exact .inl e
        · exact .inr (by simp [h])
      · rcases List.mem_cons.1 h with e | h
        · exact .inl e
        · exact .inr h
theorem putK_rises {m : KV} (h : RisesK m) (k : ByteArray) (l : List Ver) : RisesK (putK m k l) := by
  induction m with
  | nil => simp [putK, RisesK]
  | cons p m ih =>
    obtain ⟨h1, h2⟩ := List.pairwise_cons.1 h
    unfold putK
    split
    · rename_i hk
      refine List.pairwise_cons.2 ⟨fun q hq => ?_, ih h2⟩
      rcases mem_putK hq with rfl | hq
      · exact hk
      · exact h1 q hq
    · split
      · rename_i hk e
        subst e
        exact List.pairwise_cons.2 ⟨fun q hq => h1 q hq, h2⟩
      · rename_i hk e
        have hkp : lessS k p.1 = true := by
          cases h' : lessS k p.1
          · exact absurd (lessS_tri (by simpa using hk) h') e
          · rfl
        refine List.pairwise_cons.2 ⟨fun q hq => ?_, h⟩
        rcases List.mem_cons.1 hq with rfl | hq
        · exact hkp
        · exact lessS_trans hkp (h1 q hq)
theorem getK_putK {m : KV} (h : RisesK m) (k : ByteArray) (l : List Ver) (x : ByteArray) : getK (putK m k l) x = if x = k then l else getK m x := by
  induction m with
  | nil =>
    by_cases e : x = k
    · subst e; simp [putK, getK]
    · simp [putK, getK, e, Ne.symm e]
  | cons p m ih =>
    obtain ⟨h1, h2⟩ := List.pairwise_cons.1 h
    unfold putK
    by_cases hk : lessS p.1 k = true
    · rw [if_pos hk, getK, ih h2, getK]
      by_cases e : x = k
      · subst e; rw [if_neg (lessS_ne hk), if_pos rfl, if_pos rfl]
      · rw [if_neg e, if_neg e]
    · rw [if_neg hk]
      by_cases e : p.1 = k
      · rw [if_pos e]
        subst e
        by_cases ex : x = p.1
        · subst ex; simp [getK]
        · rw [getK, if_neg (Ne.symm ex), if_neg ex, getK, if_neg (Ne.symm ex)]
      · rw [if_neg e, getK]
        by_cases ex : k = x
        · subst ex; simp
        · rw [if_neg ex, if_neg (Ne.symm ex)]

/-! ### The reference's list -/
def insF (L : List It) (x : It) : List It := L.takeWhile (fun y => lessS y.key x.key) ++ x :: L.dropWhile (fun y => lessS y.key x.key)
theorem itemsOf_key {p : ByteArray × List Ver} {x : It} (h : x ∈ itemsOf p) : x.key = p.1 := by
  obtain ⟨v, _, rfl⟩ := List.mem_map.1 h; rfl
theorem items_key {m : KV} {x : It} (h : x ∈ items m) : ∃ p ∈ m, x.key = p.1 := by
  obtain ⟨p, hp, hx⟩ := List.mem_flatMap.1 h
  exact ⟨p, hp, itemsOf_key hx⟩
theorem takeWhile_append_all {α : Type} {p : α → Bool} {l m : List α} (h : ∀ x ∈ l, p x = true) : (l ++ m).takeWhile p = l ++ m.takeWhile p := by
  induction l with
  | nil => rfl
  | cons a l ih => simp [h a (by simp), ih fun x hx => h x (by simp [hx])]
theorem dropWhile_append_all {α : Type} {p : α → Bool} {l m : List α} (h : ∀ x ∈ l, p x = true) : (l ++ m).dropWhile p = m.dropWhile p := by
  induction l with
  | nil => rfl
  | cons a l ih => simp [h a (by simp), ih fun x hx => h x (by simp [hx])]
theorem while_none {α : Type} {p : α → Bool} {l : List α} (h : ∀ x ∈ l, p x = false) : l.takeWhile p = [] ∧ l.dropWhile p = l := by
  cases l with
  | nil => exact ⟨rfl, rfl⟩
  | cons a l => simp [h a (by simp)]
theorem insF_items {m : KV} (h : RisesK m) (k : ByteArray) (v : Ver) : insF (items m) ⟨k, v.val, v.num⟩ = items (putK m k (v :: getK m k)) := by
  induction m with
  | nil => rfl
  | cons p m ih =>
    obtain ⟨h1, h2⟩ := List.pairwise_cons.1 h
    have e0 : items (p :: m) = itemsOf p ++ items m := rfl
    unfold putK
    by_cases hk : lessS p.1 k = true
    · rw [if_pos hk, getK, if_neg (lessS_ne hk)]
      have hall : ∀ x ∈ itemsOf p, (fun y : It => lessS y.key k) x = true := fun x hx => by show lessS x.key k = true; rw [itemsOf_key hx]; exact hk
      rw [insF, e0]
      simp only
      rw [takeWhile_append_all hall, dropWhile_append_all hall, show items (p :: putK m k (v :: getK m k)) = itemsOf p ++ items (putK m k (v :: getK m k)) from rfl, ← ih h2, insF, List.append_assoc]
    · rw [if_neg hk]
      have hno : ∀ x ∈ items (p :: m), (fun y : It => lessS y.key k) x = false := fun x hx => by
        obtain ⟨q, hq, e⟩ := items_key hx
        show lessS x.key k = false
        rw [e]
        rcases List.mem_cons.1 hq with rfl | hq
        · simpa using hk
        · cases h' : lessS q.1 k
          · rfl
          · exact absurd (lessS_trans (h1 q hq) h') hk
      have hw := while_none hno
      rw [insF]
      simp only
      rw [hw.1, hw.2, List.nil_append]
      by_cases e : p.1 = k
      · subst e
        rw [if_pos rfl, getK, if_pos rfl]
        rfl
      · have hkp : lessS k p.1 = true := by
          cases h' : lessS k p.1
          · exact absurd (lessS_tri (by simpa using hk) h') e
          · rfl
        rw [if_neg e, getK_low h hkp]
        rfl

/-! ### What is seen -/
def seenV (l : List Ver) (n : Nat) : Ver := (l.find? fun v => decide (v.num ≤ n)).getD noVer
theorem find_none {α : Type} {p : α → Bool} {l : List α} (h : ∀ x ∈ l, p x = false) : l.find? p = none := by
  rw [List.find?_eq_none]; intro x hx; simp [h x hx]
/-! ### A store -/
structure StD where
  ks : KV
  last : Nat
  low : Nat
def wrOK (l : List Wr) (k : Nat) : Bool := keyB (l.getD k noWr).key && formedV (l.getD k noWr).val && (k == 0 || lessS (l.getD (k - 1) noWr).key (l.getD k noWr).key)
def wrsTo14 (l : List Wr) : Nat → Bool
  | 0 => true
  | k + 1 => wrsTo14 l k && wrOK l k
def wrsOK (l : List Wr) : Bool := wrsTo14 l l.length
def putW (n : Nat) (m : KV) (x : Wr) : KV := putK m x.key (⟨n, x.val⟩ :: getK m x.key)
def putWs (n : Nat) (m : KV) (l : List Wr) : KV := l.foldl (putW n) m
def applyS (s : StD) (n : Nat) (l : List Wr) : StD := if n ≤ s.last then s else if wrsOK l then ⟨putWs n s.ks l, n, s.low⟩ else s
def applyE (s : StD) (n : Nat) (l : List Wr) : Int := if n ≤ s.last then 1 else if wrsOK l then 0 else 2
theorem wrsTo14_false {l : List Wr} {k n : Nat} (hk : k < n) (h : wrOK l k = false) : wrsTo14 l n = false := by
  induction n with
  | zero => omega
  | succ n ih =>
    by_cases e : k = n
    · subst e; simp [wrsTo14, h]
    · simp [wrsTo14, ih (by omega)]
theorem wrsTo_le {l : List Wr} {k n : Nat} (hk : k ≤ n) (h : wrsTo14 l n = true) : wrsTo14 l k = true := by
  induction n with
  | zero => obtain rfl : k = 0 := by omega
            exact h
  | succ n ih =>
    by_cases e : k = n + 1
    · subst e; exact h
    · simp only [wrsTo14, Bool.and_eq_true] at h
      exact ih (by omega) h.1
theorem putWs_rises {n : Nat} (l : List Wr) {m : KV} (h : RisesK m) : RisesK (putWs n m l) := by
  induction l generalizing m with
  | nil => exact h
  | cons x l ih => exact ih (putK_rises h _ _)
theorem putWs_snoc (n : Nat) (m : KV) (l : List Wr) (x : Wr) : putWs n m (l ++ [x]) = putW n (putWs n m l) x := by simp [putWs, List.foldl_append]

/-! ### Collect -/
def colV : List Ver → Nat → List Ver
  | [], _ => []
  | v :: l, low => if low < v.num then v :: colV l low else if v.val.kind = 0 then [] else [v]
def Falls (l : List Ver) : Prop := l.Pairwise fun a b => b.num < a.num
def needV (l : List Ver) (low : Nat) (v : Ver) : Bool := decide (low < v.num) || (decide (v.num = (seenV l low).num) && !decide (v.val.kind = 0))
theorem seenV_cons_hi {v : Ver} {l : List Ver} {n : Nat} (h : n < v.num) : seenV (v :: l) n = seenV l n := by
  have : decide (v.num ≤ n) = false := by simp; omega
  rw [seenV, List.find?_cons, this]; rfl
theorem seenV_cons_lo {v : Ver} {l : List Ver} {n : Nat} (h : v.num ≤ n) : seenV (v :: l) n = v := by
  rw [seenV, List.find?_cons, decide_eq_true h]; rfl
theorem colV_filter {l : List Ver} (h : Falls l) (low : Nat) : l.filter (needV l low) = colV l low := by
  induction l with
  | nil => rfl
  | cons v l ih =>
    obtain ⟨h1, h2⟩ := List.pairwise_cons.1 h
    by_cases hv : low < v.num
    · rw [colV, if_pos hv, ← ih h2, List.filter_cons, if_pos (by simp [needV, hv])]
      congr 1
      refine List.filter_congr fun x hx => ?_
      rw [needV, needV, seenV_cons_hi hv]
    · have hs := seenV_cons_lo (l := l) (show v.num ≤ low by omega)
      have hl : l.filter (needV (v :: l) low) = [] := by
        rw [List.filter_eq_nil_iff]
        intro x hx
        have := h1 x hx
        rw [needV, hs]
        simp; omega
      rw [colV, if_neg hv, List.filter_cons, hl, needV, hs]
      by_cases hk : v.val.kind = 0
      · rw [if_pos hk]; simp [hv, hk]
      · rw [if_neg hk]; simp [hk]
theorem colV_sub {l : List Ver} {low : Nat} : ∀ v ∈ colV l low, v ∈ l := by
  induction l with
  | nil => simp [colV]
  | cons v l ih =>
    intro x hx
    unfold colV at hx
    split at hx
    · rcases List.mem_cons.1 hx with rfl | hx
      · simp
      · simp [ih x hx]
    · split at hx
      · cases hx
      · rcases List.mem_cons.1 hx with rfl | hx
        · simp
        · cases hx
theorem colV_falls {l : List Ver} (h : Falls l) (low : Nat) : Falls (colV l low) := by
  induction l with
  | nil => exact h
  | cons v l ih =>
    obtain ⟨h1, h2⟩ := List.pairwise_cons.1 h
    unfold colV
    split
    · exact List.pairwise_cons.2 ⟨fun x hx => h1 x (colV_sub x hx), ih h2⟩
    · split <;> simp [Falls]
theorem colV_twice (l : List Ver) (low : Nat) : colV (colV l low) low = colV l low := by
  induction l with
  | nil => rfl
  | cons v l ih =>
    rw [colV]
    split
    · rename_i h; rw [colV, if_pos h, ih]
    · split
      · rfl
      · rename_i h1 h2; rw [colV, if_neg h1, if_neg h2]
/-- At a number from low on the same is seen, or Nothing as before. -/
theorem seen_colV (l : List Ver) {low n : Nat} (h : low ≤ n) : (seenV (colV l low) n).val.kind = (seenV l n).val.kind ∧ ((seenV l n).val.kind ≠ 0 → seenV (colV l low) n = seenV l n) := by
  induction l with
  | nil => exact ⟨rfl, fun _ => rfl⟩
  | cons v l ih =>
    rw [colV]
    by_cases hn : v.num ≤ n
    · rw [seenV_cons_lo hn]
      split
      · rw [seenV_cons_lo hn]; exact ⟨rfl, fun _ => rfl⟩
      · split
        · rename_i h0; exact ⟨h0.symm, fun hk => absurd h0 hk⟩
        · rw [seenV_cons_lo hn]; exact ⟨rfl, fun _ => rfl⟩
    · have : low < v.num := by omega
      rw [if_pos this, seenV_cons_hi (by omega), seenV_cons_hi (by omega)]
      exact ih
def colK : KV → Nat → KV
  | [], _ => []
  | p :: m, low => if (colV p.2 low).isEmpty then colK m low else (p.1, colV p.2 low) :: colK m low
theorem mem_colK {m : KV} {low : Nat} {q : ByteArray × List Ver} (h : q ∈ colK m low) : ∃ p ∈ m, q = (p.1, colV p.2 low) ∧ colV p.2 low ≠ [] := by
  induction m with
  | nil => cases h
  | cons p m ih =>
    rw [colK] at h
    split at h
    · obtain ⟨p', hp', r⟩ := ih h; exact ⟨p', by simp [hp'], r⟩
    · rename_i hne
      rcases List.mem_cons.1 h with rfl | h
      · exact ⟨p, by simp, rfl, by simpa using hne⟩
      · obtain ⟨p', hp', r⟩ := ih h; exact ⟨p', by simp [hp'], r⟩
theorem colK_rises {m : KV} (h : RisesK m) (low : Nat) : RisesK (colK m low) := by
  induction m with
  | nil => exact h
  | cons p m ih =>
    obtain ⟨h1, h2⟩ := List.pairwise_cons.1 h
    rw [colK]
    split
    · exact ih h2
    · refine List.pairwise_cons.2 ⟨fun q hq => ?_, ih h2⟩
      obtain ⟨p', hp', rfl, _⟩ := mem_colK hq
      exact h1 p' hp'
theorem getK_colK {m : KV} (h : RisesK m) (low : Nat) (k : ByteArray) : getK (colK m low) k = colV (getK m k) low := by
  induction m with
  | nil => rfl
  | cons p m ih =>
    obtain ⟨h1, h2⟩ := List.pairwise_cons.1 h
    rw [colK, getK]
    by_cases e : p.1 = k
    · rw [if_pos e]
      split
      · rename_i he
        rw [ih h2, getK_none (fun q hq => e ▸ (lessS_ne (h1 q hq)).symm)]
        have h0 : colV p.2 low = [] := by simpa using he
        rw [h0]; rfl
      · rw [getK, if_pos e]
    · rw [if_neg e]
      split
      · exact ih h2
      · rw [getK, if_neg e, ih h2]
theorem items_colK {m : KV} (h : RisesK m) (hf : ∀ p ∈ m, Falls p.2) (low : Nat) : (items m).filter (fun x => needV (getK m x.key) low ⟨x.num, x.val⟩) = items (colK m low) := by
  have key : ∀ m' : KV, (∀ p ∈ m', p ∈ m) → (items m').filter (fun x => needV (getK m x.key) low ⟨x.num, x.val⟩) = items (colK m' low) := by
    intro m'
    induction m' with
    | nil => intro _; rfl
    | cons p m' ih =>
      intro hm
      obtain ⟨k, l⟩ := p
      have hp := hm (k, l) (by simp)
      have e1 : (itemsOf (k, l)).filter (fun x => needV (getK m x.key) low ⟨x.num, x.val⟩) = itemsOf (k, colV l low) := by
        rw [itemsOf, List.filter_map, ← colV_filter (hf _ hp) low, itemsOf]
        congr 1
        refine List.filter_congr fun v hv => ?_
        simp only [Function.comp]
        rw [getK_mem h hp]
      have e2 := ih fun p hp => hm p (by simp [hp])
      rw [show items ((k, l) :: m') = itemsOf (k, l) ++ items m' from rfl, List.filter_append, e1, e2, colK]
      split
      · rename_i he
        have : colV l low = [] := by simpa using he
        rw [this]; rfl
      · rfl
  exact key m fun _ h => h

/-! ### Scan -/
def getV (s : StD) (k : ByteArray) (n : Nat) : Ver := if n < s.low then noVer else seenV (getK s.ks k) n
def oldE (s : StD) (n : Nat) : Int := if n < s.low then 9 else 0
def countK (m : KV) : Nat := (items m).length
def colOK (s : StD) (low : Nat) : Bool := decide (s.low ≤ low) && decide (low ≤ s.last)
def colS (s : StD) (low : Nat) : StD := if colOK s low then ⟨colK s.ks low, s.last, low⟩ else s
def colN (s : StD) (low : Nat) : Int := if colOK s low then (countK s.ks : Int) - (countK (colK s.ks low) : Int) else 0
def colE (s : StD) (low : Nat) : Int := if colOK s low then 0 else 1
def st0 : StD := ⟨[], 0, 0⟩

structure StOK (s : StD) : Prop where
  rises : RisesK s.ks
  ne : ∀ p ∈ s.ks, p.2 ≠ []
  falls : ∀ p ∈ s.ks, Falls p.2
  top : ∀ p ∈ s.ks, ∀ v ∈ p.2, 1 ≤ v.num ∧ v.num ≤ s.last
  key : ∀ p ∈ s.ks, keyB p.1 = true
  val : ∀ p ∈ s.ks, ∀ v ∈ p.2, formedV v.val = true
  cut : ∀ p ∈ s.ks, colV p.2 s.low = p.2
  low : s.low ≤ s.last
theorem st0_ok : StOK st0 := ⟨by simp [RisesK, st0], by simp [st0], by simp [st0], by simp [st0], by simp [st0], by simp [st0], by simp [st0], by simp [st0]⟩
theorem getK_in {m : KV} {k : ByteArray} (h : getK m k ≠ []) : (k, getK m k) ∈ m := by
  induction m with
  | nil => exact absurd rfl h
  | cons p m ih =>
    rw [getK] at h ⊢
    split
    · rename_i e; subst e; simp
    · rename_i e; rw [if_neg e] at h; simp [ih h]
theorem StOK.getK {s : StD} (h : StOK s) (k : ByteArray) : Falls (getK s.ks k) ∧ (∀ v ∈ getK s.ks k, 1 ≤ v.num ∧ v.num ≤ s.last) ∧ (∀ v ∈ getK s.ks k, formedV v.val = true) ∧ colV (getK s.ks k) s.low = getK s.ks k := by
  by_cases hk : Go.Proofs.YtcldpmkhpmlcbaaGreatDoor.getK s.ks k = []
  · rw [hk]; exact ⟨by simp [Falls], by simp, by simp, rfl⟩
  · have hm := getK_in hk
    exact ⟨h.falls _ hm, h.top _ hm, h.val _ hm, h.cut _ hm⟩
theorem wrsOK_at {l : List Wr} (h : wrsOK l = true) {k : Nat} (hk : k < l.length) : keyB (l.getD k noWr).key = true ∧ formedV (l.getD k noWr).val = true := by
  have := wrsTo_le (Nat.succ_le_of_lt hk) h
  simp only [wrsTo14, wrOK, Bool.and_eq_true] at this
  exact ⟨this.2.1.1, this.2.1.2⟩
/-- In the midst of Apply: what has been put is of the number n, each key once. -/
structure MidOK (m : KV) (last low n : Nat) (seen : List Wr) : Prop where
  rises : RisesK m
  ne : ∀ p ∈ m, p.2 ≠ []
  falls : ∀ p ∈ m, Falls p.2
  top : ∀ p ∈ m, ∀ v ∈ p.2, 1 ≤ v.num ∧ (v.num ≤ last ∨ (v.num = n ∧ ∃ x ∈ seen, x.key = p.1))
  key : ∀ p ∈ m, keyB p.1 = true
  val : ∀ p ∈ m, ∀ v ∈ p.2, formedV v.val = true
  cut : ∀ p ∈ m, colV p.2 low = p.2
theorem mid_step {m : KV} {last low n : Nat} {seen : List Wr} {x : Wr} (h : MidOK m last low n seen) (hn : last < n) (hl : low ≤ last) (hk : keyB x.key = true) (hv : formedV x.val = true) (hx : ∀ y ∈ seen, y.key ≠ x.key) : MidOK (putW n m x) last low n (seen ++ [x]) := by
  have hold : ∀ v ∈ Go.Proofs.YtcldpmkhpmlcbaaGreatDoor.getK m x.key, v.num ≤ last := fun v hv => by
    have hm := getK_in (List.ne_nil_of_mem hv)
    rcases (h.top _ hm v hv).2 with h1 | ⟨_, y, hy, e⟩
    · exact h1
    · exact absurd e (hx y hy)
  have hg : ∀ p ∈ putW n m x, p = (x.key, (⟨n, x.val⟩ : Ver) :: Go.Proofs.YtcldpmkhpmlcbaaGreatDoor.getK m x.key) ∨ p ∈ m := fun p hp => mem_putK hp
  refine ⟨putK_rises h.rises _ _, fun p hp => ?_, fun p hp => ?_, fun p hp => ?_, fun p hp => ?_, fun p hp => ?_, fun p hp => ?_⟩
  · rcases hg p hp with rfl | hp
    · simp
    · exact h.ne p hp
  · rcases hg p hp with rfl | hp
    · refine List.pairwise_cons.2 ⟨fun v hv => by have := hold v hv; show v.num < n; omega, ?_⟩
      by_cases e : Go.Proofs.YtcldpmkhpmlcbaaGreatDoor.getK m x.key = []
      · rw [e]; exact List.Pairwise.nil
      · exact h.falls _ (getK_in e)
    · exact h.falls p hp
  · intro v hv
    rcases hg p hp with rfl | hp
    · rcases List.mem_cons.1 hv with rfl | hv
      · exact ⟨by show 1 ≤ n; omega, .inr ⟨rfl, x, by simp, rfl⟩⟩
      · exact ⟨(h.top _ (getK_in (List.ne_nil_of_mem hv)) v hv).1, .inl (hold v hv)⟩
    · refine ⟨(h.top p hp v hv).1, ?_⟩
      rcases (h.top p hp v hv).2 with h1 | ⟨h1, y, hy, e⟩
      · exact .inl h1
      · exact .inr ⟨h1, y, by simp [hy], e⟩
  · rcases hg p hp with rfl | hp
    · exact hk
    · exact h.key p hp
  · intro v hv'
    rcases hg p hp with rfl | hp
    · rcases List.mem_cons.1 hv' with rfl | hv'
      · exact hv
      · exact h.val _ (getK_in (List.ne_nil_of_mem hv')) v hv'
    · exact h.val p hp v hv'
  · rcases hg p hp with rfl | hp
    · show colV (_ :: _) low = _
      rw [colV, if_pos (show low < n by omega)]
      by_cases e : Go.Proofs.YtcldpmkhpmlcbaaGreatDoor.getK m x.key = []
      · rw [e]; rfl
      · rw [h.cut _ (getK_in e)]
    · exact h.cut p hp
theorem rise_lt {l : List Wr} (h : wrsOK l = true) : ∀ {i k : Nat}, i < k → k < l.length → lessS (l.getD i noWr).key (l.getD k noWr).key = true := by
  intro i k hik hk
  induction k with
  | zero => omega
  | succ k ih =>
    have := wrsTo_le (Nat.succ_le_of_lt hk) h
    simp only [wrsTo14, wrOK, Bool.and_eq_true, Bool.or_eq_true, beq_iff_eq] at this
    have h2 : lessS (l.getD k noWr).key (l.getD (k + 1) noWr).key = true := by
      rcases this.2.2 with e | e
      · omega
      · simpa using e
    by_cases e : i = k
    · subst e; exact h2
    · exact lessS_trans (ih (by omega) (by omega)) h2
theorem mid_to {s : StD} {n : Nat} {l : List Wr} (h : StOK s) (hn : s.last < n) (hl : wrsOK l = true) : ∀ k, k ≤ l.length → MidOK (putWs n s.ks (l.take k)) s.last s.low n (l.take k) := by
  intro k
  induction k with
  | zero => intro _; exact ⟨h.rises, h.ne, h.falls, fun p hp v hv => ⟨(h.top p hp v hv).1, .inl (h.top p hp v hv).2⟩, h.key, h.val, h.cut⟩
  | succ k ih =>
    intro hk
    have e : l.getD k noWr = l[k] := by rw [List.getD_eq_getElem?_getD, List.getElem?_eq_getElem (by omega)]; rfl
    rw [List.take_succ_eq_append_getElem (by omega), putWs_snoc, ← e]
    have h2 := wrsOK_at hl (show k < l.length by omega)
    refine mid_step (ih (by omega)) hn h.low h2.1 h2.2 fun y hy => ?_
    obtain ⟨i, hi, rfl⟩ := List.mem_iff_getElem.1 hy
    simp only [List.length_take] at hi
    have := rise_lt hl (show i < k by omega) (by omega)
    rw [List.getElem_take]
    rw [List.getD_eq_getElem?_getD, List.getElem?_eq_getElem (show i < l.length by omega)] at this
    exact lessS_ne this
theorem apply_ok {s : StD} (h : StOK s) (n : Nat) (l : List Wr) : StOK (applyS s n l) := by
  unfold applyS
  split
  · exact h
  · split
    · rename_i hn hl
      have hm := mid_to h (show s.last < n by omega) hl l.length (Nat.le_refl _)
      rw [List.take_length] at hm
      refine ⟨hm.rises, hm.ne, hm.falls, fun p hp v hv => ⟨(hm.top p hp v hv).1, ?_⟩, hm.key, hm.val, hm.cut, ?_⟩
      · show v.num ≤ n
        rcases (hm.top p hp v hv).2 with h1 | ⟨h1, _⟩ <;> omega
      · show s.low ≤ n
        have := h.low
        omega
    · exact h
theorem col_ok {s : StD} (h : StOK s) (n : Nat) : StOK (colS s n) := by
  unfold colS
  split
  · rename_i hc
    simp only [colOK, Bool.and_eq_true, decide_eq_true_eq] at hc
    refine ⟨colK_rises h.rises _, fun p hp => ?_, fun p hp => ?_, fun p hp v hv => ?_, fun p hp => ?_, fun p hp v hv => ?_, fun p hp => ?_, hc.2⟩
    all_goals obtain ⟨q, hq, rfl, hne⟩ := mem_colK hp
    · exact hne
    · exact colV_falls (h.falls q hq) _
    · exact h.top q hq v (colV_sub v hv)
    · exact h.key q hq
    · exact h.val q hq v (colV_sub v hv)
    · exact colV_twice _ _
  · exact h
end Go.Proofs.YtcldpmkhpmlcbaaGreatDoor
/- Rows of versions; slices.Insert(s, 0, v) at versions. -/
namespace Go.Proofs.YtcldpmkhpmlcbaaGreatDoor
open Go.RowKit

def verC (v : Ver) : List Value := [.int .u64 (v.num : Int), .int .i64 v.val.kind, .int .u64 (v.val.bits : Int), .string v.val.text]
def verCs (l : List Ver) : List Value := l.flatMap verC
theorem verCs_cons (v : Ver) (l : List Ver) : verCs (v :: l) = verC v ++ verCs l := rfl
theorem verCs_len : ∀ l : List Ver, (verCs l).length = l.length * 4
  | [] => rfl
  | x :: l => by have := verCs_len l; rw [verCs_cons, List.length_append, this]; simp [verC]; omega
theorem verC_one (v : Ver) : ∀ u ∈ verC v, u.oneCell' = true := fun u hu => by
  simp only [verC, List.mem_cons, List.not_mem_nil, or_false] at hu
  rcases hu with rfl | rfl | rfl | rfl <;> rfl
theorem verCs_one (l : List Ver) : ∀ u ∈ verCs l, u.oneCell' = true := fun u hu => by
  obtain ⟨x, _, hu⟩ := List.mem_flatMap.1 hu
  exact verC_one x u hu
theorem info_ver : (Tryz.prog.info? 195).map (fun i => (i.zero, i.size, i.bytes)) = some (some (.agg #[.int .u64 0, .int .i64 0, .int .u64 0, .string ByteArray.empty]), 4, 40) := by kernel_rfl
/-- A slice of versions of the call's own. -/
def OwnV (w : World) (B : Nat) (v : Value) (l : List Ver) : Prop := w.ownsRow B 195 4 v l.length (verCs l)
def InsPost (w : World) (B : Nat) (v0 : Value) (l : List Ver) (e : Ending) (w' : World) : Prop :=
  ∃ v', e = .returned v' ∧ OwnV w' B v' l ∧ w.grownBy w' v0.ownBlock ∧ (v'.ownBlock = v0.ownBlock ∨ ∃ g, v'.ownBlock = some g ∧ w.heap.size ≤ g)

theorem min_fst {a b n k : Nat} (h : a ≤ b) (hn : n = a * k) : n = Nat.min a b * k := by rw [show Nat.min a b = a from Nat.min_eq_left h]; exact hn
theorem verCs_append (l m : List Ver) : verCs (l ++ m) = verCs l ++ verCs m := by simp [verCs]
theorem one_cells (v : Ver) : ∀ (w : World) (vb : Nat), w.heap[vb]? = some (.cells (verC v).toArray 195 (0, 0)) → ∀ j u, (verC v)[j]? = some u → w.cell? ((⟨vb, 0, none⟩ : Addr).add j) = some u := fun w vb h j u hu => by
  rw [Go.WideShapes.add_plain, cell_of_row w vb (0 + j) _ _ (0, 0) h, ← hu]
  simp
theorem min_snd {a b n k : Nat} (h : b ≤ a) (hn : n = b * k) : n = Nat.min a b * k := by rw [show Nat.min a b = b from Nat.min_eq_right h]; exact hn
theorem splice_two {α : Type} (L c x : List α) : (splice (splice L 0 c) c.length x).take (c.length + x.length) = c ++ x := by
  have e : (splice L 0 c) = c ++ L.drop c.length := by simp [splice]
  rw [e, splice, List.take_left, ← List.append_assoc]
  exact List.take_left' (by simp)
theorem splice_two' {α : Type} (L c x : List α) (h : c.length + x.length ≤ L.length) : (splice (splice L c.length x) 0 c).take (c.length + x.length) = c ++ x := by
  have e : (splice L c.length x).drop c.length = x ++ L.drop (c.length + x.length) := by
    rw [splice, List.drop_append_of_le_length (by simp; omega), List.drop_take_self, List.nil_append]
  rw [splice, List.take_zero, List.nil_append, Nat.zero_add, e, ← List.append_assoc]
  exact List.take_left' (by simp)
set_option maxRecDepth 100000 in
set_option maxHeartbeats 2000000 in
theorem insert_any (l : List Ver) (v : Ver) (B vb : Nat) (v0 : Value) (w : World) (h0 : OwnV w B v0 l) (hv : w.heap[vb]? = some (.cells (verC v).toArray 195 (0, 0))) (hne : v0.ownBlock ≠ some vb) (hB : B ≤ w.heap.size) (hn : l.length ≤ 900000) (hnn : l = [] → v0 = .slice none 0 0) :
    Calls Tryz.prog 152 #[v0, .int .i64 0, .slice (some ⟨vb, 0, none⟩) 1 1] w (InsPost w B v0 (v :: l)) := by
  obtain ⟨i0, hi, hz0, hz1, hz2⟩ := info_parts info_ver
  have hsz : (Tryz.prog.info? 195).map (·.size) = some 4 := by kernel_rfl
  have H0 := Lib.hid h0
  have HV := Lib.hid hv
  have hvc := one_cells v
  have HC := Lib.hid hvc
  clear hvc
  have hvlt : vb < w.heap.size := (Array.getElem?_eq_some_iff.1 hv).1
  clear hv
  rcases h0.2 with ⟨rfl, hl0⟩ | ⟨g, cap, cur, rfl, hg, hrow, hncap, hcm, hcs, htk⟩
  · have hl : l = [] := List.eq_nil_of_length_eq_zero hl0
    subst hl
    clear h0 hl0
    go_enter Tryz.func152, Tryz.ntmps152
    go_wp2_with (at_builtin; refine wpList_append_own_at _ rfl _ _ 242 rfl B 195 i0 _ 4 40 Tryz.underlying242 hi hz0 hz1 hz2 rfl (by decide) (.slice none 0 0) 0 [] rfl (own_nil _ _ _ _) ⟨vb, 0, none⟩ 1 1 (verC v) rfl rfl (HC.out _ _ HV.out) (verC_one v) (le_maxLen (by omega)) (by omega) hB ?_; intro v' w1 hown hgr hb1 hb2)
    go_ret
    refine ⟨v', rfl, ?_, hgr, ?_⟩
    · exact hown
    · rcases hb2 with e | e
      · exact .inl e
      · exact .inr ⟨_, e, Nat.le_refl _⟩
  · have hl : l ≠ [] := fun e => by cases hnn e
    have hpos : 0 < l.length := List.length_pos_iff.2 hl
    have HO := Lib.hid (fun j u hj => World.ownsRow.cells (g := g) h0 rfl j u hj)
    have HR := Lib.hid hrow
    have HT := Lib.hid htk
    have hglt : g < w.heap.size := (Array.getElem?_eq_some_iff.1 hrow).1
    have HK := Lib.hid (verCs_len l)
    have HS := Lib.hid hcs
    have HM := Lib.hid hcm
    clear h0 hnn hl hrow htk hcs hcm
    have hb0 : ((l.length : Int) == 0) = false := by rw [beq_eq_false_iff_ne]; omega
    have hb1 : ((0 : Int) == (l.length : Int)) = false := by rw [beq_eq_false_iff_ne]; omega
    have hgv : g ≠ vb := fun e => hne (by rw [e]; rfl)
    clear hne
    by_cases hroom : l.length + 1 ≤ cap
    · have hov : (callFunc 193 #[.slice (some ⟨vb, 0, none⟩) 1 1, .slice (some ⟨g, 4, none⟩) l.length (cap - 1)]).run Tryz.prog w = .ok (.value (.bool false)) w := by
        rw [run_callFunc_extern Tryz.func193 (by kernel_rfl) (by kernel_rfl) (by kernel_rfl) (e := Extern.SlicesOverlaps.overlaps #[242, 242] #[4]) (by kernel_rfl),
          Lib.run_overlaps_apart w 242 4 195 Tryz.underlying242 4 (fun w => by obtain ⟨i1, h1, _, h2, _⟩ := info_parts info_ver; simp [sizeOf, typeInfo, h1, h2]) ⟨vb, 0, none⟩ ⟨g, 4, none⟩ 1 1 l.length (cap - 1) (fun e => hgv e.symm) 195 195 4 (cap * 4)
            (by simp [World.shape?, HV.out, verC]) (by simp [World.shape?, HR.out, HS.out]) (by omega) (by simp [World.frozen?, HV.out]) (by simp [World.frozen?, HV.out])]
        rfl
      have hb2 : ¬ (cap < l.length + 1) := by omega
      have hb3 : ¬ ((cap : Int) < (l.length : Int) + 1) := by omega
      have hcp : ¬ (cap = 0) := by omega
      have hcp1 : ¬ (cap = 1) := by omega
      have hw1 : IntKind.i64.wrap 1 = 1 := by decide
      have hbd : (1 : Int) ≤ (l.length : Int) + 1 := by omega
      have hbd2 : (l.length : Int) + 1 ≤ (cap : Int) := by omega
      have hbd0 : (0 : Int) ≤ (l.length : Int) + 1 := by omega
      have hcap63 : cap ≤ 9223372036854775807 := by have := HM.out; unfold maxLen at this; omega
      go_enter Tryz.func152, Tryz.ntmps152
      go_wp2_with (simp only [hov])
      have hcs := HS.out
      have hcurl : cur.toList.length = cap * 4 := by rw [Array.length_toList, hcs]
      replace hcs := Lib.hid hcs
      replace hcurl := Lib.hid hcurl
      go_region_law ((refine step_copy_spliceS rfl _ _ 242 242 rfl 195 4 Tryz.underlying242 hsz g 4 l.length (cap - 1) ⟨g, 0, none⟩ (l.length + 1) cap (by simp [Act.eval, Act.put]) (by simp [Act.eval, Act.put]) cur.toList 195 (by exact HR.out) (verCs l) (min_snd (by omega) HK.out) HO.out (by rw [hcurl.out, HK.out]; omega) (verCs_one l) ?_; intro n2 w2 hrow2 hgr2))
      all_goals
        have hsl : (splice cur.toList 4 (verCs l)).length = cap * 4 := by rw [length_splice _ _ _ (by rw [hcurl.out, HK.out]; omega)]; exact hcurl.out
        replace hsl := Lib.hid hsl
        go_wp2_with (have _h := hrow2; refine wpList_copy_spliceS rfl _ _ 242 242 rfl 195 4 Tryz.underlying242 hsz g 0 (l.length + 1) cap ⟨vb, 0, none⟩ 1 1 rfl rfl (splice cur.toList 4 (verCs l)) 195 hrow2.out (verC v) (min_fst (by omega) rfl) (fun j u hj => hgr2.cell (HC.out _ _ HV.out j u hj) (by rw [Go.WideShapes.add_plain]; simp; omega)) (by rw [hsl.out]; show 0 + 4 ≤ _; omega) (verC_one v) ?_; intro n3 w3 hrow3 hgr3)
        go_ret
        have hlen : (verC v).length + (verCs l).length ≤ cur.toList.length := by rw [HK.out, hcurl.out]; show 4 + _ ≤ _; omega
        refine ⟨_, rfl, ⟨?_, .inr ⟨g, cap, _, rfl, hg, hrow3.out, hroom, HM.out, ?_, ?_⟩⟩, ?_, .inl rfl⟩
        · rw [verCs_len]
        · have := length_splice (splice cur.toList 4 (verCs l)) 0 (verC v) (by rw [hsl.out]; show 0 + 4 ≤ _; omega)
          rw [List.size_toArray, this, hsl.out]
        · have := splice_two' cur.toList (verC v) (verCs l) hlen
          rw [HK.out] at this
          rw [show (v :: l).length * 4 = (verC v).length + l.length * 4 by show (l.length + 1) * 4 = 4 + _; omega]
          exact this
        · refine ⟨hgr3.os.trans hgr2.os, hgr3.tape.trans hgr2.tape, hgr3.output.trans hgr2.output, Nat.le_trans hgr2.size hgr3.size, fun k hk hne => ?_⟩
          have h2 := hgr2.size
          rw [hgr3.block k (by have h4 : w.drew.heap.size = w.heap.size := rfl; omega) hne, hgr2.block k hk hne]
          rfl
    · have hc3 : (cap : Int) < (l.length : Int) + 1 := by omega
      go_enter Tryz.func152, Tryz.ntmps152
      go_wp2_with (first
        | (at_builtin; refine wpList_append_zeros rfl _ _ 242 3 rfl 195 i0 _ 4 40 Tryz.underlying242 Tryz.underlying3 hi hz0 hz1 hz2 rfl (by decide) (some ⟨g, 0, none⟩) cap (l.length + 1) _ rfl rfl (by simp) (by omega) (by omega) (by omega) (by omega) ?_; intro G cur1 w1 hG1 hG2 hcl1 hrow1 hgr1 hsz1; replace hrow1 := Lib.hid hrow1; replace hcl1 := Lib.hid hcl1; replace hsz1 := Lib.hid hsz1)
        | (have _h := hrow1; refine wpList_copy_spliceS rfl _ _ 242 242 rfl 195 4 Tryz.underlying242 hsz w.heap.size 0 (l.length + 1) G ⟨vb, 0, none⟩ 1 1 rfl rfl cur1 195 hrow1.out (verC v) (min_fst (by omega) rfl) (fun j u hj => hgr1.cell (HC.out _ _ HV.out j u hj) (by simp)) (by have := hcl1.out; show 0 + 4 ≤ _; omega) (verC_one v) ?_; intro n2 w2 hrow2 hgr2))
      have hG3 : ¬ (G = 1) := by omega
      have hcp : ¬ (cap = 0) := by omega
      have hw1 : IntKind.i64.wrap 1 = 1 := by decide
      have hbd : (1 : Int) ≤ (l.length : Int) + 1 := by omega
      have hsl : (splice cur1 0 (verC v)).length = G * 4 := by rw [length_splice _ _ _ (by have := hcl1.out; show 0 + 4 ≤ _; omega)]; exact hcl1.out
      replace hsl := Lib.hid hsl
      go_region_law ((refine step_copy_spliceS rfl _ _ 242 242 rfl 195 4 Tryz.underlying242 hsz w.heap.size 4 l.length (G - 1) ⟨g, 0, none⟩ l.length cap (by simp [Act.eval, Act.put]) (by simp [Act.eval, Act.put]) (splice cur1 0 (verC v)) 195 hrow2.out (verCs l) (min_fst (Nat.le_refl _) HK.out) (fun j u hj => hgr2.cell (hgr1.cell (HO.out j u hj) (by simp)) (by rw [Go.WideShapes.add_plain]; simp; omega)) (by rw [hsl.out, HK.out]; omega) (verCs_one l) ?_; intro n3 w3 hrow3 hgr3))
      all_goals
        go_wp2
        go_ret
        refine ⟨_, rfl, ⟨?_, .inr ⟨w.heap.size, G, _, rfl, hB, hrow3.out, hG1, by unfold maxLen; omega, ?_, ?_⟩⟩, ?_, .inr ⟨w.heap.size, rfl, Nat.le_refl _⟩⟩
        · rw [verCs_len]
        · have := length_splice (splice cur1 0 (verC v)) 4 (verCs l) (by rw [hsl.out, HK.out]; omega)
          rw [List.size_toArray, this, hsl.out]
        · have := splice_two cur1 (verC v) (verCs l)
          rw [HK.out] at this
          rw [show (v :: l).length * 4 = (verC v).length + l.length * 4 by show (l.length + 1) * 4 = 4 + _; omega]
          exact this
        · have hsz1' := hsz1.out
          have h2 := hgr2.size
          refine ⟨hgr3.os.trans (hgr2.os.trans hgr1.os), hgr3.tape.trans (hgr2.tape.trans hgr1.tape), hgr3.output.trans (hgr2.output.trans hgr1.output), by have := hgr3.size; have h4 : w2.drew.heap.size = w2.heap.size := rfl; omega, fun k hk _ => ?_⟩
          rw [hgr3.block k (by show k < w2.heap.size; omega) (by simp; omega), show w2.drew.heap[k]? = w2.heap[k]? from rfl, hgr2.block k (by omega) (by simp; omega), hgr1.block k hk (by simp)]
end Go.Proofs.YtcldpmkhpmlcbaaGreatDoor
