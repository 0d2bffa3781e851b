/- In the midst of Collect: some keys' versions are collected, the others' are still to come. -/
import Derived.Test.YtboiafchmdflpaaDoorCount14
import Derived.Test.YtboiafchmdflpaaDoorRanP14
namespace Go.Proofs.YtboiafchmdflpaaDoor
open Go.RowKit Go.Maps Go.Sort Go.Shelf

/-! ### Plain -/
def colAt (left : Lit → Bool) (n : Nat) (p : ByteArray × List Ver) : List Ver := if left (lit p.1) = true then p.2 else colV p.2 n
def colP (left : Lit → Bool) (n : Nat) : KV → KV
  | [] => []
  | p :: m => if (colAt left n p).isEmpty then colP left n m else (p.1, colAt left n p) :: colP left n m
theorem mem_colP {left : Lit → Bool} {n : Nat} {m : KV} {q : ByteArray × List Ver} (h : q ∈ colP left n m) : ∃ p ∈ m, q = (p.1, colAt left n p) ∧ colAt left n p ≠ [] := by
  induction m with
  | nil => cases h
  | cons p m ih =>
    rw [colP] at h
    split at h
    · obtain ⟨p', hp', r⟩ := ih h; exact ⟨p', by simp [hp'], r⟩
    · rename_i hne
      rcases List.mem_cons.1 h with rfl | h
      · exact ⟨p, by simp, rfl, by simpa using hne⟩
      · obtain ⟨p', hp', r⟩ := ih h; exact ⟨p', by simp [hp'], r⟩
theorem colP_rises {left : Lit → Bool} {n : Nat} {m : KV} (h : RisesK m) : RisesK (colP left n m) := by
  induction m with
  | nil => exact h
  | cons p m ih =>
    obtain ⟨h1, h2⟩ := List.pairwise_cons.1 h
    rw [colP]
    split
    · exact ih h2
    · refine List.pairwise_cons.2 ⟨fun q hq => ?_, ih h2⟩
      obtain ⟨p', hp', rfl, _⟩ := mem_colP hq
      exact h1 p' hp'
theorem getK_colP {left : Lit → Bool} {n : Nat} {m : KV} (h : RisesK m) (k : ByteArray) : getK (colP left n m) k = if left (lit k) = true then getK m k else colV (getK m k) n := by
  induction m with
  | nil => rw [colP, getK]; split <;> rfl
  | cons p m ih =>
    obtain ⟨h1, h2⟩ := List.pairwise_cons.1 h
    rw [colP]
    by_cases e : p.1 = k
    · have e2 : getK (p :: m) k = p.2 := by rw [getK, if_pos e]
      rw [e2]
      have e3 : (if left (lit k) = true then p.2 else colV p.2 n) = colAt left n p := by rw [colAt, e]
      rw [e3]
      split
      · rename_i he
        have h0 : getK m k = [] := getK_none (fun q hq => e ▸ (lessS_ne (h1 q hq)).symm)
        rw [ih h2, h0]
        have h9 : colAt left n p = [] := by simpa using he
        rw [h9]
        split <;> rfl
      · rw [getK, if_pos e]
    · have e2 : getK (p :: m) k = getK m k := by rw [getK, if_neg e]
      rw [e2]
      split
      · exact ih h2
      · rw [getK, if_neg e, ih h2]
theorem colP_start {left : Lit → Bool} {n : Nat} : ∀ {m : KV}, (∀ p ∈ m, p.2 ≠ []) → (∀ p ∈ m, left (lit p.1) = true) → colP left n m = m
  | [], _, _ => rfl
  | p :: m, hne, h => by
    have e : colAt left n p = p.2 := by rw [colAt, if_pos (h p (by simp))]
    rw [colP, e, if_neg (by simpa using hne p (by simp)), colP_start (fun q hq => hne q (by simp [hq])) (fun q hq => h q (by simp [hq]))]
theorem colP_end {left : Lit → Bool} {n : Nat} (h : ∀ kl, left kl = false) : ∀ m : KV, colP left n m = colK m n
  | [] => rfl
  | p :: m => by
    have e : colAt left n p = colV p.2 n := by rw [colAt, if_neg (by rw [h]; decide)]
    rw [colP, colK, e, colP_end h m]
theorem getK_step {left : Lit → Bool} {n : Nat} {m : KV} (h : RisesK m) (x k : ByteArray) (hx : left (lit x) = true) :
    getK (colP (fun z => left z && !z.sameKey (lit x)) n m) k = if k = x then colV (getK m x) n else getK (colP left n m) k := by
  rw [getK_colP h, getK_colP h]
  by_cases e : k = x
  · subst e
    rw [if_pos rfl]
    simp [WideAt.sameKey_self (lit_key k)]
  · rw [if_neg e]
    have : (lit k).sameKey (lit x) = false := sameKey_ne fun e9 => e (lit_inj e9)
    simp [this]
def hiB (n : Nat) (v : Ver) : Bool := decide (n < v.num)
/-- The first version that is not above n. -/
def idxC (l : List Ver) (n : Nat) : Int := if l.all (hiB n) then -1 else ((l.takeWhile (hiB n)).length : Nat)
theorem hi_split {l : List Ver} {k : Nat} {v : Ver} (hk : k < l.length) (hv : l.getD k noVer = v) : l = l.take k ++ v :: l.drop (k + 1) := by
  have : v = l[k] := by rw [← hv, List.getD_eq_getElem?_getD, List.getElem?_eq_getElem hk]; rfl
  rw [this]; simp
theorem idxC_hit {l : List Ver} {k n : Nat} {v : Ver} (hk : k < l.length) (h : (l.take k).all (hiB n) = true) (hv : l.getD k noVer = v) (hn : v.num ≤ n) : idxC l n = (k : Int) := by
  have e := hi_split hk hv
  have hb : hiB n v = false := by rw [hiB, decide_eq_false_iff_not]; omega
  have h1 : l.all (hiB n) = false := by rw [e, List.all_append, List.all_cons, hb]; simp
  have h2 : l.takeWhile (hiB n) = l.take k := by
    conv => lhs; rw [e]
    rw [takeWhile_append_all (List.all_eq_true.1 h), List.takeWhile_cons, hb]
    simp
  rw [idxC, h1, h2, List.length_take]
  simp only [Bool.false_eq_true, if_false]
  omega
theorem idxC_none {l : List Ver} {n : Nat} (h : l.all (hiB n) = true) : idxC l n = -1 := by rw [idxC, if_pos h]
theorem colV_none {l : List Ver} {n : Nat} (h : l.all (hiB n) = true) : colV l n = l := by
  induction l with
  | nil => rfl
  | cons v l ih =>
    rw [List.all_cons, Bool.and_eq_true] at h
    rw [colV, if_pos (of_decide_eq_true h.1), ih h.2]
theorem colV_hit {l : List Ver} {k n : Nat} {v : Ver} (hk : k < l.length) (h : (l.take k).all (hiB n) = true) (hv : l.getD k noVer = v) (hn : v.num ≤ n) : colV l n = if v.val.kind = 0 then l.take k else l.take (k + 1) := by
  induction l generalizing k with
  | nil => simp at hk
  | cons u l ih =>
    cases k with
    | zero =>
      have e : u = v := hv
      subst e
      rw [colV, if_neg (by omega)]
      simp
    | succ k =>
      rw [List.take_succ_cons, List.all_cons, Bool.and_eq_true] at h
      have := ih (k := k) (by simpa using hk) h.2 hv
      rw [colV, if_pos (of_decide_eq_true h.1), this]
      split <;> rfl
theorem hi_find {l : List Ver} {n : Nat} (h : l.all (hiB n) = false) : ∃ k, k < l.length ∧ (l.take k).all (hiB n) = true ∧ (l.getD k noVer).num ≤ n := by
  induction l with
  | nil => simp at h
  | cons v l ih =>
    by_cases hv : hiB n v = true
    · rw [List.all_cons, hv, Bool.true_and] at h
      obtain ⟨k, h1, h2, h3⟩ := ih h
      exact ⟨k + 1, by simpa using h1, by rw [List.take_succ_cons, List.all_cons, hv, h2]; rfl, h3⟩
    · refine ⟨0, by simp, rfl, ?_⟩
      show v.num ≤ n
      have : ¬ n < v.num := fun e => hv (decide_eq_true e)
      omega

/-! ### The store, one key's row turned -/
theorem StoreIn.mono {w : World} {B p N mb : Nat} {D : DataW Value} {V : ByteArray → Value} {O O' : Nat → Prop} {s : StD} (h : StoreIn w B p N mb D V O s) (hs : ∀ k, O k → O' k) (hl : ∀ k, O' k → B ≤ k ∧ k < w.heap.size) : StoreIn w B p N mb D V O' s :=
  { blk := h.blk, keys := h.keys.mono hs, hp := hs _ h.hp, n1 := h.n1, n2 := h.n2, lt := hl }
theorem StoreIn.turn {w w3 : World} {B p N mb : Nat} {D D' : DataW Value} {V : ByteArray → Value} {O : Nat → Prop} {s : StD} (h : StoreIn w B p N mb D V O s) (hB : B ≤ w.heap.size) (ho : Out (fun k => k = mb) w w3) {x : ByteArray} {v : Value} {l : List Ver} {m' : KV}
    (hr : OwnV w3 B v l) (hv : ∀ g, v.ownBlock = some g → (V x).ownBlock = some g ∨ w.heap.size ≤ g) (hnil : l = [] → v = .slice none 0 0) (hown : w3.ownsMap Tryd.prog 9 heldE mb N D')
    (hhas : ∀ k, Maps.has D' (lit k) = if k = x then !l.isEmpty else Maps.has D (lit k)) (hat : ∀ k z, k ≠ x → D'.atKey (lit k) z = D.atKey (lit k) z) (hatx : l ≠ [] → ∀ z, D'.atKey (lit x) z = .held v)
    (hm' : ∀ k, getK m' k = if k = x then l else getK s.ks k) :
    StoreIn w3 B p N mb D' (fun k => if k = x then v else V k) (ext O w w3) ⟨m', s.last, s.low⟩ := by
  have hsz := ho.size
  have hmlt := h.lt mb h.keys.hm
  have hvne : ∀ g, v.ownBlock = some g → g ≠ mb ∧ g ≠ p := fun g hg => by
    rcases hv g hg with e | e
    · exact ⟨(h.keys.mine x g e).2, h.n2 x g e⟩
    · have := (h.lt p h.hp).2; exact ⟨by omega, by omega⟩
  have hapv : ∀ k g, k ≠ x → v.ownBlock = some g → (V k).ownBlock ≠ some g := fun k g hk hg he => by
    rcases hv g hg with e | e
    · exact h.keys.apart x k g (Ne.symm hk) e he
    · have := (h.lt g (h.keys.mine k g he).1).2; omega
  refine { blk := ho.obj h.blk h.n1, keys := { own := hown, has := fun k => ?_, at_ := fun k z hk => ?_, row := fun k => ?_, nil := fun k hk => ?_, apart := fun k k' g hkk hk hk' => ?_, mine := fun k g hk => ?_, hm := .inl h.keys.hm }, hp := .inl h.hp, n1 := h.n1, n2 := fun k g hk => ?_, lt := fun k hk => hk.elim (fun hk => ⟨(h.lt k hk).1, by have := (h.lt k hk).2; omega⟩) (fun e => ⟨by omega, e.2⟩) }
  · rw [hhas, hm']
    split
    · rfl
    · exact h.keys.has k
  · rw [hm'] at hk
    by_cases e : k = x
    · rw [if_pos e] at hk
      subst e
      simp only [if_true]
      exact hatx hk z
    · rw [if_neg e] at hk
      simp only [e, if_false]
      rw [hat k z e]
      exact h.keys.at_ k z hk
  · show OwnV w3 B _ (getK m' k)
    rw [hm']
    by_cases e : k = x
    · simp only [e, if_true]; exact hr
    · simp only [e, if_false]
      exact ho.row (h.keys.row k) (fun g hg => (h.keys.mine k g hg).2)
  · rw [hm'] at hk
    by_cases e : k = x
    · rw [if_pos e] at hk
      simp only [e, if_true]; exact hnil hk
    · rw [if_neg e] at hk
      simp only [e, if_false]; exact h.keys.nil k hk
  · by_cases e : k = x
    · have e' : k' ≠ x := fun e9 => hkk (by rw [e, e9])
      simp only [e, if_true] at hk
      simp only [e', if_false] at hk'
      exact hapv k' g e' hk hk'
    · simp only [e, if_false] at hk
      by_cases e' : k' = x
      · simp only [e', if_true] at hk'
        exact hapv k g e hk' hk
      · simp only [e', if_false] at hk'
        exact h.keys.apart k k' g hkk hk hk'
  · by_cases e : k = x
    · simp only [e, if_true] at hk
      refine ⟨?_, (hvne g hk).1⟩
      rcases hv g hk with e9 | e9
      · exact .inl (h.keys.mine x g e9).1
      · exact .inr ⟨e9, (hr.lt g hk).2⟩
    · simp only [e, if_false] at hk
      exact ⟨.inl (h.keys.mine k g hk).1, (h.keys.mine k g hk).2⟩
  · by_cases e : k = x
    · simp only [e, if_true] at hk; exact (hvne g hk).2
    · simp only [e, if_false] at hk; exact h.n2 k g hk
/-- Behind 's.keys[x] = v'. -/
theorem StoreIn.turnPut {w w2 w3 : World} {B p N mb n : Nat} {D : DataW Value} {V : ByteArray → Value} {O : Nat → Prop} {s : StD} {left : Lit → Bool} {m : KV} (h : StoreIn w B p N mb D V O s) (hks : s.ks = colP left n m) (hris : RisesK m) (hB : B ≤ w.heap.size) {x : ByteArray} {v : Value} {l : List Ver} (hx : left (lit x) = true) (hl : colV (getK m x) n = l) (hne : l ≠ [])
    (hr : OwnV w2 B v l) (hv : ∀ g, v.ownBlock = some g → (V x).ownBlock = some g ∨ w.heap.size ≤ g) (hb : Below w.heap.size w w2) (ht : w2.mapTurned w3 mb) (hown : w3.ownsMap Tryd.prog 9 heldE mb N (D.put (lit x) (.held v))) :
    StoreIn w3 B p N mb (D.put (lit x) (.held v)) (fun k => if k = x then v else V k) (ext O w w3) ⟨colP (fun z => left z && !z.sameKey (lit x)) n m, s.last, s.low⟩ ∧ Out (fun k => k = mb) w w3 := by
  have ho : Out (fun k => k = mb) w w3 := (Out.of_below hb).trans' (Out.of_grown ht.grown (fun k e => by injection e with e; exact e.symm))
  have him : IsMap D := h.keys.own.isMap
  have hmb := (h.lt mb h.keys.hm).2
  refine ⟨h.turn hB ho (hr.kept ht.grown ?_) hv (fun e => absurd e hne) hown (fun k => ?_) (fun k z hk => atKey_put_other (fun e => hk (lit_inj e)) _ _) (fun _ z => atKey_put_same him (lit_key x) _ _) (fun k => ?_), ho⟩
  · cases hvo : v.ownBlock with
    | none => exact .inl rfl
    | some g =>
      refine .inr (fun e => ?_)
      injection e with e
      rcases hv g hvo with e9 | e9
      · exact (h.keys.mine x g e9).2 e
      · omega
  · by_cases e : k = x
    · subst e
      rw [if_pos rfl, has_put_same him (lit_key k)]
      cases l with
      | nil => exact absurd rfl hne
      | cons a l => rfl
    · rw [if_neg e, has_put_other (fun e9 => e (lit_inj e9))]
  · rw [getK_step hris x k hx, hl, hks]
/-- Behind 's.keys[x] = v; delete(s.keys, x)'. -/
theorem StoreIn.turnDel {w w2 w3 w4 : World} {B p N mb n : Nat} {D : DataW Value} {V : ByteArray → Value} {O : Nat → Prop} {s : StD} {left : Lit → Bool} {m : KV} (h : StoreIn w B p N mb D V O s) (hks : s.ks = colP left n m) (hris : RisesK m) (hB : B ≤ w.heap.size) {x : ByteArray} {v : Value} (hx : left (lit x) = true) (hl : colV (getK m x) n = [])
    (hb : Below w.heap.size w w2) (ht : w2.mapTurned w3 mb) (ht2 : w3.mapTurned w4 mb) (hown : w4.ownsMap Tryd.prog 9 heldE mb N ((D.put (lit x) (.held v)).del (lit x))) :
    StoreIn w4 B p N mb ((D.put (lit x) (.held v)).del (lit x)) (fun k => if k = x then .slice none 0 0 else V k) (ext O w w4) ⟨colP (fun z => left z && !z.sameKey (lit x)) n m, s.last, s.low⟩ ∧ Out (fun k => k = mb) w w4 := by
  have ho : Out (fun k => k = mb) w w4 := (Out.of_below hb).trans' (Out.of_grown (ht.trans ht2).grown (fun k e => by injection e with e; exact e.symm))
  refine ⟨h.turn (l := []) hB ho (own_nil _ _ _ _) (fun g hg => by cases hg) (fun _ => rfl) hown (fun k => ?_) (fun k z hk => ?_) (fun e => absurd rfl e) (fun k => ?_), ho⟩
  · by_cases e : k = x
    · subst e
      rw [if_pos rfl, has_del_same]
      rfl
    · rw [if_neg e, has_del_other (fun e9 => e (lit_inj e9)), has_put_other (fun e9 => e (lit_inj e9))]
  · rw [atKey_del_other (fun e9 => hk (lit_inj e9)), atKey_put_other (fun e9 => hk (lit_inj e9))]
  · rw [getK_step hris x k hx, hl, hks]
end Go.Proofs.YtboiafchmdflpaaDoor
