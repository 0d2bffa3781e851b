/- How a store lies in memory: a map of rows of versions. -/
import Derived.Test.YtboiafchmdflpaaDoorIns14
import Derived.Test.YtboiafchmdflpaaDoorOut
import Derived.Maps.RangeWalk
import Derived.Maps.OwnSet
import Derived.Maps.Ext
namespace Go.Proofs.YtboiafchmdflpaaDoor
open Go.RowKit Go.Maps

/-! ### Elements that are held as they are -/
def heldE (v : Value) : Option (DataW Value × List MemPlace) := some (.held v, [])
theorem heldE_inv {v u : Value} {ps : List MemPlace} (h : heldE v = some (.held u, ps)) : v = u := by
  simp only [heldE, Option.some.injEq, Prod.mk.injEq, DataW.held.injEq] at h
  exact h.1
def lit (k : ByteArray) : Lit := .string k.data.toList
theorem lit_inj {a b : ByteArray} (h : lit a = lit b) : a = b := by
  simp only [lit, Lit.string.injEq] at h
  cases a; cases b
  simp at h
  simp [h]
theorem lit_key (k : ByteArray) : WideAt.IsKeyLit (lit k) := trivial
theorem keyS : Keyed Tryd.prog 9 := string_keyed Tryd.underlying9
theorem keyOf_lit {k : ByteArray} (h : k.size ≤ maxLen) : keyOf Tryd.prog 9 (.string k) = some (lit k) := WideMaps.keyOf_string_mk Tryd.underlying9 h
theorem keyOf_inv {key : Value} {kl : Lit} (h : keyOf Tryd.prog 9 key = some kl) : ∃ s : ByteArray, key = .string s ∧ kl = lit s ∧ s.size ≤ maxLen := by
  cases key <;> simp [keyOf, Tryd.underlying9, mapKey] at h
  obtain ⟨hs, rfl⟩ := h
  exact ⟨_, rfl, rfl, hs⟩
theorem atKey_out {D : DataW Value} {kl : Lit} (h : Maps.has D kl = false) (z : DataW Value) : D.atKey kl z = z := by
  cases D <;> try rfl
  rename_i es
  simp only [Maps.has] at h
  have : es.find? (fun p => p.1.sameKey kl) = none := by
    rw [List.find?_eq_none]
    intro p hp hs
    rw [List.any_eq_false] at h
    exact h p hp hs
  simp [DataW.atKey, this]


/-- A map's block mb: at each key the slice V k, which owns the key's versions; no two in one row. -/
structure KeysAt (w : World) (B N mb : Nat) (D : DataW Value) (V : ByteArray → Value) (O : Nat → Prop) (m : KV) : Prop where
  own : w.ownsMap Tryd.prog 9 heldE mb N D
  has : ∀ k, Maps.has D (lit k) = !(getK m k).isEmpty
  at_ : ∀ k z, getK m k ≠ [] → D.atKey (lit k) z = .held (V k)
  row : ∀ k, OwnV w B (V k) (getK m k)
  nil : ∀ k, getK m k = [] → V k = .slice none 0 0
  apart : ∀ k k' g, k ≠ k' → (V k).ownBlock = some g → (V k').ownBlock ≠ some g
  mine : ∀ k g, (V k).ownBlock = some g → O g ∧ g ≠ mb
  hm : O mb
theorem KeysAt.out' {w w' : World} {B N mb : Nat} {D : DataW Value} {V : ByteArray → Value} {O O' : Nat → Prop} {m : KV} (h : KeysAt w B N mb D V O m) (hw : Out O' w w') (hm : ¬ O' mb) (hr : ∀ k g, (V k).ownBlock = some g → ¬ O' g) : KeysAt w' B N mb D V O m :=
  ⟨hw.map h.own hm, h.has, h.at_, fun k => hw.row (h.row k) (fun g hg => hr k g hg), h.nil, h.apart, h.mine, h.hm⟩
theorem KeysAt.out {w w' : World} {B N mb : Nat} {D : DataW Value} {V : ByteArray → Value} {O O' : Nat → Prop} {m : KV} (h : KeysAt w B N mb D V O m) (hw : Out O' w w') (hd : ∀ k, O k → ¬ O' k) : KeysAt w' B N mb D V O m :=
  h.out' hw (hd _ h.hm) (fun k g hg => hd g (h.mine k g hg).1)
theorem KeysAt.mono {w : World} {B N mb : Nat} {D : DataW Value} {V : ByteArray → Value} {O O' : Nat → Prop} {m : KV} (h : KeysAt w B N mb D V O m) (hs : ∀ k, O k → O' k) : KeysAt w B N mb D V O' m :=
  ⟨h.own, h.has, h.at_, h.row, h.nil, h.apart, fun k g hg => ⟨hs g (h.mine k g hg).1, (h.mine k g hg).2⟩, hs _ h.hm⟩
theorem KeysAt.later {w w' : World} {B N mb : Nat} {D : DataW Value} {V : ByteArray → Value} {O : Nat → Prop} {m : KV} (h : KeysAt w B N mb D V O m) (hb : Below w.heap.size w w') : KeysAt w' B N mb D V O m :=
  h.out (O' := fun _ => False) (Out.of_below hb) (fun _ _ h => h)
theorem zeroR (w : World) : (zeroValue 91).run Tryd.prog w = .ok (.slice none 0 0) w := by kernel_rfl
/-- 's.keys[k]'. -/
theorem look_of {w : World} {N mb : Nat} {D : DataW Value} {V : ByteArray → Value} {m : KV} (own : w.ownsMap Tryd.prog 9 heldE mb N D) (has : ∀ k, Maps.has D (lit k) = !(getK m k).isEmpty)
    (at_ : ∀ k z, getK m k ≠ [] → D.atKey (lit k) z = .held (V k)) (nil : ∀ k, getK m k = [] → V k = .slice none 0 0) (k : ByteArray) (hk : k.size ≤ maxLen) :
    (Instr.lookup 86 (.map (some mb)) (.string k) false).run Tryd.prog w = .ok (V k) w := by
  refine Exists.elim (own.lookup keyS Tryd.underlying86 (zeroR w) (zd := .held (.slice none 0 0)) rfl (keyOf_lit hk)) fun v ⟨ps, hrun, hv⟩ => ?_
  suffices hvV : v = V k by rw [hrun, hvV]
  by_cases hm : getK m k = []
  · have h0 : Maps.has D (lit k) = false := by rw [has, hm]; rfl
    rw [atKey_out h0] at hv
    rw [nil k hm]
    exact heldE_inv hv
  · rw [at_ k _ hm] at hv
    exact heldE_inv hv
theorem KeysAt.look {w : World} {B N mb : Nat} {D : DataW Value} {V : ByteArray → Value} {O : Nat → Prop} {m : KV} (h : KeysAt w B N mb D V O m) (k : ByteArray) (hk : k.size ≤ maxLen) :
    (Instr.lookup 86 (.map (some mb)) (.string k) false).run Tryd.prog w = .ok (V k) w := look_of h.own h.has h.at_ h.nil k hk
theorem getK_len (m : KV) (k : ByteArray) : (getK m k).length ≤ (items m).length := by
  induction m with
  | nil => exact Nat.le_refl _
  | cons p m ih =>
    have e : (items (p :: m)).length = p.2.length + (items m).length := by
      rw [show items (p :: m) = itemsOf p ++ items m from rfl, List.length_append, itemsOf, List.length_map]
    rw [getK, e]
    split <;> omega
/-- Behind 's.keys[k] = v', v a row of its own. -/
theorem KeysAt.put {w w1 w2 w3 : World} {B N mb : Nat} {D : DataW Value} {V : ByteArray → Value} {O : Nat → Prop} {m : KV} (h : KeysAt w B N mb D V O m) (hris : RisesK m) (hlt : ∀ k, O k → B ≤ k ∧ k < w.heap.size) (hb : Below w.heap.size w w1) {k : ByteArray} {v : Value} {l : List Ver} (hl : l ≠ [])
    (hr : OwnV w2 B v l) (hg : w1.grownBy w2 (V k).ownBlock) (ho : v.ownBlock = (V k).ownBlock ∨ ∃ g, v.ownBlock = some g ∧ w1.heap.size ≤ g)
    (hown : w3.ownsMap Tryd.prog 9 heldE mb (N + 1) (D.put (lit k) (.held v))) (ht : w2.mapTurned w3 mb) :
    KeysAt w3 B (N + 1) mb (D.put (lit k) (.held v)) (fun x => if x = k then v else V x) (ext O w w3) (putK m k l) := by
  have ht' := ht.grown
  have hs1 := hb.size
  have hs2 := hg.size
  have hs3 := ht'.size
  have hmlt : mb < w.heap.size := (hlt mb h.hm).2
  have him : IsMap D := h.own.isMap
  have hvm : ∀ g, v.ownBlock = some g → g ≠ mb := by
    intro g hgv
    rcases ho with e | ⟨g', e, hge⟩
    · rw [e] at hgv; exact (h.mine k g hgv).2
    · rw [e] at hgv; injection hgv with hgv; omega
  refine ⟨hown, fun x => ?_, fun x z hx => ?_, fun x => ?_, fun x hx => ?_, fun x y g hxy hx hy => ?_, fun x g hx => ?_, .inl h.hm⟩
  · rw [getK_putK hris]
    by_cases e : x = k
    · subst e
      rw [if_pos rfl, has_put_same him (lit_key _)]
      cases l with
      | nil => exact absurd rfl hl
      | cons a l => rfl
    · rw [if_neg e, has_put_other (fun he => e (lit_inj he)), h.has]
  · rw [getK_putK hris] at hx
    by_cases e : x = k
    · subst e
      rw [atKey_put_same him (lit_key _)]
      simp
    · rw [if_neg e] at hx
      rw [atKey_put_other (fun he => e (lit_inj he)), h.at_ x z hx]
      simp [e]
  · rw [getK_putK hris]
    by_cases e : x = k
    · subst e
      simp only [↓reduceIte]
      exact hr.kept ht' (by
        cases hv : v.ownBlock with
        | none => exact .inl rfl
        | some g => exact .inr (fun he => hvm g hv (by injection he)))
    · simp only [e, if_false]
      have hold : ∀ g, (V x).ownBlock = some g → g ≠ mb ∧ (V k).ownBlock ≠ some g := fun g hgx => ⟨(h.mine x g hgx).2, h.apart x k g e hgx⟩
      have r1 : OwnV w1 B (V x) (getK m x) := own_keep (h.row x) hb
      have r2 : OwnV w2 B (V x) (getK m x) := r1.kept hg (by
        cases hv : (V x).ownBlock with
        | none => exact .inl rfl
        | some g => exact .inr (fun he => (hold g hv).2 he.symm))
      exact r2.kept ht' (by
        cases hv : (V x).ownBlock with
        | none => exact .inl rfl
        | some g => exact .inr (fun he => (hold g hv).1 (by injection he)))
  · rw [getK_putK hris] at hx
    by_cases e : x = k
    · rw [if_pos e] at hx; exact absurd hx hl
    · rw [if_neg e] at hx
      simp only [e, if_false]
      exact h.nil x hx
  · by_cases ex : x = k
    · replace hx : v.ownBlock = some g := by rw [← hx]; simp [ex]
      have ey : y ≠ k := fun e => hxy (by rw [ex, e])
      replace hy : (V y).ownBlock = some g := by rw [← hy]; simp [ey]
      rcases ho with e | ⟨g', e, hge⟩
      · rw [e] at hx
        exact h.apart k y g (Ne.symm ey) hx hy
      · rw [e] at hx
        injection hx with hx
        have := (hlt g (h.mine y g hy).1).2
        omega
    · replace hx : (V x).ownBlock = some g := by rw [← hx]; simp [ex]
      by_cases ey : y = k
      · replace hy : v.ownBlock = some g := by rw [← hy]; simp [ey]
        rcases ho with e | ⟨g', e, hge⟩
        · rw [e] at hy
          exact h.apart x k g ex hx hy
        · rw [e] at hy
          injection hy with hy
          have := (hlt g (h.mine x g hx).1).2
          omega
      · replace hy : (V y).ownBlock = some g := by rw [← hy]; simp [ey]
        exact h.apart x y g hxy hx hy
  · by_cases ex : x = k
    · replace hx : v.ownBlock = some g := by rw [← hx]; simp [ex]
      refine ⟨?_, hvm g hx⟩
      rcases ho with e | ⟨g', e, hge⟩
      · rw [e] at hx; exact .inl (h.mine k g hx).1
      · have hgl := (hr.lt g hx).2
        rw [e] at hx
        injection hx with hx
        exact .inr ⟨by omega, by omega⟩
    · replace hx : (V x).ownBlock = some g := by rw [← hx]; simp [ex]
      exact ⟨.inl (h.mine x g hx).1, (h.mine x g hx).2⟩

/-! ### A store -/
structure StoreIn (w : World) (B p N mb : Nat) (D : DataW Value) (V : ByteArray → Value) (O : Nat → Prop) (s : StD) : Prop where
  blk : w.heap[p]? = some (.cells #[.map (some mb), .int .u64 (s.last : Int), .int .u64 (s.low : Int)] 88 (0, 0))
  keys : KeysAt w B N mb D V O s.ks
  hp : O p
  n1 : p ≠ mb
  n2 : ∀ k g, (V k).ownBlock = some g → g ≠ p
  lt : ∀ k, O k → B ≤ k ∧ k < w.heap.size
def StoreAt (w : World) (B p N : Nat) (O : Nat → Prop) (s : StD) : Prop := ∃ mb D V, StoreIn w B p N mb D V O s
theorem StoreIn.c0 {w : World} {B p N mb : Nat} {D : DataW Value} {V : ByteArray → Value} {O : Nat → Prop} {s : StD} (h : StoreIn w B p N mb D V O s) : w.cell? ⟨p, 0, none⟩ = some (.map (some mb)) := by
  rw [cell_of_row w p 0 _ _ _ h.blk]; rfl
theorem StoreIn.c1 {w : World} {B p N mb : Nat} {D : DataW Value} {V : ByteArray → Value} {O : Nat → Prop} {s : StD} (h : StoreIn w B p N mb D V O s) : w.cell? ⟨p, 1, none⟩ = some (.int .u64 (s.last : Int)) := by
  rw [cell_of_row w p 1 _ _ _ h.blk]; rfl
theorem StoreIn.c2 {w : World} {B p N mb : Nat} {D : DataW Value} {V : ByteArray → Value} {O : Nat → Prop} {s : StD} (h : StoreIn w B p N mb D V O s) : w.cell? ⟨p, 2, none⟩ = some (.int .u64 (s.low : Int)) := by
  rw [cell_of_row w p 2 _ _ _ h.blk]; rfl
theorem StoreIn.fz {w : World} {B p N mb : Nat} {D : DataW Value} {V : ByteArray → Value} {O : Nat → Prop} {s : StD} (h : StoreIn w B p N mb D V O s) (j : Nat) : w.frozen? ⟨p, j, none⟩ = false := frozen_of_row w p j _ _ h.blk
theorem StoreIn.out {w w' : World} {B p N mb : Nat} {D : DataW Value} {V : ByteArray → Value} {O O' : Nat → Prop} {s : StD} (h : StoreIn w B p N mb D V O s) (hw : Out O' w w') (hd : ∀ k, O k → ¬ O' k) : StoreIn w' B p N mb D V O s :=
  ⟨hw.obj h.blk (hd _ h.hp), h.keys.out hw hd, h.hp, h.n1, h.n2, fun k hk => ⟨(h.lt k hk).1, Nat.lt_of_lt_of_le (h.lt k hk).2 hw.size⟩⟩
theorem StoreIn.later {w w' : World} {B p N mb : Nat} {D : DataW Value} {V : ByteArray → Value} {O : Nat → Prop} {s : StD} (h : StoreIn w B p N mb D V O s) (hb : Below w.heap.size w w') : StoreIn w' B p N mb D V O s :=
  h.out (O' := fun _ => False) (Out.of_below hb) (fun _ _ h => h)
theorem StoreAt.out {w w' : World} {B p N : Nat} {O O' : Nat → Prop} {s : StD} (h : StoreAt w B p N O s) (hw : Out O' w w') (hd : ∀ k, O k → ¬ O' k) : StoreAt w' B p N O s := by
  obtain ⟨mb, D, V, h⟩ := h
  exact ⟨mb, D, V, h.out hw hd⟩
theorem StoreAt.later {w w' : World} {B p N : Nat} {O : Nat → Prop} {s : StD} (h : StoreAt w B p N O s) (hb : Below w.heap.size w w') : StoreAt w' B p N O s :=
  h.out (O' := fun _ => False) (Out.of_below hb) (fun _ _ h => h)
theorem blk_set {w : World} {g j : Nat} {cur : Array Value} {t : TypeId} (v : Value) (h : w.heap[g]? = some (.cells cur t (0, 0))) : (w.setCell ⟨g, j, none⟩ v).heap[g]? = some (.cells (cur.setIfInBounds j v) t (0, 0)) := by
  rw [setCell_eq_setRow w g j cur t (0, 0) v h, setRow_heap w g cur _ t _ h]
theorem out_set (w : World) (b j : Nat) (u : Value) : Out (fun k => k = b) w (w.setCell ⟨b, j, none⟩ u) :=
  ⟨rfl, rfl, rfl, by simp [World.setCell], fun i _ hi => Below.heap_setCell _ _ _ _ hi⟩
theorem StoreIn.setLast {w : World} {B p N mb : Nat} {D : DataW Value} {V : ByteArray → Value} {O : Nat → Prop} {s : StD} (h : StoreIn w B p N mb D V O s) (n : Nat) : StoreIn (w.setCell ⟨p, 1, none⟩ (.int .u64 (n : Int))) B p N mb D V O ⟨s.ks, n, s.low⟩ := by
  have hb := blk_set (j := 1) (.int .u64 (n : Int)) h.blk
  have ho := out_set w p 1 (.int .u64 (n : Int))
  exact { blk := by simpa using hb, keys := h.keys.out' ho (fun e => h.n1 e.symm) (fun k g hg e => h.n2 k g hg e), hp := h.hp, n1 := h.n1, n2 := h.n2, lt := fun k hk => ⟨(h.lt k hk).1, by have := (h.lt k hk).2; have := ho.size; omega⟩ }
theorem StoreIn.setLow {w : World} {B p N mb : Nat} {D : DataW Value} {V : ByteArray → Value} {O : Nat → Prop} {s : StD} (h : StoreIn w B p N mb D V O s) (n : Nat) : StoreIn (w.setCell ⟨p, 2, none⟩ (.int .u64 (n : Int))) B p N mb D V O ⟨s.ks, s.last, n⟩ := by
  have hb := blk_set (j := 2) (.int .u64 (n : Int)) h.blk
  have ho := out_set w p 2 (.int .u64 (n : Int))
  exact { blk := by simpa using hb, keys := h.keys.out' ho (fun e => h.n1 e.symm) (fun k g hg e => h.n2 k g hg e), hp := h.hp, n1 := h.n1, n2 := h.n2, lt := fun k hk => ⟨(h.lt k hk).1, by have := (h.lt k hk).2; have := ho.size; omega⟩ }
theorem ext_eq {O : Nat → Prop} {w w1 w2 : World} (h1 : w.heap.size ≤ w1.heap.size) (h2 : w1.heap.size ≤ w2.heap.size) : ext (ext O w w1) w1 w2 = ext O w w2 := funext fun k => propext (ext_ext h1 h2 k)
/-- Behind 's.keys[k] = v', v a row of its own. -/
theorem StoreIn.put {w w1 w2 w3 : World} {B p N mb : Nat} {D : DataW Value} {V : ByteArray → Value} {O : Nat → Prop} {s : StD} (h : StoreIn w B p N mb D V O s) (hris : RisesK s.ks) (hb : Below w.heap.size w w1) {k : ByteArray} {v : Value} {l : List Ver} (hl : l ≠ [])
    (hr : OwnV w2 B v l) (hg : w1.grownBy w2 (V k).ownBlock) (ho : v.ownBlock = (V k).ownBlock ∨ ∃ g, v.ownBlock = some g ∧ w1.heap.size ≤ g)
    (hown : w3.ownsMap Tryd.prog 9 heldE mb (N + 1) (D.put (lit k) (.held v))) (ht : w2.mapTurned w3 mb) :
    StoreAt w3 B p (N + 1) (ext O w w3) ⟨putK s.ks k l, s.last, s.low⟩ ∧ Out O w w3 := by
  have hs1 := hb.size
  have hs2 := hg.size
  have hs3 := ht.grown.size
  have hk := h.keys.put hris h.lt hb hl hr hg ho hown ht
  have hplt := (h.lt p h.hp).2
  have hout : Out O w w3 := by
    refine ⟨ht.grown.os.trans (hg.os.trans hb.os), ht.grown.tape.trans (hg.tape.trans hb.tape), ht.grown.output.trans (hg.output.trans hb.output), by omega, fun x hx ho' => ?_⟩
    rw [ht.grown.block x (by omega) (fun e => ho' (by injection e with e; exact e ▸ h.keys.hm)), hg.block x (by omega) (fun e => ho' (h.keys.mine k x e.symm).1), hb.block x hx]
  refine ⟨⟨mb, D.put (lit k) (.held v), fun x => if x = k then v else V x, ?_⟩, hout⟩
  refine { blk := ?_, keys := hk, hp := .inl h.hp, n1 := h.n1, n2 := fun x g hx => ?_, lt := fun x hx => Or.elim hx (fun hx => ⟨(h.lt x hx).1, by have := (h.lt x hx).2; omega⟩) (fun hx => ⟨?_, hx.2⟩) }
  · rw [ht.grown.block p (by omega) (fun e => h.n1 (by injection e)), hg.block p (by omega) (fun e => h.n2 k p e.symm rfl), hb.block p hplt]
    exact h.blk
  · by_cases e : x = k
    · replace hx : v.ownBlock = some g := by rw [← hx]; simp [e]
      rcases ho with eo | ⟨g', eo, hge⟩
      · rw [eo] at hx; exact h.n2 k g hx
      · rw [eo] at hx; injection hx with hx; omega
    · replace hx : (V x).ownBlock = some g := by rw [← hx]; simp [e]
      exact h.n2 x g hx
  · have := (h.lt p h.hp).1
    omega
theorem items_put_len {m : KV} (h : RisesK m) (n : Nat) (x : Wr) : (items (putW n m x)).length = (items m).length + 1 := by
  have := insF_items h x.key ⟨n, x.val⟩
  rw [putW, ← this, insF, List.length_append, List.length_cons]
  have e := congrArg List.length (List.takeWhile_append_dropWhile (p := fun y : It => lessS y.key x.key) (l := items m))
  rw [List.length_append] at e
  simp only at e ⊢
  omega
theorem items_puts_len (n : Nat) : ∀ (l : List Wr) {m : KV}, RisesK m → (items (putWs n m l)).length = (items m).length + l.length
  | [], _, _ => rfl
  | x :: l, m, h => by
    have := items_puts_len n l (m := putW n m x) (putK_rises h _ _)
    rw [show putWs n m (x :: l) = putWs n (putW n m x) l from rfl, this, items_put_len h, List.length_cons]
    omega
end Go.Proofs.YtboiafchmdflpaaDoor
