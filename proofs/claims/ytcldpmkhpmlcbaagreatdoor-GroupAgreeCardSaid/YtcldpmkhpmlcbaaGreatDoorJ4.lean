/- How a store lies in memory: a map of rows of versions. -/
import Derived.Test.YtcldpmkhpmlcbaaGreatDoorJ3
import Derived.Test.YtcldpmkhpmlcbaaGreatDoorJ2
import Derived.Maps.RangeWalk
import Derived.Maps.OwnSet
import Derived.Maps.Ext
import Derived.Test.YtcldpmkhpmlcbaaGreatDoorJ1
set_option linter.unusedVariables false
set_option linter.unusedSimpArgs false
namespace Go.Proofs.YtcldpmkhpmlcbaaGreatDoor
open Go.RowKit Go.Maps

/-! ### Elements that are held as they are -/
def heldE (v : Value) : Option (DataW Value × List MemPlace) := some (.held v, [])
theorem heldE_inv {v u : Value} {ps : List MemPlace} (h : heldE v = some (.held u, ps)) : v = u := by
  simp only [heldE, Option.some.injEq, Prod.mk.injEq, DataW.held.injEq] at h
  exact h.1
def lit (k : ByteArray) : Lit := .string k.data.toList
theorem lit_inj {a b : ByteArray} (h : lit a = lit b) : a = b := by
  simp only [lit, Lit.string.injEq] at h
  cases a; cases b
  simp at h
  simp [h]
theorem lit_key (k : ByteArray) : WideAt.IsKeyLit (lit k) := trivial
theorem keyS : Keyed Tryz.prog 9 := string_keyed Tryz.underlying9
theorem keyOf_lit {k : ByteArray} (h : k.size ≤ maxLen) : keyOf Tryz.prog 9 (.string k) = some (lit k) := WideMaps.keyOf_string_mk Tryz.underlying9 h
theorem keyOf_inv {key : Value} {kl : Lit} (h : keyOf Tryz.prog 9 key = some kl) : ∃ s : ByteArray, key = .string s ∧ kl = lit s ∧ s.size ≤ maxLen := by
  cases key <;> simp [keyOf, Tryz.underlying9, mapKey] at h
  obtain ⟨hs, rfl⟩ := h
  exact ⟨_, rfl, rfl, hs⟩
theorem atKey_out {D : DataW Value} {kl : Lit} (h : Maps.has D kl = false) (z : DataW Value) : D.atKey kl z = z := by
  cases D <;> try rfl
  rename_i es
  simp only [Maps.has] at h
  have : es.find? (fun p => p.1.sameKey kl) = none := by
    rw [List.find?_eq_none]
    intro p hp hs
    rw [List.any_eq_false] at h
    exact h p hp hs
  simp [DataW.atKey, this]


/-- A map's block mb: at each key the slice V k, which owns the key's versions; no two in one row. -/
structure KeysAt (w : World) (B N mb : Nat) (D : DataW Value) (V : ByteArray → Value) (O : Nat → Prop) (m : KV) : Prop where
  own : w.ownsMap Tryz.prog 9 heldE mb N D
  has : ∀ k, Maps.has D (lit k) = !(getK m k).isEmpty
  at_ : ∀ k z, getK m k ≠ [] → D.atKey (lit k) z = .held (V k)
  row : ∀ k, OwnV w B (V k) (getK m k)
  nil : ∀ k, getK m k = [] → V k = .slice none 0 0
  apart : ∀ k k' g, k ≠ k' → (V k).ownBlock = some g → (V k').ownBlock ≠ some g
  mine : ∀ k g, (V k).ownBlock = some g → O g ∧ g ≠ mb
  hm : O mb
theorem KeysAt.out' {w w' : World} {B N mb : Nat} {D : DataW Value} {V : ByteArray → Value} {O O' : Nat → Prop} {m : KV} (h : KeysAt w B N mb D V O m) (hw : Out O' w w') (hm : ¬ O' mb) (hr : ∀ k g, (V k).ownBlock = some g → ¬ O' g) : KeysAt w' B N mb D V O m :=
  ⟨hw.map h.own hm, h.has, h.at_, fun k => hw.row (h.row k) (fun g hg => hr k g hg), h.nil, h.apart, h.mine, h.hm⟩
theorem KeysAt.out {w w' : World} {B N mb : Nat} {D : DataW Value} {V : ByteArray → Value} {O O' : Nat → Prop} {m : KV} (h : KeysAt w B N mb D V O m) (hw : Out O' w w') (hd : ∀ k, O k → ¬ O' k) : KeysAt w' B N mb D V O m :=
  h.out' hw (hd _ h.hm) (fun k g hg => hd g (h.mine k g hg).1)
theorem KeysAt.mono {w : World} {B N mb : Nat} {D : DataW Value} {V : ByteArray → Value} {O O' : Nat → Prop} {m : KV} (h : KeysAt w B N mb D V O m) (hs : ∀ k, O k → O' k) : KeysAt w B N mb D V O' m :=
  ⟨h.own, h.has, h.at_, h.row, h.nil, h.apart, fun k g hg => ⟨hs g (h.mine k g hg).1, (h.mine k g hg).2⟩, hs _ h.hm⟩
theorem KeysAt.later {w w' : World} {B N mb : Nat} {D : DataW Value} {V : ByteArray → Value} {O : Nat → Prop} {m : KV} (h : KeysAt w B N mb D V O m) (hb : Below w.heap.size w w') : KeysAt w' B N mb D V O m :=
  h.out (O' := fun _ => False) (Out.of_below hb) (fun _ _ h => h)
theorem zeroR (w : World) : (zeroValue 242).run Tryz.prog w = .ok (.slice none 0 0) w := by kernel_rfl
/-- 's.keys[k]'. -/
theorem look_of {w : World} {N mb : Nat} {D : DataW Value} {V : ByteArray → Value} {m : KV} (own : w.ownsMap Tryz.prog 9 heldE mb N D) (has : ∀ k, Maps.has D (lit k) = !(getK m k).isEmpty)
    (at_ : ∀ k z, getK m k ≠ [] → D.atKey (lit k) z = .held (V k)) (nil : ∀ k, getK m k = [] → V k = .slice none 0 0) (k : ByteArray) (hk : k.size ≤ maxLen) :
    (Instr.lookup 167 (.map (some mb)) (.string k) false).run Tryz.prog w = .ok (V k) w := by
  refine Exists.elim (own.lookup keyS Tryz.underlying167 (zeroR w) (zd := .held (.slice none 0 0)) rfl (keyOf_lit hk)) fun v ⟨ps, hrun, hv⟩ => ?_
  suffices hvV : v = V k by rw [hrun, hvV]
  by_cases hm : getK m k = []
  · have h0 : Maps.has D (lit k) = false := by rw [has, hm]; rfl
    rw [atKey_out h0] at hv
    rw [nil k hm]
    exact heldE_inv hv
  · rw [at_ k _ hm] at hv
    exact heldE_inv hv
theorem KeysAt.look {w : World} {B N mb : Nat} {D : DataW Value} {V : ByteArray → Value} {O : Nat → Prop} {m : KV} (h : KeysAt w B N mb D V O m) (k : ByteArray) (hk : k.size ≤ maxLen) :
    (Instr.lookup 167 (.map (some mb)) (.string k) false).run Tryz.prog w = .ok (V k) w := look_of h.own h.has h.at_ h.nil k hk
theorem getK_len (m : KV) (k : ByteArray) : (getK m k).length ≤ (items m).length := by
  induction m with
  | nil => exact Nat.le_refl _
  | cons p m ih =>
    have e : (items (p :: m)).length = p.2.length + (items m).length := by
      rw [show items (p :: m) = itemsOf p ++ items m from rfl, List.length_append, itemsOf, List.length_map]
    rw [getK, e]
    split <;> omega
/-- Behind 's.keys[k] = v', v a row of its own. -/
theorem KeysAt.put {w w1 w2 w3 : World} {B N mb : Nat} {D : DataW Value} {V : ByteArray → Value} {O : Nat → Prop} {m : KV} (h : KeysAt w B N mb D V O m) (hris : RisesK m) (hlt : ∀ k, O k → B ≤ k ∧ k < w.heap.size) (hb : Below w.heap.size w w1) {k : ByteArray} {v : Value} {l : List Ver} (hl : l ≠ [])
    (hr : OwnV w2 B v l) (hg : w1.grownBy w2 (V k).ownBlock) (ho : v.ownBlock = (V k).ownBlock ∨ ∃ g, v.ownBlock = some g ∧ w1.heap.size ≤ g)
    (hown : w3.ownsMap Tryz.prog 9 heldE mb (N + 1) (D.put (lit k) (.held v))) (ht : w2.mapTurned w3 mb) :
    KeysAt w3 B (N + 1) mb (D.put (lit k) (.held v)) (fun x => if x = k then v else V x) (ext O w w3) (putK m k l) := by
  have ht' := ht.grown
  have hs1 := hb.size
  have hs2 := hg.size
  have hs3 := ht'.size
  have hmlt : mb < w.heap.size := (hlt mb h.hm).2
  have him : IsMap D := h.own.isMap
  have hvm : ∀ g, v.ownBlock = some g → g ≠ mb := by
    intro g hgv
    rcases ho with e | ⟨g', e, hge⟩
    · rw [e] at hgv; exact (h.mine k g hgv).2
    · rw [e] at hgv; injection hgv with hgv; omega
  refine ⟨hown, fun x => ?_, fun x z hx => ?_, fun x => ?_, fun x hx => ?_, fun x y g hxy hx hy => ?_, fun x g hx => ?_, .inl h.hm⟩
  · rw [getK_putK hris]
    by_cases e : x = k
    · subst e
      rw [if_pos rfl, has_put_same him (lit_key _)]
      cases l with
      | nil => exact absurd rfl hl
      | cons a l => rfl
    · rw [if_neg e, has_put_other (fun he => e (lit_inj he)), h.has]
  · rw [getK_putK hris] at hx
    by_cases e : x = k
    · subst e
      rw [atKey_put_same him (lit_key _)]
      simp
    · rw [if_neg e] at hx
      rw [atKey_put_other (fun he => e (lit_inj he)), h.at_ x z hx]
      simp [e]
  · rw [getK_putK hris]
    by_cases e : x = k
    · subst e
      simp only [↓reduceIte]
      exact hr.kept ht' (by
        cases hv : v.ownBlock with
        | none => exact .inl rfl
        | some g => exact .inr (fun he => hvm g hv (by injection he)))
    · simp only [e, if_false]
      have hold : ∀ g, (V x).ownBlock = some g → g ≠ mb ∧ (V k).ownBlock ≠ some g := fun g hgx => ⟨(h.mine x g hgx).2, h.apart x k g e hgx⟩
      have r1 : OwnV w1 B (V x) (getK m x) := own_keep (h.row x) hb
      have r2 : OwnV w2 B (V x) (getK m x) := r1.kept hg (by
        cases hv : (V x).ownBlock with
        | none => exact .inl rfl
        | some g => exact .inr (fun he => (hold g hv).2 he.symm))
      exact r2.kept ht' (by
        cases hv : (V x).ownBlock with
        | none => exact .inl rfl
        | some g => exact .inr (fun he => (hold g hv).1 (by injection he)))
  · rw [getK_putK hris] at hx
    by_cases e : x = k
    · rw [if_pos e] at hx; exact absurd hx hl
    · rw [if_neg e] at hx
      simp only [e, if_false]
      exact h.nil x hx
  · by_cases ex : x = k
    · replace hx : v.ownBlock = some g := by rw [← hx]; simp [ex]
      have ey : y ≠ k := fun e => hxy (by rw [ex, e])
      replace hy : (V y).ownBlock = some g := by rw [← hy]; simp [ey]
      rcases ho with e | ⟨g', e, hge⟩
      · rw [e] at hx
        exact h.apart k y g (Ne.symm ey) hx hy
      · rw [e] at hx
        injection hx with hx
        have := (hlt g (h.mine y g hy).1).2
        omega
    · replace hx : (V x).ownBlock = some g := by rw [← hx]; simp [ex]
      by_cases ey : y = k
      · replace hy : v.ownBlock = some g := by rw [← hy]; simp [ey]
        rcases ho with e | ⟨g', e, hge⟩
        · rw [e] at hy
          exact h.apart x k g ex hx hy
        · rw [e] at hy
          injection hy with hy
          have := (hlt g (h.mine x g hx).1).2
          omega
      · replace hy : (V y).ownBlock = some g := by rw [← hy]; simp [ey]
        exact h.apart x y g hxy hx hy
  · by_cases ex : x = k
    · replace hx : v.ownBlock = some g := by rw [← hx]; simp [ex]
      refine ⟨?_, hvm g hx⟩
      rcases ho with e | ⟨g', e, hge⟩
      · rw [e] at hx; exact .inl (h.mine k g hx).1
      · have hgl := (hr.lt g hx).2
        rw [e] at hx
        injection hx with hx
        exact .inr ⟨by omega, by omega⟩
    · replace hx : (V x).ownBlock = some g := by rw [← hx]; simp [ex]
      exact ⟨.inl (h.mine x g hx).1, (h.mine x g hx).2⟩

/-! ### A store -/
structure StoreIn (w : World) (B p N mb : Nat) (D : DataW Value) (V : ByteArray → Value) (O : Nat → Prop) (s : StD) : Prop where
  blk : w.heap[p]? = some (.cells #[.map (some mb), .int .u64 (s.last : Int), .int .u64 (s.low : Int)] 169 (0, 0))
  keys : KeysAt w B N mb D V O s.ks
  hp : O p
  n1 : p ≠ mb
  n2 : ∀ k g, (V k).ownBlock = some g → g ≠ p
  lt : ∀ k, O k → B ≤ k ∧ k < w.heap.size
def StoreAt (w : World) (B p N : Nat) (O : Nat → Prop) (s : StD) : Prop := ∃ mb D V, StoreIn w B p N mb D V O s
theorem StoreIn.c0 {w : World} {B p N mb : Nat} {D : DataW Value} {V : ByteArray → Value} {O : Nat → Prop} {s : StD} (h : StoreIn w B p N mb D V O s) : w.cell? ⟨p, 0, none⟩ = some (.map (some mb)) := by
  rw [cell_of_row w p 0 _ _ _ h.blk]; rfl
theorem StoreIn.c1 {w : World} {B p N mb : Nat} {D : DataW Value} {V : ByteArray → Value} {O : Nat → Prop} {s : StD} (h : StoreIn w B p N mb D V O s) : w.cell? ⟨p, 1, none⟩ = some (.int .u64 (s.last : Int)) := by
  rw [cell_of_row w p 1 _ _ _ h.blk]; rfl
theorem StoreIn.c2 {w : World} {B p N mb : Nat} {D : DataW Value} {V : ByteArray → Value} {O : Nat → Prop} {s : StD} (h : StoreIn w B p N mb D V O s) : w.cell? ⟨p, 2, none⟩ = some (.int .u64 (s.low : Int)) := by
  rw [cell_of_row w p 2 _ _ _ h.blk]; rfl
theorem StoreIn.fz {w : World} {B p N mb : Nat} {D : DataW Value} {V : ByteArray → Value} {O : Nat → Prop} {s : StD} (h : StoreIn w B p N mb D V O s) (j : Nat) : w.frozen? ⟨p, j, none⟩ = false := frozen_of_row w p j _ _ h.blk
theorem StoreIn.out {w w' : World} {B p N mb : Nat} {D : DataW Value} {V : ByteArray → Value} {O O' : Nat → Prop} {s : StD} (h : StoreIn w B p N mb D V O s) (hw : Out O' w w') (hd : ∀ k, O k → ¬ O' k) : StoreIn w' B p N mb D V O s :=
  ⟨hw.obj h.blk (hd _ h.hp), h.keys.out hw hd, h.hp, h.n1, h.n2, fun k hk => ⟨(h.lt k hk).1, Nat.lt_of_lt_of_le (h.lt k hk).2 hw.size⟩⟩
theorem StoreIn.later {w w' : World} {B p N mb : Nat} {D : DataW Value} {V : ByteArray → Value} {O : Nat → Prop} {s : StD} (h : StoreIn w B p N mb D V O s) (hb : Below w.heap.size w w') : StoreIn w' B p N mb D V O s :=
  h.out (O' := fun _ => False) (Out.of_below hb) (fun _ _ h => h)
theorem StoreAt.out {w w' : World} {B p N : Nat} {O O' : Nat → Prop} {s : StD} (h : StoreAt w B p N O s) (hw : Out O' w w') (hd : ∀ k, O k → ¬ O' k) : StoreAt w' B p N O s := by
  obtain ⟨mb, D, V, h⟩ := h
  exact ⟨mb, D, V, h.out hw hd⟩
theorem StoreAt.later {w w' : World} {B p N : Nat} {O : Nat → Prop} {s : StD} (h : StoreAt w B p N O s) (hb : Below w.heap.size w w') : StoreAt w' B p N O s :=
  h.out (O' := fun _ => False) (Out.of_below hb) (fun _ _ h => h)
theorem blk_set {w : World} {g j : Nat} {cur : Array Value} {t : TypeId} (v : Value) (h : w.heap[g]? = some (.cells cur t (0, 0))) : (w.setCell ⟨g, j, none⟩ v).heap[g]? = some (.cells (cur.setIfInBounds j v) t (0, 0)) := by
  rw [setCell_eq_setRow w g j cur t (0, 0) v h, setRow_heap w g cur _ t _ h]
theorem out_set (w : World) (b j : Nat) (u : Value) : Out (fun k => k = b) w (w.setCell ⟨b, j, none⟩ u) :=
  ⟨rfl, rfl, rfl, by simp [World.setCell], fun i _ hi => Below.heap_setCell _ _ _ _ hi⟩
theorem StoreIn.setLast {w : World} {B p N mb : Nat} {D : DataW Value} {V : ByteArray → Value} {O : Nat → Prop} {s : StD} (h : StoreIn w B p N mb D V O s) (n : Nat) : StoreIn (w.setCell ⟨p, 1, none⟩ (.int .u64 (n : Int))) B p N mb D V O ⟨s.ks, n, s.low⟩ := by
  have hb := blk_set (j := 1) (.int .u64 (n : Int)) h.blk
  have ho := out_set w p 1 (.int .u64 (n : Int))
  exact { blk := by simpa using hb, keys := h.keys.out' ho (fun e => h.n1 e.symm) (fun k g hg e => h.n2 k g hg e), hp := h.hp, n1 := h.n1, n2 := h.n2, lt := fun k hk => ⟨(h.lt k hk).1, by have := (h.lt k hk).2; have := ho.size; omega⟩ }
theorem StoreIn.setLow {w : World} {B p N mb : Nat} {D : DataW Value} {V : ByteArray → Value} {O : Nat → Prop} {s : StD} (h : StoreIn w B p N mb D V O s) (n : Nat) : StoreIn (w.setCell ⟨p, 2, none⟩ (.int .u64 (n : Int))) B p N mb D V O ⟨s.ks, s.last, n⟩ := by
  have hb := blk_set (j := 2) (.int .u64 (n : Int)) h.blk
  have ho := out_set w p 2 (.int .u64 (n : Int))
  exact { blk := by simpa using hb, keys := h.keys.out' ho (fun e => h.n1 e.symm) (fun k g hg e => h.n2 k g hg e), hp := h.hp, n1 := h.n1, n2 := h.n2, lt := fun k hk => ⟨(h.lt k hk).1, by have := (h.lt k hk).2; have := ho.size; omega⟩ }
theorem ext_eq {O : Nat → Prop} {w w1 w2 : World} (h1 : w.heap.size ≤ w1.heap.size) (h2 : w1.heap.size ≤ w2.heap.size) : ext (ext O w w1) w1 w2 = ext O w w2 := funext fun k => propext (ext_ext h1 h2 k)
/-- Behind 's.keys[k] = v', v a row of its own. -/
theorem StoreIn.put {w w1 w2 w3 : World} {B p N mb : Nat} {D : DataW Value} {V : ByteArray → Value} {O : Nat → Prop} {s : StD} (h : StoreIn w B p N mb D V O s) (hris : RisesK s.ks) (hb : Below w.heap.size w w1) {k : ByteArray} {v : Value} {l : List Ver} (hl : l ≠ [])
    (hr : OwnV w2 B v l) (hg : w1.grownBy w2 (V k).ownBlock) (ho : v.ownBlock = (V k).ownBlock ∨ ∃ g, v.ownBlock = some g ∧ w1.heap.size ≤ g)
    (hown : w3.ownsMap Tryz.prog 9 heldE mb (N + 1) (D.put (lit k) (.held v))) (ht : w2.mapTurned w3 mb) :
    StoreAt w3 B p (N + 1) (ext O w w3) ⟨putK s.ks k l, s.last, s.low⟩ ∧ Out O w w3 := by
  have hs1 := hb.size
  have hs2 := hg.size
  have hs3 := ht.grown.size
  have hk := h.keys.put hris h.lt hb hl hr hg ho hown ht
  have hplt := (h.lt p h.hp).2
  have hout : Out O w w3 := by
    refine ⟨ht.grown.os.trans (hg.os.trans hb.os), ht.grown.tape.trans (hg.tape.trans hb.tape), ht.grown.output.trans (hg.output.trans hb.output), by omega, fun x hx ho' => ?_⟩
    rw [ht.grown.block x (by omega) (fun e => ho' (by injection e with e; exact e ▸ h.keys.hm)), hg.block x (by omega) (fun e => ho' (h.keys.mine k x e.symm).1), hb.block x hx]
  refine ⟨⟨mb, D.put (lit k) (.held v), fun x => if x = k then v else V x, ?_⟩, hout⟩
  refine { blk := ?_, keys := hk, hp := .inl h.hp, n1 := h.n1, n2 := fun x g hx => ?_, lt := fun x hx => Or.elim hx (fun hx => ⟨(h.lt x hx).1, by have := (h.lt x hx).2; omega⟩) (fun hx => ⟨?_, hx.2⟩) }
  · rw [ht.grown.block p (by omega) (fun e => h.n1 (by injection e)), hg.block p (by omega) (fun e => h.n2 k p e.symm rfl), hb.block p hplt]
    exact h.blk
  · by_cases e : x = k
    · replace hx : v.ownBlock = some g := by rw [← hx]; simp [e]
      rcases ho with eo | ⟨g', eo, hge⟩
      · rw [eo] at hx; exact h.n2 k g hx
      · rw [eo] at hx; injection hx with hx; omega
    · replace hx : (V x).ownBlock = some g := by rw [← hx]; simp [e]
      exact h.n2 x g hx
  · have := (h.lt p h.hp).1
    omega
theorem items_put_len {m : KV} (h : RisesK m) (n : Nat) (x : Wr) : (items (putW n m x)).length = (items m).length + 1 := by
  have := insF_items h x.key ⟨n, x.val⟩
  rw [putW, ← this, insF, List.length_append, List.length_cons]
  have e := congrArg List.length (List.takeWhile_append_dropWhile (p := fun y : It => lessS y.key x.key) (l := items m))
  rw [List.length_append] at e
  simp only at e ⊢
  omega
theorem items_puts_len (n : Nat) : ∀ (l : List Wr) {m : KV}, RisesK m → (items (putWs n m l)).length = (items m).length + l.length
  | [], _, _ => rfl
  | x :: l, m, h => by
    have := items_puts_len n l (m := putW n m x) (putK_rises h _ _)
    rw [show putWs n m (x :: l) = putWs n (putW n m x) l from rfl, this, items_put_len h, List.length_cons]
    omega
end Go.Proofs.YtcldpmkhpmlcbaaGreatDoor
/- No store: what each method answers; layer 14's awake. -/
namespace Go.Proofs.YtcldpmkhpmlcbaaGreatDoor
open Go.RowKit Go.Shelf

theorem storeNew_any (w : World) : Calls Tryz.prog 39 #[] w fun e w' => e = .returned (.pointer (some ⟨w.heap.size + 1, 0, none⟩)) ∧ (w.alloc (.map #[] 0)).alloc (.cells #[.map (some w.heap.size), .int .u64 0, .int .u64 0] 169) = w' := by
  have hmm := @run_makeMap Tryz.prog
  go_enter Tryz.func39, Tryz.ntmps39
  go_wp2
  go_ret
  exact ⟨rfl, rfl⟩
end Go.Proofs.YtcldpmkhpmlcbaaGreatDoor
/- The store's New, Last, Low, seen and Get. -/
namespace Go.Proofs.YtcldpmkhpmlcbaaGreatDoor
open Go.RowKit Go.Maps

def noB (_ : Nat) : Prop := False
def NewPost14 (w : World) (e : Ending) (w' : World) : Prop := ∃ p, e = .returned (.pointer (some ⟨p, 0, none⟩)) ∧ StoreAt w' w.heap.size p 0 (ext noB w w') st0 ∧ Below w.heap.size w w'
theorem new14_any (w : World) : Calls Tryz.prog 39 #[] w (NewPost14 w) := by
  refine (storeNew_any w).mono ?_
  rintro e w' ⟨rfl, rfl⟩
  have hsz : ((w.alloc (.map #[] 0)).alloc (.cells #[.map (some w.heap.size), .int .u64 0, .int .u64 0] 169)).heap.size = w.heap.size + 2 := by simp
  have hb := heap_alloc_new (w.alloc (.map #[] 0)) (.cells #[.map (some w.heap.size), .int .u64 0, .int .u64 0] 169)
  rw [show (w.alloc (.map #[] 0)).heap.size = w.heap.size + 1 by simp] at hb
  have hm : ((w.alloc (.map #[] 0)).alloc (.cells #[.map (some w.heap.size), .int .u64 0, .int .u64 0] 169)).ownsMap Tryz.prog 9 heldE w.heap.size 0 (.map []) := (World.ownsMap_made w _ _ _).alloc _
  refine ⟨_, rfl, ⟨w.heap.size, .map [], fun _ => .slice none 0 0, ?_⟩, below2 _ _ _⟩
  exact {
    blk := hb
    keys := {
      own := hm
      has := fun k => rfl
      at_ := fun k z h => absurd rfl h
      row := fun k => own_nil _ _ _ _
      nil := fun k _ => rfl
      apart := fun k k' g _ h => by cases h
      mine := fun k g h => by cases h
      hm := .inr ⟨Nat.le_refl _, by omega⟩ }
    hp := .inr ⟨by omega, by omega⟩
    n1 := by omega
    n2 := fun k g h => by cases h
    lt := fun k h => Or.elim h False.elim (fun h => ⟨h.1, h.2⟩) }

section
variable {w : World} {B p N : Nat} {O : Nat → Prop} {s : StD}
theorem last14_any (h : StoreAt w B p N O s) : Calls Tryz.prog 58 #[.pointer (some ⟨p, 0, none⟩)] w fun e w' => e = .returned (.int .u64 (s.last : Int)) ∧ w = w' := by
  obtain ⟨mb, D, V, h⟩ := h
  have c1 := h.c1
  clear h
  go_enter Tryz.func58, Tryz.ntmps58
  go_wp2
  go_ret
  exact ⟨rfl, rfl⟩
theorem low14_any (h : StoreAt w B p N O s) : Calls Tryz.prog 54 #[.pointer (some ⟨p, 0, none⟩)] w fun e w' => e = .returned (.int .u64 (s.low : Int)) ∧ w = w' := by
  obtain ⟨mb, D, V, h⟩ := h
  have c2 := h.c2
  clear h
  go_enter Tryz.func54, Tryz.ntmps54
  go_wp2
  go_ret
  exact ⟨rfl, rfl⟩
end
def VersAt (w : World) (A : Option Addr) (l : List Ver) : Prop :=
  ∀ i, i < l.length → ∃ b off, A = some ⟨b, off, none⟩ ∧ w.cell? ⟨b, off + i * 4, none⟩ = some (.int .u64 ((l.getD i noVer).num : Nat)) ∧ w.cell? ⟨b, off + i * 4 + 1, none⟩ = some (.int .i64 (l.getD i noVer).val.kind) ∧
    w.cell? ⟨b, off + i * 4 + 2, none⟩ = some (.int .u64 ((l.getD i noVer).val.bits : Nat)) ∧ w.cell? ⟨b, off + i * 4 + 3, none⟩ = some (.string (l.getD i noVer).val.text)
theorem VersAt.later {w w' : World} {A : Option Addr} {l : List Ver} (h : VersAt w A l) (hb : Below w.heap.size w w') : VersAt w' A l := by
  intro i hi
  obtain ⟨b, off, e, h0, h1, h2, h3⟩ := h i hi
  exact ⟨b, off, e, keep hb h0, keep hb h1, keep hb h2, keep hb h3⟩
theorem verCs_at : ∀ (l : List Ver) (i : Nat), i < l.length → (verCs l)[i * 4]? = some (.int .u64 ((l.getD i noVer).num : Nat)) ∧ (verCs l)[i * 4 + 1]? = some (.int .i64 (l.getD i noVer).val.kind) ∧ (verCs l)[i * 4 + 2]? = some (.int .u64 ((l.getD i noVer).val.bits : Nat)) ∧ (verCs l)[i * 4 + 3]? = some (.string (l.getD i noVer).val.text)
  | [], i, h => by simp at h
  | x :: l, 0, _ => by simp [verCs, verC]
  | x :: l, i + 1, h => by
    have := verCs_at l i (by simpa using h)
    rw [show (i + 1) * 4 = i * 4 + 4 by omega, show i * 4 + 4 + 1 = (i * 4 + 1) + 4 by omega, show i * 4 + 4 + 2 = (i * 4 + 2) + 4 by omega, show i * 4 + 4 + 3 = (i * 4 + 3) + 4 by omega]
    simpa [verCs, verC] using this
theorem own_vers {w : World} {B : Nat} {v : Value} {l : List Ver} (h : OwnV w B v l) : ∃ (A : Option Addr) (cap : Nat), v = .slice A l.length cap ∧ l.length ≤ cap ∧ VersAt w A l := by
  rcases h.2 with ⟨rfl, h0⟩ | ⟨g, cap, cur, rfl, hfr, hh, hn, _, _, ht⟩
  · exact ⟨none, 0, by rw [h0], by omega, fun i hi => by omega⟩
  · refine ⟨some ⟨g, 0, none⟩, cap, rfl, hn, fun i hi => ⟨g, 0, rfl, ?_⟩⟩
    have hc : ∀ j, j < l.length * 4 → w.cell? ⟨g, 0 + j, none⟩ = (verCs l)[j]? := by
      intro j hj
      have h1 : (cur.toList.take (l.length * 4))[j]? = (verCs l)[j]? := by rw [ht]
      rw [List.getElem?_take_of_lt (by omega)] at h1
      simp only [World.cell?, hh, Nat.zero_add, Option.isSome_none, Bool.false_eq_true, if_false]
      rw [← Array.getElem?_toList, h1]
    have := verCs_at l i hi
    exact ⟨by rw [hc _ (by omega)]; exact this.1, by rw [Nat.add_assoc, hc _ (by omega)]; exact this.2.1, by rw [Nat.add_assoc, hc _ (by omega)]; exact this.2.2.1, by rw [Nat.add_assoc, hc _ (by omega)]; exact this.2.2.2⟩
theorem VersAt.at' {w : World} {A : Option Addr} {l : List Ver} (h : VersAt w A l) {k : Nat} (hk : k < l.length) :
    ∃ b off n z m t, A = some ⟨b, off, none⟩ ∧ w.cell? ⟨b, off + k * 4, none⟩ = some (.int .u64 (n : Nat)) ∧ w.cell? ⟨b, off + k * 4 + 1, none⟩ = some (.int .i64 z) ∧
      w.cell? ⟨b, off + k * 4 + 2, none⟩ = some (.int .u64 (m : Nat)) ∧ w.cell? ⟨b, off + k * 4 + 3, none⟩ = some (.string t) ∧ Hid (l.getD k noVer = ⟨n, ⟨z, m, t⟩⟩) := by
  obtain ⟨b, off, e, h0, h1, h2, h3⟩ := h k hk
  exact ⟨b, off, _, _, _, _, e, h0, h1, h2, h3, rfl⟩
abbrev verV (v : Ver) : Value := .agg #[.int .u64 (v.num : Int), .int .i64 v.val.kind, .int .u64 (v.val.bits : Int), .string v.val.text]
theorem seen_here {l : List Ver} {k n : Nat} {v : Ver} (hk : k < l.length) (h : (l.take k).all (fun v => decide (n < v.num)) = true) (hv : l.getD k noVer = v) (hn : v.num ≤ n) : seenV l n = v := by
  have e : l = l.take k ++ v :: l.drop (k + 1) := by
    have : v = l[k] := by rw [← hv, List.getD_eq_getElem?_getD, List.getElem?_eq_getElem hk]; rfl
    rw [this]; simp
  rw [e, seenV, List.find?_append, find_none fun x hx => by have := List.all_eq_true.1 h x hx; simp at this; simp; omega, List.find?_cons, decide_eq_true hn]
  rfl
theorem seen_none {l : List Ver} {n : Nat} (h : l.all (fun v => decide (n < v.num)) = true) : seenV l n = noVer := by
  rw [seenV, find_none fun x hx => by have := List.all_eq_true.1 h x hx; simp at this; simp; omega]
  rfl
def SeenPost (w : World) (v : Ver) (e : Ending) (w' : World) : Prop := e = .returned (.agg #[.int .u64 (v.num : Int), .int .i64 v.val.kind, .int .u64 (v.val.bits : Int), .string v.val.text]) ∧ Below w.heap.size w w'
/-- A fresh block of four cells. -/
theorem new4 (w : World) (u v x y : Value) (t : TypeId) : ∃ W : World, w.alloc (.cells #[u, v, x, y] t) = W ∧ Below w.heap.size w W ∧ W.heap.size = w.heap.size + 1 ∧ W.heap[w.heap.size]? = some (.cells #[u, v, x, y] t (0, 0)) :=
  ⟨_, rfl, below1 _ _, by simp, heap_alloc_new w _⟩
theorem cells4 {w : World} {g : Nat} {u v x y : Value} {t : TypeId} (h : w.heap[g]? = some (.cells #[u, v, x, y] t (0, 0))) : w.cell? ⟨g, 0, none⟩ = some u ∧ w.cell? ⟨g, 1, none⟩ = some v ∧ w.cell? ⟨g, 2, none⟩ = some x ∧ w.cell? ⟨g, 3, none⟩ = some y ∧
    w.frozen? ⟨g, 0, none⟩ = false ∧ w.frozen? ⟨g, 1, none⟩ = false ∧ w.frozen? ⟨g, 2, none⟩ = false ∧ w.frozen? ⟨g, 3, none⟩ = false := by
  refine ⟨?_, ?_, ?_, ?_, frozen_of_row w g _ _ _ h, frozen_of_row w g _ _ _ h, frozen_of_row w g _ _ _ h, frozen_of_row w g _ _ _ h⟩ <;> (rw [cell_of_row w g _ _ _ _ h]; rfl)
theorem obj_later {w w' : World} {g : Nat} {o : Obj} (h : w.heap[g]? = some o) (hb : Below w.heap.size w w') : w'.heap[g]? = some o := by
  rw [hb.block g (Array.getElem?_eq_some_iff.1 h).1]; exact h
/-- Four cells of a fresh block are written. -/
theorem set4_cells {w : World} {g : Nat} {u v x y : Value} {t : TypeId} (h : w.heap[g]? = some (.cells #[u, v, x, y] t (0, 0))) (u' v' x' y' : Value) :
    ((((w.setCell ⟨g, 0, none⟩ u').setCell ⟨g, 1, none⟩ v').setCell ⟨g, 2, none⟩ x').setCell ⟨g, 3, none⟩ y').heap[g]? = some (.cells #[u', v', x', y'] t (0, 0)) := by
  have := blk_set (j := 3) y' (blk_set (j := 2) x' (blk_set (j := 1) v' (blk_set (j := 0) u' h)))
  simpa using this
set_option maxRecDepth 100000 in
set_option maxHeartbeats 2000000 in
theorem seen14_any {w : World} {B p N : Nat} {O : Nat → Prop} {s : StD} (h : StoreAt w B p N O s) (k : ByteArray) (hk : k.size ≤ maxLen) (n : Nat) (hn : (getK s.ks k).length ≤ 900000) :
    Calls Tryz.prog 107 #[.pointer (some ⟨p, 0, none⟩), .string k, .int .u64 (n : Int)] w (SeenPost w (seenV (getK s.ks k) n)) := by
  obtain ⟨W, eW, HB, hsz, hrow⟩ := new4 w (.int .u64 0) (.int .i64 0) (.int .u64 0) (.string { data := #[] }) 195
  replace h := h.later HB
  obtain ⟨mb, D, V, h⟩ := h
  have c0 := h.c0
  have hl := h.keys.look k hk
  obtain ⟨A, cap, hV, hcap, hA⟩ := own_vers (h.keys.row k)
  rw [hV] at hl
  obtain ⟨l, hL⟩ : ∃ l, Hid (getK s.ks k = l) := ⟨_, rfl⟩
  rw [hL.out] at hl hA hn ⊢
  have HR := Lib.hid hrow
  have HZ := Lib.hid hsz
  clear h hV hcap hrow hsz
  go_enter Tryz.func107, Tryz.ntmps107
  go_wp2
  go_loopw [16] (fun i wr => ∃ j : Nat, j ≤ l.length ∧ i = .int .i64 j ∧ Hid ((l.take j).all (fun v => decide (n < v.num)) = true) ∧ Below W.heap.size W wr) (fun i _ => l.length - (intOf i).toNat)
  case atStart => exact ⟨0, Nat.zero_le _, rfl, rfl, Below.refl _ _⟩
  case round =>
    obtain ⟨j, hj, rfl, HA, hw⟩ := hrel
    have hrow := obj_later HR.out hw
    obtain ⟨y0, y1, y2, y3, f0, f1, f2, f3⟩ := cells4 hrow
    clear hrow eW
    have hglt : w.heap.size < wr.heap.size := by have := hw.size; have := HZ.out; omega
    by_cases hlt : j < l.length
    · obtain ⟨b, off, m, z, bt, t, rfl, d0, d1, d2, d3, HX⟩ := (hA.later hw).at' hlt
      by_cases hle : m ≤ n
      · have HS : Hid (seenV l n = ⟨m, ⟨z, bt, t⟩⟩) := seen_here hlt HA.out HX.out hle
        have hle' : ((m : Int) ≤ (n : Int)) := by omega
        go_wp2
        obtain ⟨z0, z1, z2, z3, _⟩ := cells4 (obj_later (set4_cells (obj_later HR.out hw) (.int .u64 (m : Int)) (.int .i64 z) (.int .u64 (bt : Int)) (.string t)) (below1 _ (.cells #[.int .u64 (m : Int), .int .i64 z, .int .u64 (bt : Int), .string t] 195)))
        exact bodyPost_ret (v := verV ⟨m, ⟨z, bt, t⟩⟩) (by simp [results, Tryz.results107, go_sem, verV, z0, z1, z2, z3]) rfl ⟨by rw [HS.out], (((((keepB HB hw).setCell (Nat.le_refl _) _).setCell (Nat.le_refl _) _).setCell (Nat.le_refl _) _).setCell (Nat.le_refl _) _).alloc (by simp; omega) _⟩
      · have HR2 : Hid ((l.take (j + 1)).all (fun v => decide (n < v.num)) = true) := all_next hlt HX.out (by simp; omega) HA.out
        have hle' : ¬ ((m : Int) ≤ (n : Int)) := by omega
        go_wp2
        go_roundw
        case rel => exact ⟨j + 1, by omega, by go_num, HR2, hw.alloc hw.size _⟩
        case measure => simp [intOf]; omega
    · have HS : Hid (seenV l n = noVer) := by
        show _ = _
        have e : l.take j = l := List.take_of_length_le (by omega)
        have := HA.out
        rw [e] at this
        exact seen_none this
      go_wp2
      obtain ⟨z0, z1, z2, z3, _⟩ := cells4 (set4_cells (obj_later HR.out hw) (.int .u64 0) (.int .i64 0) (.int .u64 0) (.string { data := #[] }))
      exact bodyPost_ret (v := verV noVer) (by simp [results, Tryz.results107, go_sem, verV, z0, z1, z2, z3]; exact ⟨rfl, rfl, rfl, rfl⟩) rfl ⟨by rw [HS.out], ((((keepB HB hw).setCell (Nat.le_refl _) _).setCell (Nat.le_refl _) _).setCell (Nat.le_refl _) _).setCell (Nat.le_refl _) _⟩

theorem new3 (w : World) (u v x : Value) (t : TypeId) : ∃ W : World, w.alloc (.cells #[u, v, x] t) = W ∧ Below w.heap.size w W ∧ W.heap.size = w.heap.size + 1 ∧ W.heap[w.heap.size]? = some (.cells #[u, v, x] t (0, 0)) :=
  ⟨_, rfl, below1 _ _, by simp, heap_alloc_new w _⟩
theorem cells3 {w : World} {g : Nat} {u v x : Value} {t : TypeId} (h : w.heap[g]? = some (.cells #[u, v, x] t (0, 0))) : w.cell? ⟨g, 0, none⟩ = some u ∧ w.cell? ⟨g, 1, none⟩ = some v ∧ w.cell? ⟨g, 2, none⟩ = some x ∧
    w.frozen? ⟨g, 0, none⟩ = false ∧ w.frozen? ⟨g, 1, none⟩ = false ∧ w.frozen? ⟨g, 2, none⟩ = false := by
  refine ⟨?_, ?_, ?_, frozen_of_row w g _ _ _ h, frozen_of_row w g _ _ _ h, frozen_of_row w g _ _ _ h⟩ <;> (rw [cell_of_row w g _ _ _ _ h]; rfl)
theorem set3_cells {w : World} {g : Nat} {u v x : Value} {t : TypeId} (h : w.heap[g]? = some (.cells #[u, v, x] t (0, 0))) (u' v' x' : Value) :
    (((w.setCell ⟨g, 0, none⟩ u').setCell ⟨g, 1, none⟩ v').setCell ⟨g, 2, none⟩ x').heap[g]? = some (.cells #[u', v', x'] t (0, 0)) := by
  have := blk_set (j := 2) x' (blk_set (j := 1) v' (blk_set (j := 0) u' h))
  simpa using this
def GetPost (w : World) (v : Ver) (err : Int) (e : Ending) (w' : World) : Prop :=
  e = .returned (.tuple #[.agg #[.int .i64 v.val.kind, .int .u64 (v.val.bits : Int), .string v.val.text], .int .u64 (v.num : Int), .int .i64 err]) ∧ Below w.heap.size w w'
set_option maxRecDepth 100000 in
set_option maxHeartbeats 2000000 in
theorem get14_any {w : World} {B p N : Nat} {O : Nat → Prop} {s : StD} (h : StoreAt w B p N O s) (k : ByteArray) (hk : k.size ≤ maxLen) (n : Nat) (hn : (getK s.ks k).length ≤ 900000) :
    Calls Tryz.prog 53 #[.pointer (some ⟨p, 0, none⟩), .string k, .int .u64 (n : Int)] w (GetPost w (getV s k n) (oldE s n)) := by
  obtain ⟨W, eW, HB, hsz, hrow⟩ := new3 w (.int .i64 0) (.int .u64 0) (.string { data := #[] }) 66
  replace h := h.later HB
  have HS := Lib.hid h
  obtain ⟨mb, D, V, h⟩ := h
  have c2 := h.c2
  clear h
  obtain ⟨v, hv⟩ : ∃ v, Hid (seenV (getK s.ks k) n = v) := ⟨_, rfl⟩
  obtain ⟨y0, y1, y2, f0, f1, f2⟩ := cells3 hrow
  have HR := Lib.hid hrow
  clear hrow
  by_cases hlow : n < s.low
  · have hl : ((n : Int) < (s.low : Int)) := by omega
    have HV : Hid (getV s k n = noVer) := by show _ = _; rw [getV, if_pos hlow]
    have HE : Hid (oldE s n = 9) := by show _ = _; rw [oldE, if_pos hlow]
    clear hlow
    go_enter Tryz.func53, Tryz.ntmps53
    go_wp2
    obtain ⟨z0, z1, z2, _⟩ := cells3 (set3_cells HR.out (.int .i64 0) (.int .u64 0) (.string { data := #[] }))
    refine bodyPost_ret (v := .tuple #[.agg #[.int .i64 0, .int .u64 0, .string { data := #[] }], .int .u64 0, .int .i64 9]) (by simp [results, Tryz.results53, go_sem, z0, z1, z2]) rfl ⟨?_, ?_⟩
    · rw [HV.out, HE.out]; rfl
    · exact ((HB.setCell (Nat.le_refl _) _).setCell (Nat.le_refl _) _).setCell (Nat.le_refl _) _
  · have hl : ¬ ((n : Int) < (s.low : Int)) := by omega
    have HV : Hid (getV s k n = v) := by show _ = _; rw [getV, if_neg hlow]; exact hv.out
    have HE : Hid (oldE s n = 0) := by show _ = _; rw [oldE, if_neg hlow]
    clear hlow
    go_enter Tryz.func53, Tryz.ntmps53
    go_wp2_with (go_at_call 107; refine (seen14_any HS.out k hk n hn).mono ?_; rintro e w1 hq; obtain ⟨rfl, hb⟩ := (show SeenPost W v e w1 by rw [← hv.out]; exact hq); clear hq; obtain ⟨W2, eW2, HB2, hsz2, hrow2⟩ := new4 w1 (.int .u64 (v.num : Int)) (.int .i64 v.val.kind) (.int .u64 (v.val.bits : Int)) (.string v.val.text) 195; obtain ⟨x0, x1, x2, x3, _⟩ := cells4 hrow2; have HR2 := Lib.hid (obj_later (obj_later HR.out hb) HB2); obtain ⟨u0, u1, u2, g0, g1, g2⟩ := cells3 HR2.out; clear hrow2 y0 y1 y2 f0 f1 f2)
    have hne : ¬ (w1.heap.size = w.heap.size) := by have := hb.size; omega
    have hne2 : ¬ (w.heap.size = w1.heap.size) := by have := hb.size; omega
    go_region
    all_goals
      go_wp2
      obtain ⟨z0, z1, z2, _⟩ := cells3 (set3_cells HR2.out (.int .i64 v.val.kind) (.int .u64 (v.val.bits : Int)) (.string v.val.text))
      refine bodyPost_ret (v := .tuple #[.agg #[.int .i64 v.val.kind, .int .u64 (v.val.bits : Int), .string v.val.text], .int .u64 (v.num : Int), .int .i64 0]) (by simp [results, Tryz.results53, go_sem, z0, z1, z2]) rfl ⟨?_, ?_⟩
      · rw [HV.out, HE.out]
      · exact below_drew ((((keepB (keepB HB hb) HB2).setCell (Nat.le_refl _) _).setCell (Nat.le_refl _) _).setCell (Nat.le_refl _) _)
end Go.Proofs.YtcldpmkhpmlcbaaGreatDoor
/- Layer 16's tallies, in plain Lean: the votes in the order in which they came; what comes of them; what the reference holds. -/
namespace Go.Proofs.YtcldpmkhpmlcbaaGreatDoor

/-- A group's vote. -/
def hasV (vs : List (Int × Bool)) (g : Int) : Bool := vs.any fun v => v.1 == g
def votedV (vs : List (Int × Bool)) (g : Int) : Bool := match vs.find? (fun v => v.1 == g) with
  | some v => v.2
  | none => false
def anyNo (vs : List (Int × Bool)) : Bool := vs.any fun v => !v.2
/-- What comes of the votes of n groups: yes?, known? -/
def outYes (n : Nat) (vs : List (Int × Bool)) : Bool := !anyNo vs && vs.length == n
def outKnown (n : Nat) (vs : List (Int × Bool)) : Bool := anyNo vs || vs.length == n
def mayPut (gs : List Int) (vs : List (Int × Bool)) (g : Int) : Bool := gs.contains g && !hasV vs g
def putV (gs : List Int) (vs : List (Int × Bool)) (g : Int) (y : Bool) : List (Int × Bool) := if mayPut gs vs g then vs ++ [(g, y)] else vs
theorem hasV_snoc (vs : List (Int × Bool)) (g h : Int) (y : Bool) : hasV (vs ++ [(g, y)]) h = (hasV vs h || g == h) := by simp [hasV]
/-- Votes that have come so: of groups of the tally, each once. -/
structure Tally (gs : List Int) (vs : List (Int × Bool)) : Prop where
  nodup : gs.Nodup
  keys : (vs.map (·.1)).Nodup
  sub : ∀ v ∈ vs, v.1 ∈ gs
theorem hasV_iff {vs : List (Int × Bool)} {g : Int} : hasV vs g = true ↔ g ∈ vs.map (·.1) := by
  simp [hasV]
theorem Tally.put {gs : List Int} {vs : List (Int × Bool)} (h : Tally gs vs) (g : Int) (y : Bool) : Tally gs (putV gs vs g y) := by
  unfold putV
  split
  · rename_i hm
    simp only [mayPut, Bool.and_eq_true, List.contains_iff_mem, Bool.not_eq_true'] at hm
    refine ⟨h.nodup, ?_, ?_⟩
    · rw [List.map_append, List.nodup_append]
      refine ⟨h.keys, by simp, ?_⟩
      intro a ha b hb e
      simp at hb
      subst hb e
      have := hasV_iff.2 ha
      rw [hm.2] at this
      cases this
    · intro v hv
      rcases List.mem_append.1 hv with hv | hv
      · exact h.sub v hv
      · simp at hv; subst hv; exact hm.1
  · exact h
theorem nodup_le : ∀ {l m : List Int}, l.Nodup → (∀ x ∈ l, x ∈ m) → l.length ≤ m.length
  | [], _, _, _ => Nat.zero_le _
  | a :: l, m, hl, hs => by
    rw [List.nodup_cons] at hl
    have ha := hs a (by simp)
    have := nodup_le (l := l) (m := m.erase a) hl.2 (fun x hx => (List.mem_erase_of_ne (fun e => hl.1 (by rw [← e]; exact hx))).2 (hs x (by simp [hx])))
    rw [List.length_erase_of_mem ha] at this
    have := List.length_pos_of_mem ha
    simp only [List.length_cons]
    omega
theorem Tally.le {gs : List Int} {vs : List (Int × Bool)} (h : Tally gs vs) : vs.length ≤ gs.length := by
  have := nodup_le (m := gs) h.keys (fun x hx => by obtain ⟨v, hv, rfl⟩ := List.mem_map.1 hx; exact h.sub v hv)
  simpa using this
/-- All groups have voted just if there are as many votes as groups. -/
theorem Tally.all_voted {gs : List Int} {vs : List (Int × Bool)} (h : Tally gs vs) : (gs.all fun g => hasV vs g) = (vs.length == gs.length) := by
  rw [Bool.eq_iff_iff, List.all_eq_true, beq_iff_eq]
  constructor
  · intro ha
    have h1 := nodup_le (m := vs.map (·.1)) h.nodup (fun x hx => hasV_iff.1 (ha x hx))
    have h2 := h.le
    simp at h1
    omega
  · intro e x hx
    rw [hasV_iff]
    apply Classical.byContradiction
    intro hn
    have h3 := nodup_le (l := x :: vs.map (·.1)) (m := gs) (List.nodup_cons.2 ⟨hn, h.keys⟩) (fun y hy => by
      rcases List.mem_cons.1 hy with rfl | hy
      · exact hx
      · obtain ⟨v, hv, rfl⟩ := List.mem_map.1 hy; exact h.sub v hv)
    simp at h3
    omega
theorem votedV_of_mem {vs : List (Int × Bool)} (hk : (vs.map (·.1)).Nodup) {v : Int × Bool} (hv : v ∈ vs) : votedV vs v.1 = v.2 := by
  induction vs with
  | nil => cases hv
  | cons a l ih =>
    simp only [List.map_cons, List.nodup_cons] at hk
    rcases List.mem_cons.1 hv with rfl | hv
    · simp [votedV]
    · have hne : (a.1 == v.1) = false := by
        rw [beq_eq_false_iff_ne]
        intro e
        exact hk.1 (List.mem_map.2 ⟨v, hv, e.symm⟩)
      have := ih hk.2 hv
      simp only [votedV, List.find?_cons, hne] at this ⊢
      exact this
theorem Tally.start {gs : List Int} (h : gs.Nodup) : Tally gs [] := ⟨h, by simp, by simp⟩
end Go.Proofs.YtcldpmkhpmlcbaaGreatDoor
