/- Blocks of three cells; votes in plain Lean. -/
import Derived.Test.YtboiafchmdflpaaGreatDoorRefAp14
namespace Go.Proofs.YtboiafchmdflpaaGreatDoor
open Go.RowKit Go.Maps Go.Shelf Go.Sort

def voteR (s : StD) (x : Rd) : Bool := decide ((seenV (getK s.ks x.key) s.last).num = x.ver)
def voteB (s : StD) (l : List Rd) : Bool := l.all (voteR s)
theorem box1 (w : World) (u : Value) (t : TypeId) : ∃ W : World, w.alloc (.cells #[u] t) = W ∧ Below w.heap.size w W ∧ W.cell? ⟨w.heap.size, 0, none⟩ = some u :=
  ⟨_, rfl, below1 _ _, by simp⟩
theorem keepD {W : World} {a : Addr} {v : Value} (h : W.cell? a = some v) : W.drew.cell? a = some v := h
theorem keepS {W : World} {b c i j : Nat} {v u : Value} (h : W.cell? ⟨b, i, none⟩ = some v) (hne : ¬ (b = c)) : (W.setCell ⟨c, j, none⟩ u).cell? ⟨b, i, none⟩ = some v := by
  rw [World.cell?_of_block (Below.heap_setCell _ _ _ _ hne)]; exact h
def Blk3 (w : World) (g : Nat) (a b c : Value) : Prop := ∃ t, w.heap[g]? = some (.cells #[a, b, c] t (0, 0))
theorem Blk3.newd {W w1 : World} {a b c : Value} {t : TypeId} (hb : Below (W.alloc (.cells #[a, b, c] t)).drew.heap.size (W.alloc (.cells #[a, b, c] t)).drew w1) : Blk3 w1 W.heap.size a b c :=
  ⟨t, obj_later (w := (W.alloc (.cells #[a, b, c] t)).drew) (heap_alloc_new W _) hb⟩
theorem Blk3.later {w w' : World} {g : Nat} {a b c : Value} (h : Blk3 w g a b c) (hb : Below w.heap.size w w') : Blk3 w' g a b c := by
  obtain ⟨t, h⟩ := h
  exact ⟨t, obj_later h hb⟩
theorem Blk3.facts {w : World} {g : Nat} {a b c : Value} (h : Blk3 w g a b c) : w.cell? ⟨g, 0, none⟩ = some a ∧ w.cell? ⟨g, 1, none⟩ = some b ∧ w.cell? ⟨g, 2, none⟩ = some c ∧ w.frozen? ⟨g, 0, none⟩ = false ∧ w.frozen? ⟨g, 1, none⟩ = false ∧ w.frozen? ⟨g, 2, none⟩ = false := by
  obtain ⟨t, h⟩ := h
  exact cells3 h
theorem calls_b16 {P : Program} {f : FuncId} {args : Array Value} {w : World} {z x : Bool} (e : z = x) (h : Calls P f args w fun e w' => e = .returned (.bool z) ∧ Below w.heap.size w w') : Calls P f args w fun e w' => e = .returned (.bool x) ∧ Below w.heap.size w w' := by
  rw [e] at h; exact h
end Go.Proofs.YtboiafchmdflpaaGreatDoor
/- Both stores, in blocks that they do not share. -/
namespace Go.Proofs.YtboiafchmdflpaaGreatDoor
open Go.RowKit Go.Maps

theorem items_apply_len {s : StD} (h : StOK s) (n : Nat) (l : List Wr) : (items (applyS s n l).ks).length ≤ (items s.ks).length + l.length := by
  rw [applyS]
  split
  · omega
  · split
    · rw [items_puts_len n l h.rises]; exact Nat.le_refl _
    · omega
theorem fewW_len {l : List Wr} (h : fewW l = true) : l.length ≤ 12 := by
  simp only [fewW, Bool.and_eq_true, decide_eq_true_eq] at h; exact h.2
theorem rApply_eq {s : StD} (h : StOK s) (n : Nat) (l : List Wr) : rApplyL (items s.ks) s.last n l = items (applyS s n l).ks ∧ rLast s.last n l = (applyS s n l).last ∧ rApplyE s.last n l = applyE s n l := by
  rw [rApplyL, rLast, rApplyE, applyS, applyE]
  split
  · exact ⟨rfl, rfl, rfl⟩
  · split
    · exact ⟨insWs_items h.rises n l, rfl, rfl⟩
    · exact ⟨rfl, rfl, rfl⟩
theorem StoreAt.lt {w : World} {B p N : Nat} {O : Nat → Prop} {s : StD} (h : StoreAt w B p N O s) : ∀ k, O k → B ≤ k ∧ k < w.heap.size := by
  obtain ⟨mb, D, V, h⟩ := h; exact h.lt
theorem RefAt.lt {w : World} {B q : Nat} {O : Nat → Prop} {L : List It} {last low : Nat} (h : RefAt w B q O L last low) : ∀ k, O k → B ≤ k ∧ k < w.heap.size := by
  obtain ⟨v, h⟩ := h; exact h.lt
theorem StoreAt.base {w : World} {B B' p N : Nat} {O : Nat → Prop} {s : StD} (h : StoreAt w B p N O s) (hB : B' ≤ B) : StoreAt w B' p N O s := by
  obtain ⟨mb, D, V, h⟩ := h
  refine ⟨mb, D, V, ?_⟩
  have hrow : ∀ k, OwnV w B' (V k) (getK s.ks k) := fun k => ⟨(h.keys.row k).1, (h.keys.row k).2.imp id fun ⟨g, cap, cur, e, hg, r⟩ => ⟨g, cap, cur, e, by omega, r⟩⟩
  exact { blk := h.blk, keys := { own := h.keys.own, has := h.keys.has, at_ := h.keys.at_, row := hrow, nil := h.keys.nil, apart := h.keys.apart, mine := h.keys.mine, hm := h.keys.hm }, hp := h.hp, n1 := h.n1, n2 := h.n2, lt := fun k hk => ⟨by have := (h.lt k hk).1; omega, (h.lt k hk).2⟩ }
/-- Both stores, in blocks that they do not share. -/
def PairAt (w : World) (B p q N : Nat) (s : StD) : Prop :=
  ∃ (O O2 : Nat → Prop) (M : Nat), M ≤ N ∧ StoreAt w B p M O s ∧ RefAt w B q O2 (items s.ks) s.last s.low ∧ ∀ k, O k → ¬ O2 k
theorem PairAt.later {w w' : World} {B p q N : Nat} {s : StD} (h : PairAt w B p q N s) (hb : Below w.heap.size w w') : PairAt w' B p q N s := by
  obtain ⟨O, O2, M, hM, h1, h2, h5⟩ := h
  exact ⟨O, O2, M, hM, h1.later hb, h2.later hb, h5⟩
theorem pair_step {w w2 w3 : World} {B p q M N : Nat} {O O2 : Nat → Prop} {s s' : StD} {L' : List It} {last low : Nat} (hB : B ≤ w.heap.size) (hS : StoreAt w B p M O s) (hR : RefAt w B q O2 (items s.ks) s.last s.low) (hd : ∀ k, O k → ¬ O2 k)
    (hS2 : StoreAt w2 B p N (ext O w w2) s') (ho : Out O w w2) (hR3 : RefAt w3 B q (ext O2 w2 w3) L' last low) (ho3 : Out O2 w2 w3) (e1 : L' = items s'.ks) (e2 : last = s'.last) (e3 : low = s'.low) : PairAt w3 B p q N s' ∧ Below B w w3 := by
  subst e1 e2 e3
  have h1 := ho.size
  have h3 := ho3.size
  have hd2 : ∀ k, ext O w w2 k → ¬ O2 k := fun k hk h2 => hk.elim (fun h => hd k h h2) (fun h => by have := (hR.lt k h2).2; omega)
  refine ⟨⟨_, _, N, Nat.le_refl _, hS2.out ho3 hd2, hR3, fun k hk h2 => ?_⟩, ?_⟩
  · rcases h2 with h2 | h2
    · exact hd2 k hk h2
    · have := (hS2.lt k hk).2; omega
  · exact (ho.below hB fun k hk => (hS.lt k hk).1).trans (ho3.below (by omega) fun k hk => (hR.lt k hk).1)
/-- A new reference's store. -/
theorem ref_new {w w1 : World} {B : Nat} (hB : B ≤ w.heap.size) (h : w1.heap[w.heap.size]? = some (.cells #[.slice none 0 0, .int .u64 0, .int .u64 0] 31 (0, 0))) (hs : w1.heap.size = w.heap.size + 1) : RefAt w1 B w.heap.size (fun k => k = w.heap.size) [] 0 0 :=
  ⟨_, { blk := h, row := own_nil _ _ _ _, hq := rfl, mine := fun g hg => (by cases hg), lt := fun k hk => ⟨by omega, by omega⟩ }⟩

theorem PairAt.new {w w1 w2 : World} {p : Nat} {T : TypeId} (hS : StoreAt w1 w.heap.size p 0 (ext noB w w1) st0) (h2 : w1.alloc (.cells #[.slice none 0 0, .int .u64 0, .int .u64 0] T) = w2) (hT : T = 31) (hs : w.heap.size ≤ w1.heap.size) : PairAt w2 w.heap.size p w1.heap.size 0 st0 := by
  subst hT h2
  refine ⟨_, _, 0, Nat.le_refl _, hS.later (below1 _ _), ref_new hs (heap_alloc_new w1 _) (by simp), fun k hk e => ?_⟩
  rcases hk with hk | hk
  · exact hk
  · omega
end Go.Proofs.YtboiafchmdflpaaGreatDoor
