/- Frames by sets of blocks: a call writes in the blocks O alone, and makes new ones. -/
import Derived.Test.YtjgloipgnnigmaaGreatDoorRow
import Derived.Maps.Own
namespace Go.Proofs.YtjgloipgnnigmaaGreatDoor
open Go.RowKit

/-- But for the blocks O all that was there is as it was. -/
structure Out (O : Nat → Prop) (w w' : World) : Prop where
  os : w'.os = w.os
  tape : w'.tape = w.tape
  output : w'.output = w.output
  size : w.heap.size ≤ w'.heap.size
  block : ∀ k, k < w.heap.size → ¬ O k → w'.heap[k]? = w.heap[k]?
/-- O and the blocks made between w and w'. -/
def ext (O : Nat → Prop) (w w' : World) (k : Nat) : Prop := O k ∨ (w.heap.size ≤ k ∧ k < w'.heap.size)
theorem Out.refl (O : Nat → Prop) (w : World) : Out O w w := ⟨rfl, rfl, rfl, Nat.le_refl _, fun _ _ _ => rfl⟩
theorem Out.trans {O : Nat → Prop} {w w1 w2 : World} (h : Out O w w1) (h' : Out (ext O w w1) w1 w2) : Out O w w2 :=
  ⟨h'.os.trans h.os, h'.tape.trans h.tape, h'.output.trans h.output, Nat.le_trans h.size h'.size, fun k hk ho => by
    rw [h'.block k (Nat.lt_of_lt_of_le hk h.size) (fun e => e.elim ho (fun e => by omega)), h.block k hk ho]⟩
theorem Out.trans' {O : Nat → Prop} {w w1 w2 : World} (h : Out O w w1) (h' : Out O w1 w2) : Out O w w2 :=
  ⟨h'.os.trans h.os, h'.tape.trans h.tape, h'.output.trans h.output, Nat.le_trans h.size h'.size, fun k hk ho => by
    rw [h'.block k (Nat.lt_of_lt_of_le hk h.size) ho, h.block k hk ho]⟩
theorem Out.mono {O O' : Nat → Prop} {w w' : World} (h : Out O w w') (hs : ∀ k, O k → O' k) : Out O' w w' :=
  ⟨h.os, h.tape, h.output, h.size, fun k hk ho => h.block k hk (fun e => ho (hs k e))⟩
theorem Out.of_below {O : Nat → Prop} {w w' : World} (h : Below w.heap.size w w') : Out O w w' := ⟨h.os, h.tape, h.output, h.size, fun k hk _ => h.block k hk⟩
theorem Out.of_grown {O : Nat → Prop} {w w' : World} {row : Option Nat} (h : w.grownBy w' row) (hr : ∀ k, row = some k → O k) : Out O w w' :=
  ⟨h.os, h.tape, h.output, h.size, fun k hk ho => h.block k hk (fun e => ho (hr k e.symm))⟩
theorem Out.below {O : Nat → Prop} {w w' : World} {B : Nat} (h : Out O w w') (hB : B ≤ w.heap.size) (ho : ∀ k, O k → B ≤ k) : Below B w w' :=
  ⟨h.os, h.tape, h.output, h.size, fun k hk => h.block k (Nat.lt_of_lt_of_le hk hB) (fun e => by have := ho k e; omega)⟩
theorem blk_lt {w : World} {a : Addr} {v : Value} (h : w.cell? a = some v) : a.block < w.heap.size := by
  rcases Nat.lt_or_ge a.block w.heap.size with q | q
  · exact q
  · exfalso
    have : w.heap[a.block]? = none := Array.getElem?_eq_none q
    simp [World.cell?, this] at h
theorem Out.cell {O : Nat → Prop} {w w' : World} {a : Addr} {v : Value} (h : Out O w w') (hc : w.cell? a = some v) (ho : ¬ O a.block) : w'.cell? a = some v := by
  rw [World.cell?_of_block (h.block a.block (blk_lt hc) ho)]; exact hc
theorem Out.obj {O : Nat → Prop} {w w' : World} {g : Nat} {o : Obj} (h : Out O w w') (hc : w.heap[g]? = some o) (ho : ¬ O g) : w'.heap[g]? = some o := by
  rw [h.block g (Array.getElem?_eq_some_iff.1 hc).1 ho]; exact hc
theorem Out.row {O : Nat → Prop} {w w' : World} {base n size : Nat} {e : TypeId} {v : Value} {xs : List Value} (h : Out O w w') (hr : w.ownsRow base e size v n xs) (ho : ∀ g, v.ownBlock = some g → ¬ O g) : w'.ownsRow base e size v n xs := by
  refine ⟨hr.1, ?_⟩
  rcases hr.2 with h2 | ⟨g, cap, cur, rfl, hg, hh, r⟩
  · exact .inl h2
  · exact .inr ⟨g, cap, cur, rfl, hg, h.obj hh (ho g rfl), r⟩
theorem Out.map {H : Type} {P : Program} {k : TypeId} {R : Value → Option (DataW H × List MemPlace)} {O : Nat → Prop} {w w' : World} {b n : Nat} {D : DataW H} (h : Out O w w') (hm : w.ownsMap P k R b n D) (ho : ¬ O b) : w'.ownsMap P k R b n D := by
  obtain ⟨es, clock, hb, r⟩ := hm
  exact ⟨es, clock, h.obj hb ho, r⟩
theorem own_lt {w : World} {base n size : Nat} {e : TypeId} {v : Value} {xs : List Value} (h : w.ownsRow base e size v n xs) {g : Nat} (hg : v.ownBlock = some g) : base ≤ g ∧ g < w.heap.size := h.lt g hg
theorem ext_mono {O : Nat → Prop} {w w1 w2 : World} (h2 : w1.heap.size ≤ w2.heap.size) {k : Nat} (h : ext O w w1 k) : ext O w w2 k :=
  h.elim .inl fun h => .inr ⟨h.1, by omega⟩
theorem ext_ext {O : Nat → Prop} {w w1 w2 : World} (h1 : w.heap.size ≤ w1.heap.size) (h2 : w1.heap.size ≤ w2.heap.size) (k : Nat) : ext (ext O w w1) w1 w2 k ↔ ext O w w2 k := by
  unfold ext
  constructor
  · rintro ((h | h) | h)
    · exact .inl h
    · exact .inr ⟨h.1, by omega⟩
    · exact .inr ⟨by omega, h.2⟩
  · rintro (h | h)
    · exact .inl (.inl h)
    · by_cases hk : k < w1.heap.size
      · exact .inl (.inr ⟨h.1, hk⟩)
      · exact .inr ⟨by omega, h.2⟩
theorem CellsAt.out {O : Nat → Prop} {w w' : World} {A : Option Addr} {n : Nat} {f : Nat → Value} (h : CellsAt w A n f) (hb : Out O w w') (ho : ∀ a, A = some a → ¬ O a.block) : CellsAt w' A n f := by
  intro i hi
  obtain ⟨b, off, e, hc⟩ := h i hi
  exact ⟨b, off, e, hb.cell hc (ho ⟨b, off, none⟩ e)⟩
end Go.Proofs.YtjgloipgnnigmaaGreatDoor
