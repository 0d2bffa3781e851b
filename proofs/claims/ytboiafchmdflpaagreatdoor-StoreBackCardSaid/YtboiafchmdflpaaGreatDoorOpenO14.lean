/- Scripts that came in, opened. -/
import Derived.Test.YtboiafchmdflpaaGreatDoorGC
namespace Go.Proofs.YtboiafchmdflpaaGreatDoor
open Go.ChangeShapes Go.WideShapes Go.ChangeAt Go.RowKit Go.Joins Go.Deep

structure OpX where
  o : OpD
  A : Option Addr
  c : Nat
def noOpX : OpX := ⟨noOp, none, 0⟩
instance : Inhabited OpX := ⟨noOpX⟩
def opF (r : OpX) : List Value := [.int .i64 r.o.kind, .slice r.A r.o.l.length r.c, .string r.o.key, .string r.o.upto, .int .u64 (r.o.num : Int), .int .u8 (r.o.by8 : Int)]
set_option maxRecDepth 100000 in
theorem open_ops {H : Type} {enc : TypeId × Value → H} {w : World} {b0 base : Nat} {sp : Nat → Bool} {held : Bool} {v : Value} {d : DataW H} {p : List MemPlace}
    (hv : Value.okWide Tryz.prog w .any b0 22 v) (h : DataW.Trod enc Tryz.prog w base sp held 22 v d p) :
    ∃ (S : Option Addr) (l : List OpD) (LA : Nat → Option Addr) (LC : Nat → Nat) (ca : Nat), v = .slice S l.length ca ∧ OpsAt w S l LA LC ∧ (∀ i, i < l.length → OpOK (l.getD i noOp)) ∧ l.length ≤ 9223372036854775807 := by
  obtain ⟨a0, len, cap, rfl⟩ := okWide_slice Tryz.underlying22 hv
  obtain ⟨fuel, hf⟩ := h
  obtain ⟨A, l, ca, e, h1, h2, h3, h4⟩ := slice_cells (k := 6) (f := opF) (q := fun r : OpX => WrsAt w r.A r.o.l ∧ OpOK r.o) noOpX (by omega) (fun _ => rfl) Tryz.underlying22 cells_op (fun h => by
    obtain ⟨o, A, c, e, q1, q2⟩ := op_cells h
    exact ⟨⟨o, A, c⟩, e, q1, q2⟩) hf
  have h5 := le_max (Nat.le_trans h1 h2)
  have hm : ∀ i, i < l.length → (l.map OpX.o).getD i noOp = (l.getD i noOpX).o := fun i hi => by
    rw [List.getD_eq_getElem?_getD, List.getD_eq_getElem?_getD, List.getElem?_map, List.getElem?_eq_getElem hi]; rfl
  refine ⟨A, l.map OpX.o, fun i => (l.getD i noOpX).A, fun i => (l.getD i noOpX).c, ca, by simpa [Value.cells] using e, fun i hi => ?_, fun i hi => ?_, by rw [List.length_map]; exact h5⟩
  · rw [List.length_map] at hi
    obtain ⟨b, off, e, hc⟩ := h3 i hi
    rw [hm i hi]
    exact ⟨b, off, e, by have := hc 0 _ rfl; simpa using this, hc 1 _ rfl, hc 2 _ rfl, hc 3 _ rfl, hc 4 _ rfl, hc 5 _ rfl, (h4 i hi).1⟩
  · rw [List.length_map] at hi
    rw [hm i hi]
    exact (h4 i hi).2
end Go.Proofs.YtboiafchmdflpaaGreatDoor
