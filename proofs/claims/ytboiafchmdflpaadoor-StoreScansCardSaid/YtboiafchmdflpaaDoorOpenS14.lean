/- Scripts, and pairs of numbers and of texts, that came in, opened. -/
import Derived.Test.YtboiafchmdflpaaDoorOpenL
namespace Go.Proofs.YtboiafchmdflpaaDoor
open Go.ChangeShapes Go.WideShapes Go.ChangeAt Go.RowKit Go.Joins Go.Deep

structure OpX where
  o : OpD
  A : Option Addr
  c : Nat
def noOpX : OpX := ⟨noOp, none, 0⟩
instance : Inhabited OpX := ⟨noOpX⟩
def opF (r : OpX) : List Value := [.int .i64 r.o.kind, .slice r.A r.o.l.length r.c, .string r.o.key, .string r.o.upto, .int .u64 (r.o.num : Int), .int .u8 (r.o.by8 : Int)]
set_option maxRecDepth 100000 in
theorem open_ops {H : Type} {enc : TypeId × Value → H} {w : World} {b0 base : Nat} {sp : Nat → Bool} {held : Bool} {v : Value} {d : DataW H} {p : List MemPlace}
    (hv : Value.okWide Tryd.prog w .any b0 22 v) (h : DataW.Trod enc Tryd.prog w base sp held 22 v d p) :
    ∃ (S : Option Addr) (l : List OpD) (LA : Nat → Option Addr) (LC : Nat → Nat) (ca : Nat), v = .slice S l.length ca ∧ OpsAt w S l LA LC ∧ (∀ i, i < l.length → OpOK (l.getD i noOp)) ∧ l.length ≤ 9223372036854775807 := by
  obtain ⟨a0, len, cap, rfl⟩ := okWide_slice Tryd.underlying22 hv
  obtain ⟨fuel, hf⟩ := h
  obtain ⟨A, l, ca, e, h1, h2, h3, h4⟩ := slice_cells (k := 6) (f := opF) (q := fun r : OpX => WrsAt w r.A r.o.l ∧ OpOK r.o) noOpX (by omega) (fun _ => rfl) Tryd.underlying22 cells_op (fun h => by
    obtain ⟨o, A, c, e, q1, q2⟩ := op_cells h
    exact ⟨⟨o, A, c⟩, e, q1, q2⟩) hf
  have h5 := le_max (Nat.le_trans h1 h2)
  have hm : ∀ i, i < l.length → (l.map OpX.o).getD i noOp = (l.getD i noOpX).o := fun i hi => by
    rw [List.getD_eq_getElem?_getD, List.getD_eq_getElem?_getD, List.getElem?_map, List.getElem?_eq_getElem hi]; rfl
  refine ⟨A, l.map OpX.o, fun i => (l.getD i noOpX).A, fun i => (l.getD i noOpX).c, ca, by simpa [Value.cells] using e, fun i hi => ?_, fun i hi => ?_, by rw [List.length_map]; exact h5⟩
  · rw [List.length_map] at hi
    obtain ⟨b, off, e, hc⟩ := h3 i hi
    rw [hm i hi]
    exact ⟨b, off, e, by have := hc 0 _ rfl; simpa using this, hc 1 _ rfl, hc 2 _ rfl, hc 3 _ rfl, hc 4 _ rfl, hc 5 _ rfl, (h4 i hi).1⟩
  · rw [List.length_map] at hi
    rw [hm i hi]
    exact (h4 i hi).2
theorem cells_pn : Tryd.prog.cellsOf 24 = 2 := by kernel_rfl
theorem cells_ps : Tryd.prog.cellsOf 52 = 2 := by kernel_rfl
set_option maxRecDepth 100000 in
theorem open_pn {H : Type} {enc : TypeId × Value → H} {w : World} {b0 base : Nat} {sp : Nat → Bool} {held : Bool} {v : Value} {d : DataW H} {p : List MemPlace}
    (hv : Value.okWide Tryd.prog w .any b0 24 v) (h : DataW.Trod enc Tryd.prog w base sp held 24 v d p) :
    ∃ m n : Nat, v = .agg #[.int .u64 (m : Int), .int .u64 (n : Int)] ∧ m < 18446744073709551616 ∧ n < 18446744073709551616 := by
  obtain ⟨cs, rfl, hsz, _⟩ : ∃ cs, v = .agg cs ∧ cs.size = Tryd.prog.cellsOf 24 ∧ Row.okWide Tryd.prog w .any b0 24 cs := by
    have := hv
    simpa [Value.okWide, Tryd.underlying24] using this
  obtain ⟨fuel, hf⟩ := h
  obtain ⟨xs, n, _, _, hc, hl, hg⟩ := DataW.trod_array Tryd.underlying24 hf
  have hc' : cs.toList.length = 2 := by rw [show cs.toList = (Value.agg cs).cells.toList from rfl, hc, cells_pn]
  obtain ⟨a, b, hab⟩ := len_2 hc'
  obtain ⟨x1, x2, rfl⟩ := len_2 (l := xs) hl
  have hcl : (Value.agg cs).cells.toList = [a, b] := hab
  have g0 := hg 0 (by omega)
  have g1 := hg 1 (by omega)
  rw [hcl] at g0 g1
  simp [cells_u64] at g0 g1
  obtain ⟨k, e0, h0⟩ := cells_u641 g0
  obtain ⟨m, e1, h1⟩ := cells_u641 g1
  simp at e0 e1
  subst e0 e1
  refine ⟨k, m, ?_, h0, h1⟩
  obtain ⟨l⟩ := cs
  rw [show l = _ from hab]
set_option maxRecDepth 100000 in
theorem open_ps {H : Type} {enc : TypeId × Value → H} {w : World} {b0 base : Nat} {sp : Nat → Bool} {held : Bool} {v : Value} {d : DataW H} {p : List MemPlace}
    (hv : Value.okWide Tryd.prog w .any b0 52 v) (h : DataW.Trod enc Tryd.prog w base sp held 52 v d p) :
    ∃ s t : ByteArray, v = .agg #[.string s, .string t] ∧ s.size ≤ 9223372036854775807 ∧ t.size ≤ 9223372036854775807 := by
  obtain ⟨cs, rfl, hsz, _⟩ : ∃ cs, v = .agg cs ∧ cs.size = Tryd.prog.cellsOf 52 ∧ Row.okWide Tryd.prog w .any b0 52 cs := by
    have := hv
    simpa [Value.okWide, Tryd.underlying52] using this
  obtain ⟨fuel, hf⟩ := h
  obtain ⟨xs, n, _, _, hc, hl, hg⟩ := DataW.trod_array Tryd.underlying52 hf
  have hc' : cs.toList.length = 2 := by rw [show cs.toList = (Value.agg cs).cells.toList from rfl, hc, cells_ps]
  obtain ⟨a, b, hab⟩ := len_2 hc'
  obtain ⟨x1, x2, rfl⟩ := len_2 (l := xs) hl
  have hcl : (Value.agg cs).cells.toList = [a, b] := hab
  have g0 := hg 0 (by omega)
  have g1 := hg 1 (by omega)
  rw [hcl] at g0 g1
  simp [cells_str] at g0 g1
  obtain ⟨k, e0, h0⟩ := cells_str1 g0
  obtain ⟨m, e1, h1⟩ := cells_str1 g1
  simp at e0 e1
  subst e0 e1
  refine ⟨k, m, ?_, h0, h1⟩
  obtain ⟨l⟩ := cs
  rw [show l = _ from hab]
end Go.Proofs.YtboiafchmdflpaaDoor
