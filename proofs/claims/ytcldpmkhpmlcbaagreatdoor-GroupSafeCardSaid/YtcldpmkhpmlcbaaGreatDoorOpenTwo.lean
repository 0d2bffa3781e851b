/- Two lists of commands that came in, opened. -/
import Derived.Test.YtcldpmkhpmlcbaaGreatDoorJ23
import Derived.OpenShut
set_option linter.unusedVariables false
set_option linter.unusedSimpArgs false
namespace Go.Proofs.YtcldpmkhpmlcbaaGreatDoor
open Go.ChangeShapes Go.WideShapes Go.ChangeAt Go.RowKit Go.Joins Go.Deep

theorem cells_two17 : Tryz.prog.cellsOf 62 = 2 := by kernel_rfl
theorem cells_cmds : Tryz.prog.cellsOf 26 = 1 := by kernel_rfl
theorem len_two17 {α : Type} {l : List α} (h : l.length = 2) : ∃ a b, l = [a, b] := by
  match l, h with
  | [a, b], _ => exact ⟨a, b, rfl⟩
section
variable {H : Type} {enc : TypeId × Value → H} {w : World} {base fuel : Nat} {sp : Nat → Bool} {held : Bool} {cs : List Value} {x : DataW H × List MemPlace}
theorem cmds_cells (h : DataW.trod enc Tryz.prog w base sp held fuel 26 cs = some x) : ∃ (S : Option Addr) (l : List CmdV) (c : Nat), cs = [.slice S l.length c] ∧ CmdsAt w S l ∧ l.length ≤ 9223372036854775807 := by
  obtain ⟨A, l, ca, e, h1, h2, h3, h4⟩ := slice_cells (k := 10) (f := fun o : CmdV => o.vs.toList) (q := fun o => TxAt w o.t o.A o.B) noCmd (by omega) vs10 Tryz.underlying26 cells_cmd (fun h => cmdV_cells h) h
  refine ⟨A, l, ca, e, fun i hi => ?_, le_max (Nat.le_trans h1 h2)⟩
  obtain ⟨b, off, e, hc⟩ := h3 i hi
  refine ⟨b, off, e, fun j v hj => ?_, h4 i hi⟩
  rw [Go.WideShapes.add_plain]
  exact hc j v (by rw [Array.getElem?_toList]; exact hj)
end
set_option maxRecDepth 100000 in
theorem open_two {H : Type} {enc : TypeId × Value → H} {w : World} {b0 base : Nat} {sp : Nat → Bool} {held : Bool} {v : Value} {d : DataW H} {p : List MemPlace}
    (hv : Value.okWide Tryz.prog w .any b0 62 v) (h : DataW.Trod enc Tryz.prog w base sp held 62 v d p) :
    ∃ (S1 : Option Addr) (l1 : List CmdV) (c1 : Nat) (S2 : Option Addr) (l2 : List CmdV) (c2 : Nat), v = .agg #[.slice S1 l1.length c1, .slice S2 l2.length c2] ∧ CmdsAt w S1 l1 ∧ CmdsAt w S2 l2 ∧ l1.length ≤ 9223372036854775807 ∧ l2.length ≤ 9223372036854775807 := by
  obtain ⟨cs, rfl, hsz, _⟩ : ∃ cs, v = .agg cs ∧ cs.size = Tryz.prog.cellsOf 62 ∧ Row.okWide Tryz.prog w .any b0 62 cs := by
    have := hv
    simpa [Value.okWide, Tryz.underlying62] using this
  obtain ⟨fuel, hf⟩ := h
  obtain ⟨xs, n, _, _, hc, hl, hg⟩ := DataW.trod_array Tryz.underlying62 hf
  have hc' : cs.toList.length = 2 := by rw [show cs.toList = (Value.agg cs).cells.toList from rfl, hc, cells_two17]
  obtain ⟨a, b, hab⟩ := len_two17 hc'
  obtain ⟨x1, x2, rfl⟩ := len_two17 (l := xs) hl
  have hcl : (Value.agg cs).cells.toList = [a, b] := hab
  have g0 := hg 0 (by omega)
  have g1 := hg 1 (by omega)
  rw [hcl] at g0 g1
  simp [cells_cmds] at g0 g1
  obtain ⟨S1, l1, c1, e0, h0, n0⟩ := cmds_cells g0
  obtain ⟨S2, l2, c2, e1, h1, n1⟩ := cmds_cells g1
  simp at e0 e1
  subst e0 e1
  refine ⟨S1, l1, c1, S2, l2, c2, ?_, h0, h1, n0, n1⟩
  obtain ⟨l⟩ := cs
  rw [show l = _ from hab]
end Go.Proofs.YtcldpmkhpmlcbaaGreatDoor
