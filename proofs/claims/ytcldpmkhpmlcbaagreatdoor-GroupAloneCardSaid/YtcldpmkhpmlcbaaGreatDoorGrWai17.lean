/- Waiting, where none waits. -/
import Derived.Test.YtcldpmkhpmlcbaaGreatDoorGrGet17
set_option linter.unusedVariables false
set_option linter.unusedSimpArgs false
namespace Go.Proofs.YtcldpmkhpmlcbaaGreatDoor
open Go.RowKit Go.Shelf Go.Maps

set_option maxRecDepth 100000 in
set_option maxHeartbeats 4000000 in
theorem waiting15_nil {w : World} {B p : Nat} {x : QD} {v : Value} {es : List EntD} {O : Nat → Prop} (h : QIn w B p x v es O) (hx : x.l = []) :
    Calls Tryz.prog 59 #[.pointer (some ⟨p, 0, none⟩)] w fun e w' => e = .returned (.slice none 0 0) ∧ w = w' := by
  obtain ⟨c0, c1, c2⟩ := h.cs
  obtain ⟨A, cap, rfl, _, hA⟩ := h.at_
  have hl : es = [] := by
    have := h.eq
    rw [hx] at this
    exact List.map_eq_nil_iff.1 this
  subst hl
  clear h hA hx
  go_enter Tryz.func59, Tryz.ntmps59
  go_wp2
  refine wp_loop_rounds 1 ?_
  rw [rounds_succ]
  go_wp2
  go_ret
  exact ⟨rfl, rfl⟩
set_option maxRecDepth 100000 in
set_option maxHeartbeats 4000000 in
theorem waiting17_nil {w : World} {B p : Nat} {c : Cfg} {g : Int} {lab : Nat → Lab} {x : MachD} {E : MachE} {ov : Value} (h : MachIn w B p c g lab x E ov) (hx : x.q.l = []) :
    Calls Tryz.prog 24 #[.pointer (some ⟨p, 0, none⟩)] w fun e w' => e = .returned (.slice none 0 0) ∧ w = w' := by
  obtain ⟨_, _, _, c3, _⟩ := h.cs
  obtain ⟨qv, qes, hQ⟩ := h.q
  have hW := Lib.hid (waiting15_nil hQ hx)
  clear h hQ hx
  go_enter Tryz.func24, Tryz.ntmps24
  go_wp2_with (go_at_call 59; (with_reducible refine hW.out.mono ?_); rintro e w1 ⟨rfl, rfl⟩)
  refine wp_loop_rounds 1 ?_
  rw [rounds_succ]
  go_wp2
  go_ret
  exact ⟨rfl, rfl⟩
end Go.Proofs.YtcldpmkhpmlcbaaGreatDoor
