/- How much is left to a reader: End, Left, and the reference's Left. -/
import Derived.Test.YtfblemdpimbciaaDoorRRdr02
namespace Go.Proofs.YtfblemdpimbciaaDoor
open Go.RowKit Go.Shelf

def leftN : RS → Nat
  | none => 0
  | some l => l.length
def endB : RS → Bool
  | none => false
  | some l => decide (l.length = 0)
theorem rdrLeft_any {w : World} {p : Nat} {s : RS} (h : RdrAt w p s) :
    Calls Tryd.prog 22 #[.pointer (some ⟨p, 0, none⟩)] w fun e w' => e = .returned (.int .i64 (leftN s : Int)) ∧ w = w' := by
  have HO := Lib.hid (rdrOK_any h)
  obtain ⟨A, n, ca, h⟩ := h
  have c0 := h.c0
  cases s with
  | none =>
    clear h
    go_enter Tryd.func22, Tryd.ntmps22
    go_wp2_with (go_at_call 14; refine HO.out.mono ?_; rintro e w1 ⟨rfl, rfl⟩)
    go_ret
    exact ⟨rfl, rfl⟩
  | some l =>
    have HL : Hid (n = l.length) := (h.by_ l rfl).1
    clear h
    go_enter Tryd.func22, Tryd.ntmps22
    go_wp2_with (go_at_call 14; refine HO.out.mono ?_; rintro e w1 ⟨rfl, rfl⟩)
    go_ret
    exact ⟨by rw [leftN, HL.out]; rfl, rfl⟩
theorem refLeft_any {w : World} {p : Nat} {s : RS} (h : RRdrAt w p s) :
    Calls Tryd.prog 23 #[.pointer (some ⟨p, 0, none⟩)] w fun e w' => e = .returned (.int .i64 (leftN s : Int)) ∧ Below w.heap.size w w' := by
  obtain ⟨A, L, ca, k, h⟩ := h
  obtain ⟨c0, c1, c2, _, _, _⟩ := mkq h.blk
  cases s with
  | none =>
    clear h
    go_enter Tryd.func23, Tryd.ntmps23
    go_wp2
    go_ret
    exact ⟨rfl, Below.refl _ _⟩
  | some l =>
    obtain ⟨m, hm⟩ : ∃ m, Hid (l.length = m) := ⟨_, rfl⟩
    have hws := h.left hm.out
    clear h
    go_enter Tryd.func23, Tryd.ntmps23
    go_wp2
    go_quiet (fail)
    go_wp2
    go_ret
    exact ⟨by rw [leftN, hm.out]; rfl, below_drewN (Below.refl _ _) _⟩
end Go.Proofs.YtfblemdpimbciaaDoor
