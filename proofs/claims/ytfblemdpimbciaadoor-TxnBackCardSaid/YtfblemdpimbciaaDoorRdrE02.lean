/- Whether a reader has come to its end. -/
import Derived.Test.YtfblemdpimbciaaDoorRdrL02
namespace Go.Proofs.YtfblemdpimbciaaDoor
open Go.RowKit Go.Shelf

theorem rdrEnd_any {w : World} {p : Nat} {s : RS} (h : RdrAt w p s) :
    Calls Tryd.prog 13 #[.pointer (some ⟨p, 0, none⟩)] w fun e w' => e = .returned (.bool (endB s)) ∧ w = w' := by
  have HO := Lib.hid (rdrOK_any h)
  obtain ⟨A, n, ca, h⟩ := h
  have c0 := h.c0
  cases s with
  | none =>
    clear h
    go_enter Tryd.func13, Tryd.ntmps13
    go_wp2_with (go_at_call 14; refine HO.out.mono ?_; rintro e w1 ⟨rfl, rfl⟩)
    go_ret
    exact ⟨rfl, rfl⟩
  | some l =>
    have HL : Hid (n = l.length) := (h.by_ l rfl).1
    obtain ⟨b, hb⟩ : ∃ b, Hid (endB (some l) = b) := ⟨_, rfl⟩
    have t0 : ((n : Int) == 0) = b := by rw [← hb.out, endB, ← HL.out]; by_cases h : n = 0 <;> simp [h]
    have t0n : (n == 0) = b := by rw [← hb.out, endB, ← HL.out]; by_cases h : n = 0 <;> simp [h]
    clear h
    go_enter Tryd.func13, Tryd.ntmps13
    go_wp2_with (go_at_call 14; refine HO.out.mono ?_; rintro e w1 ⟨rfl, rfl⟩)
    go_ret
    exact ⟨by rw [hb.out]; rfl, rfl⟩
end Go.Proofs.YtfblemdpimbciaaDoor
