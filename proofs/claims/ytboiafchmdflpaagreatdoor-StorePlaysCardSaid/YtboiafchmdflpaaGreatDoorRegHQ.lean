/- A drawn region of which a beginning was walked operation for operation: the rest, which leaves what was there as it is, goes in the text's order. No function of the program is named here. -/
import Derived.Test.YtboiafchmdflpaaGreatDoorG1
import Derived.Deep.RegionHeld3
import Derived.Lib.QuietBelow
import Derived.BigQuiet
namespace Go.Proofs.YtboiafchmdflpaaGreatDoor
open Go.RowKit Go.Sort

theorem wpAnyH_of_quiet {P : Program} {ops : Array Oper} {md : Region.Mode} {C S : World → Prop} {Q : Act → Prop} {Q' : Exit → Act → World → Prop} (hS : ∀ w, C w → S w) (hQ : ∀ a w, C w → Q a → Q' .normal a w) :
    ∀ (fuel : Nat) (listed : Array Bool) (a : Act) (w : World), C w → wpAnyQ P md ops C Q fuel listed a → wpAnyH P md ops Q' S fuel listed a w
  | 0, _, _, _, hw, h => ⟨h.1, hQ _ _ hw h.2⟩
  | fuel + 1, _, _, _, hw, h => ⟨fun h0 => hQ _ _ hw (h.1 h0), fun i hi => wpOp_of_qOp hw (fun a' w' hw' hq => ⟨hS w' hw', wpAnyH_of_quiet hS hQ fuel _ a' w' hw' hq⟩) (h.2 i hi)⟩
/-- The rest of the region, from number k on. -/
theorem wpAnyH_rest {P : Program} {L l : List Oper} {S : World → Prop} {Q : Exit → Act → World → Prop} {fuel k : Nat} {listed : Array Bool} {a : Act} {w : World} (hs : Region.noSelect L.toArray = true) (hl : L.drop k = l) (hf : fuel = l.length)
    (hB : Region.lexFrom .any L.toArray l.length k listed = true) (hS : ∀ d os, S (grow (redrawn w d) os))
    (h : wpQuiet P L.toArray (fun w' => ∃ p : Regrown, w' = grow (redrawn w p.d) p.os) (fun a' => ∀ w', (∃ p : Regrown, w' = grow (redrawn w p.d) p.os) → Q .normal a' w') l a) : wpAnyH P .any L.toArray Q S fuel listed a w := by
  subst hf hl
  refine wpAnyH_of_quiet (C := fun w' => ∃ p : Regrown, w' = grow (redrawn w p.d) p.os) (Q := fun a' => ∀ w', (∃ p : Regrown, w' = grow (redrawn w p.d) p.os) → Q .normal a' w') ?_ (fun _ w' hw' h => h w' hw') _ _ _ _ ⟨⟨w.drawn, #[]⟩, by rw [grow_empty]; rfl⟩ ?_
  · rintro w' ⟨p, rfl⟩
    exact hS p.d p.os
  · exact wpAnyQ_lex hs (L.drop k) k listed a (fun j => by simp) hB h
end Go.Proofs.YtboiafchmdflpaaGreatDoor
