/- A transaction is alike itself, in plain Lean. -/
import Derived.Test.YtfblemdpimbciaaDoorSame08
namespace Go.Proofs.YtfblemdpimbciaaDoor
open Go.RowKit

theorem sameT_self (a : Tx) : sameT a a = true := by
  have h1 : ∀ (l : List Rd) (n : Nat), rdsTo l l n = true := fun l n => by induction n with
    | zero => rfl
    | succ n ih => simp [rdsTo, ih, rdEq]
  have h2 : ∀ (l : List Wr) (n : Nat), wrsTo l l n = true := fun l n => by induction n with
    | zero => rfl
    | succ n ih => simp [wrsTo, ih, wrEq]
  simp [sameT, idEqB, rdsEq, wrsEq, h1, h2]
end Go.Proofs.YtfblemdpimbciaaDoor
