/- ClientNil's walk, both ways. -/
import Derived.Test.YtjgloipgnnigmaaGreatDoorLawNilY21
namespace Go.Proofs.YtjgloipgnnigmaaGreatDoor
open Go.RowKit

theorem law_nil (c : Cfg) (ses : Int) (o : OpX) (A B : Option Addr) (ca cb : Nat) (w : World) (h : CfgAt w c A B) (ho : OpAt w o) :
    Calls Tryz.prog 3 #[.agg #[.slice A c.reps.length ca, .slice B c.bnds.length cb], .int .i64 ses, o.v] w fun e w' => e = .returned (.bool true) ∧ Below w.heap.size w w' := by
  cases hq : (few21 c [o] && cliOK ⟨c, A, B, ca, cb, ses⟩)
  · exact law_nil_no c ses o A B ca cb w h ho hq
  · rw [Bool.and_eq_true] at hq
    exact law_nil_yes c ses o A B ca cb w h ho hq.2 hq.1
end Go.Proofs.YtjgloipgnnigmaaGreatDoor
