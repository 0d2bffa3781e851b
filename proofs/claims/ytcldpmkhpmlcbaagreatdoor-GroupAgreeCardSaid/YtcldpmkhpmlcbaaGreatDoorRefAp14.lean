/- The reference's Apply. -/
import Derived.Test.YtcldpmkhpmlcbaaGreatDoorJ6
import Derived.Deep.AppendLies
set_option linter.unusedVariables false
set_option linter.unusedSimpArgs false
namespace Go.Proofs.YtcldpmkhpmlcbaaGreatDoor
open Go.RowKit Go.Maps Go.Shelf Go.Sort

end Go.Proofs.YtcldpmkhpmlcbaaGreatDoor
