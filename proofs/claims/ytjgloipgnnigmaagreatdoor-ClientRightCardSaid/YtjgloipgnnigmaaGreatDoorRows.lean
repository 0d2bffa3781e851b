/-
  NARROWER THAN 'FOR EVERY INPUT', by the rows' own cells (each row's printed sentence says how): ClientNil: laid · ClientFloor: laid · ClientOnce: laid · ClientRight: laid · ClientSends: laid.
  DERIVED. THE GIVEN ROWS OF THIS SEAT. 5 by the template 'for every input the law returns true; each argument reads behind the call as it read before'; 0 by the template 'total and deterministic' (their statements: YtjgloipgnnigmaaGreatDoorTotals.lean).
  GIVEN WITH THE SEED: the statements are not yours to turn. If you find one false, say at which input.
  Laid BY PROGRAM, IN A SANDBOX (cutbox-rows.mjs): the forced cells as the released guide's own fill.sh prints them over the translation 31470c20957066f5… (all of the seat's roots in one cut). By AI agents, Wed Nov 11 2026. No macro, syntax, notation, axiom, sorry.
-/
import Derived.Test.YtjgloipgnnigmaaGreatDoorChecked
import GoSem.PinnedTables
import GoSem.Claim
import GoSem.ClaimJoined
import GoSem.ClaimMapViews
import Derived.JoinedTies
import Derived.KernelRfl
namespace Go.Proofs.YtjgloipgnnigmaaGreatDoor
/- THE CELL 'sum', in the pinned program and in every row, IS THE sha256 OF THE DUMP (.gsa) THAT YtjgloipgnnigmaaGreatDoorProg.lean LOADS. Nothing in Lean hashes anything: it is a label: what it is worth is what the hold of that sum in a sandbox is worth. -/
noncomputable def Tryz.pinned : Pinned := { name := "ytjgloipgnnigmaagreatdoor", sum := "31470c20957066f59fda514f237dc8f8e8b08e909e1c85f8e9775861c2abed39", checked := Tryz.checked }
namespace Rows
def none {H : Type} : Left H := { results := [], args := [] }

/- WHAT THE LISTED PACKAGE-LEVEL VARIABLES READ AS WHEN THE CALL BEGINS. Each datum BY PROGRAM (the guide's laid-datum.mjs) off the statement by which the dump's own 'gosem.cut.vars' lays the variable. In a bare row this is a premise. The card (YtjgloipgnnigmaaGreatDoorCards.lean) ties it to the program's text. -/
def laid_unicode_utf8_acceptRanges {H : Type} : DataW H := .agg [.agg [.lit (.int .u8 128), .lit (.int .u8 191)], .agg [.lit (.int .u8 160), .lit (.int .u8 191)], .agg [.lit (.int .u8 128), .lit (.int .u8 159)], .agg [.lit (.int .u8 144), .lit (.int .u8 191)], .agg [.lit (.int .u8 128), .lit (.int .u8 143)], .agg [.lit (.int .u8 0), .lit (.int .u8 0)], .agg [.lit (.int .u8 0), .lit (.int .u8 0)], .agg [.lit (.int .u8 0), .lit (.int .u8 0)], .agg [.lit (.int .u8 0), .lit (.int .u8 0)], .agg [.lit (.int .u8 0), .lit (.int .u8 0)], .agg [.lit (.int .u8 0), .lit (.int .u8 0)], .agg [.lit (.int .u8 0), .lit (.int .u8 0)], .agg [.lit (.int .u8 0), .lit (.int .u8 0)], .agg [.lit (.int .u8 0), .lit (.int .u8 0)], .agg [.lit (.int .u8 0), .lit (.int .u8 0)], .agg [.lit (.int .u8 0), .lit (.int .u8 0)]]
/-- One of Go's own tables, pinned by name: the form's constant. -/
def laid_unicode_utf8_first : DataW Unit := Go.Pinned.utf8First

/-- 'parishlaw21.ClientNil': WHATEVER THE INPUT: true; the input reads as it did. -/
def clientNilSpec : ChangeSpec := { name := "clientNil", fn := fun _ => fun
  | [d1, d2, d3] => { results := [.lit (.bool true)], args := [d1, d2, d3] }
  | _ => none }
def clientNilRow : OpenClaim := { program := "ytjgloipgnnigmaagreatdoor", sum := "31470c20957066f59fda514f237dc8f8e8b08e909e1c85f8e9775861c2abed39", func := "parish/parishlaw21.ClientNil", spec := "clientNil", inPlace := ["internal/bytealg.IndexByteString", "internal/bytealg.IndexString", "math.Float64frombits", "slices.overlaps[parish/api.Write]"], unfollowed := true, recurses := true, named := ["unicode/utf8.first", "unicode/utf8.acceptRanges", "internal/bytealg.MaxLen"], apart := false, laid := [("unicode/utf8.acceptRanges", laid_unicode_utf8_acceptRanges), ("unicode/utf8.first", laid_unicode_utf8_first)] }
def ClientNilSaid : Prop := clientNilRow.holds Tryz.pinned (OpenSpec.ofChange clientNilSpec)

/-- ITS FALSE NEIGHBOUR: 'it returns false'. Refute it at one input. -/
def clientNilWrong : ChangeSpec := { name := "clientNil", fn := fun _ => fun
  | [d1, d2, d3] => { results := [.lit (.bool false)], args := [d1, d2, d3] }
  | _ => none }
def ClientNilWrongFalsely : Prop := clientNilRow.holds Tryz.pinned (OpenSpec.ofChange clientNilWrong)

/-- 'parishlaw21.ClientFloor': WHATEVER THE INPUT: true; the input reads as it did. -/
def clientFloorSpec : ChangeSpec := { name := "clientFloor", fn := fun _ => fun
  | [d1, d2, d3] => { results := [.lit (.bool true)], args := [d1, d2, d3] }
  | _ => none }
def clientFloorRow : OpenClaim := { program := "ytjgloipgnnigmaagreatdoor", sum := "31470c20957066f59fda514f237dc8f8e8b08e909e1c85f8e9775861c2abed39", func := "parish/parishlaw21.ClientFloor", spec := "clientFloor", inPlace := ["internal/bytealg.IndexByteString", "internal/bytealg.IndexString", "math.Float64frombits", "slices.overlaps[parish/api.Write]"], unfollowed := true, recurses := true, named := ["unicode/utf8.first", "unicode/utf8.acceptRanges", "internal/bytealg.MaxLen"], apart := false, laid := [("unicode/utf8.acceptRanges", laid_unicode_utf8_acceptRanges), ("unicode/utf8.first", laid_unicode_utf8_first)] }
def ClientFloorSaid : Prop := clientFloorRow.holds Tryz.pinned (OpenSpec.ofChange clientFloorSpec)

/-- ITS FALSE NEIGHBOUR: 'it returns false'. Refute it at one input. -/
def clientFloorWrong : ChangeSpec := { name := "clientFloor", fn := fun _ => fun
  | [d1, d2, d3] => { results := [.lit (.bool false)], args := [d1, d2, d3] }
  | _ => none }
def ClientFloorWrongFalsely : Prop := clientFloorRow.holds Tryz.pinned (OpenSpec.ofChange clientFloorWrong)

/-- 'parishlaw21.ClientOnce': WHATEVER THE INPUT: true; the input reads as it did. -/
def clientOnceSpec : ChangeSpec := { name := "clientOnce", fn := fun _ => fun
  | [d1, d2, d3] => { results := [.lit (.bool true)], args := [d1, d2, d3] }
  | _ => none }
def clientOnceRow : OpenClaim := { program := "ytjgloipgnnigmaagreatdoor", sum := "31470c20957066f59fda514f237dc8f8e8b08e909e1c85f8e9775861c2abed39", func := "parish/parishlaw21.ClientOnce", spec := "clientOnce", inPlace := ["internal/bytealg.IndexByteString", "internal/bytealg.IndexString", "math.Float64frombits", "slices.overlaps[parish/api.Write]"], unfollowed := true, recurses := true, named := ["unicode/utf8.first", "unicode/utf8.acceptRanges", "internal/bytealg.MaxLen"], apart := false, laid := [("unicode/utf8.acceptRanges", laid_unicode_utf8_acceptRanges), ("unicode/utf8.first", laid_unicode_utf8_first)] }
def ClientOnceSaid : Prop := clientOnceRow.holds Tryz.pinned (OpenSpec.ofChange clientOnceSpec)

/-- ITS FALSE NEIGHBOUR: 'it returns false'. Refute it at one input. -/
def clientOnceWrong : ChangeSpec := { name := "clientOnce", fn := fun _ => fun
  | [d1, d2, d3] => { results := [.lit (.bool false)], args := [d1, d2, d3] }
  | _ => none }
def ClientOnceWrongFalsely : Prop := clientOnceRow.holds Tryz.pinned (OpenSpec.ofChange clientOnceWrong)

/-- 'parishlaw21.ClientRight': WHATEVER THE INPUT: true; the input reads as it did. -/
def clientRightSpec : ChangeSpec := { name := "clientRight", fn := fun _ => fun
  | [d1, d2, d3] => { results := [.lit (.bool true)], args := [d1, d2, d3] }
  | _ => none }
def clientRightRow : OpenClaim := { program := "ytjgloipgnnigmaagreatdoor", sum := "31470c20957066f59fda514f237dc8f8e8b08e909e1c85f8e9775861c2abed39", func := "parish/parishlaw21.ClientRight", spec := "clientRight", inPlace := ["internal/bytealg.IndexByteString", "internal/bytealg.IndexString", "math.Float64frombits", "slices.overlaps[parish/api.Write]"], unfollowed := true, recurses := true, named := ["unicode/utf8.first", "unicode/utf8.acceptRanges", "internal/bytealg.MaxLen"], apart := false, laid := [("unicode/utf8.acceptRanges", laid_unicode_utf8_acceptRanges), ("unicode/utf8.first", laid_unicode_utf8_first)] }
def ClientRightSaid : Prop := clientRightRow.holds Tryz.pinned (OpenSpec.ofChange clientRightSpec)

/-- ITS FALSE NEIGHBOUR: 'it returns false'. Refute it at one input. -/
def clientRightWrong : ChangeSpec := { name := "clientRight", fn := fun _ => fun
  | [d1, d2, d3] => { results := [.lit (.bool false)], args := [d1, d2, d3] }
  | _ => none }
def ClientRightWrongFalsely : Prop := clientRightRow.holds Tryz.pinned (OpenSpec.ofChange clientRightWrong)

/-- 'parishlaw21.ClientSends': WHATEVER THE INPUT: true; the input reads as it did. -/
def clientSendsSpec : ChangeSpec := { name := "clientSends", fn := fun _ => fun
  | [d1, d2, d3] => { results := [.lit (.bool true)], args := [d1, d2, d3] }
  | _ => none }
def clientSendsRow : OpenClaim := { program := "ytjgloipgnnigmaagreatdoor", sum := "31470c20957066f59fda514f237dc8f8e8b08e909e1c85f8e9775861c2abed39", func := "parish/parishlaw21.ClientSends", spec := "clientSends", inPlace := ["internal/bytealg.IndexByteString", "internal/bytealg.IndexString", "math.Float64frombits", "slices.overlaps[parish/api.Write]"], unfollowed := true, recurses := true, named := ["unicode/utf8.first", "unicode/utf8.acceptRanges", "internal/bytealg.MaxLen"], apart := false, laid := [("unicode/utf8.acceptRanges", laid_unicode_utf8_acceptRanges), ("unicode/utf8.first", laid_unicode_utf8_first)] }
def ClientSendsSaid : Prop := clientSendsRow.holds Tryz.pinned (OpenSpec.ofChange clientSendsSpec)

/-- ITS FALSE NEIGHBOUR: 'it returns false'. Refute it at one input. -/
def clientSendsWrong : ChangeSpec := { name := "clientSends", fn := fun _ => fun
  | [d1, d2, d3] => { results := [.lit (.bool false)], args := [d1, d2, d3] }
  | _ => none }
def ClientSendsWrongFalsely : Prop := clientSendsRow.holds Tryz.pinned (OpenSpec.ofChange clientSendsWrong)

/- THE SECOND FORM. 'bulk': how many values and letters a reading holds, each counted each time it is reached (what is shared counts as often as it is met; a slice's spare places count too). A statement '..UptoSaid' is the law's where the arguments, and the package variables that the reading takes, are together of bulk at most 1048576: NARROWER than '..Said'. Prove '..Said' where nothing that the law and all that it calls make is longer than what came in: it says more and counts as full. Else prove '..UptoSaid'. A law counts once. -/
mutual
def uptoBulk {H : Type} : DataW H → Nat
  | .lit (.string bytes) => bytes.length + 1
  | .lit _ => 1
  | .nil => 1
  | .ptr d => uptoBulk d + 1
  | .slice elems spare => uptoBulkAll elems + uptoBulkAll spare + 1
  | .agg parts => uptoBulkAll parts + 1
  | .iface _ d => uptoBulk d + 1
  | .map entries => uptoBulkEntries entries + 1
  | .held _ => 1
def uptoBulkAll {H : Type} : List (DataW H) → Nat
  | [] => 0
  | d :: r => uptoBulk d + uptoBulkAll r
def uptoBulkEntries {H : Type} : List (Lit × DataW H) → Nat
  | [] => 0
  | x :: r => uptoBulkEntry x + uptoBulkEntries r
def uptoBulkEntry {H : Type} : Lit × DataW H → Nat
  | (.string bytes, d) => bytes.length + uptoBulk d + 1
  | (_, d) => uptoBulk d + 1
 end
def uptoSmall : (H : Type) → List (DataW H) → Bool := fun _ ds => decide (uptoBulkAll ds ≤ 1048576)
def OpenSpec.upto (s : _root_.Go.ChangeSpec) : _root_.Go.OpenSpec := { _root_.Go.OpenSpec.ofChange s with cond := some uptoSmall }

/-- 'parishlaw21.ClientNil', WHERE WHAT IT READS IS OF BULK AT MOST 1048576: true; the input reads as it did. -/
def clientNilUptoRow : OpenClaim := { program := "ytjgloipgnnigmaagreatdoor", sum := "31470c20957066f59fda514f237dc8f8e8b08e909e1c85f8e9775861c2abed39", func := "parish/parishlaw21.ClientNil", spec := "clientNil", inPlace := ["internal/bytealg.IndexByteString", "internal/bytealg.IndexString", "math.Float64frombits", "slices.overlaps[parish/api.Write]"], unfollowed := true, recurses := true, named := ["unicode/utf8.first", "unicode/utf8.acceptRanges", "internal/bytealg.MaxLen"], apart := false, laid := [("unicode/utf8.acceptRanges", laid_unicode_utf8_acceptRanges), ("unicode/utf8.first", laid_unicode_utf8_first)], narrowed := true }
def ClientNilUptoSaid : Prop := clientNilUptoRow.holds Tryz.pinned (OpenSpec.upto clientNilSpec)

/-- 'parishlaw21.ClientFloor', WHERE WHAT IT READS IS OF BULK AT MOST 1048576: true; the input reads as it did. -/
def clientFloorUptoRow : OpenClaim := { program := "ytjgloipgnnigmaagreatdoor", sum := "31470c20957066f59fda514f237dc8f8e8b08e909e1c85f8e9775861c2abed39", func := "parish/parishlaw21.ClientFloor", spec := "clientFloor", inPlace := ["internal/bytealg.IndexByteString", "internal/bytealg.IndexString", "math.Float64frombits", "slices.overlaps[parish/api.Write]"], unfollowed := true, recurses := true, named := ["unicode/utf8.first", "unicode/utf8.acceptRanges", "internal/bytealg.MaxLen"], apart := false, laid := [("unicode/utf8.acceptRanges", laid_unicode_utf8_acceptRanges), ("unicode/utf8.first", laid_unicode_utf8_first)], narrowed := true }
def ClientFloorUptoSaid : Prop := clientFloorUptoRow.holds Tryz.pinned (OpenSpec.upto clientFloorSpec)

/-- 'parishlaw21.ClientOnce', WHERE WHAT IT READS IS OF BULK AT MOST 1048576: true; the input reads as it did. -/
def clientOnceUptoRow : OpenClaim := { program := "ytjgloipgnnigmaagreatdoor", sum := "31470c20957066f59fda514f237dc8f8e8b08e909e1c85f8e9775861c2abed39", func := "parish/parishlaw21.ClientOnce", spec := "clientOnce", inPlace := ["internal/bytealg.IndexByteString", "internal/bytealg.IndexString", "math.Float64frombits", "slices.overlaps[parish/api.Write]"], unfollowed := true, recurses := true, named := ["unicode/utf8.first", "unicode/utf8.acceptRanges", "internal/bytealg.MaxLen"], apart := false, laid := [("unicode/utf8.acceptRanges", laid_unicode_utf8_acceptRanges), ("unicode/utf8.first", laid_unicode_utf8_first)], narrowed := true }
def ClientOnceUptoSaid : Prop := clientOnceUptoRow.holds Tryz.pinned (OpenSpec.upto clientOnceSpec)

/-- 'parishlaw21.ClientRight', WHERE WHAT IT READS IS OF BULK AT MOST 1048576: true; the input reads as it did. -/
def clientRightUptoRow : OpenClaim := { program := "ytjgloipgnnigmaagreatdoor", sum := "31470c20957066f59fda514f237dc8f8e8b08e909e1c85f8e9775861c2abed39", func := "parish/parishlaw21.ClientRight", spec := "clientRight", inPlace := ["internal/bytealg.IndexByteString", "internal/bytealg.IndexString", "math.Float64frombits", "slices.overlaps[parish/api.Write]"], unfollowed := true, recurses := true, named := ["unicode/utf8.first", "unicode/utf8.acceptRanges", "internal/bytealg.MaxLen"], apart := false, laid := [("unicode/utf8.acceptRanges", laid_unicode_utf8_acceptRanges), ("unicode/utf8.first", laid_unicode_utf8_first)], narrowed := true }
def ClientRightUptoSaid : Prop := clientRightUptoRow.holds Tryz.pinned (OpenSpec.upto clientRightSpec)

/-- 'parishlaw21.ClientSends', WHERE WHAT IT READS IS OF BULK AT MOST 1048576: true; the input reads as it did. -/
def clientSendsUptoRow : OpenClaim := { program := "ytjgloipgnnigmaagreatdoor", sum := "31470c20957066f59fda514f237dc8f8e8b08e909e1c85f8e9775861c2abed39", func := "parish/parishlaw21.ClientSends", spec := "clientSends", inPlace := ["internal/bytealg.IndexByteString", "internal/bytealg.IndexString", "math.Float64frombits", "slices.overlaps[parish/api.Write]"], unfollowed := true, recurses := true, named := ["unicode/utf8.first", "unicode/utf8.acceptRanges", "internal/bytealg.MaxLen"], apart := false, laid := [("unicode/utf8.acceptRanges", laid_unicode_utf8_acceptRanges), ("unicode/utf8.first", laid_unicode_utf8_first)], narrowed := true }
def ClientSendsUptoSaid : Prop := clientSendsUptoRow.holds Tryz.pinned (OpenSpec.upto clientSendsSpec)

end Rows
end Go.Proofs.YtjgloipgnnigmaaGreatDoor
