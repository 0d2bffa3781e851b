/-
  NARROWER THAN 'FOR EVERY INPUT', by the rows' own cells (each row's printed sentence says how): GroupOnce: laid · GroupAgree: laid · GroupSerial: laid · GroupSafe: laid · GroupAlone: laid · GroupBack: laid.
  DERIVED. THE GIVEN ROWS OF THIS SEAT. 6 by the template 'for every input the law returns true; each argument reads behind the call as it read before'; 0 by the template 'total and deterministic' (their statements: YtcldpmkhpmlcbaaGreatDoorTotals.lean).
  GIVEN WITH THE SEED: the statements are not yours to turn. If you find one false, say at which input.
  Laid BY PROGRAM, IN A SANDBOX (cutbox-rows.mjs): the forced cells as the released guide's own fill.sh prints them over the translation 9114b7288179ba5d… (all of the seat's roots in one cut). By AI agents, Wed Nov 11 2026. No macro, syntax, notation, axiom, sorry.
-/
import Derived.Test.YtcldpmkhpmlcbaaGreatDoorChecked
import GoSem.PinnedTables
import GoSem.Claim
import GoSem.ClaimJoined
import GoSem.ClaimMapViews
import Derived.JoinedTies
import Derived.KernelRfl
namespace Go.Proofs.YtcldpmkhpmlcbaaGreatDoor
/- THE CELL 'sum', in the pinned program and in every row, IS THE sha256 OF THE DUMP (.gsa) THAT YtcldpmkhpmlcbaaGreatDoorProg.lean LOADS. Nothing in Lean hashes anything: it is a label: what it is worth is what the hold of that sum in a sandbox is worth. -/
noncomputable def Tryz.pinned : Pinned := { name := "ytcldpmkhpmlcbaagreatdoor", sum := "9114b7288179ba5d1426eb506324672d01dd2274a74e246d167a4eb82b63ad24", checked := Tryz.checked }
namespace Rows
def none {H : Type} : Left H := { results := [], args := [] }

/- WHAT THE LISTED PACKAGE-LEVEL VARIABLES READ AS WHEN THE CALL BEGINS. Each datum BY PROGRAM (the guide's laid-datum.mjs) off the statement by which the dump's own 'gosem.cut.vars' lays the variable. In a bare row this is a premise. The card (YtcldpmkhpmlcbaaGreatDoorCards.lean) ties it to the program's text. -/
def laid_unicode_utf8_acceptRanges {H : Type} : DataW H := .agg [.agg [.lit (.int .u8 128), .lit (.int .u8 191)], .agg [.lit (.int .u8 160), .lit (.int .u8 191)], .agg [.lit (.int .u8 128), .lit (.int .u8 159)], .agg [.lit (.int .u8 144), .lit (.int .u8 191)], .agg [.lit (.int .u8 128), .lit (.int .u8 143)], .agg [.lit (.int .u8 0), .lit (.int .u8 0)], .agg [.lit (.int .u8 0), .lit (.int .u8 0)], .agg [.lit (.int .u8 0), .lit (.int .u8 0)], .agg [.lit (.int .u8 0), .lit (.int .u8 0)], .agg [.lit (.int .u8 0), .lit (.int .u8 0)], .agg [.lit (.int .u8 0), .lit (.int .u8 0)], .agg [.lit (.int .u8 0), .lit (.int .u8 0)], .agg [.lit (.int .u8 0), .lit (.int .u8 0)], .agg [.lit (.int .u8 0), .lit (.int .u8 0)], .agg [.lit (.int .u8 0), .lit (.int .u8 0)], .agg [.lit (.int .u8 0), .lit (.int .u8 0)]]
/-- One of Go's own tables, pinned by name: the form's constant. -/
def laid_unicode_utf8_first : DataW Unit := Go.Pinned.utf8First

/-- 'parishlaw17.GroupOnce': WHATEVER THE INPUT: true; the input reads as it did. -/
def groupOnceSpec : ChangeSpec := { name := "groupOnce", fn := fun _ => fun
  | [d1, d2, d3] => { results := [.lit (.bool true)], args := [d1, d2, d3] }
  | _ => none }
def groupOnceRow : OpenClaim := { program := "ytcldpmkhpmlcbaagreatdoor", sum := "9114b7288179ba5d1426eb506324672d01dd2274a74e246d167a4eb82b63ad24", func := "parish/parishlaw17.GroupOnce", spec := "groupOnce", inPlace := ["internal/bytealg.IndexByteString", "internal/bytealg.IndexString", "math.Float64frombits", "slices.overlaps[parish/store.version]"], unfollowed := true, recurses := true, named := ["unicode/utf8.first", "unicode/utf8.acceptRanges", "internal/bytealg.MaxLen"], plainKeys := false, apart := false, laid := [("unicode/utf8.acceptRanges", laid_unicode_utf8_acceptRanges), ("unicode/utf8.first", laid_unicode_utf8_first)] }
def GroupOnceSaid : Prop := groupOnceRow.holds Tryz.pinned (OpenSpec.ofChange groupOnceSpec)

/-- ITS FALSE NEIGHBOUR: 'it returns false'. Refute it at one input. -/
def groupOnceWrong : ChangeSpec := { name := "groupOnce", fn := fun _ => fun
  | [d1, d2, d3] => { results := [.lit (.bool false)], args := [d1, d2, d3] }
  | _ => none }
def GroupOnceWrongFalsely : Prop := groupOnceRow.holds Tryz.pinned (OpenSpec.ofChange groupOnceWrong)

/-- 'parishlaw17.GroupAgree': WHATEVER THE INPUT: true; the input reads as it did. -/
def groupAgreeSpec : ChangeSpec := { name := "groupAgree", fn := fun _ => fun
  | [d1, d2, d3] => { results := [.lit (.bool true)], args := [d1, d2, d3] }
  | _ => none }
def groupAgreeRow : OpenClaim := { program := "ytcldpmkhpmlcbaagreatdoor", sum := "9114b7288179ba5d1426eb506324672d01dd2274a74e246d167a4eb82b63ad24", func := "parish/parishlaw17.GroupAgree", spec := "groupAgree", inPlace := ["internal/bytealg.IndexByteString", "internal/bytealg.IndexString", "math.Float64frombits", "slices.overlaps[parish/store.version]"], unfollowed := true, recurses := true, named := ["unicode/utf8.first", "unicode/utf8.acceptRanges", "internal/bytealg.MaxLen"], plainKeys := false, apart := false, laid := [("unicode/utf8.acceptRanges", laid_unicode_utf8_acceptRanges), ("unicode/utf8.first", laid_unicode_utf8_first)] }
def GroupAgreeSaid : Prop := groupAgreeRow.holds Tryz.pinned (OpenSpec.ofChange groupAgreeSpec)

/-- ITS FALSE NEIGHBOUR: 'it returns false'. Refute it at one input. -/
def groupAgreeWrong : ChangeSpec := { name := "groupAgree", fn := fun _ => fun
  | [d1, d2, d3] => { results := [.lit (.bool false)], args := [d1, d2, d3] }
  | _ => none }
def GroupAgreeWrongFalsely : Prop := groupAgreeRow.holds Tryz.pinned (OpenSpec.ofChange groupAgreeWrong)

/-- 'parishlaw17.GroupSerial': WHATEVER THE INPUT: true; the input reads as it did. -/
def groupSerialSpec : ChangeSpec := { name := "groupSerial", fn := fun _ => fun
  | [d1, d2, d3] => { results := [.lit (.bool true)], args := [d1, d2, d3] }
  | _ => none }
def groupSerialRow : OpenClaim := { program := "ytcldpmkhpmlcbaagreatdoor", sum := "9114b7288179ba5d1426eb506324672d01dd2274a74e246d167a4eb82b63ad24", func := "parish/parishlaw17.GroupSerial", spec := "groupSerial", inPlace := ["internal/bytealg.IndexByteString", "internal/bytealg.IndexString", "math.Float64frombits", "slices.overlaps[parish/store.version]"], unfollowed := true, recurses := true, named := ["unicode/utf8.first", "unicode/utf8.acceptRanges", "internal/bytealg.MaxLen"], plainKeys := false, apart := false, laid := [("unicode/utf8.acceptRanges", laid_unicode_utf8_acceptRanges), ("unicode/utf8.first", laid_unicode_utf8_first)] }
def GroupSerialSaid : Prop := groupSerialRow.holds Tryz.pinned (OpenSpec.ofChange groupSerialSpec)

/-- ITS FALSE NEIGHBOUR: 'it returns false'. Refute it at one input. -/
def groupSerialWrong : ChangeSpec := { name := "groupSerial", fn := fun _ => fun
  | [d1, d2, d3] => { results := [.lit (.bool false)], args := [d1, d2, d3] }
  | _ => none }
def GroupSerialWrongFalsely : Prop := groupSerialRow.holds Tryz.pinned (OpenSpec.ofChange groupSerialWrong)

/-- 'parishlaw17.GroupSafe': WHATEVER THE INPUT: true; the input reads as it did. -/
def groupSafeSpec : ChangeSpec := { name := "groupSafe", fn := fun _ => fun
  | [d1, d2, d3] => { results := [.lit (.bool true)], args := [d1, d2, d3] }
  | _ => none }
def groupSafeRow : OpenClaim := { program := "ytcldpmkhpmlcbaagreatdoor", sum := "9114b7288179ba5d1426eb506324672d01dd2274a74e246d167a4eb82b63ad24", func := "parish/parishlaw17.GroupSafe", spec := "groupSafe", inPlace := ["internal/bytealg.IndexByteString", "internal/bytealg.IndexString", "math.Float64frombits", "slices.overlaps[parish/store.version]"], unfollowed := true, recurses := true, named := ["unicode/utf8.first", "unicode/utf8.acceptRanges", "internal/bytealg.MaxLen"], plainKeys := false, apart := false, laid := [("unicode/utf8.acceptRanges", laid_unicode_utf8_acceptRanges), ("unicode/utf8.first", laid_unicode_utf8_first)] }
def GroupSafeSaid : Prop := groupSafeRow.holds Tryz.pinned (OpenSpec.ofChange groupSafeSpec)

/-- ITS FALSE NEIGHBOUR: 'it returns false'. Refute it at one input. -/
def groupSafeWrong : ChangeSpec := { name := "groupSafe", fn := fun _ => fun
  | [d1, d2, d3] => { results := [.lit (.bool false)], args := [d1, d2, d3] }
  | _ => none }
def GroupSafeWrongFalsely : Prop := groupSafeRow.holds Tryz.pinned (OpenSpec.ofChange groupSafeWrong)

/-- 'parishlaw17.GroupAlone': WHATEVER THE INPUT: true; the input reads as it did. -/
def groupAloneSpec : ChangeSpec := { name := "groupAlone", fn := fun _ => fun
  | [d] => { results := [.lit (.bool true)], args := [d] }
  | _ => none }
def groupAloneRow : OpenClaim := { program := "ytcldpmkhpmlcbaagreatdoor", sum := "9114b7288179ba5d1426eb506324672d01dd2274a74e246d167a4eb82b63ad24", func := "parish/parishlaw17.GroupAlone", spec := "groupAlone", inPlace := ["internal/bytealg.IndexByteString", "internal/bytealg.IndexString", "math.Float64frombits", "slices.overlaps[parish/store.version]"], unfollowed := true, recurses := true, named := ["unicode/utf8.first", "unicode/utf8.acceptRanges", "internal/bytealg.MaxLen"], plainKeys := false, apart := false, laid := [("unicode/utf8.acceptRanges", laid_unicode_utf8_acceptRanges), ("unicode/utf8.first", laid_unicode_utf8_first)] }
def GroupAloneSaid : Prop := groupAloneRow.holds Tryz.pinned (OpenSpec.ofChange groupAloneSpec)

/-- ITS FALSE NEIGHBOUR: 'it returns false'. Refute it at one input. -/
def groupAloneWrong : ChangeSpec := { name := "groupAlone", fn := fun _ => fun
  | [d] => { results := [.lit (.bool false)], args := [d] }
  | _ => none }
def GroupAloneWrongFalsely : Prop := groupAloneRow.holds Tryz.pinned (OpenSpec.ofChange groupAloneWrong)

/-- 'parishlaw17.GroupBack': WHATEVER THE INPUT: true; the input reads as it did. -/
def groupBackSpec : ChangeSpec := { name := "groupBack", fn := fun _ => fun
  | [d1, d2, d3] => { results := [.lit (.bool true)], args := [d1, d2, d3] }
  | _ => none }
def groupBackRow : OpenClaim := { program := "ytcldpmkhpmlcbaagreatdoor", sum := "9114b7288179ba5d1426eb506324672d01dd2274a74e246d167a4eb82b63ad24", func := "parish/parishlaw17.GroupBack", spec := "groupBack", inPlace := ["internal/bytealg.IndexByteString", "internal/bytealg.IndexString", "math.Float64frombits", "slices.overlaps[parish/store.version]"], unfollowed := true, recurses := true, named := ["unicode/utf8.first", "unicode/utf8.acceptRanges", "internal/bytealg.MaxLen"], plainKeys := false, apart := false, laid := [("unicode/utf8.acceptRanges", laid_unicode_utf8_acceptRanges), ("unicode/utf8.first", laid_unicode_utf8_first)] }
def GroupBackSaid : Prop := groupBackRow.holds Tryz.pinned (OpenSpec.ofChange groupBackSpec)

/-- ITS FALSE NEIGHBOUR: 'it returns false'. Refute it at one input. -/
def groupBackWrong : ChangeSpec := { name := "groupBack", fn := fun _ => fun
  | [d1, d2, d3] => { results := [.lit (.bool false)], args := [d1, d2, d3] }
  | _ => none }
def GroupBackWrongFalsely : Prop := groupBackRow.holds Tryz.pinned (OpenSpec.ofChange groupBackWrong)

/- THE SECOND FORM. 'bulk': how many values and letters a reading holds, each counted each time it is reached (what is shared counts as often as it is met; a slice's spare places count too). A statement '..UptoSaid' is the law's where the arguments, and the package variables that the reading takes, are together of bulk at most 1048576: NARROWER than '..Said'. Prove '..Said' where nothing that the law and all that it calls make is longer than what came in: it says more and counts as full. Else prove '..UptoSaid'. A law counts once. -/
mutual
def uptoBulk {H : Type} : DataW H → Nat
  | .lit (.string bytes) => bytes.length + 1
  | .lit _ => 1
  | .nil => 1
  | .ptr d => uptoBulk d + 1
  | .slice elems spare => uptoBulkAll elems + uptoBulkAll spare + 1
  | .agg parts => uptoBulkAll parts + 1
  | .iface _ d => uptoBulk d + 1
  | .map entries => uptoBulkEntries entries + 1
  | .held _ => 1
def uptoBulkAll {H : Type} : List (DataW H) → Nat
  | [] => 0
  | d :: r => uptoBulk d + uptoBulkAll r
def uptoBulkEntries {H : Type} : List (Lit × DataW H) → Nat
  | [] => 0
  | x :: r => uptoBulkEntry x + uptoBulkEntries r
def uptoBulkEntry {H : Type} : Lit × DataW H → Nat
  | (.string bytes, d) => bytes.length + uptoBulk d + 1
  | (_, d) => uptoBulk d + 1
 end
def uptoSmall : (H : Type) → List (DataW H) → Bool := fun _ ds => decide (uptoBulkAll ds ≤ 1048576)
def OpenSpec.upto (s : _root_.Go.ChangeSpec) : _root_.Go.OpenSpec := { _root_.Go.OpenSpec.ofChange s with cond := some uptoSmall }

/-- 'parishlaw17.GroupOnce', WHERE WHAT IT READS IS OF BULK AT MOST 1048576: true; the input reads as it did. -/
def groupOnceUptoRow : OpenClaim := { program := "ytcldpmkhpmlcbaagreatdoor", sum := "9114b7288179ba5d1426eb506324672d01dd2274a74e246d167a4eb82b63ad24", func := "parish/parishlaw17.GroupOnce", spec := "groupOnce", inPlace := ["internal/bytealg.IndexByteString", "internal/bytealg.IndexString", "math.Float64frombits", "slices.overlaps[parish/store.version]"], unfollowed := true, recurses := true, named := ["unicode/utf8.first", "unicode/utf8.acceptRanges", "internal/bytealg.MaxLen"], plainKeys := false, apart := false, laid := [("unicode/utf8.acceptRanges", laid_unicode_utf8_acceptRanges), ("unicode/utf8.first", laid_unicode_utf8_first)], narrowed := true }
def GroupOnceUptoSaid : Prop := groupOnceUptoRow.holds Tryz.pinned (OpenSpec.upto groupOnceSpec)

/-- 'parishlaw17.GroupAgree', WHERE WHAT IT READS IS OF BULK AT MOST 1048576: true; the input reads as it did. -/
def groupAgreeUptoRow : OpenClaim := { program := "ytcldpmkhpmlcbaagreatdoor", sum := "9114b7288179ba5d1426eb506324672d01dd2274a74e246d167a4eb82b63ad24", func := "parish/parishlaw17.GroupAgree", spec := "groupAgree", inPlace := ["internal/bytealg.IndexByteString", "internal/bytealg.IndexString", "math.Float64frombits", "slices.overlaps[parish/store.version]"], unfollowed := true, recurses := true, named := ["unicode/utf8.first", "unicode/utf8.acceptRanges", "internal/bytealg.MaxLen"], plainKeys := false, apart := false, laid := [("unicode/utf8.acceptRanges", laid_unicode_utf8_acceptRanges), ("unicode/utf8.first", laid_unicode_utf8_first)], narrowed := true }
def GroupAgreeUptoSaid : Prop := groupAgreeUptoRow.holds Tryz.pinned (OpenSpec.upto groupAgreeSpec)

/-- 'parishlaw17.GroupSerial', WHERE WHAT IT READS IS OF BULK AT MOST 1048576: true; the input reads as it did. -/
def groupSerialUptoRow : OpenClaim := { program := "ytcldpmkhpmlcbaagreatdoor", sum := "9114b7288179ba5d1426eb506324672d01dd2274a74e246d167a4eb82b63ad24", func := "parish/parishlaw17.GroupSerial", spec := "groupSerial", inPlace := ["internal/bytealg.IndexByteString", "internal/bytealg.IndexString", "math.Float64frombits", "slices.overlaps[parish/store.version]"], unfollowed := true, recurses := true, named := ["unicode/utf8.first", "unicode/utf8.acceptRanges", "internal/bytealg.MaxLen"], plainKeys := false, apart := false, laid := [("unicode/utf8.acceptRanges", laid_unicode_utf8_acceptRanges), ("unicode/utf8.first", laid_unicode_utf8_first)], narrowed := true }
def GroupSerialUptoSaid : Prop := groupSerialUptoRow.holds Tryz.pinned (OpenSpec.upto groupSerialSpec)

/-- 'parishlaw17.GroupSafe', WHERE WHAT IT READS IS OF BULK AT MOST 1048576: true; the input reads as it did. -/
def groupSafeUptoRow : OpenClaim := { program := "ytcldpmkhpmlcbaagreatdoor", sum := "9114b7288179ba5d1426eb506324672d01dd2274a74e246d167a4eb82b63ad24", func := "parish/parishlaw17.GroupSafe", spec := "groupSafe", inPlace := ["internal/bytealg.IndexByteString", "internal/bytealg.IndexString", "math.Float64frombits", "slices.overlaps[parish/store.version]"], unfollowed := true, recurses := true, named := ["unicode/utf8.first", "unicode/utf8.acceptRanges", "internal/bytealg.MaxLen"], plainKeys := false, apart := false, laid := [("unicode/utf8.acceptRanges", laid_unicode_utf8_acceptRanges), ("unicode/utf8.first", laid_unicode_utf8_first)], narrowed := true }
def GroupSafeUptoSaid : Prop := groupSafeUptoRow.holds Tryz.pinned (OpenSpec.upto groupSafeSpec)

/-- 'parishlaw17.GroupAlone', WHERE WHAT IT READS IS OF BULK AT MOST 1048576: true; the input reads as it did. -/
def groupAloneUptoRow : OpenClaim := { program := "ytcldpmkhpmlcbaagreatdoor", sum := "9114b7288179ba5d1426eb506324672d01dd2274a74e246d167a4eb82b63ad24", func := "parish/parishlaw17.GroupAlone", spec := "groupAlone", inPlace := ["internal/bytealg.IndexByteString", "internal/bytealg.IndexString", "math.Float64frombits", "slices.overlaps[parish/store.version]"], unfollowed := true, recurses := true, named := ["unicode/utf8.first", "unicode/utf8.acceptRanges", "internal/bytealg.MaxLen"], plainKeys := false, apart := false, laid := [("unicode/utf8.acceptRanges", laid_unicode_utf8_acceptRanges), ("unicode/utf8.first", laid_unicode_utf8_first)], narrowed := true }
def GroupAloneUptoSaid : Prop := groupAloneUptoRow.holds Tryz.pinned (OpenSpec.upto groupAloneSpec)

/-- 'parishlaw17.GroupBack', WHERE WHAT IT READS IS OF BULK AT MOST 1048576: true; the input reads as it did. -/
def groupBackUptoRow : OpenClaim := { program := "ytcldpmkhpmlcbaagreatdoor", sum := "9114b7288179ba5d1426eb506324672d01dd2274a74e246d167a4eb82b63ad24", func := "parish/parishlaw17.GroupBack", spec := "groupBack", inPlace := ["internal/bytealg.IndexByteString", "internal/bytealg.IndexString", "math.Float64frombits", "slices.overlaps[parish/store.version]"], unfollowed := true, recurses := true, named := ["unicode/utf8.first", "unicode/utf8.acceptRanges", "internal/bytealg.MaxLen"], plainKeys := false, apart := false, laid := [("unicode/utf8.acceptRanges", laid_unicode_utf8_acceptRanges), ("unicode/utf8.first", laid_unicode_utf8_first)], narrowed := true }
def GroupBackUptoSaid : Prop := groupBackUptoRow.holds Tryz.pinned (OpenSpec.upto groupBackSpec)

end Rows
end Go.Proofs.YtcldpmkhpmlcbaaGreatDoor
