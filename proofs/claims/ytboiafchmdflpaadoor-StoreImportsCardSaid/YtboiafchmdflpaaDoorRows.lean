/-
  NARROWER THAN 'FOR EVERY INPUT', by the rows' own cells (each row's printed sentence says how): StoreCollects: laid · StoreSees: laid · StoreScans: laid · CertifyVotes: laid · CertifySerial: laid · CertifyFresh: laid · StoreNil: laid · StoreImports: laid.
  DERIVED. THE GIVEN ROWS OF THIS SEAT. 8 by the template 'for every input the law returns true; each argument reads behind the call as it read before'; 0 by the template 'total and deterministic' (their statements: YtboiafchmdflpaaDoorTotals.lean).
  GIVEN WITH THE SEED: the statements are not yours to turn. If you find one false, say at which input.
  Laid BY PROGRAM, IN A SANDBOX (cutbox-rows.mjs): the forced cells as the released guide's own fill.sh prints them over the translation afbeb00ad3285250… (all of the seat's roots in one cut). By AI agents, Wed Nov 11 2026. No macro, syntax, notation, axiom, sorry.
-/
import Derived.Test.YtboiafchmdflpaaDoorChecked
import GoSem.PinnedTables
import GoSem.Claim
import GoSem.ClaimJoined
import GoSem.ClaimMapViews
import Derived.JoinedTies
import Derived.KernelRfl
namespace Go.Proofs.YtboiafchmdflpaaDoor
/- THE CELL 'sum', in the pinned program and in every row, IS THE sha256 OF THE DUMP (.gsa) THAT YtboiafchmdflpaaDoorProg.lean LOADS. Nothing in Lean hashes anything: it is a label: what it is worth is what the hold of that sum in a sandbox is worth. -/
noncomputable def Tryd.pinned : Pinned := { name := "ytboiafchmdflpaadoor", sum := "afbeb00ad3285250f359234824cdbe3c345875c420c9ecfdf6bfbf8c23796a57", checked := Tryd.checked }
namespace Rows
def none {H : Type} : Left H := { results := [], args := [] }

/- WHAT THE LISTED PACKAGE-LEVEL VARIABLES READ AS WHEN THE CALL BEGINS. Each datum BY PROGRAM (the guide's laid-datum.mjs) off the statement by which the dump's own 'gosem.cut.vars' lays the variable. In a bare row this is a premise. The card (YtboiafchmdflpaaDoorCards.lean) ties it to the program's text. -/
def laid_unicode_utf8_acceptRanges {H : Type} : DataW H := .agg [.agg [.lit (.int .u8 128), .lit (.int .u8 191)], .agg [.lit (.int .u8 160), .lit (.int .u8 191)], .agg [.lit (.int .u8 128), .lit (.int .u8 159)], .agg [.lit (.int .u8 144), .lit (.int .u8 191)], .agg [.lit (.int .u8 128), .lit (.int .u8 143)], .agg [.lit (.int .u8 0), .lit (.int .u8 0)], .agg [.lit (.int .u8 0), .lit (.int .u8 0)], .agg [.lit (.int .u8 0), .lit (.int .u8 0)], .agg [.lit (.int .u8 0), .lit (.int .u8 0)], .agg [.lit (.int .u8 0), .lit (.int .u8 0)], .agg [.lit (.int .u8 0), .lit (.int .u8 0)], .agg [.lit (.int .u8 0), .lit (.int .u8 0)], .agg [.lit (.int .u8 0), .lit (.int .u8 0)], .agg [.lit (.int .u8 0), .lit (.int .u8 0)], .agg [.lit (.int .u8 0), .lit (.int .u8 0)], .agg [.lit (.int .u8 0), .lit (.int .u8 0)]]
/-- One of Go's own tables, pinned by name: the form's constant. -/
def laid_unicode_utf8_first : DataW Unit := Go.Pinned.utf8First

/-- 'parishlaw14.StoreCollects': WHATEVER THE INPUT: true; the input reads as it did. -/
def storeCollectsSpec : ChangeSpec := { name := "storeCollects", fn := fun _ => fun
  | [d1, d2, d3] => { results := [.lit (.bool true)], args := [d1, d2, d3] }
  | _ => none }
def storeCollectsRow : OpenClaim := { program := "ytboiafchmdflpaadoor", sum := "afbeb00ad3285250f359234824cdbe3c345875c420c9ecfdf6bfbf8c23796a57", func := "parish/parishlaw14.StoreCollects", spec := "storeCollects", inPlace := ["internal/bytealg.IndexByteString", "internal/bytealg.IndexString", "math.Float64frombits", "slices.overlaps[parish/store.version]"], unfollowed := true, recurses := true, named := ["unicode/utf8.first", "unicode/utf8.acceptRanges", "internal/bytealg.MaxLen"], apart := false, laid := [("unicode/utf8.acceptRanges", laid_unicode_utf8_acceptRanges), ("unicode/utf8.first", laid_unicode_utf8_first)] }
def StoreCollectsSaid : Prop := storeCollectsRow.holds Tryd.pinned (OpenSpec.ofChange storeCollectsSpec)

/-- ITS FALSE NEIGHBOUR: 'it returns false'. Refute it at one input. -/
def storeCollectsWrong : ChangeSpec := { name := "storeCollects", fn := fun _ => fun
  | [d1, d2, d3] => { results := [.lit (.bool false)], args := [d1, d2, d3] }
  | _ => none }
def StoreCollectsWrongFalsely : Prop := storeCollectsRow.holds Tryd.pinned (OpenSpec.ofChange storeCollectsWrong)

/-- 'parishlaw14.StoreSees': WHATEVER THE INPUT: true; the input reads as it did. -/
def storeSeesSpec : ChangeSpec := { name := "storeSees", fn := fun _ => fun
  | [d1, d2, d3] => { results := [.lit (.bool true)], args := [d1, d2, d3] }
  | _ => none }
def storeSeesRow : OpenClaim := { program := "ytboiafchmdflpaadoor", sum := "afbeb00ad3285250f359234824cdbe3c345875c420c9ecfdf6bfbf8c23796a57", func := "parish/parishlaw14.StoreSees", spec := "storeSees", inPlace := ["internal/bytealg.IndexByteString", "internal/bytealg.IndexString", "math.Float64frombits", "slices.overlaps[parish/store.version]"], unfollowed := true, recurses := true, named := ["unicode/utf8.first", "unicode/utf8.acceptRanges", "internal/bytealg.MaxLen"], apart := false, laid := [("unicode/utf8.acceptRanges", laid_unicode_utf8_acceptRanges), ("unicode/utf8.first", laid_unicode_utf8_first)] }
def StoreSeesSaid : Prop := storeSeesRow.holds Tryd.pinned (OpenSpec.ofChange storeSeesSpec)

/-- ITS FALSE NEIGHBOUR: 'it returns false'. Refute it at one input. -/
def storeSeesWrong : ChangeSpec := { name := "storeSees", fn := fun _ => fun
  | [d1, d2, d3] => { results := [.lit (.bool false)], args := [d1, d2, d3] }
  | _ => none }
def StoreSeesWrongFalsely : Prop := storeSeesRow.holds Tryd.pinned (OpenSpec.ofChange storeSeesWrong)

/-- 'parishlaw14.StoreScans': WHATEVER THE INPUT: true; the input reads as it did. -/
def storeScansSpec : ChangeSpec := { name := "storeScans", fn := fun _ => fun
  | [d1, d2, d3] => { results := [.lit (.bool true)], args := [d1, d2, d3] }
  | _ => none }
def storeScansRow : OpenClaim := { program := "ytboiafchmdflpaadoor", sum := "afbeb00ad3285250f359234824cdbe3c345875c420c9ecfdf6bfbf8c23796a57", func := "parish/parishlaw14.StoreScans", spec := "storeScans", inPlace := ["internal/bytealg.IndexByteString", "internal/bytealg.IndexString", "math.Float64frombits", "slices.overlaps[parish/store.version]"], unfollowed := true, recurses := true, named := ["unicode/utf8.first", "unicode/utf8.acceptRanges", "internal/bytealg.MaxLen"], apart := false, laid := [("unicode/utf8.acceptRanges", laid_unicode_utf8_acceptRanges), ("unicode/utf8.first", laid_unicode_utf8_first)] }
def StoreScansSaid : Prop := storeScansRow.holds Tryd.pinned (OpenSpec.ofChange storeScansSpec)

/-- ITS FALSE NEIGHBOUR: 'it returns false'. Refute it at one input. -/
def storeScansWrong : ChangeSpec := { name := "storeScans", fn := fun _ => fun
  | [d1, d2, d3] => { results := [.lit (.bool false)], args := [d1, d2, d3] }
  | _ => none }
def StoreScansWrongFalsely : Prop := storeScansRow.holds Tryd.pinned (OpenSpec.ofChange storeScansWrong)

/-- 'parishlaw16.CertifyVotes': WHATEVER THE INPUT: true; the input reads as it did. -/
def certifyVotesSpec : ChangeSpec := { name := "certifyVotes", fn := fun _ => fun
  | [d1, d2] => { results := [.lit (.bool true)], args := [d1, d2] }
  | _ => none }
def certifyVotesRow : OpenClaim := { program := "ytboiafchmdflpaadoor", sum := "afbeb00ad3285250f359234824cdbe3c345875c420c9ecfdf6bfbf8c23796a57", func := "parish/parishlaw16.CertifyVotes", spec := "certifyVotes", inPlace := ["internal/bytealg.IndexByteString", "internal/bytealg.IndexString", "math.Float64frombits", "slices.overlaps[parish/store.version]"], unfollowed := true, recurses := true, named := ["unicode/utf8.first", "unicode/utf8.acceptRanges", "internal/bytealg.MaxLen"], apart := false, laid := [("unicode/utf8.acceptRanges", laid_unicode_utf8_acceptRanges), ("unicode/utf8.first", laid_unicode_utf8_first)] }
def CertifyVotesSaid : Prop := certifyVotesRow.holds Tryd.pinned (OpenSpec.ofChange certifyVotesSpec)

/-- ITS FALSE NEIGHBOUR: 'it returns false'. Refute it at one input. -/
def certifyVotesWrong : ChangeSpec := { name := "certifyVotes", fn := fun _ => fun
  | [d1, d2] => { results := [.lit (.bool false)], args := [d1, d2] }
  | _ => none }
def CertifyVotesWrongFalsely : Prop := certifyVotesRow.holds Tryd.pinned (OpenSpec.ofChange certifyVotesWrong)

/-- 'parishlaw16.CertifySerial': WHATEVER THE INPUT: true; the input reads as it did. -/
def certifySerialSpec : ChangeSpec := { name := "certifySerial", fn := fun _ => fun
  | [d1, d2, d3] => { results := [.lit (.bool true)], args := [d1, d2, d3] }
  | _ => none }
def certifySerialRow : OpenClaim := { program := "ytboiafchmdflpaadoor", sum := "afbeb00ad3285250f359234824cdbe3c345875c420c9ecfdf6bfbf8c23796a57", func := "parish/parishlaw16.CertifySerial", spec := "certifySerial", inPlace := ["internal/bytealg.IndexByteString", "internal/bytealg.IndexString", "math.Float64frombits", "slices.overlaps[parish/store.version]"], unfollowed := true, recurses := true, named := ["unicode/utf8.first", "unicode/utf8.acceptRanges", "internal/bytealg.MaxLen"], apart := false, laid := [("unicode/utf8.acceptRanges", laid_unicode_utf8_acceptRanges), ("unicode/utf8.first", laid_unicode_utf8_first)] }
def CertifySerialSaid : Prop := certifySerialRow.holds Tryd.pinned (OpenSpec.ofChange certifySerialSpec)

/-- ITS FALSE NEIGHBOUR: 'it returns false'. Refute it at one input. -/
def certifySerialWrong : ChangeSpec := { name := "certifySerial", fn := fun _ => fun
  | [d1, d2, d3] => { results := [.lit (.bool false)], args := [d1, d2, d3] }
  | _ => none }
def CertifySerialWrongFalsely : Prop := certifySerialRow.holds Tryd.pinned (OpenSpec.ofChange certifySerialWrong)

/-- 'parishlaw16.CertifyFresh': WHATEVER THE INPUT: true; the input reads as it did. -/
def certifyFreshSpec : ChangeSpec := { name := "certifyFresh", fn := fun _ => fun
  | [d1, d2, d3] => { results := [.lit (.bool true)], args := [d1, d2, d3] }
  | _ => none }
def certifyFreshRow : OpenClaim := { program := "ytboiafchmdflpaadoor", sum := "afbeb00ad3285250f359234824cdbe3c345875c420c9ecfdf6bfbf8c23796a57", func := "parish/parishlaw16.CertifyFresh", spec := "certifyFresh", inPlace := ["internal/bytealg.IndexByteString", "internal/bytealg.IndexString", "math.Float64frombits", "slices.overlaps[parish/store.version]"], unfollowed := true, recurses := true, named := ["unicode/utf8.first", "unicode/utf8.acceptRanges", "internal/bytealg.MaxLen"], apart := false, laid := [("unicode/utf8.acceptRanges", laid_unicode_utf8_acceptRanges), ("unicode/utf8.first", laid_unicode_utf8_first)] }
def CertifyFreshSaid : Prop := certifyFreshRow.holds Tryd.pinned (OpenSpec.ofChange certifyFreshSpec)

/-- ITS FALSE NEIGHBOUR: 'it returns false'. Refute it at one input. -/
def certifyFreshWrong : ChangeSpec := { name := "certifyFresh", fn := fun _ => fun
  | [d1, d2, d3] => { results := [.lit (.bool false)], args := [d1, d2, d3] }
  | _ => none }
def CertifyFreshWrongFalsely : Prop := certifyFreshRow.holds Tryd.pinned (OpenSpec.ofChange certifyFreshWrong)

/-- 'parishlaw14.StoreNil': WHATEVER THE INPUT: true; the input reads as it did. -/
def storeNilSpec : ChangeSpec := { name := "storeNil", fn := fun _ => fun
  | [d] => { results := [.lit (.bool true)], args := [d] }
  | _ => none }
def storeNilRow : OpenClaim := { program := "ytboiafchmdflpaadoor", sum := "afbeb00ad3285250f359234824cdbe3c345875c420c9ecfdf6bfbf8c23796a57", func := "parish/parishlaw14.StoreNil", spec := "storeNil", inPlace := ["internal/bytealg.IndexByteString", "internal/bytealg.IndexString", "math.Float64frombits", "slices.overlaps[parish/store.version]"], unfollowed := true, recurses := true, named := ["unicode/utf8.first", "unicode/utf8.acceptRanges", "internal/bytealg.MaxLen"], apart := false, laid := [("unicode/utf8.acceptRanges", laid_unicode_utf8_acceptRanges), ("unicode/utf8.first", laid_unicode_utf8_first)] }
def StoreNilSaid : Prop := storeNilRow.holds Tryd.pinned (OpenSpec.ofChange storeNilSpec)

/-- ITS FALSE NEIGHBOUR: 'it returns false'. Refute it at one input. -/
def storeNilWrong : ChangeSpec := { name := "storeNil", fn := fun _ => fun
  | [d] => { results := [.lit (.bool false)], args := [d] }
  | _ => none }
def StoreNilWrongFalsely : Prop := storeNilRow.holds Tryd.pinned (OpenSpec.ofChange storeNilWrong)

/-- 'parishlaw14.StoreImports': WHATEVER THE INPUT: true; the input reads as it did. -/
def storeImportsSpec : ChangeSpec := { name := "storeImports", fn := fun _ => fun
  | [d] => { results := [.lit (.bool true)], args := [d] }
  | _ => none }
def storeImportsRow : OpenClaim := { program := "ytboiafchmdflpaadoor", sum := "afbeb00ad3285250f359234824cdbe3c345875c420c9ecfdf6bfbf8c23796a57", func := "parish/parishlaw14.StoreImports", spec := "storeImports", inPlace := ["internal/bytealg.IndexByteString", "internal/bytealg.IndexString", "math.Float64frombits", "slices.overlaps[parish/store.version]"], unfollowed := true, recurses := true, named := ["unicode/utf8.first", "unicode/utf8.acceptRanges", "internal/bytealg.MaxLen"], apart := false, laid := [("unicode/utf8.acceptRanges", laid_unicode_utf8_acceptRanges), ("unicode/utf8.first", laid_unicode_utf8_first)] }
def StoreImportsSaid : Prop := storeImportsRow.holds Tryd.pinned (OpenSpec.ofChange storeImportsSpec)

/-- ITS FALSE NEIGHBOUR: 'it returns false'. Refute it at one input. -/
def storeImportsWrong : ChangeSpec := { name := "storeImports", fn := fun _ => fun
  | [d] => { results := [.lit (.bool false)], args := [d] }
  | _ => none }
def StoreImportsWrongFalsely : Prop := storeImportsRow.holds Tryd.pinned (OpenSpec.ofChange storeImportsWrong)

/- THE SECOND FORM. 'bulk': how many values and letters a reading holds, each counted each time it is reached (what is shared counts as often as it is met; a slice's spare places count too). A statement '..UptoSaid' is the law's where the arguments, and the package variables that the reading takes, are together of bulk at most 1048576: NARROWER than '..Said'. Prove '..Said' where nothing that the law and all that it calls make is longer than what came in: it says more and counts as full. Else prove '..UptoSaid'. A law counts once. -/
mutual
def uptoBulk {H : Type} : DataW H → Nat
  | .lit (.string bytes) => bytes.length + 1
  | .lit _ => 1
  | .nil => 1
  | .ptr d => uptoBulk d + 1
  | .slice elems spare => uptoBulkAll elems + uptoBulkAll spare + 1
  | .agg parts => uptoBulkAll parts + 1
  | .iface _ d => uptoBulk d + 1
  | .map entries => uptoBulkEntries entries + 1
  | .held _ => 1
def uptoBulkAll {H : Type} : List (DataW H) → Nat
  | [] => 0
  | d :: r => uptoBulk d + uptoBulkAll r
def uptoBulkEntries {H : Type} : List (Lit × DataW H) → Nat
  | [] => 0
  | x :: r => uptoBulkEntry x + uptoBulkEntries r
def uptoBulkEntry {H : Type} : Lit × DataW H → Nat
  | (.string bytes, d) => bytes.length + uptoBulk d + 1
  | (_, d) => uptoBulk d + 1
 end
def uptoSmall : (H : Type) → List (DataW H) → Bool := fun _ ds => decide (uptoBulkAll ds ≤ 1048576)
def OpenSpec.upto (s : _root_.Go.ChangeSpec) : _root_.Go.OpenSpec := { _root_.Go.OpenSpec.ofChange s with cond := some uptoSmall }

/-- 'parishlaw14.StoreCollects', WHERE WHAT IT READS IS OF BULK AT MOST 1048576: true; the input reads as it did. -/
def storeCollectsUptoRow : OpenClaim := { program := "ytboiafchmdflpaadoor", sum := "afbeb00ad3285250f359234824cdbe3c345875c420c9ecfdf6bfbf8c23796a57", func := "parish/parishlaw14.StoreCollects", spec := "storeCollects", inPlace := ["internal/bytealg.IndexByteString", "internal/bytealg.IndexString", "math.Float64frombits", "slices.overlaps[parish/store.version]"], unfollowed := true, recurses := true, named := ["unicode/utf8.first", "unicode/utf8.acceptRanges", "internal/bytealg.MaxLen"], apart := false, laid := [("unicode/utf8.acceptRanges", laid_unicode_utf8_acceptRanges), ("unicode/utf8.first", laid_unicode_utf8_first)], narrowed := true }
def StoreCollectsUptoSaid : Prop := storeCollectsUptoRow.holds Tryd.pinned (OpenSpec.upto storeCollectsSpec)

/-- 'parishlaw14.StoreSees', WHERE WHAT IT READS IS OF BULK AT MOST 1048576: true; the input reads as it did. -/
def storeSeesUptoRow : OpenClaim := { program := "ytboiafchmdflpaadoor", sum := "afbeb00ad3285250f359234824cdbe3c345875c420c9ecfdf6bfbf8c23796a57", func := "parish/parishlaw14.StoreSees", spec := "storeSees", inPlace := ["internal/bytealg.IndexByteString", "internal/bytealg.IndexString", "math.Float64frombits", "slices.overlaps[parish/store.version]"], unfollowed := true, recurses := true, named := ["unicode/utf8.first", "unicode/utf8.acceptRanges", "internal/bytealg.MaxLen"], apart := false, laid := [("unicode/utf8.acceptRanges", laid_unicode_utf8_acceptRanges), ("unicode/utf8.first", laid_unicode_utf8_first)], narrowed := true }
def StoreSeesUptoSaid : Prop := storeSeesUptoRow.holds Tryd.pinned (OpenSpec.upto storeSeesSpec)

/-- 'parishlaw14.StoreScans', WHERE WHAT IT READS IS OF BULK AT MOST 1048576: true; the input reads as it did. -/
def storeScansUptoRow : OpenClaim := { program := "ytboiafchmdflpaadoor", sum := "afbeb00ad3285250f359234824cdbe3c345875c420c9ecfdf6bfbf8c23796a57", func := "parish/parishlaw14.StoreScans", spec := "storeScans", inPlace := ["internal/bytealg.IndexByteString", "internal/bytealg.IndexString", "math.Float64frombits", "slices.overlaps[parish/store.version]"], unfollowed := true, recurses := true, named := ["unicode/utf8.first", "unicode/utf8.acceptRanges", "internal/bytealg.MaxLen"], apart := false, laid := [("unicode/utf8.acceptRanges", laid_unicode_utf8_acceptRanges), ("unicode/utf8.first", laid_unicode_utf8_first)], narrowed := true }
def StoreScansUptoSaid : Prop := storeScansUptoRow.holds Tryd.pinned (OpenSpec.upto storeScansSpec)

/-- 'parishlaw16.CertifyVotes', WHERE WHAT IT READS IS OF BULK AT MOST 1048576: true; the input reads as it did. -/
def certifyVotesUptoRow : OpenClaim := { program := "ytboiafchmdflpaadoor", sum := "afbeb00ad3285250f359234824cdbe3c345875c420c9ecfdf6bfbf8c23796a57", func := "parish/parishlaw16.CertifyVotes", spec := "certifyVotes", inPlace := ["internal/bytealg.IndexByteString", "internal/bytealg.IndexString", "math.Float64frombits", "slices.overlaps[parish/store.version]"], unfollowed := true, recurses := true, named := ["unicode/utf8.first", "unicode/utf8.acceptRanges", "internal/bytealg.MaxLen"], apart := false, laid := [("unicode/utf8.acceptRanges", laid_unicode_utf8_acceptRanges), ("unicode/utf8.first", laid_unicode_utf8_first)], narrowed := true }
def CertifyVotesUptoSaid : Prop := certifyVotesUptoRow.holds Tryd.pinned (OpenSpec.upto certifyVotesSpec)

/-- 'parishlaw16.CertifySerial', WHERE WHAT IT READS IS OF BULK AT MOST 1048576: true; the input reads as it did. -/
def certifySerialUptoRow : OpenClaim := { program := "ytboiafchmdflpaadoor", sum := "afbeb00ad3285250f359234824cdbe3c345875c420c9ecfdf6bfbf8c23796a57", func := "parish/parishlaw16.CertifySerial", spec := "certifySerial", inPlace := ["internal/bytealg.IndexByteString", "internal/bytealg.IndexString", "math.Float64frombits", "slices.overlaps[parish/store.version]"], unfollowed := true, recurses := true, named := ["unicode/utf8.first", "unicode/utf8.acceptRanges", "internal/bytealg.MaxLen"], apart := false, laid := [("unicode/utf8.acceptRanges", laid_unicode_utf8_acceptRanges), ("unicode/utf8.first", laid_unicode_utf8_first)], narrowed := true }
def CertifySerialUptoSaid : Prop := certifySerialUptoRow.holds Tryd.pinned (OpenSpec.upto certifySerialSpec)

/-- 'parishlaw16.CertifyFresh', WHERE WHAT IT READS IS OF BULK AT MOST 1048576: true; the input reads as it did. -/
def certifyFreshUptoRow : OpenClaim := { program := "ytboiafchmdflpaadoor", sum := "afbeb00ad3285250f359234824cdbe3c345875c420c9ecfdf6bfbf8c23796a57", func := "parish/parishlaw16.CertifyFresh", spec := "certifyFresh", inPlace := ["internal/bytealg.IndexByteString", "internal/bytealg.IndexString", "math.Float64frombits", "slices.overlaps[parish/store.version]"], unfollowed := true, recurses := true, named := ["unicode/utf8.first", "unicode/utf8.acceptRanges", "internal/bytealg.MaxLen"], apart := false, laid := [("unicode/utf8.acceptRanges", laid_unicode_utf8_acceptRanges), ("unicode/utf8.first", laid_unicode_utf8_first)], narrowed := true }
def CertifyFreshUptoSaid : Prop := certifyFreshUptoRow.holds Tryd.pinned (OpenSpec.upto certifyFreshSpec)

/-- 'parishlaw14.StoreNil', WHERE WHAT IT READS IS OF BULK AT MOST 1048576: true; the input reads as it did. -/
def storeNilUptoRow : OpenClaim := { program := "ytboiafchmdflpaadoor", sum := "afbeb00ad3285250f359234824cdbe3c345875c420c9ecfdf6bfbf8c23796a57", func := "parish/parishlaw14.StoreNil", spec := "storeNil", inPlace := ["internal/bytealg.IndexByteString", "internal/bytealg.IndexString", "math.Float64frombits", "slices.overlaps[parish/store.version]"], unfollowed := true, recurses := true, named := ["unicode/utf8.first", "unicode/utf8.acceptRanges", "internal/bytealg.MaxLen"], apart := false, laid := [("unicode/utf8.acceptRanges", laid_unicode_utf8_acceptRanges), ("unicode/utf8.first", laid_unicode_utf8_first)], narrowed := true }
def StoreNilUptoSaid : Prop := storeNilUptoRow.holds Tryd.pinned (OpenSpec.upto storeNilSpec)

/-- 'parishlaw14.StoreImports', WHERE WHAT IT READS IS OF BULK AT MOST 1048576: true; the input reads as it did. -/
def storeImportsUptoRow : OpenClaim := { program := "ytboiafchmdflpaadoor", sum := "afbeb00ad3285250f359234824cdbe3c345875c420c9ecfdf6bfbf8c23796a57", func := "parish/parishlaw14.StoreImports", spec := "storeImports", inPlace := ["internal/bytealg.IndexByteString", "internal/bytealg.IndexString", "math.Float64frombits", "slices.overlaps[parish/store.version]"], unfollowed := true, recurses := true, named := ["unicode/utf8.first", "unicode/utf8.acceptRanges", "internal/bytealg.MaxLen"], apart := false, laid := [("unicode/utf8.acceptRanges", laid_unicode_utf8_acceptRanges), ("unicode/utf8.first", laid_unicode_utf8_first)], narrowed := true }
def StoreImportsUptoSaid : Prop := storeImportsUptoRow.holds Tryd.pinned (OpenSpec.upto storeImportsSpec)

end Rows
end Go.Proofs.YtboiafchmdflpaaDoor
