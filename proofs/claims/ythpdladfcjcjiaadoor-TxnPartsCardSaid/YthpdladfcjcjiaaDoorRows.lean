/-
  NARROWER THAN 'FOR EVERY INPUT', by the rows' own cells (each row's printed sentence says how): ConfigPlaces: laid · ConfigBack: laid · ConfigRises: laid · TxnForms: laid · TxnBack: laid · TxnBytes: laid · ConfigKeys: laid · ConfigGroups: laid · TxnCuts: laid · TxnParts: laid.
  DERIVED. THE GIVEN ROWS OF THIS SEAT. 10 by the template 'for every input the law returns true; each argument reads behind the call as it read before'; 0 by the template 'total and deterministic' (their statements: YthpdladfcjcjiaaDoorTotals.lean).
  GIVEN WITH THE SEED: the statements are not yours to turn. If you find one false, say at which input.
  Laid BY PROGRAM, IN A SANDBOX (cutbox-rows.mjs): the forced cells as the released guide's own fill.sh prints them over the translation f5f533e71dc7cd25… (all of the seat's roots in one cut). By AI agents, Wed Nov 11 2026. No macro, syntax, notation, axiom, sorry.
-/
import Derived.Test.YthpdladfcjcjiaaDoorChecked
import GoSem.PinnedTables
import GoSem.Claim
import GoSem.ClaimJoined
import GoSem.ClaimMapViews
import Derived.JoinedTies
import Derived.KernelRfl
namespace Go.Proofs.YthpdladfcjcjiaaDoor
/- THE CELL 'sum', in the pinned program and in every row, IS THE sha256 OF THE DUMP (.gsa) THAT YthpdladfcjcjiaaDoorProg.lean LOADS. Nothing in Lean hashes anything: it is a label: what it is worth is what the hold of that sum in a sandbox is worth. -/
noncomputable def Tryd.pinned : Pinned := { name := "ythpdladfcjcjiaadoor", sum := "f5f533e71dc7cd25b90f5bf03166bebbb44abf7aab42f09a294f159656f9b07e", checked := Tryd.checked }
namespace Rows
def none {H : Type} : Left H := { results := [], args := [] }

/- WHAT THE LISTED PACKAGE-LEVEL VARIABLES READ AS WHEN THE CALL BEGINS. Each datum BY PROGRAM (the guide's laid-datum.mjs) off the statement by which the dump's own 'gosem.cut.vars' lays the variable. In a bare row this is a premise. The card (YthpdladfcjcjiaaDoorCards.lean) ties it to the program's text. -/
def laid_unicode_utf8_acceptRanges {H : Type} : DataW H := .agg [.agg [.lit (.int .u8 128), .lit (.int .u8 191)], .agg [.lit (.int .u8 160), .lit (.int .u8 191)], .agg [.lit (.int .u8 128), .lit (.int .u8 159)], .agg [.lit (.int .u8 144), .lit (.int .u8 191)], .agg [.lit (.int .u8 128), .lit (.int .u8 143)], .agg [.lit (.int .u8 0), .lit (.int .u8 0)], .agg [.lit (.int .u8 0), .lit (.int .u8 0)], .agg [.lit (.int .u8 0), .lit (.int .u8 0)], .agg [.lit (.int .u8 0), .lit (.int .u8 0)], .agg [.lit (.int .u8 0), .lit (.int .u8 0)], .agg [.lit (.int .u8 0), .lit (.int .u8 0)], .agg [.lit (.int .u8 0), .lit (.int .u8 0)], .agg [.lit (.int .u8 0), .lit (.int .u8 0)], .agg [.lit (.int .u8 0), .lit (.int .u8 0)], .agg [.lit (.int .u8 0), .lit (.int .u8 0)], .agg [.lit (.int .u8 0), .lit (.int .u8 0)]]
/-- One of Go's own tables, pinned by name: the form's constant. -/
def laid_unicode_utf8_first : DataW Unit := Go.Pinned.utf8First

/-- 'parishlaw07.ConfigPlaces': WHATEVER THE INPUT: true; the input reads as it did. -/
def configPlacesSpec : ChangeSpec := { name := "configPlaces", fn := fun _ => fun
  | [d1, d2, d3] => { results := [.lit (.bool true)], args := [d1, d2, d3] }
  | _ => none }
def configPlacesRow : OpenClaim := { program := "ythpdladfcjcjiaadoor", sum := "f5f533e71dc7cd25b90f5bf03166bebbb44abf7aab42f09a294f159656f9b07e", func := "parish/parishlaw07.ConfigPlaces", spec := "configPlaces", inPlace := ["internal/bytealg.IndexByteString", "internal/bytealg.IndexString"], named := ["unicode/utf8.first", "unicode/utf8.acceptRanges", "internal/bytealg.MaxLen"], apart := false, laid := [("unicode/utf8.acceptRanges", laid_unicode_utf8_acceptRanges), ("unicode/utf8.first", laid_unicode_utf8_first)] }
def ConfigPlacesSaid : Prop := configPlacesRow.holds Tryd.pinned (OpenSpec.ofChange configPlacesSpec)

/-- ITS FALSE NEIGHBOUR: 'it returns false'. Refute it at one input. -/
def configPlacesWrong : ChangeSpec := { name := "configPlaces", fn := fun _ => fun
  | [d1, d2, d3] => { results := [.lit (.bool false)], args := [d1, d2, d3] }
  | _ => none }
def ConfigPlacesWrongFalsely : Prop := configPlacesRow.holds Tryd.pinned (OpenSpec.ofChange configPlacesWrong)

/-- 'parishlaw07.ConfigBack': WHATEVER THE INPUT: true; the input reads as it did. -/
def configBackSpec : ChangeSpec := { name := "configBack", fn := fun _ => fun
  | [d1, d2] => { results := [.lit (.bool true)], args := [d1, d2] }
  | _ => none }
def configBackRow : OpenClaim := { program := "ythpdladfcjcjiaadoor", sum := "f5f533e71dc7cd25b90f5bf03166bebbb44abf7aab42f09a294f159656f9b07e", func := "parish/parishlaw07.ConfigBack", spec := "configBack", inPlace := ["internal/bytealg.IndexByteString", "internal/bytealg.IndexString"], named := ["unicode/utf8.first", "unicode/utf8.acceptRanges", "internal/bytealg.MaxLen"], apart := false, laid := [("unicode/utf8.acceptRanges", laid_unicode_utf8_acceptRanges), ("unicode/utf8.first", laid_unicode_utf8_first)] }
def ConfigBackSaid : Prop := configBackRow.holds Tryd.pinned (OpenSpec.ofChange configBackSpec)

/-- ITS FALSE NEIGHBOUR: 'it returns false'. Refute it at one input. -/
def configBackWrong : ChangeSpec := { name := "configBack", fn := fun _ => fun
  | [d1, d2] => { results := [.lit (.bool false)], args := [d1, d2] }
  | _ => none }
def ConfigBackWrongFalsely : Prop := configBackRow.holds Tryd.pinned (OpenSpec.ofChange configBackWrong)

/-- 'parishlaw07.ConfigRises': WHATEVER THE INPUT: true; the input reads as it did. -/
def configRisesSpec : ChangeSpec := { name := "configRises", fn := fun _ => fun
  | [d1, d2, d3] => { results := [.lit (.bool true)], args := [d1, d2, d3] }
  | _ => none }
def configRisesRow : OpenClaim := { program := "ythpdladfcjcjiaadoor", sum := "f5f533e71dc7cd25b90f5bf03166bebbb44abf7aab42f09a294f159656f9b07e", func := "parish/parishlaw07.ConfigRises", spec := "configRises", inPlace := ["internal/bytealg.IndexByteString", "internal/bytealg.IndexString"], named := ["unicode/utf8.first", "unicode/utf8.acceptRanges", "internal/bytealg.MaxLen"], apart := false, laid := [("unicode/utf8.acceptRanges", laid_unicode_utf8_acceptRanges), ("unicode/utf8.first", laid_unicode_utf8_first)] }
def ConfigRisesSaid : Prop := configRisesRow.holds Tryd.pinned (OpenSpec.ofChange configRisesSpec)

/-- ITS FALSE NEIGHBOUR: 'it returns false'. Refute it at one input. -/
def configRisesWrong : ChangeSpec := { name := "configRises", fn := fun _ => fun
  | [d1, d2, d3] => { results := [.lit (.bool false)], args := [d1, d2, d3] }
  | _ => none }
def ConfigRisesWrongFalsely : Prop := configRisesRow.holds Tryd.pinned (OpenSpec.ofChange configRisesWrong)

/-- 'parishlaw08.TxnForms': WHATEVER THE INPUT: true; the input reads as it did. -/
def txnFormsSpec : ChangeSpec := { name := "txnForms", fn := fun _ => fun
  | [d1, d2] => { results := [.lit (.bool true)], args := [d1, d2] }
  | _ => none }
def txnFormsRow : OpenClaim := { program := "ythpdladfcjcjiaadoor", sum := "f5f533e71dc7cd25b90f5bf03166bebbb44abf7aab42f09a294f159656f9b07e", func := "parish/parishlaw08.TxnForms", spec := "txnForms", inPlace := ["internal/bytealg.IndexByteString", "internal/bytealg.IndexString", "math.Float64frombits"], unfollowed := true, recurses := true, named := ["unicode/utf8.first", "unicode/utf8.acceptRanges", "internal/bytealg.MaxLen"], apart := false, laid := [("unicode/utf8.acceptRanges", laid_unicode_utf8_acceptRanges), ("unicode/utf8.first", laid_unicode_utf8_first)] }
def TxnFormsSaid : Prop := txnFormsRow.holds Tryd.pinned (OpenSpec.ofChange txnFormsSpec)

/-- ITS FALSE NEIGHBOUR: 'it returns false'. Refute it at one input. -/
def txnFormsWrong : ChangeSpec := { name := "txnForms", fn := fun _ => fun
  | [d1, d2] => { results := [.lit (.bool false)], args := [d1, d2] }
  | _ => none }
def TxnFormsWrongFalsely : Prop := txnFormsRow.holds Tryd.pinned (OpenSpec.ofChange txnFormsWrong)

/-- 'parishlaw08.TxnBack': WHATEVER THE INPUT: true; the input reads as it did. -/
def txnBackSpec : ChangeSpec := { name := "txnBack", fn := fun _ => fun
  | [d1, d2] => { results := [.lit (.bool true)], args := [d1, d2] }
  | _ => none }
def txnBackRow : OpenClaim := { program := "ythpdladfcjcjiaadoor", sum := "f5f533e71dc7cd25b90f5bf03166bebbb44abf7aab42f09a294f159656f9b07e", func := "parish/parishlaw08.TxnBack", spec := "txnBack", inPlace := ["internal/bytealg.IndexByteString", "internal/bytealg.IndexString", "math.Float64frombits"], unfollowed := true, recurses := true, named := ["unicode/utf8.first", "unicode/utf8.acceptRanges", "internal/bytealg.MaxLen"], apart := false, laid := [("unicode/utf8.acceptRanges", laid_unicode_utf8_acceptRanges), ("unicode/utf8.first", laid_unicode_utf8_first)] }
def TxnBackSaid : Prop := txnBackRow.holds Tryd.pinned (OpenSpec.ofChange txnBackSpec)

/-- ITS FALSE NEIGHBOUR: 'it returns false'. Refute it at one input. -/
def txnBackWrong : ChangeSpec := { name := "txnBack", fn := fun _ => fun
  | [d1, d2] => { results := [.lit (.bool false)], args := [d1, d2] }
  | _ => none }
def TxnBackWrongFalsely : Prop := txnBackRow.holds Tryd.pinned (OpenSpec.ofChange txnBackWrong)

/-- 'parishlaw08.TxnBytes': WHATEVER THE INPUT: true; the input reads as it did. -/
def txnBytesSpec : ChangeSpec := { name := "txnBytes", fn := fun _ => fun
  | [d1, d2] => { results := [.lit (.bool true)], args := [d1, d2] }
  | _ => none }
def txnBytesRow : OpenClaim := { program := "ythpdladfcjcjiaadoor", sum := "f5f533e71dc7cd25b90f5bf03166bebbb44abf7aab42f09a294f159656f9b07e", func := "parish/parishlaw08.TxnBytes", spec := "txnBytes", inPlace := ["math.Float64frombits", "internal/bytealg.IndexByteString", "internal/bytealg.IndexString"], unfollowed := true, recurses := true, named := ["unicode/utf8.first", "unicode/utf8.acceptRanges", "internal/bytealg.MaxLen"], apart := false, laid := [("unicode/utf8.acceptRanges", laid_unicode_utf8_acceptRanges), ("unicode/utf8.first", laid_unicode_utf8_first)] }
def TxnBytesSaid : Prop := txnBytesRow.holds Tryd.pinned (OpenSpec.ofChange txnBytesSpec)

/-- ITS FALSE NEIGHBOUR: 'it returns false'. Refute it at one input. -/
def txnBytesWrong : ChangeSpec := { name := "txnBytes", fn := fun _ => fun
  | [d1, d2] => { results := [.lit (.bool false)], args := [d1, d2] }
  | _ => none }
def TxnBytesWrongFalsely : Prop := txnBytesRow.holds Tryd.pinned (OpenSpec.ofChange txnBytesWrong)

/-- 'parishlaw07.ConfigKeys': WHATEVER THE INPUT: true; the input reads as it did. -/
def configKeysSpec : ChangeSpec := { name := "configKeys", fn := fun _ => fun
  | [d1, d2] => { results := [.lit (.bool true)], args := [d1, d2] }
  | _ => none }
def configKeysRow : OpenClaim := { program := "ythpdladfcjcjiaadoor", sum := "f5f533e71dc7cd25b90f5bf03166bebbb44abf7aab42f09a294f159656f9b07e", func := "parish/parishlaw07.ConfigKeys", spec := "configKeys", inPlace := ["internal/bytealg.IndexByteString", "internal/bytealg.IndexString"], recurses := true, named := ["unicode/utf8.first", "unicode/utf8.acceptRanges", "internal/bytealg.MaxLen"], apart := false, laid := [("unicode/utf8.acceptRanges", laid_unicode_utf8_acceptRanges), ("unicode/utf8.first", laid_unicode_utf8_first)] }
def ConfigKeysSaid : Prop := configKeysRow.holds Tryd.pinned (OpenSpec.ofChange configKeysSpec)

/-- ITS FALSE NEIGHBOUR: 'it returns false'. Refute it at one input. -/
def configKeysWrong : ChangeSpec := { name := "configKeys", fn := fun _ => fun
  | [d1, d2] => { results := [.lit (.bool false)], args := [d1, d2] }
  | _ => none }
def ConfigKeysWrongFalsely : Prop := configKeysRow.holds Tryd.pinned (OpenSpec.ofChange configKeysWrong)

/-- 'parishlaw07.ConfigGroups': WHATEVER THE INPUT: true; the input reads as it did. -/
def configGroupsSpec : ChangeSpec := { name := "configGroups", fn := fun _ => fun
  | [d1, d2, d3] => { results := [.lit (.bool true)], args := [d1, d2, d3] }
  | _ => none }
def configGroupsRow : OpenClaim := { program := "ythpdladfcjcjiaadoor", sum := "f5f533e71dc7cd25b90f5bf03166bebbb44abf7aab42f09a294f159656f9b07e", func := "parish/parishlaw07.ConfigGroups", spec := "configGroups", inPlace := ["internal/bytealg.IndexByteString", "internal/bytealg.IndexString"], recurses := true, named := ["unicode/utf8.first", "unicode/utf8.acceptRanges", "internal/bytealg.MaxLen"], apart := false, laid := [("unicode/utf8.acceptRanges", laid_unicode_utf8_acceptRanges), ("unicode/utf8.first", laid_unicode_utf8_first)] }
def ConfigGroupsSaid : Prop := configGroupsRow.holds Tryd.pinned (OpenSpec.ofChange configGroupsSpec)

/-- ITS FALSE NEIGHBOUR: 'it returns false'. Refute it at one input. -/
def configGroupsWrong : ChangeSpec := { name := "configGroups", fn := fun _ => fun
  | [d1, d2, d3] => { results := [.lit (.bool false)], args := [d1, d2, d3] }
  | _ => none }
def ConfigGroupsWrongFalsely : Prop := configGroupsRow.holds Tryd.pinned (OpenSpec.ofChange configGroupsWrong)

/-- 'parishlaw08.TxnCuts': WHATEVER THE INPUT: true; the input reads as it did. -/
def txnCutsSpec : ChangeSpec := { name := "txnCuts", fn := fun _ => fun
  | [d1, d2, d3] => { results := [.lit (.bool true)], args := [d1, d2, d3] }
  | _ => none }
def txnCutsRow : OpenClaim := { program := "ythpdladfcjcjiaadoor", sum := "f5f533e71dc7cd25b90f5bf03166bebbb44abf7aab42f09a294f159656f9b07e", func := "parish/parishlaw08.TxnCuts", spec := "txnCuts", inPlace := ["internal/bytealg.IndexByteString", "internal/bytealg.IndexString", "math.Float64frombits"], unfollowed := true, recurses := true, named := ["unicode/utf8.first", "unicode/utf8.acceptRanges", "internal/bytealg.MaxLen"], apart := false, laid := [("unicode/utf8.acceptRanges", laid_unicode_utf8_acceptRanges), ("unicode/utf8.first", laid_unicode_utf8_first)] }
def TxnCutsSaid : Prop := txnCutsRow.holds Tryd.pinned (OpenSpec.ofChange txnCutsSpec)

/-- ITS FALSE NEIGHBOUR: 'it returns false'. Refute it at one input. -/
def txnCutsWrong : ChangeSpec := { name := "txnCuts", fn := fun _ => fun
  | [d1, d2, d3] => { results := [.lit (.bool false)], args := [d1, d2, d3] }
  | _ => none }
def TxnCutsWrongFalsely : Prop := txnCutsRow.holds Tryd.pinned (OpenSpec.ofChange txnCutsWrong)

/-- 'parishlaw08.TxnParts': WHATEVER THE INPUT: true; the input reads as it did. -/
def txnPartsSpec : ChangeSpec := { name := "txnParts", fn := fun _ => fun
  | [d1, d2] => { results := [.lit (.bool true)], args := [d1, d2] }
  | _ => none }
def txnPartsRow : OpenClaim := { program := "ythpdladfcjcjiaadoor", sum := "f5f533e71dc7cd25b90f5bf03166bebbb44abf7aab42f09a294f159656f9b07e", func := "parish/parishlaw08.TxnParts", spec := "txnParts", inPlace := ["internal/bytealg.IndexByteString", "internal/bytealg.IndexString", "math.Float64frombits"], unfollowed := true, recurses := true, named := ["unicode/utf8.first", "unicode/utf8.acceptRanges", "internal/bytealg.MaxLen"], apart := false, laid := [("unicode/utf8.acceptRanges", laid_unicode_utf8_acceptRanges), ("unicode/utf8.first", laid_unicode_utf8_first)] }
def TxnPartsSaid : Prop := txnPartsRow.holds Tryd.pinned (OpenSpec.ofChange txnPartsSpec)

/-- ITS FALSE NEIGHBOUR: 'it returns false'. Refute it at one input. -/
def txnPartsWrong : ChangeSpec := { name := "txnParts", fn := fun _ => fun
  | [d1, d2] => { results := [.lit (.bool false)], args := [d1, d2] }
  | _ => none }
def TxnPartsWrongFalsely : Prop := txnPartsRow.holds Tryd.pinned (OpenSpec.ofChange txnPartsWrong)

/- THE SECOND FORM. 'bulk': how many values and letters a reading holds, each counted each time it is reached (what is shared counts as often as it is met; a slice's spare places count too). A statement '..UptoSaid' is the law's where the arguments, and the package variables that the reading takes, are together of bulk at most 1048576: NARROWER than '..Said'. Prove '..Said' where nothing that the law and all that it calls make is longer than what came in: it says more and counts as full. Else prove '..UptoSaid'. A law counts once. -/
mutual
def uptoBulk {H : Type} : DataW H → Nat
  | .lit (.string bytes) => bytes.length + 1
  | .lit _ => 1
  | .nil => 1
  | .ptr d => uptoBulk d + 1
  | .slice elems spare => uptoBulkAll elems + uptoBulkAll spare + 1
  | .agg parts => uptoBulkAll parts + 1
  | .iface _ d => uptoBulk d + 1
  | .map entries => uptoBulkEntries entries + 1
  | .held _ => 1
def uptoBulkAll {H : Type} : List (DataW H) → Nat
  | [] => 0
  | d :: r => uptoBulk d + uptoBulkAll r
def uptoBulkEntries {H : Type} : List (Lit × DataW H) → Nat
  | [] => 0
  | x :: r => uptoBulkEntry x + uptoBulkEntries r
def uptoBulkEntry {H : Type} : Lit × DataW H → Nat
  | (.string bytes, d) => bytes.length + uptoBulk d + 1
  | (_, d) => uptoBulk d + 1
 end
def uptoSmall : (H : Type) → List (DataW H) → Bool := fun _ ds => decide (uptoBulkAll ds ≤ 1048576)
def OpenSpec.upto (s : _root_.Go.ChangeSpec) : _root_.Go.OpenSpec := { _root_.Go.OpenSpec.ofChange s with cond := some uptoSmall }

/-- 'parishlaw07.ConfigPlaces', WHERE WHAT IT READS IS OF BULK AT MOST 1048576: true; the input reads as it did. -/
def configPlacesUptoRow : OpenClaim := { program := "ythpdladfcjcjiaadoor", sum := "f5f533e71dc7cd25b90f5bf03166bebbb44abf7aab42f09a294f159656f9b07e", func := "parish/parishlaw07.ConfigPlaces", spec := "configPlaces", inPlace := ["internal/bytealg.IndexByteString", "internal/bytealg.IndexString"], named := ["unicode/utf8.first", "unicode/utf8.acceptRanges", "internal/bytealg.MaxLen"], apart := false, laid := [("unicode/utf8.acceptRanges", laid_unicode_utf8_acceptRanges), ("unicode/utf8.first", laid_unicode_utf8_first)], narrowed := true }
def ConfigPlacesUptoSaid : Prop := configPlacesUptoRow.holds Tryd.pinned (OpenSpec.upto configPlacesSpec)

/-- 'parishlaw07.ConfigBack', WHERE WHAT IT READS IS OF BULK AT MOST 1048576: true; the input reads as it did. -/
def configBackUptoRow : OpenClaim := { program := "ythpdladfcjcjiaadoor", sum := "f5f533e71dc7cd25b90f5bf03166bebbb44abf7aab42f09a294f159656f9b07e", func := "parish/parishlaw07.ConfigBack", spec := "configBack", inPlace := ["internal/bytealg.IndexByteString", "internal/bytealg.IndexString"], named := ["unicode/utf8.first", "unicode/utf8.acceptRanges", "internal/bytealg.MaxLen"], apart := false, laid := [("unicode/utf8.acceptRanges", laid_unicode_utf8_acceptRanges), ("unicode/utf8.first", laid_unicode_utf8_first)], narrowed := true }
def ConfigBackUptoSaid : Prop := configBackUptoRow.holds Tryd.pinned (OpenSpec.upto configBackSpec)

/-- 'parishlaw07.ConfigRises', WHERE WHAT IT READS IS OF BULK AT MOST 1048576: true; the input reads as it did. -/
def configRisesUptoRow : OpenClaim := { program := "ythpdladfcjcjiaadoor", sum := "f5f533e71dc7cd25b90f5bf03166bebbb44abf7aab42f09a294f159656f9b07e", func := "parish/parishlaw07.ConfigRises", spec := "configRises", inPlace := ["internal/bytealg.IndexByteString", "internal/bytealg.IndexString"], named := ["unicode/utf8.first", "unicode/utf8.acceptRanges", "internal/bytealg.MaxLen"], apart := false, laid := [("unicode/utf8.acceptRanges", laid_unicode_utf8_acceptRanges), ("unicode/utf8.first", laid_unicode_utf8_first)], narrowed := true }
def ConfigRisesUptoSaid : Prop := configRisesUptoRow.holds Tryd.pinned (OpenSpec.upto configRisesSpec)

/-- 'parishlaw08.TxnForms', WHERE WHAT IT READS IS OF BULK AT MOST 1048576: true; the input reads as it did. -/
def txnFormsUptoRow : OpenClaim := { program := "ythpdladfcjcjiaadoor", sum := "f5f533e71dc7cd25b90f5bf03166bebbb44abf7aab42f09a294f159656f9b07e", func := "parish/parishlaw08.TxnForms", spec := "txnForms", inPlace := ["internal/bytealg.IndexByteString", "internal/bytealg.IndexString", "math.Float64frombits"], unfollowed := true, recurses := true, named := ["unicode/utf8.first", "unicode/utf8.acceptRanges", "internal/bytealg.MaxLen"], apart := false, laid := [("unicode/utf8.acceptRanges", laid_unicode_utf8_acceptRanges), ("unicode/utf8.first", laid_unicode_utf8_first)], narrowed := true }
def TxnFormsUptoSaid : Prop := txnFormsUptoRow.holds Tryd.pinned (OpenSpec.upto txnFormsSpec)

/-- 'parishlaw08.TxnBack', WHERE WHAT IT READS IS OF BULK AT MOST 1048576: true; the input reads as it did. -/
def txnBackUptoRow : OpenClaim := { program := "ythpdladfcjcjiaadoor", sum := "f5f533e71dc7cd25b90f5bf03166bebbb44abf7aab42f09a294f159656f9b07e", func := "parish/parishlaw08.TxnBack", spec := "txnBack", inPlace := ["internal/bytealg.IndexByteString", "internal/bytealg.IndexString", "math.Float64frombits"], unfollowed := true, recurses := true, named := ["unicode/utf8.first", "unicode/utf8.acceptRanges", "internal/bytealg.MaxLen"], apart := false, laid := [("unicode/utf8.acceptRanges", laid_unicode_utf8_acceptRanges), ("unicode/utf8.first", laid_unicode_utf8_first)], narrowed := true }
def TxnBackUptoSaid : Prop := txnBackUptoRow.holds Tryd.pinned (OpenSpec.upto txnBackSpec)

/-- 'parishlaw08.TxnBytes', WHERE WHAT IT READS IS OF BULK AT MOST 1048576: true; the input reads as it did. -/
def txnBytesUptoRow : OpenClaim := { program := "ythpdladfcjcjiaadoor", sum := "f5f533e71dc7cd25b90f5bf03166bebbb44abf7aab42f09a294f159656f9b07e", func := "parish/parishlaw08.TxnBytes", spec := "txnBytes", inPlace := ["math.Float64frombits", "internal/bytealg.IndexByteString", "internal/bytealg.IndexString"], unfollowed := true, recurses := true, named := ["unicode/utf8.first", "unicode/utf8.acceptRanges", "internal/bytealg.MaxLen"], apart := false, laid := [("unicode/utf8.acceptRanges", laid_unicode_utf8_acceptRanges), ("unicode/utf8.first", laid_unicode_utf8_first)], narrowed := true }
def TxnBytesUptoSaid : Prop := txnBytesUptoRow.holds Tryd.pinned (OpenSpec.upto txnBytesSpec)

/-- 'parishlaw07.ConfigKeys', WHERE WHAT IT READS IS OF BULK AT MOST 1048576: true; the input reads as it did. -/
def configKeysUptoRow : OpenClaim := { program := "ythpdladfcjcjiaadoor", sum := "f5f533e71dc7cd25b90f5bf03166bebbb44abf7aab42f09a294f159656f9b07e", func := "parish/parishlaw07.ConfigKeys", spec := "configKeys", inPlace := ["internal/bytealg.IndexByteString", "internal/bytealg.IndexString"], recurses := true, named := ["unicode/utf8.first", "unicode/utf8.acceptRanges", "internal/bytealg.MaxLen"], apart := false, laid := [("unicode/utf8.acceptRanges", laid_unicode_utf8_acceptRanges), ("unicode/utf8.first", laid_unicode_utf8_first)], narrowed := true }
def ConfigKeysUptoSaid : Prop := configKeysUptoRow.holds Tryd.pinned (OpenSpec.upto configKeysSpec)

/-- 'parishlaw07.ConfigGroups', WHERE WHAT IT READS IS OF BULK AT MOST 1048576: true; the input reads as it did. -/
def configGroupsUptoRow : OpenClaim := { program := "ythpdladfcjcjiaadoor", sum := "f5f533e71dc7cd25b90f5bf03166bebbb44abf7aab42f09a294f159656f9b07e", func := "parish/parishlaw07.ConfigGroups", spec := "configGroups", inPlace := ["internal/bytealg.IndexByteString", "internal/bytealg.IndexString"], recurses := true, named := ["unicode/utf8.first", "unicode/utf8.acceptRanges", "internal/bytealg.MaxLen"], apart := false, laid := [("unicode/utf8.acceptRanges", laid_unicode_utf8_acceptRanges), ("unicode/utf8.first", laid_unicode_utf8_first)], narrowed := true }
def ConfigGroupsUptoSaid : Prop := configGroupsUptoRow.holds Tryd.pinned (OpenSpec.upto configGroupsSpec)

/-- 'parishlaw08.TxnCuts', WHERE WHAT IT READS IS OF BULK AT MOST 1048576: true; the input reads as it did. -/
def txnCutsUptoRow : OpenClaim := { program := "ythpdladfcjcjiaadoor", sum := "f5f533e71dc7cd25b90f5bf03166bebbb44abf7aab42f09a294f159656f9b07e", func := "parish/parishlaw08.TxnCuts", spec := "txnCuts", inPlace := ["internal/bytealg.IndexByteString", "internal/bytealg.IndexString", "math.Float64frombits"], unfollowed := true, recurses := true, named := ["unicode/utf8.first", "unicode/utf8.acceptRanges", "internal/bytealg.MaxLen"], apart := false, laid := [("unicode/utf8.acceptRanges", laid_unicode_utf8_acceptRanges), ("unicode/utf8.first", laid_unicode_utf8_first)], narrowed := true }
def TxnCutsUptoSaid : Prop := txnCutsUptoRow.holds Tryd.pinned (OpenSpec.upto txnCutsSpec)

/-- 'parishlaw08.TxnParts', WHERE WHAT IT READS IS OF BULK AT MOST 1048576: true; the input reads as it did. -/
def txnPartsUptoRow : OpenClaim := { program := "ythpdladfcjcjiaadoor", sum := "f5f533e71dc7cd25b90f5bf03166bebbb44abf7aab42f09a294f159656f9b07e", func := "parish/parishlaw08.TxnParts", spec := "txnParts", inPlace := ["internal/bytealg.IndexByteString", "internal/bytealg.IndexString", "math.Float64frombits"], unfollowed := true, recurses := true, named := ["unicode/utf8.first", "unicode/utf8.acceptRanges", "internal/bytealg.MaxLen"], apart := false, laid := [("unicode/utf8.acceptRanges", laid_unicode_utf8_acceptRanges), ("unicode/utf8.first", laid_unicode_utf8_first)], narrowed := true }
def TxnPartsUptoSaid : Prop := txnPartsUptoRow.holds Tryd.pinned (OpenSpec.upto txnPartsSpec)

end Rows
end Go.Proofs.YthpdladfcjcjiaaDoor
