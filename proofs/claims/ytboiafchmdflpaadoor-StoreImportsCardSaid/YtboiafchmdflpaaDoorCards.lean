/-
  DERIVED. GIVEN WITH THE SEED: THE CARDS: each row of YtboiafchmdflpaaDoorRows.lean that lists a variable, with what it lists TIED to the program's text (the seventh form; the later family's looks); each row that meets fmt, with fmt's text TOLD by the authors' own Lean function (tested against real Go, not proved from fmt's source: count such statements apart). THE CARD IS WHAT COUNTS. Prove the row's statement (the work); the ties are given (YtboiafchmdflpaaDoorTie.lean); close each card by the builder's one call (the guide's Derived/Test/ToyasCard.lean, 'card_holds'). Laid BY PROGRAM, IN A SANDBOX (cutbox-door.mjs). By AI agents, Wed Nov 11 2026. No macro, syntax, notation, axiom, sorry.
-/
import Derived.Test.YtboiafchmdflpaaDoorRows
import GoSem.ClaimSeven
namespace Go.Proofs.YtboiafchmdflpaaDoor
namespace Rows

/-- THE TIED CARD OF 'parishlaw14.StoreCollects'. -/
def storeCollectsCard : Claim7 := { stood := { row := storeCollectsRow, standIns := [], harness := (true, "5e74c75fc4eece1cf933c6819814aafbfb331cff658f5e9ec0921a53819f966b"), looks := false }, kinds := [], alts := [], laidByText := true, laidKinds := [.data, .pinned], laidTests := true, laidLooks := .later }
def StoreCollectsCardSaid : Prop := Claim7.holds Tryd.pinned (.plain (OpenSpec.ofChange storeCollectsSpec)) storeCollectsCard

/-- THE TIED CARD OF 'parishlaw14.StoreSees'. -/
def storeSeesCard : Claim7 := { stood := { row := storeSeesRow, standIns := [], harness := (true, "5e74c75fc4eece1cf933c6819814aafbfb331cff658f5e9ec0921a53819f966b"), looks := false }, kinds := [], alts := [], laidByText := true, laidKinds := [.data, .pinned], laidTests := true, laidLooks := .later }
def StoreSeesCardSaid : Prop := Claim7.holds Tryd.pinned (.plain (OpenSpec.ofChange storeSeesSpec)) storeSeesCard

/-- THE TIED CARD OF 'parishlaw14.StoreScans'. -/
def storeScansCard : Claim7 := { stood := { row := storeScansRow, standIns := [], harness := (true, "5e74c75fc4eece1cf933c6819814aafbfb331cff658f5e9ec0921a53819f966b"), looks := false }, kinds := [], alts := [], laidByText := true, laidKinds := [.data, .pinned], laidTests := true, laidLooks := .later }
def StoreScansCardSaid : Prop := Claim7.holds Tryd.pinned (.plain (OpenSpec.ofChange storeScansSpec)) storeScansCard

/-- THE TIED CARD OF 'parishlaw16.CertifyVotes'. -/
def certifyVotesCard : Claim7 := { stood := { row := certifyVotesRow, standIns := [], harness := (true, "5e74c75fc4eece1cf933c6819814aafbfb331cff658f5e9ec0921a53819f966b"), looks := false }, kinds := [], alts := [], laidByText := true, laidKinds := [.data, .pinned], laidTests := true, laidLooks := .later }
def CertifyVotesCardSaid : Prop := Claim7.holds Tryd.pinned (.plain (OpenSpec.ofChange certifyVotesSpec)) certifyVotesCard

/-- THE TIED CARD OF 'parishlaw16.CertifySerial'. -/
def certifySerialCard : Claim7 := { stood := { row := certifySerialRow, standIns := [], harness := (true, "5e74c75fc4eece1cf933c6819814aafbfb331cff658f5e9ec0921a53819f966b"), looks := false }, kinds := [], alts := [], laidByText := true, laidKinds := [.data, .pinned], laidTests := true, laidLooks := .later }
def CertifySerialCardSaid : Prop := Claim7.holds Tryd.pinned (.plain (OpenSpec.ofChange certifySerialSpec)) certifySerialCard

/-- THE TIED CARD OF 'parishlaw16.CertifyFresh'. -/
def certifyFreshCard : Claim7 := { stood := { row := certifyFreshRow, standIns := [], harness := (true, "5e74c75fc4eece1cf933c6819814aafbfb331cff658f5e9ec0921a53819f966b"), looks := false }, kinds := [], alts := [], laidByText := true, laidKinds := [.data, .pinned], laidTests := true, laidLooks := .later }
def CertifyFreshCardSaid : Prop := Claim7.holds Tryd.pinned (.plain (OpenSpec.ofChange certifyFreshSpec)) certifyFreshCard

/-- THE TIED CARD OF 'parishlaw14.StoreNil'. -/
def storeNilCard : Claim7 := { stood := { row := storeNilRow, standIns := [], harness := (true, "5e74c75fc4eece1cf933c6819814aafbfb331cff658f5e9ec0921a53819f966b"), looks := false }, kinds := [], alts := [], laidByText := true, laidKinds := [.data, .pinned], laidTests := true, laidLooks := .later }
def StoreNilCardSaid : Prop := Claim7.holds Tryd.pinned (.plain (OpenSpec.ofChange storeNilSpec)) storeNilCard

/-- THE TIED CARD OF 'parishlaw14.StoreImports'. -/
def storeImportsCard : Claim7 := { stood := { row := storeImportsRow, standIns := [], harness := (true, "5e74c75fc4eece1cf933c6819814aafbfb331cff658f5e9ec0921a53819f966b"), looks := false }, kinds := [], alts := [], laidByText := true, laidKinds := [.data, .pinned], laidTests := true, laidLooks := .later }
def StoreImportsCardSaid : Prop := Claim7.holds Tryd.pinned (.plain (OpenSpec.ofChange storeImportsSpec)) storeImportsCard

/-- THE SECOND FORM's CARD OF 'parishlaw14.StoreCollects'. -/
def storeCollectsUptoCard : Claim7 := { stood := { row := storeCollectsUptoRow, standIns := [], harness := (true, "5e74c75fc4eece1cf933c6819814aafbfb331cff658f5e9ec0921a53819f966b"), looks := false }, kinds := [], alts := [], laidByText := true, laidKinds := [.data, .pinned], laidTests := true, laidLooks := .later }
def StoreCollectsUptoCardSaid : Prop := Claim7.holds Tryd.pinned (.plain (OpenSpec.upto storeCollectsSpec)) storeCollectsUptoCard

/-- THE SECOND FORM's CARD OF 'parishlaw14.StoreSees'. -/
def storeSeesUptoCard : Claim7 := { stood := { row := storeSeesUptoRow, standIns := [], harness := (true, "5e74c75fc4eece1cf933c6819814aafbfb331cff658f5e9ec0921a53819f966b"), looks := false }, kinds := [], alts := [], laidByText := true, laidKinds := [.data, .pinned], laidTests := true, laidLooks := .later }
def StoreSeesUptoCardSaid : Prop := Claim7.holds Tryd.pinned (.plain (OpenSpec.upto storeSeesSpec)) storeSeesUptoCard

/-- THE SECOND FORM's CARD OF 'parishlaw14.StoreScans'. -/
def storeScansUptoCard : Claim7 := { stood := { row := storeScansUptoRow, standIns := [], harness := (true, "5e74c75fc4eece1cf933c6819814aafbfb331cff658f5e9ec0921a53819f966b"), looks := false }, kinds := [], alts := [], laidByText := true, laidKinds := [.data, .pinned], laidTests := true, laidLooks := .later }
def StoreScansUptoCardSaid : Prop := Claim7.holds Tryd.pinned (.plain (OpenSpec.upto storeScansSpec)) storeScansUptoCard

/-- THE SECOND FORM's CARD OF 'parishlaw16.CertifyVotes'. -/
def certifyVotesUptoCard : Claim7 := { stood := { row := certifyVotesUptoRow, standIns := [], harness := (true, "5e74c75fc4eece1cf933c6819814aafbfb331cff658f5e9ec0921a53819f966b"), looks := false }, kinds := [], alts := [], laidByText := true, laidKinds := [.data, .pinned], laidTests := true, laidLooks := .later }
def CertifyVotesUptoCardSaid : Prop := Claim7.holds Tryd.pinned (.plain (OpenSpec.upto certifyVotesSpec)) certifyVotesUptoCard

/-- THE SECOND FORM's CARD OF 'parishlaw16.CertifySerial'. -/
def certifySerialUptoCard : Claim7 := { stood := { row := certifySerialUptoRow, standIns := [], harness := (true, "5e74c75fc4eece1cf933c6819814aafbfb331cff658f5e9ec0921a53819f966b"), looks := false }, kinds := [], alts := [], laidByText := true, laidKinds := [.data, .pinned], laidTests := true, laidLooks := .later }
def CertifySerialUptoCardSaid : Prop := Claim7.holds Tryd.pinned (.plain (OpenSpec.upto certifySerialSpec)) certifySerialUptoCard

/-- THE SECOND FORM's CARD OF 'parishlaw16.CertifyFresh'. -/
def certifyFreshUptoCard : Claim7 := { stood := { row := certifyFreshUptoRow, standIns := [], harness := (true, "5e74c75fc4eece1cf933c6819814aafbfb331cff658f5e9ec0921a53819f966b"), looks := false }, kinds := [], alts := [], laidByText := true, laidKinds := [.data, .pinned], laidTests := true, laidLooks := .later }
def CertifyFreshUptoCardSaid : Prop := Claim7.holds Tryd.pinned (.plain (OpenSpec.upto certifyFreshSpec)) certifyFreshUptoCard

/-- THE SECOND FORM's CARD OF 'parishlaw14.StoreNil'. -/
def storeNilUptoCard : Claim7 := { stood := { row := storeNilUptoRow, standIns := [], harness := (true, "5e74c75fc4eece1cf933c6819814aafbfb331cff658f5e9ec0921a53819f966b"), looks := false }, kinds := [], alts := [], laidByText := true, laidKinds := [.data, .pinned], laidTests := true, laidLooks := .later }
def StoreNilUptoCardSaid : Prop := Claim7.holds Tryd.pinned (.plain (OpenSpec.upto storeNilSpec)) storeNilUptoCard

/-- THE SECOND FORM's CARD OF 'parishlaw14.StoreImports'. -/
def storeImportsUptoCard : Claim7 := { stood := { row := storeImportsUptoRow, standIns := [], harness := (true, "5e74c75fc4eece1cf933c6819814aafbfb331cff658f5e9ec0921a53819f966b"), looks := false }, kinds := [], alts := [], laidByText := true, laidKinds := [.data, .pinned], laidTests := true, laidLooks := .later }
def StoreImportsUptoCardSaid : Prop := Claim7.holds Tryd.pinned (.plain (OpenSpec.upto storeImportsSpec)) storeImportsUptoCard
end Rows
end Go.Proofs.YtboiafchmdflpaaDoor
