/-
  DERIVED. GIVEN WITH THE SEED: THE CARDS: each row of YtjgloipgnnigmaaGreatDoorRows.lean that lists a variable, with what it lists TIED to the program's text (the seventh form; the later family's looks); each row that meets fmt, with fmt's text TOLD by the authors' own Lean function (tested against real Go, not proved from fmt's source: count such statements apart). THE CARD IS WHAT COUNTS. Prove the row's statement (the work); the ties are given (YtjgloipgnnigmaaGreatDoorTie.lean); close each card by the builder's one call (the guide's Derived/Test/ToyasCard.lean, 'card_holds'). Laid BY PROGRAM, IN A SANDBOX (cutbox-door.mjs). By AI agents, Wed Nov 11 2026. No macro, syntax, notation, axiom, sorry.
-/
import Derived.Test.YtjgloipgnnigmaaGreatDoorRows
import GoSem.ClaimSeven
namespace Go.Proofs.YtjgloipgnnigmaaGreatDoor
namespace Rows

/-- THE TIED CARD OF 'parishlaw21.ClientNil'. -/
def clientNilCard : Claim7 := { stood := { row := clientNilRow, standIns := [], harness := (true, "a721e601f95239e5ef83909fecd4669b8f7baddcaaad5f63c2f020a296e27321"), looks := false }, kinds := [], alts := [], laidByText := true, laidKinds := [.data, .pinned], laidTests := true, laidLooks := .later }
def ClientNilCardSaid : Prop := Claim7.holds Tryz.pinned (.plain (OpenSpec.ofChange clientNilSpec)) clientNilCard

/-- THE TIED CARD OF 'parishlaw21.ClientFloor'. -/
def clientFloorCard : Claim7 := { stood := { row := clientFloorRow, standIns := [], harness := (true, "a721e601f95239e5ef83909fecd4669b8f7baddcaaad5f63c2f020a296e27321"), looks := false }, kinds := [], alts := [], laidByText := true, laidKinds := [.data, .pinned], laidTests := true, laidLooks := .later }
def ClientFloorCardSaid : Prop := Claim7.holds Tryz.pinned (.plain (OpenSpec.ofChange clientFloorSpec)) clientFloorCard

/-- THE TIED CARD OF 'parishlaw21.ClientOnce'. -/
def clientOnceCard : Claim7 := { stood := { row := clientOnceRow, standIns := [], harness := (true, "a721e601f95239e5ef83909fecd4669b8f7baddcaaad5f63c2f020a296e27321"), looks := false }, kinds := [], alts := [], laidByText := true, laidKinds := [.data, .pinned], laidTests := true, laidLooks := .later }
def ClientOnceCardSaid : Prop := Claim7.holds Tryz.pinned (.plain (OpenSpec.ofChange clientOnceSpec)) clientOnceCard

/-- THE TIED CARD OF 'parishlaw21.ClientRight'. -/
def clientRightCard : Claim7 := { stood := { row := clientRightRow, standIns := [], harness := (true, "a721e601f95239e5ef83909fecd4669b8f7baddcaaad5f63c2f020a296e27321"), looks := false }, kinds := [], alts := [], laidByText := true, laidKinds := [.data, .pinned], laidTests := true, laidLooks := .later }
def ClientRightCardSaid : Prop := Claim7.holds Tryz.pinned (.plain (OpenSpec.ofChange clientRightSpec)) clientRightCard

/-- THE TIED CARD OF 'parishlaw21.ClientSends'. -/
def clientSendsCard : Claim7 := { stood := { row := clientSendsRow, standIns := [], harness := (true, "a721e601f95239e5ef83909fecd4669b8f7baddcaaad5f63c2f020a296e27321"), looks := false }, kinds := [], alts := [], laidByText := true, laidKinds := [.data, .pinned], laidTests := true, laidLooks := .later }
def ClientSendsCardSaid : Prop := Claim7.holds Tryz.pinned (.plain (OpenSpec.ofChange clientSendsSpec)) clientSendsCard

/-- THE SECOND FORM's CARD OF 'parishlaw21.ClientNil'. -/
def clientNilUptoCard : Claim7 := { stood := { row := clientNilUptoRow, standIns := [], harness := (true, "a721e601f95239e5ef83909fecd4669b8f7baddcaaad5f63c2f020a296e27321"), looks := false }, kinds := [], alts := [], laidByText := true, laidKinds := [.data, .pinned], laidTests := true, laidLooks := .later }
def ClientNilUptoCardSaid : Prop := Claim7.holds Tryz.pinned (.plain (OpenSpec.upto clientNilSpec)) clientNilUptoCard

/-- THE SECOND FORM's CARD OF 'parishlaw21.ClientFloor'. -/
def clientFloorUptoCard : Claim7 := { stood := { row := clientFloorUptoRow, standIns := [], harness := (true, "a721e601f95239e5ef83909fecd4669b8f7baddcaaad5f63c2f020a296e27321"), looks := false }, kinds := [], alts := [], laidByText := true, laidKinds := [.data, .pinned], laidTests := true, laidLooks := .later }
def ClientFloorUptoCardSaid : Prop := Claim7.holds Tryz.pinned (.plain (OpenSpec.upto clientFloorSpec)) clientFloorUptoCard

/-- THE SECOND FORM's CARD OF 'parishlaw21.ClientOnce'. -/
def clientOnceUptoCard : Claim7 := { stood := { row := clientOnceUptoRow, standIns := [], harness := (true, "a721e601f95239e5ef83909fecd4669b8f7baddcaaad5f63c2f020a296e27321"), looks := false }, kinds := [], alts := [], laidByText := true, laidKinds := [.data, .pinned], laidTests := true, laidLooks := .later }
def ClientOnceUptoCardSaid : Prop := Claim7.holds Tryz.pinned (.plain (OpenSpec.upto clientOnceSpec)) clientOnceUptoCard

/-- THE SECOND FORM's CARD OF 'parishlaw21.ClientRight'. -/
def clientRightUptoCard : Claim7 := { stood := { row := clientRightUptoRow, standIns := [], harness := (true, "a721e601f95239e5ef83909fecd4669b8f7baddcaaad5f63c2f020a296e27321"), looks := false }, kinds := [], alts := [], laidByText := true, laidKinds := [.data, .pinned], laidTests := true, laidLooks := .later }
def ClientRightUptoCardSaid : Prop := Claim7.holds Tryz.pinned (.plain (OpenSpec.upto clientRightSpec)) clientRightUptoCard

/-- THE SECOND FORM's CARD OF 'parishlaw21.ClientSends'. -/
def clientSendsUptoCard : Claim7 := { stood := { row := clientSendsUptoRow, standIns := [], harness := (true, "a721e601f95239e5ef83909fecd4669b8f7baddcaaad5f63c2f020a296e27321"), looks := false }, kinds := [], alts := [], laidByText := true, laidKinds := [.data, .pinned], laidTests := true, laidLooks := .later }
def ClientSendsUptoCardSaid : Prop := Claim7.holds Tryz.pinned (.plain (OpenSpec.upto clientSendsSpec)) clientSendsUptoCard
end Rows
end Go.Proofs.YtjgloipgnnigmaaGreatDoor
