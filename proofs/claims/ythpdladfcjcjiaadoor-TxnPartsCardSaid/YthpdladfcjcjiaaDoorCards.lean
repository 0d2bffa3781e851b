/-
  DERIVED. GIVEN WITH THE SEED: THE CARDS: each row of YthpdladfcjcjiaaDoorRows.lean that lists a variable, with what it lists TIED to the program's text (the seventh form; the later family's looks); each row that meets fmt, with fmt's text TOLD by the authors' own Lean function (tested against real Go, not proved from fmt's source: count such statements apart). THE CARD IS WHAT COUNTS. Prove the row's statement (the work); the ties are given (YthpdladfcjcjiaaDoorTie.lean); close each card by the builder's one call (the guide's Derived/Test/ToyasCard.lean, 'card_holds'). Laid BY PROGRAM, IN A SANDBOX (cutbox-door.mjs). By AI agents, Wed Nov 11 2026. No macro, syntax, notation, axiom, sorry.
-/
import Derived.Test.YthpdladfcjcjiaaDoorRows
import GoSem.ClaimSeven
namespace Go.Proofs.YthpdladfcjcjiaaDoor
namespace Rows

/-- THE TIED CARD OF 'parishlaw07.ConfigPlaces'. -/
def configPlacesCard : Claim7 := { stood := { row := configPlacesRow, standIns := [], harness := (true, "bf7b0dc779bf91d55527d93f3c2ae959e280ecc1f0f593e6ce562dee6af4f81a"), looks := false }, kinds := [], alts := [], laidByText := true, laidKinds := [.data, .pinned], laidTests := true, laidLooks := .later }
def ConfigPlacesCardSaid : Prop := Claim7.holds Tryd.pinned (.plain (OpenSpec.ofChange configPlacesSpec)) configPlacesCard

/-- THE TIED CARD OF 'parishlaw07.ConfigBack'. -/
def configBackCard : Claim7 := { stood := { row := configBackRow, standIns := [], harness := (true, "bf7b0dc779bf91d55527d93f3c2ae959e280ecc1f0f593e6ce562dee6af4f81a"), looks := false }, kinds := [], alts := [], laidByText := true, laidKinds := [.data, .pinned], laidTests := true, laidLooks := .later }
def ConfigBackCardSaid : Prop := Claim7.holds Tryd.pinned (.plain (OpenSpec.ofChange configBackSpec)) configBackCard

/-- THE TIED CARD OF 'parishlaw07.ConfigRises'. -/
def configRisesCard : Claim7 := { stood := { row := configRisesRow, standIns := [], harness := (true, "bf7b0dc779bf91d55527d93f3c2ae959e280ecc1f0f593e6ce562dee6af4f81a"), looks := false }, kinds := [], alts := [], laidByText := true, laidKinds := [.data, .pinned], laidTests := true, laidLooks := .later }
def ConfigRisesCardSaid : Prop := Claim7.holds Tryd.pinned (.plain (OpenSpec.ofChange configRisesSpec)) configRisesCard

/-- THE TIED CARD OF 'parishlaw08.TxnForms'. -/
def txnFormsCard : Claim7 := { stood := { row := txnFormsRow, standIns := [], harness := (true, "bf7b0dc779bf91d55527d93f3c2ae959e280ecc1f0f593e6ce562dee6af4f81a"), looks := false }, kinds := [], alts := [], laidByText := true, laidKinds := [.data, .pinned], laidTests := true, laidLooks := .later }
def TxnFormsCardSaid : Prop := Claim7.holds Tryd.pinned (.plain (OpenSpec.ofChange txnFormsSpec)) txnFormsCard

/-- THE TIED CARD OF 'parishlaw08.TxnBack'. -/
def txnBackCard : Claim7 := { stood := { row := txnBackRow, standIns := [], harness := (true, "bf7b0dc779bf91d55527d93f3c2ae959e280ecc1f0f593e6ce562dee6af4f81a"), looks := false }, kinds := [], alts := [], laidByText := true, laidKinds := [.data, .pinned], laidTests := true, laidLooks := .later }
def TxnBackCardSaid : Prop := Claim7.holds Tryd.pinned (.plain (OpenSpec.ofChange txnBackSpec)) txnBackCard

/-- THE TIED CARD OF 'parishlaw08.TxnBytes'. -/
def txnBytesCard : Claim7 := { stood := { row := txnBytesRow, standIns := [], harness := (true, "bf7b0dc779bf91d55527d93f3c2ae959e280ecc1f0f593e6ce562dee6af4f81a"), looks := false }, kinds := [], alts := [], laidByText := true, laidKinds := [.data, .pinned], laidTests := true, laidLooks := .later }
def TxnBytesCardSaid : Prop := Claim7.holds Tryd.pinned (.plain (OpenSpec.ofChange txnBytesSpec)) txnBytesCard

/-- THE TIED CARD OF 'parishlaw07.ConfigKeys'. -/
def configKeysCard : Claim7 := { stood := { row := configKeysRow, standIns := [], harness := (true, "bf7b0dc779bf91d55527d93f3c2ae959e280ecc1f0f593e6ce562dee6af4f81a"), looks := false }, kinds := [], alts := [], laidByText := true, laidKinds := [.data, .pinned], laidTests := true, laidLooks := .later }
def ConfigKeysCardSaid : Prop := Claim7.holds Tryd.pinned (.plain (OpenSpec.ofChange configKeysSpec)) configKeysCard

/-- THE TIED CARD OF 'parishlaw07.ConfigGroups'. -/
def configGroupsCard : Claim7 := { stood := { row := configGroupsRow, standIns := [], harness := (true, "bf7b0dc779bf91d55527d93f3c2ae959e280ecc1f0f593e6ce562dee6af4f81a"), looks := false }, kinds := [], alts := [], laidByText := true, laidKinds := [.data, .pinned], laidTests := true, laidLooks := .later }
def ConfigGroupsCardSaid : Prop := Claim7.holds Tryd.pinned (.plain (OpenSpec.ofChange configGroupsSpec)) configGroupsCard

/-- THE TIED CARD OF 'parishlaw08.TxnCuts'. -/
def txnCutsCard : Claim7 := { stood := { row := txnCutsRow, standIns := [], harness := (true, "bf7b0dc779bf91d55527d93f3c2ae959e280ecc1f0f593e6ce562dee6af4f81a"), looks := false }, kinds := [], alts := [], laidByText := true, laidKinds := [.data, .pinned], laidTests := true, laidLooks := .later }
def TxnCutsCardSaid : Prop := Claim7.holds Tryd.pinned (.plain (OpenSpec.ofChange txnCutsSpec)) txnCutsCard

/-- THE TIED CARD OF 'parishlaw08.TxnParts'. -/
def txnPartsCard : Claim7 := { stood := { row := txnPartsRow, standIns := [], harness := (true, "bf7b0dc779bf91d55527d93f3c2ae959e280ecc1f0f593e6ce562dee6af4f81a"), looks := false }, kinds := [], alts := [], laidByText := true, laidKinds := [.data, .pinned], laidTests := true, laidLooks := .later }
def TxnPartsCardSaid : Prop := Claim7.holds Tryd.pinned (.plain (OpenSpec.ofChange txnPartsSpec)) txnPartsCard

/-- THE SECOND FORM's CARD OF 'parishlaw07.ConfigPlaces'. -/
def configPlacesUptoCard : Claim7 := { stood := { row := configPlacesUptoRow, standIns := [], harness := (true, "bf7b0dc779bf91d55527d93f3c2ae959e280ecc1f0f593e6ce562dee6af4f81a"), looks := false }, kinds := [], alts := [], laidByText := true, laidKinds := [.data, .pinned], laidTests := true, laidLooks := .later }
def ConfigPlacesUptoCardSaid : Prop := Claim7.holds Tryd.pinned (.plain (OpenSpec.upto configPlacesSpec)) configPlacesUptoCard

/-- THE SECOND FORM's CARD OF 'parishlaw07.ConfigBack'. -/
def configBackUptoCard : Claim7 := { stood := { row := configBackUptoRow, standIns := [], harness := (true, "bf7b0dc779bf91d55527d93f3c2ae959e280ecc1f0f593e6ce562dee6af4f81a"), looks := false }, kinds := [], alts := [], laidByText := true, laidKinds := [.data, .pinned], laidTests := true, laidLooks := .later }
def ConfigBackUptoCardSaid : Prop := Claim7.holds Tryd.pinned (.plain (OpenSpec.upto configBackSpec)) configBackUptoCard

/-- THE SECOND FORM's CARD OF 'parishlaw07.ConfigRises'. -/
def configRisesUptoCard : Claim7 := { stood := { row := configRisesUptoRow, standIns := [], harness := (true, "bf7b0dc779bf91d55527d93f3c2ae959e280ecc1f0f593e6ce562dee6af4f81a"), looks := false }, kinds := [], alts := [], laidByText := true, laidKinds := [.data, .pinned], laidTests := true, laidLooks := .later }
def ConfigRisesUptoCardSaid : Prop := Claim7.holds Tryd.pinned (.plain (OpenSpec.upto configRisesSpec)) configRisesUptoCard

/-- THE SECOND FORM's CARD OF 'parishlaw08.TxnForms'. -/
def txnFormsUptoCard : Claim7 := { stood := { row := txnFormsUptoRow, standIns := [], harness := (true, "bf7b0dc779bf91d55527d93f3c2ae959e280ecc1f0f593e6ce562dee6af4f81a"), looks := false }, kinds := [], alts := [], laidByText := true, laidKinds := [.data, .pinned], laidTests := true, laidLooks := .later }
def TxnFormsUptoCardSaid : Prop := Claim7.holds Tryd.pinned (.plain (OpenSpec.upto txnFormsSpec)) txnFormsUptoCard

/-- THE SECOND FORM's CARD OF 'parishlaw08.TxnBack'. -/
def txnBackUptoCard : Claim7 := { stood := { row := txnBackUptoRow, standIns := [], harness := (true, "bf7b0dc779bf91d55527d93f3c2ae959e280ecc1f0f593e6ce562dee6af4f81a"), looks := false }, kinds := [], alts := [], laidByText := true, laidKinds := [.data, .pinned], laidTests := true, laidLooks := .later }
def TxnBackUptoCardSaid : Prop := Claim7.holds Tryd.pinned (.plain (OpenSpec.upto txnBackSpec)) txnBackUptoCard

/-- THE SECOND FORM's CARD OF 'parishlaw08.TxnBytes'. -/
def txnBytesUptoCard : Claim7 := { stood := { row := txnBytesUptoRow, standIns := [], harness := (true, "bf7b0dc779bf91d55527d93f3c2ae959e280ecc1f0f593e6ce562dee6af4f81a"), looks := false }, kinds := [], alts := [], laidByText := true, laidKinds := [.data, .pinned], laidTests := true, laidLooks := .later }
def TxnBytesUptoCardSaid : Prop := Claim7.holds Tryd.pinned (.plain (OpenSpec.upto txnBytesSpec)) txnBytesUptoCard

/-- THE SECOND FORM's CARD OF 'parishlaw07.ConfigKeys'. -/
def configKeysUptoCard : Claim7 := { stood := { row := configKeysUptoRow, standIns := [], harness := (true, "bf7b0dc779bf91d55527d93f3c2ae959e280ecc1f0f593e6ce562dee6af4f81a"), looks := false }, kinds := [], alts := [], laidByText := true, laidKinds := [.data, .pinned], laidTests := true, laidLooks := .later }
def ConfigKeysUptoCardSaid : Prop := Claim7.holds Tryd.pinned (.plain (OpenSpec.upto configKeysSpec)) configKeysUptoCard

/-- THE SECOND FORM's CARD OF 'parishlaw07.ConfigGroups'. -/
def configGroupsUptoCard : Claim7 := { stood := { row := configGroupsUptoRow, standIns := [], harness := (true, "bf7b0dc779bf91d55527d93f3c2ae959e280ecc1f0f593e6ce562dee6af4f81a"), looks := false }, kinds := [], alts := [], laidByText := true, laidKinds := [.data, .pinned], laidTests := true, laidLooks := .later }
def ConfigGroupsUptoCardSaid : Prop := Claim7.holds Tryd.pinned (.plain (OpenSpec.upto configGroupsSpec)) configGroupsUptoCard

/-- THE SECOND FORM's CARD OF 'parishlaw08.TxnCuts'. -/
def txnCutsUptoCard : Claim7 := { stood := { row := txnCutsUptoRow, standIns := [], harness := (true, "bf7b0dc779bf91d55527d93f3c2ae959e280ecc1f0f593e6ce562dee6af4f81a"), looks := false }, kinds := [], alts := [], laidByText := true, laidKinds := [.data, .pinned], laidTests := true, laidLooks := .later }
def TxnCutsUptoCardSaid : Prop := Claim7.holds Tryd.pinned (.plain (OpenSpec.upto txnCutsSpec)) txnCutsUptoCard

/-- THE SECOND FORM's CARD OF 'parishlaw08.TxnParts'. -/
def txnPartsUptoCard : Claim7 := { stood := { row := txnPartsUptoRow, standIns := [], harness := (true, "bf7b0dc779bf91d55527d93f3c2ae959e280ecc1f0f593e6ce562dee6af4f81a"), looks := false }, kinds := [], alts := [], laidByText := true, laidKinds := [.data, .pinned], laidTests := true, laidLooks := .later }
def TxnPartsUptoCardSaid : Prop := Claim7.holds Tryd.pinned (.plain (OpenSpec.upto txnPartsSpec)) txnPartsUptoCard
end Rows
end Go.Proofs.YthpdladfcjcjiaaDoor
