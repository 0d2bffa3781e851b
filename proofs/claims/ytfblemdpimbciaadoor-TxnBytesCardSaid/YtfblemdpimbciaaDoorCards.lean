/-
  DERIVED. GIVEN WITH THE SEED: THE CARDS: each row of YtfblemdpimbciaaDoorRows.lean that lists a variable, with what it lists TIED to the program's text (the seventh form; the later family's looks); each row that meets fmt, with fmt's text TOLD by the authors' own Lean function (tested against real Go, not proved from fmt's source: count such statements apart). THE CARD IS WHAT COUNTS. Prove the row's statement (the work); the ties are given (YtfblemdpimbciaaDoorTie.lean); close each card by the builder's one call (the guide's Derived/Test/ToyasCard.lean, 'card_holds'). Laid BY PROGRAM, IN A SANDBOX (cutbox-door.mjs). By AI agents, Wed Nov 11 2026. No macro, syntax, notation, axiom, sorry.
-/
import Derived.Test.YtfblemdpimbciaaDoorRows
import GoSem.ClaimSeven
namespace Go.Proofs.YtfblemdpimbciaaDoor
namespace Rows

/-- THE TIED CARD OF 'parishlaw08.TxnBack'. -/
def txnBackCard : Claim7 := { stood := { row := txnBackRow, standIns := [], harness := (true, "6115a61f6b37ccbde28abf82ec49592ead6a4eb987bcb01739a7bcb79a7ac6a8"), looks := false }, kinds := [], alts := [], laidByText := true, laidKinds := [.data, .pinned], laidTests := true, laidLooks := .later }
def TxnBackCardSaid : Prop := Claim7.holds Tryd.pinned (.plain (OpenSpec.ofChange txnBackSpec)) txnBackCard

/-- THE TIED CARD OF 'parishlaw08.TxnBytes'. -/
def txnBytesCard : Claim7 := { stood := { row := txnBytesRow, standIns := [], harness := (true, "6115a61f6b37ccbde28abf82ec49592ead6a4eb987bcb01739a7bcb79a7ac6a8"), looks := false }, kinds := [], alts := [], laidByText := true, laidKinds := [.data, .pinned], laidTests := true, laidLooks := .later }
def TxnBytesCardSaid : Prop := Claim7.holds Tryd.pinned (.plain (OpenSpec.ofChange txnBytesSpec)) txnBytesCard

/-- THE TIED CARD OF 'parishlaw14.StoreImports'. -/
def storeImportsCard : Claim7 := { stood := { row := storeImportsRow, standIns := [], harness := (true, "6115a61f6b37ccbde28abf82ec49592ead6a4eb987bcb01739a7bcb79a7ac6a8"), looks := false }, kinds := [], alts := [], laidByText := true, laidKinds := [.data, .pinned], laidTests := true, laidLooks := .later }
def StoreImportsCardSaid : Prop := Claim7.holds Tryd.pinned (.plain (OpenSpec.ofChange storeImportsSpec)) storeImportsCard

/-- THE SECOND FORM's CARD OF 'parishlaw08.TxnBack'. -/
def txnBackUptoCard : Claim7 := { stood := { row := txnBackUptoRow, standIns := [], harness := (true, "6115a61f6b37ccbde28abf82ec49592ead6a4eb987bcb01739a7bcb79a7ac6a8"), looks := false }, kinds := [], alts := [], laidByText := true, laidKinds := [.data, .pinned], laidTests := true, laidLooks := .later }
def TxnBackUptoCardSaid : Prop := Claim7.holds Tryd.pinned (.plain (OpenSpec.upto txnBackSpec)) txnBackUptoCard

/-- THE SECOND FORM's CARD OF 'parishlaw08.TxnBytes'. -/
def txnBytesUptoCard : Claim7 := { stood := { row := txnBytesUptoRow, standIns := [], harness := (true, "6115a61f6b37ccbde28abf82ec49592ead6a4eb987bcb01739a7bcb79a7ac6a8"), looks := false }, kinds := [], alts := [], laidByText := true, laidKinds := [.data, .pinned], laidTests := true, laidLooks := .later }
def TxnBytesUptoCardSaid : Prop := Claim7.holds Tryd.pinned (.plain (OpenSpec.upto txnBytesSpec)) txnBytesUptoCard

/-- THE SECOND FORM's CARD OF 'parishlaw14.StoreImports'. -/
def storeImportsUptoCard : Claim7 := { stood := { row := storeImportsUptoRow, standIns := [], harness := (true, "6115a61f6b37ccbde28abf82ec49592ead6a4eb987bcb01739a7bcb79a7ac6a8"), looks := false }, kinds := [], alts := [], laidByText := true, laidKinds := [.data, .pinned], laidTests := true, laidLooks := .later }
def StoreImportsUptoCardSaid : Prop := Claim7.holds Tryd.pinned (.plain (OpenSpec.upto storeImportsSpec)) storeImportsUptoCard
end Rows
end Go.Proofs.YtfblemdpimbciaaDoor
