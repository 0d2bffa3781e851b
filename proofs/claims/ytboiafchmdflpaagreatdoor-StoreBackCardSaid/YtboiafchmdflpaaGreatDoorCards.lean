/-
  DERIVED. GIVEN WITH THE SEED: THE CARDS: each row of YtboiafchmdflpaaGreatDoorRows.lean that lists a variable, with what it lists TIED to the program's text (the seventh form; the later family's looks); each row that meets fmt, with fmt's text TOLD by the authors' own Lean function (tested against real Go, not proved from fmt's source: count such statements apart). THE CARD IS WHAT COUNTS. Prove the row's statement (the work); the ties are given (YtboiafchmdflpaaGreatDoorTie.lean); close each card by the builder's one call (the guide's Derived/Test/ToyasCard.lean, 'card_holds'). Laid BY PROGRAM, IN A SANDBOX (cutbox-door.mjs). By AI agents, Wed Nov 11 2026. No macro, syntax, notation, axiom, sorry.
-/
import Derived.Test.YtboiafchmdflpaaGreatDoorRows
import GoSem.ClaimSeven
namespace Go.Proofs.YtboiafchmdflpaaGreatDoor
namespace Rows

/-- THE TIED CARD OF 'parishlaw14.StorePlays'. -/
def storePlaysCard : Claim7 := { stood := { row := storePlaysRow, standIns := [], harness := (true, "636fec6ac8f83a9bc2d3504f0744793554dc4e698b2a1bd10bd63b823333ff19"), looks := false }, kinds := [], alts := [], laidByText := true, laidKinds := [.data, .pinned], laidTests := true, laidLooks := .later }
def StorePlaysCardSaid : Prop := Claim7.holds Tryz.pinned (.plain (OpenSpec.ofChange storePlaysSpec)) storePlaysCard

/-- THE TIED CARD OF 'parishlaw14.StoreBack'. -/
def storeBackCard : Claim7 := { stood := { row := storeBackRow, standIns := [], harness := (true, "636fec6ac8f83a9bc2d3504f0744793554dc4e698b2a1bd10bd63b823333ff19"), looks := false }, kinds := [], alts := [], laidByText := true, laidKinds := [.data, .pinned], laidTests := true, laidLooks := .later }
def StoreBackCardSaid : Prop := Claim7.holds Tryz.pinned (.plain (OpenSpec.ofChange storeBackSpec)) storeBackCard

/-- THE SECOND FORM's CARD OF 'parishlaw14.StorePlays'. -/
def storePlaysUptoCard : Claim7 := { stood := { row := storePlaysUptoRow, standIns := [], harness := (true, "636fec6ac8f83a9bc2d3504f0744793554dc4e698b2a1bd10bd63b823333ff19"), looks := false }, kinds := [], alts := [], laidByText := true, laidKinds := [.data, .pinned], laidTests := true, laidLooks := .later }
def StorePlaysUptoCardSaid : Prop := Claim7.holds Tryz.pinned (.plain (OpenSpec.upto storePlaysSpec)) storePlaysUptoCard

/-- THE SECOND FORM's CARD OF 'parishlaw14.StoreBack'. -/
def storeBackUptoCard : Claim7 := { stood := { row := storeBackUptoRow, standIns := [], harness := (true, "636fec6ac8f83a9bc2d3504f0744793554dc4e698b2a1bd10bd63b823333ff19"), looks := false }, kinds := [], alts := [], laidByText := true, laidKinds := [.data, .pinned], laidTests := true, laidLooks := .later }
def StoreBackUptoCardSaid : Prop := Claim7.holds Tryz.pinned (.plain (OpenSpec.upto storeBackSpec)) storeBackUptoCard
end Rows
end Go.Proofs.YtboiafchmdflpaaGreatDoor
