/-
  DERIVED. GIVEN WITH THE SEED: THE CARDS: each row of YtcldpmkhpmlcbaaGreatDoorRows.lean that lists a variable, with what it lists TIED to the program's text (the seventh form; the later family's looks); each row that meets fmt, with fmt's text TOLD by the authors' own Lean function (tested against real Go, not proved from fmt's source: count such statements apart). THE CARD IS WHAT COUNTS. Prove the row's statement (the work); the ties are given (YtcldpmkhpmlcbaaGreatDoorTie.lean); close each card by the builder's one call (the guide's Derived/Test/ToyasCard.lean, 'card_holds'). Laid BY PROGRAM, IN A SANDBOX (cutbox-door.mjs). By AI agents, Wed Nov 11 2026. No macro, syntax, notation, axiom, sorry.
-/
import Derived.Test.YtcldpmkhpmlcbaaGreatDoorRows
import GoSem.ClaimSeven
namespace Go.Proofs.YtcldpmkhpmlcbaaGreatDoor
namespace Rows

/-- THE TIED CARD OF 'parishlaw17.GroupOnce'. -/
def groupOnceCard : Claim7 := { stood := { row := groupOnceRow, standIns := [], harness := (true, "43a2735e876022cd0130e076aa0df4d8cc1ac7037ff7ceb2ba1c00adcb82c0dc"), looks := false }, kinds := [], alts := [], laidByText := true, laidKinds := [.data, .pinned], laidTests := true, laidLooks := .later }
def GroupOnceCardSaid : Prop := Claim7.holds Tryz.pinned (.plain (OpenSpec.ofChange groupOnceSpec)) groupOnceCard

/-- THE TIED CARD OF 'parishlaw17.GroupAgree'. -/
def groupAgreeCard : Claim7 := { stood := { row := groupAgreeRow, standIns := [], harness := (true, "43a2735e876022cd0130e076aa0df4d8cc1ac7037ff7ceb2ba1c00adcb82c0dc"), looks := false }, kinds := [], alts := [], laidByText := true, laidKinds := [.data, .pinned], laidTests := true, laidLooks := .later }
def GroupAgreeCardSaid : Prop := Claim7.holds Tryz.pinned (.plain (OpenSpec.ofChange groupAgreeSpec)) groupAgreeCard

/-- THE TIED CARD OF 'parishlaw17.GroupSerial'. -/
def groupSerialCard : Claim7 := { stood := { row := groupSerialRow, standIns := [], harness := (true, "43a2735e876022cd0130e076aa0df4d8cc1ac7037ff7ceb2ba1c00adcb82c0dc"), looks := false }, kinds := [], alts := [], laidByText := true, laidKinds := [.data, .pinned], laidTests := true, laidLooks := .later }
def GroupSerialCardSaid : Prop := Claim7.holds Tryz.pinned (.plain (OpenSpec.ofChange groupSerialSpec)) groupSerialCard

/-- THE TIED CARD OF 'parishlaw17.GroupSafe'. -/
def groupSafeCard : Claim7 := { stood := { row := groupSafeRow, standIns := [], harness := (true, "43a2735e876022cd0130e076aa0df4d8cc1ac7037ff7ceb2ba1c00adcb82c0dc"), looks := false }, kinds := [], alts := [], laidByText := true, laidKinds := [.data, .pinned], laidTests := true, laidLooks := .later }
def GroupSafeCardSaid : Prop := Claim7.holds Tryz.pinned (.plain (OpenSpec.ofChange groupSafeSpec)) groupSafeCard

/-- THE TIED CARD OF 'parishlaw17.GroupAlone'. -/
def groupAloneCard : Claim7 := { stood := { row := groupAloneRow, standIns := [], harness := (true, "43a2735e876022cd0130e076aa0df4d8cc1ac7037ff7ceb2ba1c00adcb82c0dc"), looks := false }, kinds := [], alts := [], laidByText := true, laidKinds := [.data, .pinned], laidTests := true, laidLooks := .later }
def GroupAloneCardSaid : Prop := Claim7.holds Tryz.pinned (.plain (OpenSpec.ofChange groupAloneSpec)) groupAloneCard

/-- THE TIED CARD OF 'parishlaw17.GroupBack'. -/
def groupBackCard : Claim7 := { stood := { row := groupBackRow, standIns := [], harness := (true, "43a2735e876022cd0130e076aa0df4d8cc1ac7037ff7ceb2ba1c00adcb82c0dc"), looks := false }, kinds := [], alts := [], laidByText := true, laidKinds := [.data, .pinned], laidTests := true, laidLooks := .later }
def GroupBackCardSaid : Prop := Claim7.holds Tryz.pinned (.plain (OpenSpec.ofChange groupBackSpec)) groupBackCard

/-- THE SECOND FORM's CARD OF 'parishlaw17.GroupOnce'. -/
def groupOnceUptoCard : Claim7 := { stood := { row := groupOnceUptoRow, standIns := [], harness := (true, "43a2735e876022cd0130e076aa0df4d8cc1ac7037ff7ceb2ba1c00adcb82c0dc"), looks := false }, kinds := [], alts := [], laidByText := true, laidKinds := [.data, .pinned], laidTests := true, laidLooks := .later }
def GroupOnceUptoCardSaid : Prop := Claim7.holds Tryz.pinned (.plain (OpenSpec.upto groupOnceSpec)) groupOnceUptoCard

/-- THE SECOND FORM's CARD OF 'parishlaw17.GroupAgree'. -/
def groupAgreeUptoCard : Claim7 := { stood := { row := groupAgreeUptoRow, standIns := [], harness := (true, "43a2735e876022cd0130e076aa0df4d8cc1ac7037ff7ceb2ba1c00adcb82c0dc"), looks := false }, kinds := [], alts := [], laidByText := true, laidKinds := [.data, .pinned], laidTests := true, laidLooks := .later }
def GroupAgreeUptoCardSaid : Prop := Claim7.holds Tryz.pinned (.plain (OpenSpec.upto groupAgreeSpec)) groupAgreeUptoCard

/-- THE SECOND FORM's CARD OF 'parishlaw17.GroupSerial'. -/
def groupSerialUptoCard : Claim7 := { stood := { row := groupSerialUptoRow, standIns := [], harness := (true, "43a2735e876022cd0130e076aa0df4d8cc1ac7037ff7ceb2ba1c00adcb82c0dc"), looks := false }, kinds := [], alts := [], laidByText := true, laidKinds := [.data, .pinned], laidTests := true, laidLooks := .later }
def GroupSerialUptoCardSaid : Prop := Claim7.holds Tryz.pinned (.plain (OpenSpec.upto groupSerialSpec)) groupSerialUptoCard

/-- THE SECOND FORM's CARD OF 'parishlaw17.GroupSafe'. -/
def groupSafeUptoCard : Claim7 := { stood := { row := groupSafeUptoRow, standIns := [], harness := (true, "43a2735e876022cd0130e076aa0df4d8cc1ac7037ff7ceb2ba1c00adcb82c0dc"), looks := false }, kinds := [], alts := [], laidByText := true, laidKinds := [.data, .pinned], laidTests := true, laidLooks := .later }
def GroupSafeUptoCardSaid : Prop := Claim7.holds Tryz.pinned (.plain (OpenSpec.upto groupSafeSpec)) groupSafeUptoCard

/-- THE SECOND FORM's CARD OF 'parishlaw17.GroupAlone'. -/
def groupAloneUptoCard : Claim7 := { stood := { row := groupAloneUptoRow, standIns := [], harness := (true, "43a2735e876022cd0130e076aa0df4d8cc1ac7037ff7ceb2ba1c00adcb82c0dc"), looks := false }, kinds := [], alts := [], laidByText := true, laidKinds := [.data, .pinned], laidTests := true, laidLooks := .later }
def GroupAloneUptoCardSaid : Prop := Claim7.holds Tryz.pinned (.plain (OpenSpec.upto groupAloneSpec)) groupAloneUptoCard

/-- THE SECOND FORM's CARD OF 'parishlaw17.GroupBack'. -/
def groupBackUptoCard : Claim7 := { stood := { row := groupBackUptoRow, standIns := [], harness := (true, "43a2735e876022cd0130e076aa0df4d8cc1ac7037ff7ceb2ba1c00adcb82c0dc"), looks := false }, kinds := [], alts := [], laidByText := true, laidKinds := [.data, .pinned], laidTests := true, laidLooks := .later }
def GroupBackUptoCardSaid : Prop := Claim7.holds Tryz.pinned (.plain (OpenSpec.upto groupBackSpec)) groupBackUptoCard
end Rows
end Go.Proofs.YtcldpmkhpmlcbaaGreatDoor
