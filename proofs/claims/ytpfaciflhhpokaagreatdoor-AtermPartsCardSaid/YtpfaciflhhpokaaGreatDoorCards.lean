/-
  DERIVED. GIVEN WITH THE SEED: THE CARDS: each row of YtpfaciflhhpokaaGreatDoorRows.lean that lists a variable, with what it lists TIED to the program's text (the seventh form; the later family's looks); each row that meets fmt, with fmt's text TOLD by the authors' own Lean function (tested against real Go, not proved from fmt's source: count such statements apart). THE CARD IS WHAT COUNTS. Prove the row's statement (the work); the ties are given (YtpfaciflhhpokaaGreatDoorTie.lean); close each card by the builder's one call (the guide's Derived/Test/ToyasCard.lean, 'card_holds'). Laid BY PROGRAM, IN A SANDBOX (cutbox-door.mjs). By AI agents, Wed Nov 11 2026. No macro, syntax, notation, axiom, sorry.
-/
import Derived.Test.YtpfaciflhhpokaaGreatDoorRows
import GoSem.ClaimSeven
namespace Go.Proofs.YtpfaciflhhpokaaGreatDoor
namespace Rows

/-- THE TIED CARD OF 'enclavelaw13.AtermMays'. -/
def atermMaysCard : Claim7 := { stood := { row := atermMaysRow, standIns := [], harness := (true, "c9740593d37fac9601efcf0426daf64f19a9be24422e8859fe54bdb697056ed5"), looks := false }, kinds := [], alts := [], laidByText := true, laidKinds := [.data, .pinned], laidTests := true, laidLooks := .later }
def AtermMaysCardSaid : Prop := Claim7.holds Tryz.pinned (.plain (OpenSpec.ofChange atermMaysSpec)) atermMaysCard

/-- THE TIED CARD OF 'enclavelaw13.AtermErase'. -/
def atermEraseCard : Claim7 := { stood := { row := atermEraseRow, standIns := [], harness := (true, "c9740593d37fac9601efcf0426daf64f19a9be24422e8859fe54bdb697056ed5"), looks := false }, kinds := [], alts := [], laidByText := true, laidKinds := [.data, .pinned], laidTests := true, laidLooks := .later }
def AtermEraseCardSaid : Prop := Claim7.holds Tryz.pinned (.plain (OpenSpec.ofChange atermEraseSpec)) atermEraseCard

/-- THE TIED CARD OF 'enclavelaw13.AtermNodes'. -/
def atermNodesCard : Claim7 := { stood := { row := atermNodesRow, standIns := [], harness := (true, "c9740593d37fac9601efcf0426daf64f19a9be24422e8859fe54bdb697056ed5"), looks := false }, kinds := [], alts := [], laidByText := true, laidKinds := [.data, .pinned], laidTests := true, laidLooks := .later }
def AtermNodesCardSaid : Prop := Claim7.holds Tryz.pinned (.plain (OpenSpec.ofChange atermNodesSpec)) atermNodesCard

/-- THE TIED CARD OF 'enclavelaw13.AtermParts'. -/
def atermPartsCard : Claim7 := { stood := { row := atermPartsRow, standIns := [], harness := (true, "c9740593d37fac9601efcf0426daf64f19a9be24422e8859fe54bdb697056ed5"), looks := false }, kinds := [], alts := [], laidByText := true, laidKinds := [.data, .pinned], laidTests := true, laidLooks := .later }
def AtermPartsCardSaid : Prop := Claim7.holds Tryz.pinned (.plain (OpenSpec.ofChange atermPartsSpec)) atermPartsCard

/-- THE TIED CARD OF 'enclavelaw13.AtermBinds'. -/
def atermBindsCard : Claim7 := { stood := { row := atermBindsRow, standIns := [], harness := (true, "c9740593d37fac9601efcf0426daf64f19a9be24422e8859fe54bdb697056ed5"), looks := false }, kinds := [], alts := [], laidByText := true, laidKinds := [.data, .pinned], laidTests := true, laidLooks := .later }
def AtermBindsCardSaid : Prop := Claim7.holds Tryz.pinned (.plain (OpenSpec.ofChange atermBindsSpec)) atermBindsCard

/-- THE TIED CARD OF 'enclavelaw13.AtermSame'. -/
def atermSameCard : Claim7 := { stood := { row := atermSameRow, standIns := [], harness := (true, "c9740593d37fac9601efcf0426daf64f19a9be24422e8859fe54bdb697056ed5"), looks := false }, kinds := [], alts := [], laidByText := true, laidKinds := [.data, .pinned], laidTests := true, laidLooks := .later }
def AtermSameCardSaid : Prop := Claim7.holds Tryz.pinned (.plain (OpenSpec.ofChange atermSameSpec)) atermSameCard

/-- THE SECOND FORM's CARD OF 'enclavelaw13.AtermMays'. -/
def atermMaysUptoCard : Claim7 := { stood := { row := atermMaysUptoRow, standIns := [], harness := (true, "c9740593d37fac9601efcf0426daf64f19a9be24422e8859fe54bdb697056ed5"), looks := false }, kinds := [], alts := [], laidByText := true, laidKinds := [.data, .pinned], laidTests := true, laidLooks := .later }
def AtermMaysUptoCardSaid : Prop := Claim7.holds Tryz.pinned (.plain (OpenSpec.upto atermMaysSpec)) atermMaysUptoCard

/-- THE SECOND FORM's CARD OF 'enclavelaw13.AtermErase'. -/
def atermEraseUptoCard : Claim7 := { stood := { row := atermEraseUptoRow, standIns := [], harness := (true, "c9740593d37fac9601efcf0426daf64f19a9be24422e8859fe54bdb697056ed5"), looks := false }, kinds := [], alts := [], laidByText := true, laidKinds := [.data, .pinned], laidTests := true, laidLooks := .later }
def AtermEraseUptoCardSaid : Prop := Claim7.holds Tryz.pinned (.plain (OpenSpec.upto atermEraseSpec)) atermEraseUptoCard

/-- THE SECOND FORM's CARD OF 'enclavelaw13.AtermNodes'. -/
def atermNodesUptoCard : Claim7 := { stood := { row := atermNodesUptoRow, standIns := [], harness := (true, "c9740593d37fac9601efcf0426daf64f19a9be24422e8859fe54bdb697056ed5"), looks := false }, kinds := [], alts := [], laidByText := true, laidKinds := [.data, .pinned], laidTests := true, laidLooks := .later }
def AtermNodesUptoCardSaid : Prop := Claim7.holds Tryz.pinned (.plain (OpenSpec.upto atermNodesSpec)) atermNodesUptoCard

/-- THE SECOND FORM's CARD OF 'enclavelaw13.AtermParts'. -/
def atermPartsUptoCard : Claim7 := { stood := { row := atermPartsUptoRow, standIns := [], harness := (true, "c9740593d37fac9601efcf0426daf64f19a9be24422e8859fe54bdb697056ed5"), looks := false }, kinds := [], alts := [], laidByText := true, laidKinds := [.data, .pinned], laidTests := true, laidLooks := .later }
def AtermPartsUptoCardSaid : Prop := Claim7.holds Tryz.pinned (.plain (OpenSpec.upto atermPartsSpec)) atermPartsUptoCard

/-- THE SECOND FORM's CARD OF 'enclavelaw13.AtermBinds'. -/
def atermBindsUptoCard : Claim7 := { stood := { row := atermBindsUptoRow, standIns := [], harness := (true, "c9740593d37fac9601efcf0426daf64f19a9be24422e8859fe54bdb697056ed5"), looks := false }, kinds := [], alts := [], laidByText := true, laidKinds := [.data, .pinned], laidTests := true, laidLooks := .later }
def AtermBindsUptoCardSaid : Prop := Claim7.holds Tryz.pinned (.plain (OpenSpec.upto atermBindsSpec)) atermBindsUptoCard

/-- THE SECOND FORM's CARD OF 'enclavelaw13.AtermSame'. -/
def atermSameUptoCard : Claim7 := { stood := { row := atermSameUptoRow, standIns := [], harness := (true, "c9740593d37fac9601efcf0426daf64f19a9be24422e8859fe54bdb697056ed5"), looks := false }, kinds := [], alts := [], laidByText := true, laidKinds := [.data, .pinned], laidTests := true, laidLooks := .later }
def AtermSameUptoCardSaid : Prop := Claim7.holds Tryz.pinned (.plain (OpenSpec.upto atermSameSpec)) atermSameUptoCard
end Rows
end Go.Proofs.YtpfaciflhhpokaaGreatDoor
