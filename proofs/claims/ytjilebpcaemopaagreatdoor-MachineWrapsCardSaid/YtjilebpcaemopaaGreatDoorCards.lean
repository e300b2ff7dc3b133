/-
  DERIVED. GIVEN WITH THE SEED: THE CARDS: each row of YtjilebpcaemopaaGreatDoorRows.lean that lists a variable, with what it lists TIED to the program's text (the seventh form; the later family's looks); each row that meets fmt, with fmt's text TOLD by the authors' own Lean function (tested against real Go, not proved from fmt's source: count such statements apart). THE CARD IS WHAT COUNTS. Prove the row's statement (the work); the ties are given (YtjilebpcaemopaaGreatDoorTie.lean); close each card by the builder's one call (the guide's Derived/Test/ToyasCard.lean, 'card_holds'). Laid BY PROGRAM, IN A SANDBOX (cutbox-door.mjs). By AI agents, Wed Nov 11 2026. No macro, syntax, notation, axiom, sorry.
-/
import Derived.Test.YtjilebpcaemopaaGreatDoorRows
import GoSem.ClaimSeven
namespace Go.Proofs.YtjilebpcaemopaaGreatDoor
namespace Rows

/-- THE TIED CARD OF 'enclavelaw20.MachineIs'. -/
def machineIsCard : Claim7 := { stood := { row := machineIsRow, standIns := [], harness := (true, "e19047e29904f4a3a5895d4df61e7997278f9f98fe71f891747ba0958bfddfc8"), looks := true }, kinds := [], alts := [], laidByText := true, laidKinds := [.data, .pinned], laidTests := true, laidLooks := .later }
def MachineIsCardSaid : Prop := Claim7.holds Tryz.pinned (.plain (OpenSpec.ofChange machineIsSpec)) machineIsCard

/-- THE TIED CARD OF 'enclavelaw20.MachineLets'. -/
def machineLetsCard : Claim7 := { stood := { row := machineLetsRow, standIns := [], harness := (true, "e19047e29904f4a3a5895d4df61e7997278f9f98fe71f891747ba0958bfddfc8"), looks := true }, kinds := [], alts := [], laidByText := true, laidKinds := [.data, .pinned], laidTests := true, laidLooks := .later }
def MachineLetsCardSaid : Prop := Claim7.holds Tryz.pinned (.plain (OpenSpec.ofChange machineLetsSpec)) machineLetsCard

/-- THE TIED CARD OF 'enclavelaw20.MachineSafe'. -/
def machineSafeCard : Claim7 := { stood := { row := machineSafeRow, standIns := [], harness := (true, "e19047e29904f4a3a5895d4df61e7997278f9f98fe71f891747ba0958bfddfc8"), looks := true }, kinds := [], alts := [], laidByText := true, laidKinds := [.data, .pinned], laidTests := true, laidLooks := .later }
def MachineSafeCardSaid : Prop := Claim7.holds Tryz.pinned (.plain (OpenSpec.ofChange machineSafeSpec)) machineSafeCard

/-- THE TIED CARD OF 'enclavelaw20.MachineLeaves'. -/
def machineLeavesCard : Claim7 := { stood := { row := machineLeavesRow, standIns := [], harness := (true, "e19047e29904f4a3a5895d4df61e7997278f9f98fe71f891747ba0958bfddfc8"), looks := true }, kinds := [], alts := [], laidByText := true, laidKinds := [.data, .pinned], laidTests := true, laidLooks := .later }
def MachineLeavesCardSaid : Prop := Claim7.holds Tryz.pinned (.plain (OpenSpec.ofChange machineLeavesSpec)) machineLeavesCard

/-- THE TIED CARD OF 'enclavelaw20.MachineMore'. -/
def machineMoreCard : Claim7 := { stood := { row := machineMoreRow, standIns := [], harness := (true, "e19047e29904f4a3a5895d4df61e7997278f9f98fe71f891747ba0958bfddfc8"), looks := true }, kinds := [], alts := [], laidByText := true, laidKinds := [.data, .pinned], laidTests := true, laidLooks := .later }
def MachineMoreCardSaid : Prop := Claim7.holds Tryz.pinned (.plain (OpenSpec.ofChange machineMoreSpec)) machineMoreCard

/-- THE TIED CARD OF 'enclavelaw20.MachineWraps'. -/
def machineWrapsCard : Claim7 := { stood := { row := machineWrapsRow, standIns := [], harness := (true, "e19047e29904f4a3a5895d4df61e7997278f9f98fe71f891747ba0958bfddfc8"), looks := true }, kinds := [], alts := [], laidByText := true, laidKinds := [.data, .pinned], laidTests := true, laidLooks := .later }
def MachineWrapsCardSaid : Prop := Claim7.holds Tryz.pinned (.plain (OpenSpec.ofChange machineWrapsSpec)) machineWrapsCard

/-- THE TIED CARD OF 'enclavelaw20.MachineLeast'. -/
def machineLeastCard : Claim7 := { stood := { row := machineLeastRow, standIns := [], harness := (true, "e19047e29904f4a3a5895d4df61e7997278f9f98fe71f891747ba0958bfddfc8"), looks := true }, kinds := [], alts := [], laidByText := true, laidKinds := [.data, .pinned], laidTests := true, laidLooks := .later }
def MachineLeastCardSaid : Prop := Claim7.holds Tryz.pinned (.plain (OpenSpec.ofChange machineLeastSpec)) machineLeastCard

/-- THE SECOND FORM's CARD OF 'enclavelaw20.MachineIs'. -/
def machineIsUptoCard : Claim7 := { stood := { row := machineIsUptoRow, standIns := [], harness := (true, "e19047e29904f4a3a5895d4df61e7997278f9f98fe71f891747ba0958bfddfc8"), looks := true }, kinds := [], alts := [], laidByText := true, laidKinds := [.data, .pinned], laidTests := true, laidLooks := .later }
def MachineIsUptoCardSaid : Prop := Claim7.holds Tryz.pinned (.plain (OpenSpec.upto machineIsSpec)) machineIsUptoCard

/-- THE SECOND FORM's CARD OF 'enclavelaw20.MachineLets'. -/
def machineLetsUptoCard : Claim7 := { stood := { row := machineLetsUptoRow, standIns := [], harness := (true, "e19047e29904f4a3a5895d4df61e7997278f9f98fe71f891747ba0958bfddfc8"), looks := true }, kinds := [], alts := [], laidByText := true, laidKinds := [.data, .pinned], laidTests := true, laidLooks := .later }
def MachineLetsUptoCardSaid : Prop := Claim7.holds Tryz.pinned (.plain (OpenSpec.upto machineLetsSpec)) machineLetsUptoCard

/-- THE SECOND FORM's CARD OF 'enclavelaw20.MachineSafe'. -/
def machineSafeUptoCard : Claim7 := { stood := { row := machineSafeUptoRow, standIns := [], harness := (true, "e19047e29904f4a3a5895d4df61e7997278f9f98fe71f891747ba0958bfddfc8"), looks := true }, kinds := [], alts := [], laidByText := true, laidKinds := [.data, .pinned], laidTests := true, laidLooks := .later }
def MachineSafeUptoCardSaid : Prop := Claim7.holds Tryz.pinned (.plain (OpenSpec.upto machineSafeSpec)) machineSafeUptoCard

/-- THE SECOND FORM's CARD OF 'enclavelaw20.MachineLeaves'. -/
def machineLeavesUptoCard : Claim7 := { stood := { row := machineLeavesUptoRow, standIns := [], harness := (true, "e19047e29904f4a3a5895d4df61e7997278f9f98fe71f891747ba0958bfddfc8"), looks := true }, kinds := [], alts := [], laidByText := true, laidKinds := [.data, .pinned], laidTests := true, laidLooks := .later }
def MachineLeavesUptoCardSaid : Prop := Claim7.holds Tryz.pinned (.plain (OpenSpec.upto machineLeavesSpec)) machineLeavesUptoCard

/-- THE SECOND FORM's CARD OF 'enclavelaw20.MachineMore'. -/
def machineMoreUptoCard : Claim7 := { stood := { row := machineMoreUptoRow, standIns := [], harness := (true, "e19047e29904f4a3a5895d4df61e7997278f9f98fe71f891747ba0958bfddfc8"), looks := true }, kinds := [], alts := [], laidByText := true, laidKinds := [.data, .pinned], laidTests := true, laidLooks := .later }
def MachineMoreUptoCardSaid : Prop := Claim7.holds Tryz.pinned (.plain (OpenSpec.upto machineMoreSpec)) machineMoreUptoCard

/-- THE SECOND FORM's CARD OF 'enclavelaw20.MachineWraps'. -/
def machineWrapsUptoCard : Claim7 := { stood := { row := machineWrapsUptoRow, standIns := [], harness := (true, "e19047e29904f4a3a5895d4df61e7997278f9f98fe71f891747ba0958bfddfc8"), looks := true }, kinds := [], alts := [], laidByText := true, laidKinds := [.data, .pinned], laidTests := true, laidLooks := .later }
def MachineWrapsUptoCardSaid : Prop := Claim7.holds Tryz.pinned (.plain (OpenSpec.upto machineWrapsSpec)) machineWrapsUptoCard

/-- THE SECOND FORM's CARD OF 'enclavelaw20.MachineLeast'. -/
def machineLeastUptoCard : Claim7 := { stood := { row := machineLeastUptoRow, standIns := [], harness := (true, "e19047e29904f4a3a5895d4df61e7997278f9f98fe71f891747ba0958bfddfc8"), looks := true }, kinds := [], alts := [], laidByText := true, laidKinds := [.data, .pinned], laidTests := true, laidLooks := .later }
def MachineLeastUptoCardSaid : Prop := Claim7.holds Tryz.pinned (.plain (OpenSpec.upto machineLeastSpec)) machineLeastUptoCard
end Rows
end Go.Proofs.YtjilebpcaemopaaGreatDoor
