/-
  NARROWER THAN 'FOR EVERY INPUT', by the rows' own cells (each row's printed sentence says how): MachineIs: loops, laid · MachineLets: loops, laid · MachineSafe: loops, laid · MachineLeaves: loops, laid · MachineMore: loops, laid · MachineWraps: loops, laid · MachineLeast: loops, laid.
  DERIVED. THE GIVEN ROWS OF THIS SEAT. 7 by the template 'for every input the law returns true; each argument reads behind the call as it read before'; 0 by the template 'total and deterministic' (their statements: YtjilebpcaemopaaGreatDoorTotals.lean).
  GIVEN WITH THE SEED: the statements are not yours to turn. If you find one false, say at which input.
  Laid BY PROGRAM, IN A SANDBOX (cutbox-rows.mjs): the forced cells as the released guide's own fill.sh prints them over the translation ccf7b3099c2b91ae… (all of the seat's roots in one cut). By AI agents, Wed Nov 11 2026. No macro, syntax, notation, axiom, sorry.
-/
import Derived.Test.YtjilebpcaemopaaGreatDoorChecked
import GoSem.PinnedTables
import GoSem.Claim
import GoSem.ClaimJoined
import GoSem.ClaimMapViews
import Derived.JoinedTies
import Derived.KernelRfl
namespace Go.Proofs.YtjilebpcaemopaaGreatDoor
/- THE CELL 'sum', in the pinned program and in every row, IS THE sha256 OF THE DUMP (.gsa) THAT YtjilebpcaemopaaGreatDoorProg.lean LOADS. Nothing in Lean hashes anything: it is a label: what it is worth is what the hold of that sum in a sandbox is worth. -/
noncomputable def Tryz.pinned : Pinned := { name := "ytjilebpcaemopaagreatdoor", sum := "ccf7b3099c2b91ae0df8474ec13cd0db4135bad86201db6e21e983c3f364a831", checked := Tryz.checked }
namespace Rows
def none {H : Type} : Left H := { results := [], args := [] }

/- WHAT THE LISTED PACKAGE-LEVEL VARIABLES READ AS WHEN THE CALL BEGINS. Each datum BY PROGRAM (the guide's laid-datum.mjs) off the statement by which the dump's own 'gosem.cut.vars' lays the variable. In a bare row this is a premise. The card (YtjilebpcaemopaaGreatDoorCards.lean) ties it to the program's text. -/
def laid_unicode_utf8_acceptRanges {H : Type} : DataW H := .agg [.agg [.lit (.int .u8 128), .lit (.int .u8 191)], .agg [.lit (.int .u8 160), .lit (.int .u8 191)], .agg [.lit (.int .u8 128), .lit (.int .u8 159)], .agg [.lit (.int .u8 144), .lit (.int .u8 191)], .agg [.lit (.int .u8 128), .lit (.int .u8 143)], .agg [.lit (.int .u8 0), .lit (.int .u8 0)], .agg [.lit (.int .u8 0), .lit (.int .u8 0)], .agg [.lit (.int .u8 0), .lit (.int .u8 0)], .agg [.lit (.int .u8 0), .lit (.int .u8 0)], .agg [.lit (.int .u8 0), .lit (.int .u8 0)], .agg [.lit (.int .u8 0), .lit (.int .u8 0)], .agg [.lit (.int .u8 0), .lit (.int .u8 0)], .agg [.lit (.int .u8 0), .lit (.int .u8 0)], .agg [.lit (.int .u8 0), .lit (.int .u8 0)], .agg [.lit (.int .u8 0), .lit (.int .u8 0)], .agg [.lit (.int .u8 0), .lit (.int .u8 0)]]
/-- One of Go's own tables, pinned by name: the form's constant. -/
def laid_unicode_utf8_first : DataW Unit := Go.Pinned.utf8First

/-- 'enclavelaw20.MachineIs': WHATEVER THE INPUT: true; the input reads as it did. -/
def machineIsSpec : ChangeSpec := { name := "machineIs", fn := fun _ => fun
  | [d1, d2, d3] => { results := [.lit (.bool true)], args := [d1, d2, d3] }
  | _ => none }
def machineIsRow : OpenClaim := { program := "ytjilebpcaemopaagreatdoor", sum := "ccf7b3099c2b91ae0df8474ec13cd0db4135bad86201db6e21e983c3f364a831", func := "enclave/enclavelaw20.MachineIs", spec := "machineIs", inPlace := ["internal/bytealg.IndexByteString", "internal/bytealg.CountString", "internal/bytealg.IndexString"], unfollowed := true, recurses := true, named := ["unicode/utf8.first", "unicode/utf8.acceptRanges", "internal/bytealg.MaxLen"], loops := true, apart := false, laid := [("unicode/utf8.acceptRanges", laid_unicode_utf8_acceptRanges), ("unicode/utf8.first", laid_unicode_utf8_first)] }
def MachineIsSaid : Prop := machineIsRow.holds Tryz.pinned (OpenSpec.ofChange machineIsSpec)

/-- ITS FALSE NEIGHBOUR: 'it returns false'. Refute it at one input. -/
def machineIsWrong : ChangeSpec := { name := "machineIs", fn := fun _ => fun
  | [d1, d2, d3] => { results := [.lit (.bool false)], args := [d1, d2, d3] }
  | _ => none }
def MachineIsWrongFalsely : Prop := machineIsRow.holds Tryz.pinned (OpenSpec.ofChange machineIsWrong)

/-- 'enclavelaw20.MachineLets': WHATEVER THE INPUT: true; the input reads as it did. -/
def machineLetsSpec : ChangeSpec := { name := "machineLets", fn := fun _ => fun
  | [d1, d2, d3] => { results := [.lit (.bool true)], args := [d1, d2, d3] }
  | _ => none }
def machineLetsRow : OpenClaim := { program := "ytjilebpcaemopaagreatdoor", sum := "ccf7b3099c2b91ae0df8474ec13cd0db4135bad86201db6e21e983c3f364a831", func := "enclave/enclavelaw20.MachineLets", spec := "machineLets", inPlace := ["internal/bytealg.IndexByteString", "internal/bytealg.CountString", "internal/bytealg.IndexString"], unfollowed := true, recurses := true, named := ["unicode/utf8.first", "unicode/utf8.acceptRanges", "internal/bytealg.MaxLen"], loops := true, apart := false, laid := [("unicode/utf8.acceptRanges", laid_unicode_utf8_acceptRanges), ("unicode/utf8.first", laid_unicode_utf8_first)] }
def MachineLetsSaid : Prop := machineLetsRow.holds Tryz.pinned (OpenSpec.ofChange machineLetsSpec)

/-- ITS FALSE NEIGHBOUR: 'it returns false'. Refute it at one input. -/
def machineLetsWrong : ChangeSpec := { name := "machineLets", fn := fun _ => fun
  | [d1, d2, d3] => { results := [.lit (.bool false)], args := [d1, d2, d3] }
  | _ => none }
def MachineLetsWrongFalsely : Prop := machineLetsRow.holds Tryz.pinned (OpenSpec.ofChange machineLetsWrong)

/-- 'enclavelaw20.MachineSafe': WHATEVER THE INPUT: true; the input reads as it did. -/
def machineSafeSpec : ChangeSpec := { name := "machineSafe", fn := fun _ => fun
  | [d1, d2, d3] => { results := [.lit (.bool true)], args := [d1, d2, d3] }
  | _ => none }
def machineSafeRow : OpenClaim := { program := "ytjilebpcaemopaagreatdoor", sum := "ccf7b3099c2b91ae0df8474ec13cd0db4135bad86201db6e21e983c3f364a831", func := "enclave/enclavelaw20.MachineSafe", spec := "machineSafe", inPlace := ["internal/bytealg.IndexByteString", "internal/bytealg.CountString", "internal/bytealg.IndexString"], unfollowed := true, recurses := true, named := ["unicode/utf8.first", "unicode/utf8.acceptRanges", "internal/bytealg.MaxLen"], loops := true, apart := false, laid := [("unicode/utf8.acceptRanges", laid_unicode_utf8_acceptRanges), ("unicode/utf8.first", laid_unicode_utf8_first)] }
def MachineSafeSaid : Prop := machineSafeRow.holds Tryz.pinned (OpenSpec.ofChange machineSafeSpec)

/-- ITS FALSE NEIGHBOUR: 'it returns false'. Refute it at one input. -/
def machineSafeWrong : ChangeSpec := { name := "machineSafe", fn := fun _ => fun
  | [d1, d2, d3] => { results := [.lit (.bool false)], args := [d1, d2, d3] }
  | _ => none }
def MachineSafeWrongFalsely : Prop := machineSafeRow.holds Tryz.pinned (OpenSpec.ofChange machineSafeWrong)

/-- 'enclavelaw20.MachineLeaves': WHATEVER THE INPUT: true; the input reads as it did. -/
def machineLeavesSpec : ChangeSpec := { name := "machineLeaves", fn := fun _ => fun
  | [d1, d2, d3] => { results := [.lit (.bool true)], args := [d1, d2, d3] }
  | _ => none }
def machineLeavesRow : OpenClaim := { program := "ytjilebpcaemopaagreatdoor", sum := "ccf7b3099c2b91ae0df8474ec13cd0db4135bad86201db6e21e983c3f364a831", func := "enclave/enclavelaw20.MachineLeaves", spec := "machineLeaves", inPlace := ["internal/bytealg.IndexByteString", "internal/bytealg.CountString", "internal/bytealg.IndexString"], unfollowed := true, recurses := true, named := ["unicode/utf8.first", "unicode/utf8.acceptRanges", "internal/bytealg.MaxLen"], loops := true, apart := false, laid := [("unicode/utf8.acceptRanges", laid_unicode_utf8_acceptRanges), ("unicode/utf8.first", laid_unicode_utf8_first)] }
def MachineLeavesSaid : Prop := machineLeavesRow.holds Tryz.pinned (OpenSpec.ofChange machineLeavesSpec)

/-- ITS FALSE NEIGHBOUR: 'it returns false'. Refute it at one input. -/
def machineLeavesWrong : ChangeSpec := { name := "machineLeaves", fn := fun _ => fun
  | [d1, d2, d3] => { results := [.lit (.bool false)], args := [d1, d2, d3] }
  | _ => none }
def MachineLeavesWrongFalsely : Prop := machineLeavesRow.holds Tryz.pinned (OpenSpec.ofChange machineLeavesWrong)

/-- 'enclavelaw20.MachineMore': WHATEVER THE INPUT: true; the input reads as it did. -/
def machineMoreSpec : ChangeSpec := { name := "machineMore", fn := fun _ => fun
  | [d1, d2, d3, d4, d5, d6] => { results := [.lit (.bool true)], args := [d1, d2, d3, d4, d5, d6] }
  | _ => none }
def machineMoreRow : OpenClaim := { program := "ytjilebpcaemopaagreatdoor", sum := "ccf7b3099c2b91ae0df8474ec13cd0db4135bad86201db6e21e983c3f364a831", func := "enclave/enclavelaw20.MachineMore", spec := "machineMore", inPlace := ["internal/bytealg.IndexByteString", "internal/bytealg.CountString", "internal/bytealg.IndexString"], unfollowed := true, recurses := true, named := ["unicode/utf8.first", "unicode/utf8.acceptRanges", "internal/bytealg.MaxLen"], loops := true, apart := false, laid := [("unicode/utf8.acceptRanges", laid_unicode_utf8_acceptRanges), ("unicode/utf8.first", laid_unicode_utf8_first)] }
def MachineMoreSaid : Prop := machineMoreRow.holds Tryz.pinned (OpenSpec.ofChange machineMoreSpec)

/-- ITS FALSE NEIGHBOUR: 'it returns false'. Refute it at one input. -/
def machineMoreWrong : ChangeSpec := { name := "machineMore", fn := fun _ => fun
  | [d1, d2, d3, d4, d5, d6] => { results := [.lit (.bool false)], args := [d1, d2, d3, d4, d5, d6] }
  | _ => none }
def MachineMoreWrongFalsely : Prop := machineMoreRow.holds Tryz.pinned (OpenSpec.ofChange machineMoreWrong)

/-- 'enclavelaw20.MachineWraps': WHATEVER THE INPUT: true; the input reads as it did. -/
def machineWrapsSpec : ChangeSpec := { name := "machineWraps", fn := fun _ => fun
  | [d1, d2, d3, d4] => { results := [.lit (.bool true)], args := [d1, d2, d3, d4] }
  | _ => none }
def machineWrapsRow : OpenClaim := { program := "ytjilebpcaemopaagreatdoor", sum := "ccf7b3099c2b91ae0df8474ec13cd0db4135bad86201db6e21e983c3f364a831", func := "enclave/enclavelaw20.MachineWraps", spec := "machineWraps", inPlace := ["internal/bytealg.IndexByteString", "internal/bytealg.CountString", "internal/bytealg.IndexString"], unfollowed := true, recurses := true, named := ["unicode/utf8.first", "unicode/utf8.acceptRanges", "internal/bytealg.MaxLen"], loops := true, apart := false, laid := [("unicode/utf8.acceptRanges", laid_unicode_utf8_acceptRanges), ("unicode/utf8.first", laid_unicode_utf8_first)] }
def MachineWrapsSaid : Prop := machineWrapsRow.holds Tryz.pinned (OpenSpec.ofChange machineWrapsSpec)

/-- ITS FALSE NEIGHBOUR: 'it returns false'. Refute it at one input. -/
def machineWrapsWrong : ChangeSpec := { name := "machineWraps", fn := fun _ => fun
  | [d1, d2, d3, d4] => { results := [.lit (.bool false)], args := [d1, d2, d3, d4] }
  | _ => none }
def MachineWrapsWrongFalsely : Prop := machineWrapsRow.holds Tryz.pinned (OpenSpec.ofChange machineWrapsWrong)

/-- 'enclavelaw20.MachineLeast': WHATEVER THE INPUT: true; the input reads as it did. -/
def machineLeastSpec : ChangeSpec := { name := "machineLeast", fn := fun _ => fun
  | [d1, d2, d3] => { results := [.lit (.bool true)], args := [d1, d2, d3] }
  | _ => none }
def machineLeastRow : OpenClaim := { program := "ytjilebpcaemopaagreatdoor", sum := "ccf7b3099c2b91ae0df8474ec13cd0db4135bad86201db6e21e983c3f364a831", func := "enclave/enclavelaw20.MachineLeast", spec := "machineLeast", inPlace := ["internal/bytealg.IndexByteString", "internal/bytealg.CountString", "internal/bytealg.IndexString"], unfollowed := true, recurses := true, named := ["unicode/utf8.first", "unicode/utf8.acceptRanges", "internal/bytealg.MaxLen"], loops := true, apart := false, laid := [("unicode/utf8.acceptRanges", laid_unicode_utf8_acceptRanges), ("unicode/utf8.first", laid_unicode_utf8_first)] }
def MachineLeastSaid : Prop := machineLeastRow.holds Tryz.pinned (OpenSpec.ofChange machineLeastSpec)

/-- ITS FALSE NEIGHBOUR: 'it returns false'. Refute it at one input. -/
def machineLeastWrong : ChangeSpec := { name := "machineLeast", fn := fun _ => fun
  | [d1, d2, d3] => { results := [.lit (.bool false)], args := [d1, d2, d3] }
  | _ => none }
def MachineLeastWrongFalsely : Prop := machineLeastRow.holds Tryz.pinned (OpenSpec.ofChange machineLeastWrong)

/- THE SECOND FORM. 'bulk': how many values and letters a reading holds, each counted each time it is reached (what is shared counts as often as it is met; a slice's spare places count too). A statement '..UptoSaid' is the law's where the arguments, and the package variables that the reading takes, are together of bulk at most 1048576: NARROWER than '..Said'. Prove '..Said' where nothing that the law and all that it calls make is longer than what came in: it says more and counts as full. Else prove '..UptoSaid'. A law counts once. -/
mutual
def uptoBulk {H : Type} : DataW H → Nat
  | .lit (.string bytes) => bytes.length + 1
  | .lit _ => 1
  | .nil => 1
  | .ptr d => uptoBulk d + 1
  | .slice elems spare => uptoBulkAll elems + uptoBulkAll spare + 1
  | .agg parts => uptoBulkAll parts + 1
  | .iface _ d => uptoBulk d + 1
  | .map entries => uptoBulkEntries entries + 1
  | .held _ => 1
def uptoBulkAll {H : Type} : List (DataW H) → Nat
  | [] => 0
  | d :: r => uptoBulk d + uptoBulkAll r
def uptoBulkEntries {H : Type} : List (Lit × DataW H) → Nat
  | [] => 0
  | x :: r => uptoBulkEntry x + uptoBulkEntries r
def uptoBulkEntry {H : Type} : Lit × DataW H → Nat
  | (.string bytes, d) => bytes.length + uptoBulk d + 1
  | (_, d) => uptoBulk d + 1
 end
def uptoSmall : (H : Type) → List (DataW H) → Bool := fun _ ds => decide (uptoBulkAll ds ≤ 1048576)
def OpenSpec.upto (s : _root_.Go.ChangeSpec) : _root_.Go.OpenSpec := { _root_.Go.OpenSpec.ofChange s with cond := some uptoSmall }

/-- 'enclavelaw20.MachineIs', WHERE WHAT IT READS IS OF BULK AT MOST 1048576: true; the input reads as it did. -/
def machineIsUptoRow : OpenClaim := { program := "ytjilebpcaemopaagreatdoor", sum := "ccf7b3099c2b91ae0df8474ec13cd0db4135bad86201db6e21e983c3f364a831", func := "enclave/enclavelaw20.MachineIs", spec := "machineIs", inPlace := ["internal/bytealg.IndexByteString", "internal/bytealg.CountString", "internal/bytealg.IndexString"], unfollowed := true, recurses := true, named := ["unicode/utf8.first", "unicode/utf8.acceptRanges", "internal/bytealg.MaxLen"], loops := true, apart := false, laid := [("unicode/utf8.acceptRanges", laid_unicode_utf8_acceptRanges), ("unicode/utf8.first", laid_unicode_utf8_first)], narrowed := true }
def MachineIsUptoSaid : Prop := machineIsUptoRow.holds Tryz.pinned (OpenSpec.upto machineIsSpec)

/-- 'enclavelaw20.MachineLets', WHERE WHAT IT READS IS OF BULK AT MOST 1048576: true; the input reads as it did. -/
def machineLetsUptoRow : OpenClaim := { program := "ytjilebpcaemopaagreatdoor", sum := "ccf7b3099c2b91ae0df8474ec13cd0db4135bad86201db6e21e983c3f364a831", func := "enclave/enclavelaw20.MachineLets", spec := "machineLets", inPlace := ["internal/bytealg.IndexByteString", "internal/bytealg.CountString", "internal/bytealg.IndexString"], unfollowed := true, recurses := true, named := ["unicode/utf8.first", "unicode/utf8.acceptRanges", "internal/bytealg.MaxLen"], loops := true, apart := false, laid := [("unicode/utf8.acceptRanges", laid_unicode_utf8_acceptRanges), ("unicode/utf8.first", laid_unicode_utf8_first)], narrowed := true }
def MachineLetsUptoSaid : Prop := machineLetsUptoRow.holds Tryz.pinned (OpenSpec.upto machineLetsSpec)

/-- 'enclavelaw20.MachineSafe', WHERE WHAT IT READS IS OF BULK AT MOST 1048576: true; the input reads as it did. -/
def machineSafeUptoRow : OpenClaim := { program := "ytjilebpcaemopaagreatdoor", sum := "ccf7b3099c2b91ae0df8474ec13cd0db4135bad86201db6e21e983c3f364a831", func := "enclave/enclavelaw20.MachineSafe", spec := "machineSafe", inPlace := ["internal/bytealg.IndexByteString", "internal/bytealg.CountString", "internal/bytealg.IndexString"], unfollowed := true, recurses := true, named := ["unicode/utf8.first", "unicode/utf8.acceptRanges", "internal/bytealg.MaxLen"], loops := true, apart := false, laid := [("unicode/utf8.acceptRanges", laid_unicode_utf8_acceptRanges), ("unicode/utf8.first", laid_unicode_utf8_first)], narrowed := true }
def MachineSafeUptoSaid : Prop := machineSafeUptoRow.holds Tryz.pinned (OpenSpec.upto machineSafeSpec)

/-- 'enclavelaw20.MachineLeaves', WHERE WHAT IT READS IS OF BULK AT MOST 1048576: true; the input reads as it did. -/
def machineLeavesUptoRow : OpenClaim := { program := "ytjilebpcaemopaagreatdoor", sum := "ccf7b3099c2b91ae0df8474ec13cd0db4135bad86201db6e21e983c3f364a831", func := "enclave/enclavelaw20.MachineLeaves", spec := "machineLeaves", inPlace := ["internal/bytealg.IndexByteString", "internal/bytealg.CountString", "internal/bytealg.IndexString"], unfollowed := true, recurses := true, named := ["unicode/utf8.first", "unicode/utf8.acceptRanges", "internal/bytealg.MaxLen"], loops := true, apart := false, laid := [("unicode/utf8.acceptRanges", laid_unicode_utf8_acceptRanges), ("unicode/utf8.first", laid_unicode_utf8_first)], narrowed := true }
def MachineLeavesUptoSaid : Prop := machineLeavesUptoRow.holds Tryz.pinned (OpenSpec.upto machineLeavesSpec)

/-- 'enclavelaw20.MachineMore', WHERE WHAT IT READS IS OF BULK AT MOST 1048576: true; the input reads as it did. -/
def machineMoreUptoRow : OpenClaim := { program := "ytjilebpcaemopaagreatdoor", sum := "ccf7b3099c2b91ae0df8474ec13cd0db4135bad86201db6e21e983c3f364a831", func := "enclave/enclavelaw20.MachineMore", spec := "machineMore", inPlace := ["internal/bytealg.IndexByteString", "internal/bytealg.CountString", "internal/bytealg.IndexString"], unfollowed := true, recurses := true, named := ["unicode/utf8.first", "unicode/utf8.acceptRanges", "internal/bytealg.MaxLen"], loops := true, apart := false, laid := [("unicode/utf8.acceptRanges", laid_unicode_utf8_acceptRanges), ("unicode/utf8.first", laid_unicode_utf8_first)], narrowed := true }
def MachineMoreUptoSaid : Prop := machineMoreUptoRow.holds Tryz.pinned (OpenSpec.upto machineMoreSpec)

/-- 'enclavelaw20.MachineWraps', WHERE WHAT IT READS IS OF BULK AT MOST 1048576: true; the input reads as it did. -/
def machineWrapsUptoRow : OpenClaim := { program := "ytjilebpcaemopaagreatdoor", sum := "ccf7b3099c2b91ae0df8474ec13cd0db4135bad86201db6e21e983c3f364a831", func := "enclave/enclavelaw20.MachineWraps", spec := "machineWraps", inPlace := ["internal/bytealg.IndexByteString", "internal/bytealg.CountString", "internal/bytealg.IndexString"], unfollowed := true, recurses := true, named := ["unicode/utf8.first", "unicode/utf8.acceptRanges", "internal/bytealg.MaxLen"], loops := true, apart := false, laid := [("unicode/utf8.acceptRanges", laid_unicode_utf8_acceptRanges), ("unicode/utf8.first", laid_unicode_utf8_first)], narrowed := true }
def MachineWrapsUptoSaid : Prop := machineWrapsUptoRow.holds Tryz.pinned (OpenSpec.upto machineWrapsSpec)

/-- 'enclavelaw20.MachineLeast', WHERE WHAT IT READS IS OF BULK AT MOST 1048576: true; the input reads as it did. -/
def machineLeastUptoRow : OpenClaim := { program := "ytjilebpcaemopaagreatdoor", sum := "ccf7b3099c2b91ae0df8474ec13cd0db4135bad86201db6e21e983c3f364a831", func := "enclave/enclavelaw20.MachineLeast", spec := "machineLeast", inPlace := ["internal/bytealg.IndexByteString", "internal/bytealg.CountString", "internal/bytealg.IndexString"], unfollowed := true, recurses := true, named := ["unicode/utf8.first", "unicode/utf8.acceptRanges", "internal/bytealg.MaxLen"], loops := true, apart := false, laid := [("unicode/utf8.acceptRanges", laid_unicode_utf8_acceptRanges), ("unicode/utf8.first", laid_unicode_utf8_first)], narrowed := true }
def MachineLeastUptoSaid : Prop := machineLeastUptoRow.holds Tryz.pinned (OpenSpec.upto machineLeastSpec)

end Rows
end Go.Proofs.YtjilebpcaemopaaGreatDoor
