/-
  NARROWER THAN 'FOR EVERY INPUT', by the rows' own cells (each row's printed sentence says how): AtermMays: loops, laid · AtermErase: loops, laid · AtermNodes: loops, laid · AtermParts: loops, laid · AtermBinds: loops, laid · AtermSame: loops, laid.
  DERIVED. THE GIVEN ROWS OF THIS SEAT. 6 by the template 'for every input the law returns true; each argument reads behind the call as it read before'; 0 by the template 'total and deterministic' (their statements: YtpfaciflhhpokaaGreatDoorTotals.lean).
  GIVEN WITH THE SEED: the statements are not yours to turn. If you find one false, say at which input.
  Laid BY PROGRAM, IN A SANDBOX (cutbox-rows.mjs): the forced cells as the released guide's own fill.sh prints them over the translation 86c50b09c7f41558… (all of the seat's roots in one cut). By AI agents, Wed Nov 11 2026. No macro, syntax, notation, axiom, sorry.
-/
import Derived.Test.YtpfaciflhhpokaaGreatDoorChecked
import GoSem.PinnedTables
import GoSem.Claim
import GoSem.ClaimJoined
import GoSem.ClaimMapViews
import Derived.JoinedTies
import Derived.KernelRfl
namespace Go.Proofs.YtpfaciflhhpokaaGreatDoor
/- THE CELL 'sum', in the pinned program and in every row, IS THE sha256 OF THE DUMP (.gsa) THAT YtpfaciflhhpokaaGreatDoorProg.lean LOADS. Nothing in Lean hashes anything: it is a label: what it is worth is what the hold of that sum in a sandbox is worth. -/
noncomputable def Tryz.pinned : Pinned := { name := "ytpfaciflhhpokaagreatdoor", sum := "86c50b09c7f41558bdb025206bf01b92d645318c25003ee4d7ea2d0e1063f546", checked := Tryz.checked }
namespace Rows
def none {H : Type} : Left H := { results := [], args := [] }

/- WHAT THE LISTED PACKAGE-LEVEL VARIABLES READ AS WHEN THE CALL BEGINS. Each datum BY PROGRAM (the guide's laid-datum.mjs) off the statement by which the dump's own 'gosem.cut.vars' lays the variable. In a bare row this is a premise. The card (YtpfaciflhhpokaaGreatDoorCards.lean) ties it to the program's text. -/
def laid_unicode_utf8_acceptRanges {H : Type} : DataW H := .agg [.agg [.lit (.int .u8 128), .lit (.int .u8 191)], .agg [.lit (.int .u8 160), .lit (.int .u8 191)], .agg [.lit (.int .u8 128), .lit (.int .u8 159)], .agg [.lit (.int .u8 144), .lit (.int .u8 191)], .agg [.lit (.int .u8 128), .lit (.int .u8 143)], .agg [.lit (.int .u8 0), .lit (.int .u8 0)], .agg [.lit (.int .u8 0), .lit (.int .u8 0)], .agg [.lit (.int .u8 0), .lit (.int .u8 0)], .agg [.lit (.int .u8 0), .lit (.int .u8 0)], .agg [.lit (.int .u8 0), .lit (.int .u8 0)], .agg [.lit (.int .u8 0), .lit (.int .u8 0)], .agg [.lit (.int .u8 0), .lit (.int .u8 0)], .agg [.lit (.int .u8 0), .lit (.int .u8 0)], .agg [.lit (.int .u8 0), .lit (.int .u8 0)], .agg [.lit (.int .u8 0), .lit (.int .u8 0)], .agg [.lit (.int .u8 0), .lit (.int .u8 0)]]
/-- One of Go's own tables, pinned by name: the form's constant. -/
def laid_unicode_utf8_first : DataW Unit := Go.Pinned.utf8First

/-- 'enclavelaw13.AtermMays': WHATEVER THE INPUT: true; the input reads as it did. -/
def atermMaysSpec : ChangeSpec := { name := "atermMays", fn := fun _ => fun
  | [d] => { results := [.lit (.bool true)], args := [d] }
  | _ => none }
def atermMaysRow : OpenClaim := { program := "ytpfaciflhhpokaagreatdoor", sum := "86c50b09c7f41558bdb025206bf01b92d645318c25003ee4d7ea2d0e1063f546", func := "enclave/enclavelaw13.AtermMays", spec := "atermMays", inPlace := ["internal/bytealg.IndexByteString", "internal/bytealg.CountString", "internal/bytealg.IndexString"], unfollowed := true, recurses := true, named := ["unicode/utf8.first", "unicode/utf8.acceptRanges", "internal/bytealg.MaxLen"], loops := true, apart := false, laid := [("unicode/utf8.acceptRanges", laid_unicode_utf8_acceptRanges), ("unicode/utf8.first", laid_unicode_utf8_first)] }
def AtermMaysSaid : Prop := atermMaysRow.holds Tryz.pinned (OpenSpec.ofChange atermMaysSpec)

/-- ITS FALSE NEIGHBOUR: 'it returns false'. Refute it at one input. -/
def atermMaysWrong : ChangeSpec := { name := "atermMays", fn := fun _ => fun
  | [d] => { results := [.lit (.bool false)], args := [d] }
  | _ => none }
def AtermMaysWrongFalsely : Prop := atermMaysRow.holds Tryz.pinned (OpenSpec.ofChange atermMaysWrong)

/-- 'enclavelaw13.AtermErase': WHATEVER THE INPUT: true; the input reads as it did. -/
def atermEraseSpec : ChangeSpec := { name := "atermErase", fn := fun _ => fun
  | [d1, d2] => { results := [.lit (.bool true)], args := [d1, d2] }
  | _ => none }
def atermEraseRow : OpenClaim := { program := "ytpfaciflhhpokaagreatdoor", sum := "86c50b09c7f41558bdb025206bf01b92d645318c25003ee4d7ea2d0e1063f546", func := "enclave/enclavelaw13.AtermErase", spec := "atermErase", inPlace := ["internal/bytealg.IndexByteString", "internal/bytealg.CountString", "internal/bytealg.IndexString"], unfollowed := true, recurses := true, named := ["unicode/utf8.first", "unicode/utf8.acceptRanges", "internal/bytealg.MaxLen"], loops := true, apart := false, laid := [("unicode/utf8.acceptRanges", laid_unicode_utf8_acceptRanges), ("unicode/utf8.first", laid_unicode_utf8_first)] }
def AtermEraseSaid : Prop := atermEraseRow.holds Tryz.pinned (OpenSpec.ofChange atermEraseSpec)

/-- ITS FALSE NEIGHBOUR: 'it returns false'. Refute it at one input. -/
def atermEraseWrong : ChangeSpec := { name := "atermErase", fn := fun _ => fun
  | [d1, d2] => { results := [.lit (.bool false)], args := [d1, d2] }
  | _ => none }
def AtermEraseWrongFalsely : Prop := atermEraseRow.holds Tryz.pinned (OpenSpec.ofChange atermEraseWrong)

/-- 'enclavelaw13.AtermNodes': WHATEVER THE INPUT: true; the input reads as it did. -/
def atermNodesSpec : ChangeSpec := { name := "atermNodes", fn := fun _ => fun
  | [d] => { results := [.lit (.bool true)], args := [d] }
  | _ => none }
def atermNodesRow : OpenClaim := { program := "ytpfaciflhhpokaagreatdoor", sum := "86c50b09c7f41558bdb025206bf01b92d645318c25003ee4d7ea2d0e1063f546", func := "enclave/enclavelaw13.AtermNodes", spec := "atermNodes", inPlace := ["internal/bytealg.IndexByteString", "internal/bytealg.CountString", "internal/bytealg.IndexString"], unfollowed := true, recurses := true, named := ["unicode/utf8.first", "unicode/utf8.acceptRanges", "internal/bytealg.MaxLen"], loops := true, apart := false, laid := [("unicode/utf8.acceptRanges", laid_unicode_utf8_acceptRanges), ("unicode/utf8.first", laid_unicode_utf8_first)] }
def AtermNodesSaid : Prop := atermNodesRow.holds Tryz.pinned (OpenSpec.ofChange atermNodesSpec)

/-- ITS FALSE NEIGHBOUR: 'it returns false'. Refute it at one input. -/
def atermNodesWrong : ChangeSpec := { name := "atermNodes", fn := fun _ => fun
  | [d] => { results := [.lit (.bool false)], args := [d] }
  | _ => none }
def AtermNodesWrongFalsely : Prop := atermNodesRow.holds Tryz.pinned (OpenSpec.ofChange atermNodesWrong)

/-- 'enclavelaw13.AtermParts': WHATEVER THE INPUT: true; the input reads as it did. -/
def atermPartsSpec : ChangeSpec := { name := "atermParts", fn := fun _ => fun
  | [d] => { results := [.lit (.bool true)], args := [d] }
  | _ => none }
def atermPartsRow : OpenClaim := { program := "ytpfaciflhhpokaagreatdoor", sum := "86c50b09c7f41558bdb025206bf01b92d645318c25003ee4d7ea2d0e1063f546", func := "enclave/enclavelaw13.AtermParts", spec := "atermParts", inPlace := ["internal/bytealg.IndexByteString", "internal/bytealg.CountString", "internal/bytealg.IndexString"], unfollowed := true, recurses := true, named := ["unicode/utf8.first", "unicode/utf8.acceptRanges", "internal/bytealg.MaxLen"], loops := true, apart := false, laid := [("unicode/utf8.acceptRanges", laid_unicode_utf8_acceptRanges), ("unicode/utf8.first", laid_unicode_utf8_first)] }
def AtermPartsSaid : Prop := atermPartsRow.holds Tryz.pinned (OpenSpec.ofChange atermPartsSpec)

/-- ITS FALSE NEIGHBOUR: 'it returns false'. Refute it at one input. -/
def atermPartsWrong : ChangeSpec := { name := "atermParts", fn := fun _ => fun
  | [d] => { results := [.lit (.bool false)], args := [d] }
  | _ => none }
def AtermPartsWrongFalsely : Prop := atermPartsRow.holds Tryz.pinned (OpenSpec.ofChange atermPartsWrong)

/-- 'enclavelaw13.AtermBinds': WHATEVER THE INPUT: true; the input reads as it did. -/
def atermBindsSpec : ChangeSpec := { name := "atermBinds", fn := fun _ => fun
  | [d] => { results := [.lit (.bool true)], args := [d] }
  | _ => none }
def atermBindsRow : OpenClaim := { program := "ytpfaciflhhpokaagreatdoor", sum := "86c50b09c7f41558bdb025206bf01b92d645318c25003ee4d7ea2d0e1063f546", func := "enclave/enclavelaw13.AtermBinds", spec := "atermBinds", inPlace := ["internal/bytealg.IndexByteString", "internal/bytealg.CountString", "internal/bytealg.IndexString"], unfollowed := true, recurses := true, named := ["unicode/utf8.first", "unicode/utf8.acceptRanges", "internal/bytealg.MaxLen"], loops := true, apart := false, laid := [("unicode/utf8.acceptRanges", laid_unicode_utf8_acceptRanges), ("unicode/utf8.first", laid_unicode_utf8_first)] }
def AtermBindsSaid : Prop := atermBindsRow.holds Tryz.pinned (OpenSpec.ofChange atermBindsSpec)

/-- ITS FALSE NEIGHBOUR: 'it returns false'. Refute it at one input. -/
def atermBindsWrong : ChangeSpec := { name := "atermBinds", fn := fun _ => fun
  | [d] => { results := [.lit (.bool false)], args := [d] }
  | _ => none }
def AtermBindsWrongFalsely : Prop := atermBindsRow.holds Tryz.pinned (OpenSpec.ofChange atermBindsWrong)

/-- 'enclavelaw13.AtermSame': WHATEVER THE INPUT: true; the input reads as it did. -/
def atermSameSpec : ChangeSpec := { name := "atermSame", fn := fun _ => fun
  | [d1, d2] => { results := [.lit (.bool true)], args := [d1, d2] }
  | _ => none }
def atermSameRow : OpenClaim := { program := "ytpfaciflhhpokaagreatdoor", sum := "86c50b09c7f41558bdb025206bf01b92d645318c25003ee4d7ea2d0e1063f546", func := "enclave/enclavelaw13.AtermSame", spec := "atermSame", inPlace := ["internal/bytealg.IndexByteString", "internal/bytealg.CountString", "internal/bytealg.IndexString"], unfollowed := true, recurses := true, named := ["unicode/utf8.first", "unicode/utf8.acceptRanges", "internal/bytealg.MaxLen"], loops := true, apart := false, laid := [("unicode/utf8.acceptRanges", laid_unicode_utf8_acceptRanges), ("unicode/utf8.first", laid_unicode_utf8_first)] }
def AtermSameSaid : Prop := atermSameRow.holds Tryz.pinned (OpenSpec.ofChange atermSameSpec)

/-- ITS FALSE NEIGHBOUR: 'it returns false'. Refute it at one input. -/
def atermSameWrong : ChangeSpec := { name := "atermSame", fn := fun _ => fun
  | [d1, d2] => { results := [.lit (.bool false)], args := [d1, d2] }
  | _ => none }
def AtermSameWrongFalsely : Prop := atermSameRow.holds Tryz.pinned (OpenSpec.ofChange atermSameWrong)

/- THE SECOND FORM. 'bulk': how many values and letters a reading holds, each counted each time it is reached (what is shared counts as often as it is met; a slice's spare places count too). A statement '..UptoSaid' is the law's where the arguments, and the package variables that the reading takes, are together of bulk at most 1048576: NARROWER than '..Said'. Prove '..Said' where nothing that the law and all that it calls make is longer than what came in: it says more and counts as full. Else prove '..UptoSaid'. A law counts once. -/
mutual
def uptoBulk {H : Type} : DataW H → Nat
  | .lit (.string bytes) => bytes.length + 1
  | .lit _ => 1
  | .nil => 1
  | .ptr d => uptoBulk d + 1
  | .slice elems spare => uptoBulkAll elems + uptoBulkAll spare + 1
  | .agg parts => uptoBulkAll parts + 1
  | .iface _ d => uptoBulk d + 1
  | .map entries => uptoBulkEntries entries + 1
  | .held _ => 1
def uptoBulkAll {H : Type} : List (DataW H) → Nat
  | [] => 0
  | d :: r => uptoBulk d + uptoBulkAll r
def uptoBulkEntries {H : Type} : List (Lit × DataW H) → Nat
  | [] => 0
  | x :: r => uptoBulkEntry x + uptoBulkEntries r
def uptoBulkEntry {H : Type} : Lit × DataW H → Nat
  | (.string bytes, d) => bytes.length + uptoBulk d + 1
  | (_, d) => uptoBulk d + 1
 end
def uptoSmall : (H : Type) → List (DataW H) → Bool := fun _ ds => decide (uptoBulkAll ds ≤ 1048576)
def OpenSpec.upto (s : _root_.Go.ChangeSpec) : _root_.Go.OpenSpec := { _root_.Go.OpenSpec.ofChange s with cond := some uptoSmall }

/-- 'enclavelaw13.AtermMays', WHERE WHAT IT READS IS OF BULK AT MOST 1048576: true; the input reads as it did. -/
def atermMaysUptoRow : OpenClaim := { program := "ytpfaciflhhpokaagreatdoor", sum := "86c50b09c7f41558bdb025206bf01b92d645318c25003ee4d7ea2d0e1063f546", func := "enclave/enclavelaw13.AtermMays", spec := "atermMays", inPlace := ["internal/bytealg.IndexByteString", "internal/bytealg.CountString", "internal/bytealg.IndexString"], unfollowed := true, recurses := true, named := ["unicode/utf8.first", "unicode/utf8.acceptRanges", "internal/bytealg.MaxLen"], loops := true, apart := false, laid := [("unicode/utf8.acceptRanges", laid_unicode_utf8_acceptRanges), ("unicode/utf8.first", laid_unicode_utf8_first)], narrowed := true }
def AtermMaysUptoSaid : Prop := atermMaysUptoRow.holds Tryz.pinned (OpenSpec.upto atermMaysSpec)

/-- 'enclavelaw13.AtermErase', WHERE WHAT IT READS IS OF BULK AT MOST 1048576: true; the input reads as it did. -/
def atermEraseUptoRow : OpenClaim := { program := "ytpfaciflhhpokaagreatdoor", sum := "86c50b09c7f41558bdb025206bf01b92d645318c25003ee4d7ea2d0e1063f546", func := "enclave/enclavelaw13.AtermErase", spec := "atermErase", inPlace := ["internal/bytealg.IndexByteString", "internal/bytealg.CountString", "internal/bytealg.IndexString"], unfollowed := true, recurses := true, named := ["unicode/utf8.first", "unicode/utf8.acceptRanges", "internal/bytealg.MaxLen"], loops := true, apart := false, laid := [("unicode/utf8.acceptRanges", laid_unicode_utf8_acceptRanges), ("unicode/utf8.first", laid_unicode_utf8_first)], narrowed := true }
def AtermEraseUptoSaid : Prop := atermEraseUptoRow.holds Tryz.pinned (OpenSpec.upto atermEraseSpec)

/-- 'enclavelaw13.AtermNodes', WHERE WHAT IT READS IS OF BULK AT MOST 1048576: true; the input reads as it did. -/
def atermNodesUptoRow : OpenClaim := { program := "ytpfaciflhhpokaagreatdoor", sum := "86c50b09c7f41558bdb025206bf01b92d645318c25003ee4d7ea2d0e1063f546", func := "enclave/enclavelaw13.AtermNodes", spec := "atermNodes", inPlace := ["internal/bytealg.IndexByteString", "internal/bytealg.CountString", "internal/bytealg.IndexString"], unfollowed := true, recurses := true, named := ["unicode/utf8.first", "unicode/utf8.acceptRanges", "internal/bytealg.MaxLen"], loops := true, apart := false, laid := [("unicode/utf8.acceptRanges", laid_unicode_utf8_acceptRanges), ("unicode/utf8.first", laid_unicode_utf8_first)], narrowed := true }
def AtermNodesUptoSaid : Prop := atermNodesUptoRow.holds Tryz.pinned (OpenSpec.upto atermNodesSpec)

/-- 'enclavelaw13.AtermParts', WHERE WHAT IT READS IS OF BULK AT MOST 1048576: true; the input reads as it did. -/
def atermPartsUptoRow : OpenClaim := { program := "ytpfaciflhhpokaagreatdoor", sum := "86c50b09c7f41558bdb025206bf01b92d645318c25003ee4d7ea2d0e1063f546", func := "enclave/enclavelaw13.AtermParts", spec := "atermParts", inPlace := ["internal/bytealg.IndexByteString", "internal/bytealg.CountString", "internal/bytealg.IndexString"], unfollowed := true, recurses := true, named := ["unicode/utf8.first", "unicode/utf8.acceptRanges", "internal/bytealg.MaxLen"], loops := true, apart := false, laid := [("unicode/utf8.acceptRanges", laid_unicode_utf8_acceptRanges), ("unicode/utf8.first", laid_unicode_utf8_first)], narrowed := true }
def AtermPartsUptoSaid : Prop := atermPartsUptoRow.holds Tryz.pinned (OpenSpec.upto atermPartsSpec)

/-- 'enclavelaw13.AtermBinds', WHERE WHAT IT READS IS OF BULK AT MOST 1048576: true; the input reads as it did. -/
def atermBindsUptoRow : OpenClaim := { program := "ytpfaciflhhpokaagreatdoor", sum := "86c50b09c7f41558bdb025206bf01b92d645318c25003ee4d7ea2d0e1063f546", func := "enclave/enclavelaw13.AtermBinds", spec := "atermBinds", inPlace := ["internal/bytealg.IndexByteString", "internal/bytealg.CountString", "internal/bytealg.IndexString"], unfollowed := true, recurses := true, named := ["unicode/utf8.first", "unicode/utf8.acceptRanges", "internal/bytealg.MaxLen"], loops := true, apart := false, laid := [("unicode/utf8.acceptRanges", laid_unicode_utf8_acceptRanges), ("unicode/utf8.first", laid_unicode_utf8_first)], narrowed := true }
def AtermBindsUptoSaid : Prop := atermBindsUptoRow.holds Tryz.pinned (OpenSpec.upto atermBindsSpec)

/-- 'enclavelaw13.AtermSame', WHERE WHAT IT READS IS OF BULK AT MOST 1048576: true; the input reads as it did. -/
def atermSameUptoRow : OpenClaim := { program := "ytpfaciflhhpokaagreatdoor", sum := "86c50b09c7f41558bdb025206bf01b92d645318c25003ee4d7ea2d0e1063f546", func := "enclave/enclavelaw13.AtermSame", spec := "atermSame", inPlace := ["internal/bytealg.IndexByteString", "internal/bytealg.CountString", "internal/bytealg.IndexString"], unfollowed := true, recurses := true, named := ["unicode/utf8.first", "unicode/utf8.acceptRanges", "internal/bytealg.MaxLen"], loops := true, apart := false, laid := [("unicode/utf8.acceptRanges", laid_unicode_utf8_acceptRanges), ("unicode/utf8.first", laid_unicode_utf8_first)], narrowed := true }
def AtermSameUptoSaid : Prop := atermSameUptoRow.holds Tryz.pinned (OpenSpec.upto atermSameSpec)

end Rows
end Go.Proofs.YtpfaciflhhpokaaGreatDoor
