/-
  No cell of these rows narrows 'for every input' (looked for: loops, veiled, ifaces, maps, wideKeys, modest, calm, conditions, laid).
  DERIVED. THE GIVEN ROWS OF THIS SEAT. 5 by the template 'for every input the law returns true; each argument reads behind the call as it read before'; 0 by the template 'total and deterministic' (their statements: YtjilebpcaemopaaGreatTotals.lean).
  GIVEN WITH THE SEED: the statements are not yours to turn. If you find one false, say at which input.
  Laid BY PROGRAM, IN A SANDBOX (cutbox-rows.mjs): the forced cells as the released guide's own fill.sh prints them over the translation 41e8fed9062ca688… (all of the seat's roots in one cut). By AI agents, Wed Nov 11 2026. No macro, syntax, notation, axiom, sorry.
-/
import Derived.Test.YtjilebpcaemopaaGreatChecked
import GoSem.Claim
import GoSem.ClaimJoined
import GoSem.ClaimMapViews
import Derived.JoinedTies
import Derived.KernelRfl
namespace Go.Proofs.YtjilebpcaemopaaGreat
/- THE CELL 'sum', in the pinned program and in every row, IS THE sha256 OF THE DUMP (.gsa) THAT YtjilebpcaemopaaGreatProg.lean LOADS. Nothing in Lean hashes anything: it is a label: what it is worth is what the hold of that sum in a sandbox is worth. -/
noncomputable def Tryz.pinned : Pinned := { name := "ytjilebpcaemopaagreat", sum := "41e8fed9062ca68898fb85cd68282d02f5a1a39ba17e66f4fa84e6b9f8818ee2", checked := Tryz.checked }
namespace Rows
def none {H : Type} : Left H := { results := [], args := [] }

/-- 'enclavelaw16.BasisTurns': WHATEVER THE INPUT: true; the input reads as it did. -/
def basisTurnsSpec : ChangeSpec := { name := "basisTurns", fn := fun _ => fun
  | [d1, d2, d3] => { results := [.lit (.bool true)], args := [d1, d2, d3] }
  | _ => none }
def basisTurnsRow : OpenClaim := { program := "ytjilebpcaemopaagreat", sum := "41e8fed9062ca68898fb85cd68282d02f5a1a39ba17e66f4fa84e6b9f8818ee2", func := "enclave/enclavelaw16.BasisTurns", spec := "basisTurns", inPlace := ["internal/bytealg.IndexByteString"], unfollowed := true, recurses := true, apart := false }
def BasisTurnsSaid : Prop := basisTurnsRow.holds Tryz.pinned (OpenSpec.ofChange basisTurnsSpec)

/-- ITS FALSE NEIGHBOUR: 'it returns false'. Refute it at one input. -/
def basisTurnsWrong : ChangeSpec := { name := "basisTurns", fn := fun _ => fun
  | [d1, d2, d3] => { results := [.lit (.bool false)], args := [d1, d2, d3] }
  | _ => none }
def BasisTurnsWrongFalsely : Prop := basisTurnsRow.holds Tryz.pinned (OpenSpec.ofChange basisTurnsWrong)

/-- 'enclavelaw16.BasisComes': WHATEVER THE INPUT: true; the input reads as it did. -/
def basisComesSpec : ChangeSpec := { name := "basisComes", fn := fun _ => fun
  | [d1, d2] => { results := [.lit (.bool true)], args := [d1, d2] }
  | _ => none }
def basisComesRow : OpenClaim := { program := "ytjilebpcaemopaagreat", sum := "41e8fed9062ca68898fb85cd68282d02f5a1a39ba17e66f4fa84e6b9f8818ee2", func := "enclave/enclavelaw16.BasisComes", spec := "basisComes", inPlace := ["internal/bytealg.IndexByteString"], unfollowed := true, recurses := true, apart := false }
def BasisComesSaid : Prop := basisComesRow.holds Tryz.pinned (OpenSpec.ofChange basisComesSpec)

/-- ITS FALSE NEIGHBOUR: 'it returns false'. Refute it at one input. -/
def basisComesWrong : ChangeSpec := { name := "basisComes", fn := fun _ => fun
  | [d1, d2] => { results := [.lit (.bool false)], args := [d1, d2] }
  | _ => none }
def BasisComesWrongFalsely : Prop := basisComesRow.holds Tryz.pinned (OpenSpec.ofChange basisComesWrong)

/-- 'enclavelaw16.BasisPlays': WHATEVER THE INPUT: true; the input reads as it did. -/
def basisPlaysSpec : ChangeSpec := { name := "basisPlays", fn := fun _ => fun
  | [d1, d2, d3, d4] => { results := [.lit (.bool true)], args := [d1, d2, d3, d4] }
  | _ => none }
def basisPlaysRow : OpenClaim := { program := "ytjilebpcaemopaagreat", sum := "41e8fed9062ca68898fb85cd68282d02f5a1a39ba17e66f4fa84e6b9f8818ee2", func := "enclave/enclavelaw16.BasisPlays", spec := "basisPlays", inPlace := ["internal/bytealg.IndexByteString"], unfollowed := true, recurses := true, apart := false }
def BasisPlaysSaid : Prop := basisPlaysRow.holds Tryz.pinned (OpenSpec.ofChange basisPlaysSpec)

/-- ITS FALSE NEIGHBOUR: 'it returns false'. Refute it at one input. -/
def basisPlaysWrong : ChangeSpec := { name := "basisPlays", fn := fun _ => fun
  | [d1, d2, d3, d4] => { results := [.lit (.bool false)], args := [d1, d2, d3, d4] }
  | _ => none }
def BasisPlaysWrongFalsely : Prop := basisPlaysRow.holds Tryz.pinned (OpenSpec.ofChange basisPlaysWrong)

/-- 'enclavelaw16.BasisCopies': WHATEVER THE INPUT: true; the input reads as it did. -/
def basisCopiesSpec : ChangeSpec := { name := "basisCopies", fn := fun _ => fun
  | [d1, d2, d3, d4] => { results := [.lit (.bool true)], args := [d1, d2, d3, d4] }
  | _ => none }
def basisCopiesRow : OpenClaim := { program := "ytjilebpcaemopaagreat", sum := "41e8fed9062ca68898fb85cd68282d02f5a1a39ba17e66f4fa84e6b9f8818ee2", func := "enclave/enclavelaw16.BasisCopies", spec := "basisCopies", inPlace := ["internal/bytealg.IndexByteString"], unfollowed := true, recurses := true, apart := false }
def BasisCopiesSaid : Prop := basisCopiesRow.holds Tryz.pinned (OpenSpec.ofChange basisCopiesSpec)

/-- ITS FALSE NEIGHBOUR: 'it returns false'. Refute it at one input. -/
def basisCopiesWrong : ChangeSpec := { name := "basisCopies", fn := fun _ => fun
  | [d1, d2, d3, d4] => { results := [.lit (.bool false)], args := [d1, d2, d3, d4] }
  | _ => none }
def BasisCopiesWrongFalsely : Prop := basisCopiesRow.holds Tryz.pinned (OpenSpec.ofChange basisCopiesWrong)

/-- 'enclavelaw16.BasisNil': WHATEVER THE INPUT: true; the input reads as it did. -/
def basisNilSpec : ChangeSpec := { name := "basisNil", fn := fun _ => fun
  | [d1, d2] => { results := [.lit (.bool true)], args := [d1, d2] }
  | _ => none }
def basisNilRow : OpenClaim := { program := "ytjilebpcaemopaagreat", sum := "41e8fed9062ca68898fb85cd68282d02f5a1a39ba17e66f4fa84e6b9f8818ee2", func := "enclave/enclavelaw16.BasisNil", spec := "basisNil", inPlace := ["internal/bytealg.IndexByteString"], unfollowed := true, recurses := true, apart := false }
def BasisNilSaid : Prop := basisNilRow.holds Tryz.pinned (OpenSpec.ofChange basisNilSpec)

/-- ITS FALSE NEIGHBOUR: 'it returns false'. Refute it at one input. -/
def basisNilWrong : ChangeSpec := { name := "basisNil", fn := fun _ => fun
  | [d1, d2] => { results := [.lit (.bool false)], args := [d1, d2] }
  | _ => none }
def BasisNilWrongFalsely : Prop := basisNilRow.holds Tryz.pinned (OpenSpec.ofChange basisNilWrong)

/- THE SECOND FORM. 'bulk': how many values and letters a reading holds, each counted each time it is reached (what is shared counts as often as it is met; a slice's spare places count too). A statement '..UptoSaid' is the law's where the arguments, and the package variables that the reading takes, are together of bulk at most 1048576: NARROWER than '..Said'. Prove '..Said' where nothing that the law and all that it calls make is longer than what came in: it says more and counts as full. Else prove '..UptoSaid'. A law counts once. -/
mutual
def uptoBulk {H : Type} : DataW H → Nat
  | .lit (.string bytes) => bytes.length + 1
  | .lit _ => 1
  | .nil => 1
  | .ptr d => uptoBulk d + 1
  | .slice elems spare => uptoBulkAll elems + uptoBulkAll spare + 1
  | .agg parts => uptoBulkAll parts + 1
  | .iface _ d => uptoBulk d + 1
  | .map entries => uptoBulkEntries entries + 1
  | .held _ => 1
def uptoBulkAll {H : Type} : List (DataW H) → Nat
  | [] => 0
  | d :: r => uptoBulk d + uptoBulkAll r
def uptoBulkEntries {H : Type} : List (Lit × DataW H) → Nat
  | [] => 0
  | x :: r => uptoBulkEntry x + uptoBulkEntries r
def uptoBulkEntry {H : Type} : Lit × DataW H → Nat
  | (.string bytes, d) => bytes.length + uptoBulk d + 1
  | (_, d) => uptoBulk d + 1
 end
def uptoSmall : (H : Type) → List (DataW H) → Bool := fun _ ds => decide (uptoBulkAll ds ≤ 1048576)
def OpenSpec.upto (s : _root_.Go.ChangeSpec) : _root_.Go.OpenSpec := { _root_.Go.OpenSpec.ofChange s with cond := some uptoSmall }

/-- 'enclavelaw16.BasisTurns', WHERE WHAT IT READS IS OF BULK AT MOST 1048576: true; the input reads as it did. -/
def basisTurnsUptoRow : OpenClaim := { program := "ytjilebpcaemopaagreat", sum := "41e8fed9062ca68898fb85cd68282d02f5a1a39ba17e66f4fa84e6b9f8818ee2", func := "enclave/enclavelaw16.BasisTurns", spec := "basisTurns", inPlace := ["internal/bytealg.IndexByteString"], unfollowed := true, recurses := true, apart := false, narrowed := true }
def BasisTurnsUptoSaid : Prop := basisTurnsUptoRow.holds Tryz.pinned (OpenSpec.upto basisTurnsSpec)

/-- 'enclavelaw16.BasisComes', WHERE WHAT IT READS IS OF BULK AT MOST 1048576: true; the input reads as it did. -/
def basisComesUptoRow : OpenClaim := { program := "ytjilebpcaemopaagreat", sum := "41e8fed9062ca68898fb85cd68282d02f5a1a39ba17e66f4fa84e6b9f8818ee2", func := "enclave/enclavelaw16.BasisComes", spec := "basisComes", inPlace := ["internal/bytealg.IndexByteString"], unfollowed := true, recurses := true, apart := false, narrowed := true }
def BasisComesUptoSaid : Prop := basisComesUptoRow.holds Tryz.pinned (OpenSpec.upto basisComesSpec)

/-- 'enclavelaw16.BasisPlays', WHERE WHAT IT READS IS OF BULK AT MOST 1048576: true; the input reads as it did. -/
def basisPlaysUptoRow : OpenClaim := { program := "ytjilebpcaemopaagreat", sum := "41e8fed9062ca68898fb85cd68282d02f5a1a39ba17e66f4fa84e6b9f8818ee2", func := "enclave/enclavelaw16.BasisPlays", spec := "basisPlays", inPlace := ["internal/bytealg.IndexByteString"], unfollowed := true, recurses := true, apart := false, narrowed := true }
def BasisPlaysUptoSaid : Prop := basisPlaysUptoRow.holds Tryz.pinned (OpenSpec.upto basisPlaysSpec)

/-- 'enclavelaw16.BasisCopies', WHERE WHAT IT READS IS OF BULK AT MOST 1048576: true; the input reads as it did. -/
def basisCopiesUptoRow : OpenClaim := { program := "ytjilebpcaemopaagreat", sum := "41e8fed9062ca68898fb85cd68282d02f5a1a39ba17e66f4fa84e6b9f8818ee2", func := "enclave/enclavelaw16.BasisCopies", spec := "basisCopies", inPlace := ["internal/bytealg.IndexByteString"], unfollowed := true, recurses := true, apart := false, narrowed := true }
def BasisCopiesUptoSaid : Prop := basisCopiesUptoRow.holds Tryz.pinned (OpenSpec.upto basisCopiesSpec)

/-- 'enclavelaw16.BasisNil', WHERE WHAT IT READS IS OF BULK AT MOST 1048576: true; the input reads as it did. -/
def basisNilUptoRow : OpenClaim := { program := "ytjilebpcaemopaagreat", sum := "41e8fed9062ca68898fb85cd68282d02f5a1a39ba17e66f4fa84e6b9f8818ee2", func := "enclave/enclavelaw16.BasisNil", spec := "basisNil", inPlace := ["internal/bytealg.IndexByteString"], unfollowed := true, recurses := true, apart := false, narrowed := true }
def BasisNilUptoSaid : Prop := basisNilUptoRow.holds Tryz.pinned (OpenSpec.upto basisNilSpec)

end Rows
end Go.Proofs.YtjilebpcaemopaaGreat
