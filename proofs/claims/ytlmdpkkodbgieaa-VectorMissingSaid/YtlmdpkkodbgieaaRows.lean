/-
  No cell of these rows narrows 'for every input' (looked for: loops, veiled, ifaces, maps, wideKeys, modest, calm, conditions, laid).
  DERIVED. THE GIVEN ROWS OF THIS SEAT. 4 by the template 'for every input the law returns true; each argument reads behind the call as it read before'; 0 by the template 'total and deterministic' (their statements: YtlmdpkkodbgieaaTotals.lean).
  GIVEN WITH THE SEED: the statements are not yours to turn. If you find one false, say at which input.
  Laid BY PROGRAM, IN A SANDBOX (cutbox-rows.mjs): the forced cells as the released guide's own fill.sh prints them over the translation 0a539aff0f4e6078… (all of the seat's roots in one cut). By AI agents, Wed Nov 11 2026. No macro, syntax, notation, axiom, sorry.
-/
import Derived.Test.YtlmdpkkodbgieaaChecked
import GoSem.Claim
import GoSem.ClaimJoined
import GoSem.ClaimMapViews
import Derived.JoinedTies
import Derived.KernelRfl
namespace Go.Proofs.Ytlmdpkkodbgieaa
/- THE CELL 'sum', in the pinned program and in every row, IS THE sha256 OF THE DUMP (.gsa) THAT YtlmdpkkodbgieaaProg.lean LOADS. Nothing in Lean hashes anything: it is a label: what it is worth is what the hold of that sum in a sandbox is worth. -/
noncomputable def Try.pinned : Pinned := { name := "ytlmdpkkodbgieaa", sum := "0a539aff0f4e607880280497c342b9b060e63fbf37a4715e3b681808168983c0", checked := Try.checked }
namespace Rows
def none {H : Type} : Left H := { results := [], args := [] }

/-- 'hedgerowlaw05.VectorMissing': WHATEVER THE INPUT: true; the input reads as it did. -/
def vectorMissingSpec : ChangeSpec := { name := "vectorMissing", fn := fun _ => fun
  | [d1, d2] => { results := [.lit (.bool true)], args := [d1, d2] }
  | _ => none }
def vectorMissingRow : OpenClaim := { program := "ytlmdpkkodbgieaa", sum := "0a539aff0f4e607880280497c342b9b060e63fbf37a4715e3b681808168983c0", func := "hedgerow/hedgerowlaw05.VectorMissing", spec := "vectorMissing", unfollowed := true, recurses := true, apart := false }
def VectorMissingSaid : Prop := vectorMissingRow.holds Try.pinned (OpenSpec.ofChange vectorMissingSpec)

/-- ITS FALSE NEIGHBOUR: 'it returns false'. Refute it at one input. -/
def vectorMissingWrong : ChangeSpec := { name := "vectorMissing", fn := fun _ => fun
  | [d1, d2] => { results := [.lit (.bool false)], args := [d1, d2] }
  | _ => none }
def VectorMissingWrongFalsely : Prop := vectorMissingRow.holds Try.pinned (OpenSpec.ofChange vectorMissingWrong)

/-- 'hedgerowlaw05.VectorLattice': WHATEVER THE INPUT: true; the input reads as it did. -/
def vectorLatticeSpec : ChangeSpec := { name := "vectorLattice", fn := fun _ => fun
  | [d1, d2, d3] => { results := [.lit (.bool true)], args := [d1, d2, d3] }
  | _ => none }
def vectorLatticeRow : OpenClaim := { program := "ytlmdpkkodbgieaa", sum := "0a539aff0f4e607880280497c342b9b060e63fbf37a4715e3b681808168983c0", func := "hedgerow/hedgerowlaw05.VectorLattice", spec := "vectorLattice", unfollowed := true, recurses := true, apart := false }
def VectorLatticeSaid : Prop := vectorLatticeRow.holds Try.pinned (OpenSpec.ofChange vectorLatticeSpec)

/-- ITS FALSE NEIGHBOUR: 'it returns false'. Refute it at one input. -/
def vectorLatticeWrong : ChangeSpec := { name := "vectorLattice", fn := fun _ => fun
  | [d1, d2, d3] => { results := [.lit (.bool false)], args := [d1, d2, d3] }
  | _ => none }
def VectorLatticeWrongFalsely : Prop := vectorLatticeRow.holds Try.pinned (OpenSpec.ofChange vectorLatticeWrong)

/-- 'hedgerowlaw05.VectorTurns': WHATEVER THE INPUT: true; the input reads as it did. -/
def vectorTurnsSpec : ChangeSpec := { name := "vectorTurns", fn := fun _ => fun
  | [d1, d2] => { results := [.lit (.bool true)], args := [d1, d2] }
  | _ => none }
def vectorTurnsRow : OpenClaim := { program := "ytlmdpkkodbgieaa", sum := "0a539aff0f4e607880280497c342b9b060e63fbf37a4715e3b681808168983c0", func := "hedgerow/hedgerowlaw05.VectorTurns", spec := "vectorTurns", unfollowed := true, recurses := true, apart := false }
def VectorTurnsSaid : Prop := vectorTurnsRow.holds Try.pinned (OpenSpec.ofChange vectorTurnsSpec)

/-- ITS FALSE NEIGHBOUR: 'it returns false'. Refute it at one input. -/
def vectorTurnsWrong : ChangeSpec := { name := "vectorTurns", fn := fun _ => fun
  | [d1, d2] => { results := [.lit (.bool false)], args := [d1, d2] }
  | _ => none }
def VectorTurnsWrongFalsely : Prop := vectorTurnsRow.holds Try.pinned (OpenSpec.ofChange vectorTurnsWrong)

/-- 'hedgerowlaw05.VectorSums': WHATEVER THE INPUT: true; the input reads as it did. -/
def vectorSumsSpec : ChangeSpec := { name := "vectorSums", fn := fun _ => fun
  | [d1, d2] => { results := [.lit (.bool true)], args := [d1, d2] }
  | _ => none }
def vectorSumsRow : OpenClaim := { program := "ytlmdpkkodbgieaa", sum := "0a539aff0f4e607880280497c342b9b060e63fbf37a4715e3b681808168983c0", func := "hedgerow/hedgerowlaw05.VectorSums", spec := "vectorSums", unfollowed := true, recurses := true, apart := false }
def VectorSumsSaid : Prop := vectorSumsRow.holds Try.pinned (OpenSpec.ofChange vectorSumsSpec)

/-- ITS FALSE NEIGHBOUR: 'it returns false'. Refute it at one input. -/
def vectorSumsWrong : ChangeSpec := { name := "vectorSums", fn := fun _ => fun
  | [d1, d2] => { results := [.lit (.bool false)], args := [d1, d2] }
  | _ => none }
def VectorSumsWrongFalsely : Prop := vectorSumsRow.holds Try.pinned (OpenSpec.ofChange vectorSumsWrong)

/- THE SECOND FORM. 'bulk': how many values and letters a reading holds, each counted each time it is reached (what is shared counts as often as it is met; a slice's spare places count too). A statement '..UptoSaid' is the law's where the arguments, and the package variables that the reading takes, are together of bulk at most 1048576: NARROWER than '..Said'. Prove '..Said' where nothing that the law and all that it calls make is longer than what came in: it says more and counts as full. Else prove '..UptoSaid'. A law counts once. -/
mutual
def uptoBulk {H : Type} : DataW H → Nat
  | .lit (.string bytes) => bytes.length + 1
  | .lit _ => 1
  | .nil => 1
  | .ptr d => uptoBulk d + 1
  | .slice elems spare => uptoBulkAll elems + uptoBulkAll spare + 1
  | .agg parts => uptoBulkAll parts + 1
  | .iface _ d => uptoBulk d + 1
  | .map entries => uptoBulkEntries entries + 1
  | .held _ => 1
def uptoBulkAll {H : Type} : List (DataW H) → Nat
  | [] => 0
  | d :: r => uptoBulk d + uptoBulkAll r
def uptoBulkEntries {H : Type} : List (Lit × DataW H) → Nat
  | [] => 0
  | x :: r => uptoBulkEntry x + uptoBulkEntries r
def uptoBulkEntry {H : Type} : Lit × DataW H → Nat
  | (.string bytes, d) => bytes.length + uptoBulk d + 1
  | (_, d) => uptoBulk d + 1
 end
def uptoSmall : (H : Type) → List (DataW H) → Bool := fun _ ds => decide (uptoBulkAll ds ≤ 1048576)
def OpenSpec.upto (s : _root_.Go.ChangeSpec) : _root_.Go.OpenSpec := { _root_.Go.OpenSpec.ofChange s with cond := some uptoSmall }

/-- 'hedgerowlaw05.VectorMissing', WHERE WHAT IT READS IS OF BULK AT MOST 1048576: true; the input reads as it did. -/
def vectorMissingUptoRow : OpenClaim := { program := "ytlmdpkkodbgieaa", sum := "0a539aff0f4e607880280497c342b9b060e63fbf37a4715e3b681808168983c0", func := "hedgerow/hedgerowlaw05.VectorMissing", spec := "vectorMissing", unfollowed := true, recurses := true, apart := false, narrowed := true }
def VectorMissingUptoSaid : Prop := vectorMissingUptoRow.holds Try.pinned (OpenSpec.upto vectorMissingSpec)

/-- 'hedgerowlaw05.VectorLattice', WHERE WHAT IT READS IS OF BULK AT MOST 1048576: true; the input reads as it did. -/
def vectorLatticeUptoRow : OpenClaim := { program := "ytlmdpkkodbgieaa", sum := "0a539aff0f4e607880280497c342b9b060e63fbf37a4715e3b681808168983c0", func := "hedgerow/hedgerowlaw05.VectorLattice", spec := "vectorLattice", unfollowed := true, recurses := true, apart := false, narrowed := true }
def VectorLatticeUptoSaid : Prop := vectorLatticeUptoRow.holds Try.pinned (OpenSpec.upto vectorLatticeSpec)

/-- 'hedgerowlaw05.VectorTurns', WHERE WHAT IT READS IS OF BULK AT MOST 1048576: true; the input reads as it did. -/
def vectorTurnsUptoRow : OpenClaim := { program := "ytlmdpkkodbgieaa", sum := "0a539aff0f4e607880280497c342b9b060e63fbf37a4715e3b681808168983c0", func := "hedgerow/hedgerowlaw05.VectorTurns", spec := "vectorTurns", unfollowed := true, recurses := true, apart := false, narrowed := true }
def VectorTurnsUptoSaid : Prop := vectorTurnsUptoRow.holds Try.pinned (OpenSpec.upto vectorTurnsSpec)

/-- 'hedgerowlaw05.VectorSums', WHERE WHAT IT READS IS OF BULK AT MOST 1048576: true; the input reads as it did. -/
def vectorSumsUptoRow : OpenClaim := { program := "ytlmdpkkodbgieaa", sum := "0a539aff0f4e607880280497c342b9b060e63fbf37a4715e3b681808168983c0", func := "hedgerow/hedgerowlaw05.VectorSums", spec := "vectorSums", unfollowed := true, recurses := true, apart := false, narrowed := true }
def VectorSumsUptoSaid : Prop := vectorSumsUptoRow.holds Try.pinned (OpenSpec.upto vectorSumsSpec)

end Rows
end Go.Proofs.Ytlmdpkkodbgieaa
