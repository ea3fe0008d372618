/-
  No cell of these rows narrows 'for every input' (looked for: loops, veiled, ifaces, maps, wideKeys, modest, calm, conditions, laid).
  DERIVED. THE GIVEN ROWS OF THIS SEAT. 4 by the template 'for every input the law returns true; each argument reads behind the call as it read before'; 0 by the template 'total and deterministic' (their statements: YtoddgakhiaokaaaTotals.lean).
  GIVEN WITH THE SEED: the statements are not yours to turn. If you find one false, say at which input.
  Laid BY PROGRAM, IN A SANDBOX (cutbox-rows.mjs): the forced cells as the released guide's own fill.sh prints them over the translation 14a126c7d5117ce5… (all of the seat's roots in one cut). By AI agents, Wed Nov 11 2026. No macro, syntax, notation, axiom, sorry.
-/
import Derived.Test.YtoddgakhiaokaaaChecked
import GoSem.Claim
import GoSem.ClaimJoined
import GoSem.ClaimMapViews
import Derived.JoinedTies
import Derived.KernelRfl
namespace Go.Proofs.Ytoddgakhiaokaaa
/- THE CELL 'sum', in the pinned program and in every row, IS THE sha256 OF THE DUMP (.gsa) THAT YtoddgakhiaokaaaProg.lean LOADS. Nothing in Lean hashes anything: it is a label: what it is worth is what the hold of that sum in a sandbox is worth. -/
noncomputable def Try.pinned : Pinned := { name := "ytoddgakhiaokaaa", sum := "14a126c7d5117ce5bbf5a1fc5fec4dfea075300e3dc6e71738c90f9935ae716d", checked := Try.checked }
namespace Rows
def none {H : Type} : Left H := { results := [], args := [] }

/-- 'hedgerowlaw38.MerkleOne': WHATEVER THE INPUT: true; the input reads as it did. -/
def merkleOneSpec : ChangeSpec := { name := "merkleOne", fn := fun _ => fun
  | [d1, d2, d3, d4] => { results := [.lit (.bool true)], args := [d1, d2, d3, d4] }
  | _ => none }
def merkleOneRow : OpenClaim := { program := "ytoddgakhiaokaaa", sum := "14a126c7d5117ce5bbf5a1fc5fec4dfea075300e3dc6e71738c90f9935ae716d", func := "hedgerow/hedgerowlaw38.MerkleOne", spec := "merkleOne", unfollowed := true, recurses := true, apart := false }
def MerkleOneSaid : Prop := merkleOneRow.holds Try.pinned (OpenSpec.ofChange merkleOneSpec)

/-- ITS FALSE NEIGHBOUR: 'it returns false'. Refute it at one input. -/
def merkleOneWrong : ChangeSpec := { name := "merkleOne", fn := fun _ => fun
  | [d1, d2, d3, d4] => { results := [.lit (.bool false)], args := [d1, d2, d3, d4] }
  | _ => none }
def MerkleOneWrongFalsely : Prop := merkleOneRow.holds Try.pinned (OpenSpec.ofChange merkleOneWrong)

/-- 'hedgerowlaw38.MerkleSums': WHATEVER THE INPUT: true; the input reads as it did. -/
def merkleSumsSpec : ChangeSpec := { name := "merkleSums", fn := fun _ => fun
  | [d1, d2, d3] => { results := [.lit (.bool true)], args := [d1, d2, d3] }
  | _ => none }
def merkleSumsRow : OpenClaim := { program := "ytoddgakhiaokaaa", sum := "14a126c7d5117ce5bbf5a1fc5fec4dfea075300e3dc6e71738c90f9935ae716d", func := "hedgerow/hedgerowlaw38.MerkleSums", spec := "merkleSums", unfollowed := true, recurses := true, apart := false }
def MerkleSumsSaid : Prop := merkleSumsRow.holds Try.pinned (OpenSpec.ofChange merkleSumsSpec)

/-- ITS FALSE NEIGHBOUR: 'it returns false'. Refute it at one input. -/
def merkleSumsWrong : ChangeSpec := { name := "merkleSums", fn := fun _ => fun
  | [d1, d2, d3] => { results := [.lit (.bool false)], args := [d1, d2, d3] }
  | _ => none }
def MerkleSumsWrongFalsely : Prop := merkleSumsRow.holds Try.pinned (OpenSpec.ofChange merkleSumsWrong)

/-- 'hedgerowlaw38.MerkleOrder': WHATEVER THE INPUT: true; the input reads as it did. -/
def merkleOrderSpec : ChangeSpec := { name := "merkleOrder", fn := fun _ => fun
  | [d1, d2] => { results := [.lit (.bool true)], args := [d1, d2] }
  | _ => none }
def merkleOrderRow : OpenClaim := { program := "ytoddgakhiaokaaa", sum := "14a126c7d5117ce5bbf5a1fc5fec4dfea075300e3dc6e71738c90f9935ae716d", func := "hedgerow/hedgerowlaw38.MerkleOrder", spec := "merkleOrder", unfollowed := true, recurses := true, apart := false }
def MerkleOrderSaid : Prop := merkleOrderRow.holds Try.pinned (OpenSpec.ofChange merkleOrderSpec)

/-- ITS FALSE NEIGHBOUR: 'it returns false'. Refute it at one input. -/
def merkleOrderWrong : ChangeSpec := { name := "merkleOrder", fn := fun _ => fun
  | [d1, d2] => { results := [.lit (.bool false)], args := [d1, d2] }
  | _ => none }
def MerkleOrderWrongFalsely : Prop := merkleOrderRow.holds Try.pinned (OpenSpec.ofChange merkleOrderWrong)

/-- 'hedgerowlaw38.MerkleDiffs': WHATEVER THE INPUT: true; the input reads as it did. -/
def merkleDiffsSpec : ChangeSpec := { name := "merkleDiffs", fn := fun _ => fun
  | [d1, d2] => { results := [.lit (.bool true)], args := [d1, d2] }
  | _ => none }
def merkleDiffsRow : OpenClaim := { program := "ytoddgakhiaokaaa", sum := "14a126c7d5117ce5bbf5a1fc5fec4dfea075300e3dc6e71738c90f9935ae716d", func := "hedgerow/hedgerowlaw38.MerkleDiffs", spec := "merkleDiffs", unfollowed := true, recurses := true, apart := false }
def MerkleDiffsSaid : Prop := merkleDiffsRow.holds Try.pinned (OpenSpec.ofChange merkleDiffsSpec)

/-- ITS FALSE NEIGHBOUR: 'it returns false'. Refute it at one input. -/
def merkleDiffsWrong : ChangeSpec := { name := "merkleDiffs", fn := fun _ => fun
  | [d1, d2] => { results := [.lit (.bool false)], args := [d1, d2] }
  | _ => none }
def MerkleDiffsWrongFalsely : Prop := merkleDiffsRow.holds Try.pinned (OpenSpec.ofChange merkleDiffsWrong)

/- THE SECOND FORM. 'bulk': how many values and letters a reading holds, each counted each time it is reached (what is shared counts as often as it is met; a slice's spare places count too). A statement '..UptoSaid' is the law's where the arguments, and the package variables that the reading takes, are together of bulk at most 1048576: NARROWER than '..Said'. Prove '..Said' where nothing that the law and all that it calls make is longer than what came in: it says more and counts as full. Else prove '..UptoSaid'. A law counts once. -/
mutual
def uptoBulk {H : Type} : DataW H → Nat
  | .lit (.string bytes) => bytes.length + 1
  | .lit _ => 1
  | .nil => 1
  | .ptr d => uptoBulk d + 1
  | .slice elems spare => uptoBulkAll elems + uptoBulkAll spare + 1
  | .agg parts => uptoBulkAll parts + 1
  | .iface _ d => uptoBulk d + 1
  | .map entries => uptoBulkEntries entries + 1
  | .held _ => 1
def uptoBulkAll {H : Type} : List (DataW H) → Nat
  | [] => 0
  | d :: r => uptoBulk d + uptoBulkAll r
def uptoBulkEntries {H : Type} : List (Lit × DataW H) → Nat
  | [] => 0
  | x :: r => uptoBulkEntry x + uptoBulkEntries r
def uptoBulkEntry {H : Type} : Lit × DataW H → Nat
  | (.string bytes, d) => bytes.length + uptoBulk d + 1
  | (_, d) => uptoBulk d + 1
 end
def uptoSmall : (H : Type) → List (DataW H) → Bool := fun _ ds => decide (uptoBulkAll ds ≤ 1048576)
def OpenSpec.upto (s : _root_.Go.ChangeSpec) : _root_.Go.OpenSpec := { _root_.Go.OpenSpec.ofChange s with cond := some uptoSmall }

/-- 'hedgerowlaw38.MerkleOne', WHERE WHAT IT READS IS OF BULK AT MOST 1048576: true; the input reads as it did. -/
def merkleOneUptoRow : OpenClaim := { program := "ytoddgakhiaokaaa", sum := "14a126c7d5117ce5bbf5a1fc5fec4dfea075300e3dc6e71738c90f9935ae716d", func := "hedgerow/hedgerowlaw38.MerkleOne", spec := "merkleOne", unfollowed := true, recurses := true, apart := false, narrowed := true }
def MerkleOneUptoSaid : Prop := merkleOneUptoRow.holds Try.pinned (OpenSpec.upto merkleOneSpec)

/-- 'hedgerowlaw38.MerkleSums', WHERE WHAT IT READS IS OF BULK AT MOST 1048576: true; the input reads as it did. -/
def merkleSumsUptoRow : OpenClaim := { program := "ytoddgakhiaokaaa", sum := "14a126c7d5117ce5bbf5a1fc5fec4dfea075300e3dc6e71738c90f9935ae716d", func := "hedgerow/hedgerowlaw38.MerkleSums", spec := "merkleSums", unfollowed := true, recurses := true, apart := false, narrowed := true }
def MerkleSumsUptoSaid : Prop := merkleSumsUptoRow.holds Try.pinned (OpenSpec.upto merkleSumsSpec)

/-- 'hedgerowlaw38.MerkleOrder', WHERE WHAT IT READS IS OF BULK AT MOST 1048576: true; the input reads as it did. -/
def merkleOrderUptoRow : OpenClaim := { program := "ytoddgakhiaokaaa", sum := "14a126c7d5117ce5bbf5a1fc5fec4dfea075300e3dc6e71738c90f9935ae716d", func := "hedgerow/hedgerowlaw38.MerkleOrder", spec := "merkleOrder", unfollowed := true, recurses := true, apart := false, narrowed := true }
def MerkleOrderUptoSaid : Prop := merkleOrderUptoRow.holds Try.pinned (OpenSpec.upto merkleOrderSpec)

/-- 'hedgerowlaw38.MerkleDiffs', WHERE WHAT IT READS IS OF BULK AT MOST 1048576: true; the input reads as it did. -/
def merkleDiffsUptoRow : OpenClaim := { program := "ytoddgakhiaokaaa", sum := "14a126c7d5117ce5bbf5a1fc5fec4dfea075300e3dc6e71738c90f9935ae716d", func := "hedgerow/hedgerowlaw38.MerkleDiffs", spec := "merkleDiffs", unfollowed := true, recurses := true, apart := false, narrowed := true }
def MerkleDiffsUptoSaid : Prop := merkleDiffsUptoRow.holds Try.pinned (OpenSpec.upto merkleDiffsSpec)

end Rows
end Go.Proofs.Ytoddgakhiaokaaa
