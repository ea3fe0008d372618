/-
  No cell of these rows narrows 'for every input' (looked for: loops, veiled, ifaces, maps, wideKeys, modest, calm, conditions, laid).
  DERIVED. THE GIVEN ROWS OF THIS SEAT. 4 by the template 'for every input the law returns true; each argument reads behind the call as it read before'; 0 by the template 'total and deterministic' (their statements: YtonopommbpkfgaaTotals.lean).
  GIVEN WITH THE SEED: the statements are not yours to turn. If you find one false, say at which input.
  Laid BY PROGRAM, IN A SANDBOX (cutbox-rows.mjs): the forced cells as the released guide's own fill.sh prints them over the translation 6f0fca4bcef7380f… (all of the seat's roots in one cut). By AI agents, Wed Nov 11 2026. No macro, syntax, notation, axiom, sorry.
-/
import Derived.Test.YtonopommbpkfgaaChecked
import GoSem.Claim
import GoSem.ClaimJoined
import GoSem.ClaimMapViews
import Derived.JoinedTies
import Derived.KernelRfl
namespace Go.Proofs.Ytonopommbpkfgaa
/- THE CELL 'sum', in the pinned program and in every row, IS THE sha256 OF THE DUMP (.gsa) THAT YtonopommbpkfgaaProg.lean LOADS. Nothing in Lean hashes anything: it is a label: what it is worth is what the hold of that sum in a sandbox is worth. -/
noncomputable def Try.pinned : Pinned := { name := "ytonopommbpkfgaa", sum := "6f0fca4bcef7380f6c7a7e3b4e019e2b7fb09234a051dda521511af09387adcd", checked := Try.checked }
namespace Rows
def none {H : Type} : Left H := { results := [], args := [] }

/-- 'hedgerowlaw32.TopoOrder': WHATEVER THE INPUT: true; the input reads as it did. -/
def topoOrderSpec : ChangeSpec := { name := "topoOrder", fn := fun _ => fun
  | [d1, d2] => { results := [.lit (.bool true)], args := [d1, d2] }
  | _ => none }
def topoOrderRow : OpenClaim := { program := "ytonopommbpkfgaa", sum := "6f0fca4bcef7380f6c7a7e3b4e019e2b7fb09234a051dda521511af09387adcd", func := "hedgerow/hedgerowlaw32.TopoOrder", spec := "topoOrder", unfollowed := true, recurses := true, apart := false }
def TopoOrderSaid : Prop := topoOrderRow.holds Try.pinned (OpenSpec.ofChange topoOrderSpec)

/-- ITS FALSE NEIGHBOUR: 'it returns false'. Refute it at one input. -/
def topoOrderWrong : ChangeSpec := { name := "topoOrder", fn := fun _ => fun
  | [d1, d2] => { results := [.lit (.bool false)], args := [d1, d2] }
  | _ => none }
def TopoOrderWrongFalsely : Prop := topoOrderRow.holds Try.pinned (OpenSpec.ofChange topoOrderWrong)

/-- 'hedgerowlaw32.TopoReach': WHATEVER THE INPUT: true; the input reads as it did. -/
def topoReachSpec : ChangeSpec := { name := "topoReach", fn := fun _ => fun
  | [d1, d2, d3] => { results := [.lit (.bool true)], args := [d1, d2, d3] }
  | _ => none }
def topoReachRow : OpenClaim := { program := "ytonopommbpkfgaa", sum := "6f0fca4bcef7380f6c7a7e3b4e019e2b7fb09234a051dda521511af09387adcd", func := "hedgerow/hedgerowlaw32.TopoReach", spec := "topoReach", unfollowed := true, recurses := true, apart := false }
def TopoReachSaid : Prop := topoReachRow.holds Try.pinned (OpenSpec.ofChange topoReachSpec)

/-- ITS FALSE NEIGHBOUR: 'it returns false'. Refute it at one input. -/
def topoReachWrong : ChangeSpec := { name := "topoReach", fn := fun _ => fun
  | [d1, d2, d3] => { results := [.lit (.bool false)], args := [d1, d2, d3] }
  | _ => none }
def TopoReachWrongFalsely : Prop := topoReachRow.holds Try.pinned (OpenSpec.ofChange topoReachWrong)

/-- 'hedgerowlaw32.TopoLevels': WHATEVER THE INPUT: true; the input reads as it did. -/
def topoLevelsSpec : ChangeSpec := { name := "topoLevels", fn := fun _ => fun
  | [d1, d2] => { results := [.lit (.bool true)], args := [d1, d2] }
  | _ => none }
def topoLevelsRow : OpenClaim := { program := "ytonopommbpkfgaa", sum := "6f0fca4bcef7380f6c7a7e3b4e019e2b7fb09234a051dda521511af09387adcd", func := "hedgerow/hedgerowlaw32.TopoLevels", spec := "topoLevels", unfollowed := true, recurses := true, apart := false }
def TopoLevelsSaid : Prop := topoLevelsRow.holds Try.pinned (OpenSpec.ofChange topoLevelsSpec)

/-- ITS FALSE NEIGHBOUR: 'it returns false'. Refute it at one input. -/
def topoLevelsWrong : ChangeSpec := { name := "topoLevels", fn := fun _ => fun
  | [d1, d2] => { results := [.lit (.bool false)], args := [d1, d2] }
  | _ => none }
def TopoLevelsWrongFalsely : Prop := topoLevelsRow.holds Try.pinned (OpenSpec.ofChange topoLevelsWrong)

/-- 'hedgerowlaw32.TopoLevelled': WHATEVER THE INPUT: true; the input reads as it did. -/
def topoLevelledSpec : ChangeSpec := { name := "topoLevelled", fn := fun _ => fun
  | [d1, d2] => { results := [.lit (.bool true)], args := [d1, d2] }
  | _ => none }
def topoLevelledRow : OpenClaim := { program := "ytonopommbpkfgaa", sum := "6f0fca4bcef7380f6c7a7e3b4e019e2b7fb09234a051dda521511af09387adcd", func := "hedgerow/hedgerowlaw32.TopoLevelled", spec := "topoLevelled", unfollowed := true, recurses := true, apart := false }
def TopoLevelledSaid : Prop := topoLevelledRow.holds Try.pinned (OpenSpec.ofChange topoLevelledSpec)

/-- ITS FALSE NEIGHBOUR: 'it returns false'. Refute it at one input. -/
def topoLevelledWrong : ChangeSpec := { name := "topoLevelled", fn := fun _ => fun
  | [d1, d2] => { results := [.lit (.bool false)], args := [d1, d2] }
  | _ => none }
def TopoLevelledWrongFalsely : Prop := topoLevelledRow.holds Try.pinned (OpenSpec.ofChange topoLevelledWrong)

/- THE SECOND FORM. 'bulk': how many values and letters a reading holds, each counted each time it is reached (what is shared counts as often as it is met; a slice's spare places count too). A statement '..UptoSaid' is the law's where the arguments, and the package variables that the reading takes, are together of bulk at most 1048576: NARROWER than '..Said'. Prove '..Said' where nothing that the law and all that it calls make is longer than what came in: it says more and counts as full. Else prove '..UptoSaid'. A law counts once. -/
mutual
def uptoBulk {H : Type} : DataW H → Nat
  | .lit (.string bytes) => bytes.length + 1
  | .lit _ => 1
  | .nil => 1
  | .ptr d => uptoBulk d + 1
  | .slice elems spare => uptoBulkAll elems + uptoBulkAll spare + 1
  | .agg parts => uptoBulkAll parts + 1
  | .iface _ d => uptoBulk d + 1
  | .map entries => uptoBulkEntries entries + 1
  | .held _ => 1
def uptoBulkAll {H : Type} : List (DataW H) → Nat
  | [] => 0
  | d :: r => uptoBulk d + uptoBulkAll r
def uptoBulkEntries {H : Type} : List (Lit × DataW H) → Nat
  | [] => 0
  | x :: r => uptoBulkEntry x + uptoBulkEntries r
def uptoBulkEntry {H : Type} : Lit × DataW H → Nat
  | (.string bytes, d) => bytes.length + uptoBulk d + 1
  | (_, d) => uptoBulk d + 1
 end
def uptoSmall : (H : Type) → List (DataW H) → Bool := fun _ ds => decide (uptoBulkAll ds ≤ 1048576)
def OpenSpec.upto (s : _root_.Go.ChangeSpec) : _root_.Go.OpenSpec := { _root_.Go.OpenSpec.ofChange s with cond := some uptoSmall }

/-- 'hedgerowlaw32.TopoOrder', WHERE WHAT IT READS IS OF BULK AT MOST 1048576: true; the input reads as it did. -/
def topoOrderUptoRow : OpenClaim := { program := "ytonopommbpkfgaa", sum := "6f0fca4bcef7380f6c7a7e3b4e019e2b7fb09234a051dda521511af09387adcd", func := "hedgerow/hedgerowlaw32.TopoOrder", spec := "topoOrder", unfollowed := true, recurses := true, apart := false, narrowed := true }
def TopoOrderUptoSaid : Prop := topoOrderUptoRow.holds Try.pinned (OpenSpec.upto topoOrderSpec)

/-- 'hedgerowlaw32.TopoReach', WHERE WHAT IT READS IS OF BULK AT MOST 1048576: true; the input reads as it did. -/
def topoReachUptoRow : OpenClaim := { program := "ytonopommbpkfgaa", sum := "6f0fca4bcef7380f6c7a7e3b4e019e2b7fb09234a051dda521511af09387adcd", func := "hedgerow/hedgerowlaw32.TopoReach", spec := "topoReach", unfollowed := true, recurses := true, apart := false, narrowed := true }
def TopoReachUptoSaid : Prop := topoReachUptoRow.holds Try.pinned (OpenSpec.upto topoReachSpec)

/-- 'hedgerowlaw32.TopoLevels', WHERE WHAT IT READS IS OF BULK AT MOST 1048576: true; the input reads as it did. -/
def topoLevelsUptoRow : OpenClaim := { program := "ytonopommbpkfgaa", sum := "6f0fca4bcef7380f6c7a7e3b4e019e2b7fb09234a051dda521511af09387adcd", func := "hedgerow/hedgerowlaw32.TopoLevels", spec := "topoLevels", unfollowed := true, recurses := true, apart := false, narrowed := true }
def TopoLevelsUptoSaid : Prop := topoLevelsUptoRow.holds Try.pinned (OpenSpec.upto topoLevelsSpec)

/-- 'hedgerowlaw32.TopoLevelled', WHERE WHAT IT READS IS OF BULK AT MOST 1048576: true; the input reads as it did. -/
def topoLevelledUptoRow : OpenClaim := { program := "ytonopommbpkfgaa", sum := "6f0fca4bcef7380f6c7a7e3b4e019e2b7fb09234a051dda521511af09387adcd", func := "hedgerow/hedgerowlaw32.TopoLevelled", spec := "topoLevelled", unfollowed := true, recurses := true, apart := false, narrowed := true }
def TopoLevelledUptoSaid : Prop := topoLevelledUptoRow.holds Try.pinned (OpenSpec.upto topoLevelledSpec)

end Rows
end Go.Proofs.Ytonopommbpkfgaa
