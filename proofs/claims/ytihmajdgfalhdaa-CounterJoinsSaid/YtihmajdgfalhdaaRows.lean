/-
  No cell of these rows narrows 'for every input' (looked for: loops, veiled, ifaces, maps, wideKeys, modest, calm, conditions, laid).
  DERIVED. THE GIVEN ROWS OF THIS SEAT. 3 by the template 'for every input the law returns true; each argument reads behind the call as it read before'; 0 by the template 'total and deterministic' (their statements: YtihmajdgfalhdaaTotals.lean).
  GIVEN WITH THE SEED: the statements are not yours to turn. If you find one false, say at which input.
  Laid BY PROGRAM, IN A SANDBOX (cutbox-rows.mjs): the forced cells as the released guide's own fill.sh prints them over the translation 89f88d574444f175… (all of the seat's roots in one cut). By AI agents, Wed Nov 11 2026. No macro, syntax, notation, axiom, sorry.
-/
import Derived.Test.YtihmajdgfalhdaaChecked
import GoSem.Claim
import GoSem.ClaimJoined
import GoSem.ClaimMapViews
import Derived.JoinedTies
import Derived.KernelRfl
namespace Go.Proofs.Ytihmajdgfalhdaa
/- THE CELL 'sum', in the pinned program and in every row, IS THE sha256 OF THE DUMP (.gsa) THAT YtihmajdgfalhdaaProg.lean LOADS. Nothing in Lean hashes anything: it is a label: what it is worth is what the hold of that sum in a sandbox is worth. -/
noncomputable def Try.pinned : Pinned := { name := "ytihmajdgfalhdaa", sum := "89f88d574444f175903088995c445a7fd7c1523255276314f7d3458bbce5d267", checked := Try.checked }
namespace Rows
def none {H : Type} : Left H := { results := [], args := [] }

/-- 'hedgerowlaw35.CounterAdds': WHATEVER THE INPUT: true; the input reads as it did. -/
def counterAddsSpec : ChangeSpec := { name := "counterAdds", fn := fun _ => fun
  | [d] => { results := [.lit (.bool true)], args := [d] }
  | _ => none }
def counterAddsRow : OpenClaim := { program := "ytihmajdgfalhdaa", sum := "89f88d574444f175903088995c445a7fd7c1523255276314f7d3458bbce5d267", func := "hedgerow/hedgerowlaw35.CounterAdds", spec := "counterAdds", apart := false }
def CounterAddsSaid : Prop := counterAddsRow.holds Try.pinned (OpenSpec.ofChange counterAddsSpec)

/-- ITS FALSE NEIGHBOUR: 'it returns false'. Refute it at one input. -/
def counterAddsWrong : ChangeSpec := { name := "counterAdds", fn := fun _ => fun
  | [d] => { results := [.lit (.bool false)], args := [d] }
  | _ => none }
def CounterAddsWrongFalsely : Prop := counterAddsRow.holds Try.pinned (OpenSpec.ofChange counterAddsWrong)

/-- 'hedgerowlaw35.CounterJoins': WHATEVER THE INPUT: true; the input reads as it did. -/
def counterJoinsSpec : ChangeSpec := { name := "counterJoins", fn := fun _ => fun
  | [d1, d2] => { results := [.lit (.bool true)], args := [d1, d2] }
  | _ => none }
def counterJoinsRow : OpenClaim := { program := "ytihmajdgfalhdaa", sum := "89f88d574444f175903088995c445a7fd7c1523255276314f7d3458bbce5d267", func := "hedgerow/hedgerowlaw35.CounterJoins", spec := "counterJoins", apart := false }
def CounterJoinsSaid : Prop := counterJoinsRow.holds Try.pinned (OpenSpec.ofChange counterJoinsSpec)

/-- ITS FALSE NEIGHBOUR: 'it returns false'. Refute it at one input. -/
def counterJoinsWrong : ChangeSpec := { name := "counterJoins", fn := fun _ => fun
  | [d1, d2] => { results := [.lit (.bool false)], args := [d1, d2] }
  | _ => none }
def CounterJoinsWrongFalsely : Prop := counterJoinsRow.holds Try.pinned (OpenSpec.ofChange counterJoinsWrong)

/-- 'hedgerowlaw35.CounterTwins': WHATEVER THE INPUT: true; the input reads as it did. -/
def counterTwinsSpec : ChangeSpec := { name := "counterTwins", fn := fun _ => fun
  | [d1, d2] => { results := [.lit (.bool true)], args := [d1, d2] }
  | _ => none }
def counterTwinsRow : OpenClaim := { program := "ytihmajdgfalhdaa", sum := "89f88d574444f175903088995c445a7fd7c1523255276314f7d3458bbce5d267", func := "hedgerow/hedgerowlaw35.CounterTwins", spec := "counterTwins", apart := false }
def CounterTwinsSaid : Prop := counterTwinsRow.holds Try.pinned (OpenSpec.ofChange counterTwinsSpec)

/-- ITS FALSE NEIGHBOUR: 'it returns false'. Refute it at one input. -/
def counterTwinsWrong : ChangeSpec := { name := "counterTwins", fn := fun _ => fun
  | [d1, d2] => { results := [.lit (.bool false)], args := [d1, d2] }
  | _ => none }
def CounterTwinsWrongFalsely : Prop := counterTwinsRow.holds Try.pinned (OpenSpec.ofChange counterTwinsWrong)

/- THE SECOND FORM. 'bulk': how many values and letters a reading holds, each counted each time it is reached (what is shared counts as often as it is met; a slice's spare places count too). A statement '..UptoSaid' is the law's where the arguments, and the package variables that the reading takes, are together of bulk at most 1048576: NARROWER than '..Said'. Prove '..Said' where nothing that the law and all that it calls make is longer than what came in: it says more and counts as full. Else prove '..UptoSaid'. A law counts once. -/
mutual
def uptoBulk {H : Type} : DataW H → Nat
  | .lit (.string bytes) => bytes.length + 1
  | .lit _ => 1
  | .nil => 1
  | .ptr d => uptoBulk d + 1
  | .slice elems spare => uptoBulkAll elems + uptoBulkAll spare + 1
  | .agg parts => uptoBulkAll parts + 1
  | .iface _ d => uptoBulk d + 1
  | .map entries => uptoBulkEntries entries + 1
  | .held _ => 1
def uptoBulkAll {H : Type} : List (DataW H) → Nat
  | [] => 0
  | d :: r => uptoBulk d + uptoBulkAll r
def uptoBulkEntries {H : Type} : List (Lit × DataW H) → Nat
  | [] => 0
  | x :: r => uptoBulkEntry x + uptoBulkEntries r
def uptoBulkEntry {H : Type} : Lit × DataW H → Nat
  | (.string bytes, d) => bytes.length + uptoBulk d + 1
  | (_, d) => uptoBulk d + 1
 end
def uptoSmall : (H : Type) → List (DataW H) → Bool := fun _ ds => decide (uptoBulkAll ds ≤ 1048576)
def OpenSpec.upto (s : _root_.Go.ChangeSpec) : _root_.Go.OpenSpec := { _root_.Go.OpenSpec.ofChange s with cond := some uptoSmall }

/-- 'hedgerowlaw35.CounterAdds', WHERE WHAT IT READS IS OF BULK AT MOST 1048576: true; the input reads as it did. -/
def counterAddsUptoRow : OpenClaim := { program := "ytihmajdgfalhdaa", sum := "89f88d574444f175903088995c445a7fd7c1523255276314f7d3458bbce5d267", func := "hedgerow/hedgerowlaw35.CounterAdds", spec := "counterAdds", apart := false, narrowed := true }
def CounterAddsUptoSaid : Prop := counterAddsUptoRow.holds Try.pinned (OpenSpec.upto counterAddsSpec)

/-- 'hedgerowlaw35.CounterJoins', WHERE WHAT IT READS IS OF BULK AT MOST 1048576: true; the input reads as it did. -/
def counterJoinsUptoRow : OpenClaim := { program := "ytihmajdgfalhdaa", sum := "89f88d574444f175903088995c445a7fd7c1523255276314f7d3458bbce5d267", func := "hedgerow/hedgerowlaw35.CounterJoins", spec := "counterJoins", apart := false, narrowed := true }
def CounterJoinsUptoSaid : Prop := counterJoinsUptoRow.holds Try.pinned (OpenSpec.upto counterJoinsSpec)

/-- 'hedgerowlaw35.CounterTwins', WHERE WHAT IT READS IS OF BULK AT MOST 1048576: true; the input reads as it did. -/
def counterTwinsUptoRow : OpenClaim := { program := "ytihmajdgfalhdaa", sum := "89f88d574444f175903088995c445a7fd7c1523255276314f7d3458bbce5d267", func := "hedgerow/hedgerowlaw35.CounterTwins", spec := "counterTwins", apart := false, narrowed := true }
def CounterTwinsUptoSaid : Prop := counterTwinsUptoRow.holds Try.pinned (OpenSpec.upto counterTwinsSpec)

end Rows
end Go.Proofs.Ytihmajdgfalhdaa
