/-
  NARROWER THAN 'FOR EVERY INPUT', by the rows' own cells (each row's printed sentence says how): MessageBytes: laid · MessageParses: laid · MessageTurned: laid · MessageAlone: laid.
  DERIVED. THE GIVEN ROWS OF THIS SEAT. 4 by the template 'for every input the law returns true; each argument reads behind the call as it read before'; 0 by the template 'total and deterministic' (their statements: YtkmkpdmjdfbpjaaGreatDoorTotals.lean).
  GIVEN WITH THE SEED: the statements are not yours to turn. If you find one false, say at which input.
  Laid BY PROGRAM, IN A SANDBOX (cutbox-rows.mjs): the forced cells as the released guide's own fill.sh prints them over the translation 6d9322b1222b4e18… (all of the seat's roots in one cut). By AI agents, Wed Nov 11 2026. No macro, syntax, notation, axiom, sorry.
-/
import Derived.Test.YtkmkpdmjdfbpjaaGreatDoorChecked
import GoSem.PinnedTables
import GoSem.Claim
import GoSem.ClaimJoined
import GoSem.ClaimMapViews
import Derived.JoinedTies
import Derived.KernelRfl
namespace Go.Proofs.YtkmkpdmjdfbpjaaGreatDoor
/- THE CELL 'sum', in the pinned program and in every row, IS THE sha256 OF THE DUMP (.gsa) THAT YtkmkpdmjdfbpjaaGreatDoorProg.lean LOADS. Nothing in Lean hashes anything: it is a label: what it is worth is what the hold of that sum in a sandbox is worth. -/
noncomputable def Tryz.pinned : Pinned := { name := "ytkmkpdmjdfbpjaagreatdoor", sum := "6d9322b1222b4e186ffc22aae8c7207627d89631691c5c17363ea900d93d96d9", checked := Tryz.checked }
namespace Rows
def none {H : Type} : Left H := { results := [], args := [] }

/- WHAT THE LISTED PACKAGE-LEVEL VARIABLES READ AS WHEN THE CALL BEGINS. Each datum BY PROGRAM (the guide's laid-datum.mjs) off the statement by which the dump's own 'gosem.cut.vars' lays the variable. In a bare row this is a premise. The card (YtkmkpdmjdfbpjaaGreatDoorCards.lean) ties it to the program's text. -/
def laid_unicode_utf8_acceptRanges {H : Type} : DataW H := .agg [.agg [.lit (.int .u8 128), .lit (.int .u8 191)], .agg [.lit (.int .u8 160), .lit (.int .u8 191)], .agg [.lit (.int .u8 128), .lit (.int .u8 159)], .agg [.lit (.int .u8 144), .lit (.int .u8 191)], .agg [.lit (.int .u8 128), .lit (.int .u8 143)], .agg [.lit (.int .u8 0), .lit (.int .u8 0)], .agg [.lit (.int .u8 0), .lit (.int .u8 0)], .agg [.lit (.int .u8 0), .lit (.int .u8 0)], .agg [.lit (.int .u8 0), .lit (.int .u8 0)], .agg [.lit (.int .u8 0), .lit (.int .u8 0)], .agg [.lit (.int .u8 0), .lit (.int .u8 0)], .agg [.lit (.int .u8 0), .lit (.int .u8 0)], .agg [.lit (.int .u8 0), .lit (.int .u8 0)], .agg [.lit (.int .u8 0), .lit (.int .u8 0)], .agg [.lit (.int .u8 0), .lit (.int .u8 0)], .agg [.lit (.int .u8 0), .lit (.int .u8 0)]]
/-- One of Go's own tables, pinned by name: the form's constant. -/
def laid_unicode_utf8_first : DataW Unit := Go.Pinned.utf8First

/-- 'hedgerowlaw14.MessageBytes': WHATEVER THE INPUT: true; the input reads as it did. -/
def messageBytesSpec : ChangeSpec := { name := "messageBytes", fn := fun _ => fun
  | [d] => { results := [.lit (.bool true)], args := [d] }
  | _ => none }
def messageBytesRow : OpenClaim := { program := "ytkmkpdmjdfbpjaagreatdoor", sum := "6d9322b1222b4e186ffc22aae8c7207627d89631691c5c17363ea900d93d96d9", func := "hedgerow/hedgerowlaw14.MessageBytes", spec := "messageBytes", inPlace := ["internal/abi.NoEscape", "internal/bytealg.MakeNoZero", "internal/bytealg.CountString", "internal/bytealg.IndexByteString", "internal/bytealg.IndexString"], unfollowed := true, recurses := true, named := ["unicode/utf8.first", "unicode/utf8.acceptRanges", "internal/bytealg.MaxLen"], apart := false, laid := [("unicode/utf8.acceptRanges", laid_unicode_utf8_acceptRanges), ("unicode/utf8.first", laid_unicode_utf8_first)] }
def MessageBytesSaid : Prop := messageBytesRow.holds Tryz.pinned (OpenSpec.ofChange messageBytesSpec)

/-- ITS FALSE NEIGHBOUR: 'it returns false'. Refute it at one input. -/
def messageBytesWrong : ChangeSpec := { name := "messageBytes", fn := fun _ => fun
  | [d] => { results := [.lit (.bool false)], args := [d] }
  | _ => none }
def MessageBytesWrongFalsely : Prop := messageBytesRow.holds Tryz.pinned (OpenSpec.ofChange messageBytesWrong)

/-- 'hedgerowlaw14.MessageParses': WHATEVER THE INPUT: true; the input reads as it did. -/
def messageParsesSpec : ChangeSpec := { name := "messageParses", fn := fun _ => fun
  | [d] => { results := [.lit (.bool true)], args := [d] }
  | _ => none }
def messageParsesRow : OpenClaim := { program := "ytkmkpdmjdfbpjaagreatdoor", sum := "6d9322b1222b4e186ffc22aae8c7207627d89631691c5c17363ea900d93d96d9", func := "hedgerow/hedgerowlaw14.MessageParses", spec := "messageParses", inPlace := ["internal/abi.NoEscape", "internal/bytealg.MakeNoZero", "internal/bytealg.CountString", "internal/bytealg.IndexByteString", "internal/bytealg.IndexString"], unfollowed := true, recurses := true, named := ["unicode/utf8.first", "unicode/utf8.acceptRanges", "internal/bytealg.MaxLen"], apart := false, laid := [("unicode/utf8.acceptRanges", laid_unicode_utf8_acceptRanges), ("unicode/utf8.first", laid_unicode_utf8_first)] }
def MessageParsesSaid : Prop := messageParsesRow.holds Tryz.pinned (OpenSpec.ofChange messageParsesSpec)

/-- ITS FALSE NEIGHBOUR: 'it returns false'. Refute it at one input. -/
def messageParsesWrong : ChangeSpec := { name := "messageParses", fn := fun _ => fun
  | [d] => { results := [.lit (.bool false)], args := [d] }
  | _ => none }
def MessageParsesWrongFalsely : Prop := messageParsesRow.holds Tryz.pinned (OpenSpec.ofChange messageParsesWrong)

/-- 'hedgerowlaw14.MessageTurned': WHATEVER THE INPUT: true; the input reads as it did. -/
def messageTurnedSpec : ChangeSpec := { name := "messageTurned", fn := fun _ => fun
  | [d1, d2, d3, d4, d5] => { results := [.lit (.bool true)], args := [d1, d2, d3, d4, d5] }
  | _ => none }
def messageTurnedRow : OpenClaim := { program := "ytkmkpdmjdfbpjaagreatdoor", sum := "6d9322b1222b4e186ffc22aae8c7207627d89631691c5c17363ea900d93d96d9", func := "hedgerow/hedgerowlaw14.MessageTurned", spec := "messageTurned", inPlace := ["internal/abi.NoEscape", "internal/bytealg.MakeNoZero", "internal/bytealg.CountString", "internal/bytealg.IndexByteString", "internal/bytealg.IndexString"], unfollowed := true, recurses := true, named := ["unicode/utf8.first", "unicode/utf8.acceptRanges", "internal/bytealg.MaxLen"], apart := false, laid := [("unicode/utf8.acceptRanges", laid_unicode_utf8_acceptRanges), ("unicode/utf8.first", laid_unicode_utf8_first)] }
def MessageTurnedSaid : Prop := messageTurnedRow.holds Tryz.pinned (OpenSpec.ofChange messageTurnedSpec)

/-- ITS FALSE NEIGHBOUR: 'it returns false'. Refute it at one input. -/
def messageTurnedWrong : ChangeSpec := { name := "messageTurned", fn := fun _ => fun
  | [d1, d2, d3, d4, d5] => { results := [.lit (.bool false)], args := [d1, d2, d3, d4, d5] }
  | _ => none }
def MessageTurnedWrongFalsely : Prop := messageTurnedRow.holds Tryz.pinned (OpenSpec.ofChange messageTurnedWrong)

/-- 'hedgerowlaw14.MessageAlone': WHATEVER THE INPUT: true; the input reads as it did. -/
def messageAloneSpec : ChangeSpec := { name := "messageAlone", fn := fun _ => fun
  | [d1, d2] => { results := [.lit (.bool true)], args := [d1, d2] }
  | _ => none }
def messageAloneRow : OpenClaim := { program := "ytkmkpdmjdfbpjaagreatdoor", sum := "6d9322b1222b4e186ffc22aae8c7207627d89631691c5c17363ea900d93d96d9", func := "hedgerow/hedgerowlaw14.MessageAlone", spec := "messageAlone", inPlace := ["internal/abi.NoEscape", "internal/bytealg.MakeNoZero", "internal/bytealg.CountString", "internal/bytealg.IndexByteString", "internal/bytealg.IndexString"], unfollowed := true, recurses := true, named := ["unicode/utf8.first", "unicode/utf8.acceptRanges", "internal/bytealg.MaxLen"], apart := false, laid := [("unicode/utf8.acceptRanges", laid_unicode_utf8_acceptRanges), ("unicode/utf8.first", laid_unicode_utf8_first)] }
def MessageAloneSaid : Prop := messageAloneRow.holds Tryz.pinned (OpenSpec.ofChange messageAloneSpec)

/-- ITS FALSE NEIGHBOUR: 'it returns false'. Refute it at one input. -/
def messageAloneWrong : ChangeSpec := { name := "messageAlone", fn := fun _ => fun
  | [d1, d2] => { results := [.lit (.bool false)], args := [d1, d2] }
  | _ => none }
def MessageAloneWrongFalsely : Prop := messageAloneRow.holds Tryz.pinned (OpenSpec.ofChange messageAloneWrong)

/- THE SECOND FORM. 'bulk': how many values and letters a reading holds, each counted each time it is reached (what is shared counts as often as it is met; a slice's spare places count too). A statement '..UptoSaid' is the law's where the arguments, and the package variables that the reading takes, are together of bulk at most 1048576: NARROWER than '..Said'. Prove '..Said' where nothing that the law and all that it calls make is longer than what came in: it says more and counts as full. Else prove '..UptoSaid'. A law counts once. -/
mutual
def uptoBulk {H : Type} : DataW H → Nat
  | .lit (.string bytes) => bytes.length + 1
  | .lit _ => 1
  | .nil => 1
  | .ptr d => uptoBulk d + 1
  | .slice elems spare => uptoBulkAll elems + uptoBulkAll spare + 1
  | .agg parts => uptoBulkAll parts + 1
  | .iface _ d => uptoBulk d + 1
  | .map entries => uptoBulkEntries entries + 1
  | .held _ => 1
def uptoBulkAll {H : Type} : List (DataW H) → Nat
  | [] => 0
  | d :: r => uptoBulk d + uptoBulkAll r
def uptoBulkEntries {H : Type} : List (Lit × DataW H) → Nat
  | [] => 0
  | x :: r => uptoBulkEntry x + uptoBulkEntries r
def uptoBulkEntry {H : Type} : Lit × DataW H → Nat
  | (.string bytes, d) => bytes.length + uptoBulk d + 1
  | (_, d) => uptoBulk d + 1
 end
def uptoSmall : (H : Type) → List (DataW H) → Bool := fun _ ds => decide (uptoBulkAll ds ≤ 1048576)
def OpenSpec.upto (s : _root_.Go.ChangeSpec) : _root_.Go.OpenSpec := { _root_.Go.OpenSpec.ofChange s with cond := some uptoSmall }

/-- 'hedgerowlaw14.MessageBytes', WHERE WHAT IT READS IS OF BULK AT MOST 1048576: true; the input reads as it did. -/
def messageBytesUptoRow : OpenClaim := { program := "ytkmkpdmjdfbpjaagreatdoor", sum := "6d9322b1222b4e186ffc22aae8c7207627d89631691c5c17363ea900d93d96d9", func := "hedgerow/hedgerowlaw14.MessageBytes", spec := "messageBytes", inPlace := ["internal/abi.NoEscape", "internal/bytealg.MakeNoZero", "internal/bytealg.CountString", "internal/bytealg.IndexByteString", "internal/bytealg.IndexString"], unfollowed := true, recurses := true, named := ["unicode/utf8.first", "unicode/utf8.acceptRanges", "internal/bytealg.MaxLen"], apart := false, laid := [("unicode/utf8.acceptRanges", laid_unicode_utf8_acceptRanges), ("unicode/utf8.first", laid_unicode_utf8_first)], narrowed := true }
def MessageBytesUptoSaid : Prop := messageBytesUptoRow.holds Tryz.pinned (OpenSpec.upto messageBytesSpec)

/-- 'hedgerowlaw14.MessageParses', WHERE WHAT IT READS IS OF BULK AT MOST 1048576: true; the input reads as it did. -/
def messageParsesUptoRow : OpenClaim := { program := "ytkmkpdmjdfbpjaagreatdoor", sum := "6d9322b1222b4e186ffc22aae8c7207627d89631691c5c17363ea900d93d96d9", func := "hedgerow/hedgerowlaw14.MessageParses", spec := "messageParses", inPlace := ["internal/abi.NoEscape", "internal/bytealg.MakeNoZero", "internal/bytealg.CountString", "internal/bytealg.IndexByteString", "internal/bytealg.IndexString"], unfollowed := true, recurses := true, named := ["unicode/utf8.first", "unicode/utf8.acceptRanges", "internal/bytealg.MaxLen"], apart := false, laid := [("unicode/utf8.acceptRanges", laid_unicode_utf8_acceptRanges), ("unicode/utf8.first", laid_unicode_utf8_first)], narrowed := true }
def MessageParsesUptoSaid : Prop := messageParsesUptoRow.holds Tryz.pinned (OpenSpec.upto messageParsesSpec)

/-- 'hedgerowlaw14.MessageTurned', WHERE WHAT IT READS IS OF BULK AT MOST 1048576: true; the input reads as it did. -/
def messageTurnedUptoRow : OpenClaim := { program := "ytkmkpdmjdfbpjaagreatdoor", sum := "6d9322b1222b4e186ffc22aae8c7207627d89631691c5c17363ea900d93d96d9", func := "hedgerow/hedgerowlaw14.MessageTurned", spec := "messageTurned", inPlace := ["internal/abi.NoEscape", "internal/bytealg.MakeNoZero", "internal/bytealg.CountString", "internal/bytealg.IndexByteString", "internal/bytealg.IndexString"], unfollowed := true, recurses := true, named := ["unicode/utf8.first", "unicode/utf8.acceptRanges", "internal/bytealg.MaxLen"], apart := false, laid := [("unicode/utf8.acceptRanges", laid_unicode_utf8_acceptRanges), ("unicode/utf8.first", laid_unicode_utf8_first)], narrowed := true }
def MessageTurnedUptoSaid : Prop := messageTurnedUptoRow.holds Tryz.pinned (OpenSpec.upto messageTurnedSpec)

/-- 'hedgerowlaw14.MessageAlone', WHERE WHAT IT READS IS OF BULK AT MOST 1048576: true; the input reads as it did. -/
def messageAloneUptoRow : OpenClaim := { program := "ytkmkpdmjdfbpjaagreatdoor", sum := "6d9322b1222b4e186ffc22aae8c7207627d89631691c5c17363ea900d93d96d9", func := "hedgerow/hedgerowlaw14.MessageAlone", spec := "messageAlone", inPlace := ["internal/abi.NoEscape", "internal/bytealg.MakeNoZero", "internal/bytealg.CountString", "internal/bytealg.IndexByteString", "internal/bytealg.IndexString"], unfollowed := true, recurses := true, named := ["unicode/utf8.first", "unicode/utf8.acceptRanges", "internal/bytealg.MaxLen"], apart := false, laid := [("unicode/utf8.acceptRanges", laid_unicode_utf8_acceptRanges), ("unicode/utf8.first", laid_unicode_utf8_first)], narrowed := true }
def MessageAloneUptoSaid : Prop := messageAloneUptoRow.holds Tryz.pinned (OpenSpec.upto messageAloneSpec)

end Rows
end Go.Proofs.YtkmkpdmjdfbpjaaGreatDoor
