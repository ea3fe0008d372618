/-
  DERIVED. GIVEN WITH THE SEED: THE CARDS: each row of YtjkjbbmbfobdaaaDoorRows.lean that lists a variable, with what it lists TIED to the program's text (the seventh form; the later family's looks); each row that meets fmt, with fmt's text TOLD by the authors' own Lean function (tested against real Go, not proved from fmt's source: count such statements apart). THE CARD IS WHAT COUNTS. Prove the row's statement (the work); the ties are given (YtjkjbbmbfobdaaaDoorTie.lean); close each card by the builder's one call (the guide's Derived/Test/ToyasCard.lean, 'card_holds'). Laid BY PROGRAM, IN A SANDBOX (cutbox-door.mjs). By AI agents, Wed Nov 11 2026. No macro, syntax, notation, axiom, sorry.
-/
import Derived.Test.YtjkjbbmbfobdaaaDoorRows
import GoSem.ClaimSeven
namespace Go.Proofs.YtjkjbbmbfobdaaaDoor
namespace Rows

/-- THE TIED CARD OF 'hedgerowlaw06.EventRight'. -/
def eventRightCard : Claim7 := { stood := { row := eventRightRow, standIns := [], harness := (true, "560e1271e788dd842bcd39e7a8d5ba7616ce4f17931a0dbf8e0b7344f5311c09"), looks := false }, kinds := [], alts := [], laidByText := true, laidKinds := [.data, .pinned], laidTests := true, laidLooks := .later }
def EventRightCardSaid : Prop := Claim7.holds Tryd.pinned (.plain (OpenSpec.ofChange eventRightSpec)) eventRightCard

/-- THE TIED CARD OF 'hedgerowlaw06.EventBytes'. -/
def eventBytesCard : Claim7 := { stood := { row := eventBytesRow, standIns := [], harness := (true, "560e1271e788dd842bcd39e7a8d5ba7616ce4f17931a0dbf8e0b7344f5311c09"), looks := false }, kinds := [], alts := [], laidByText := true, laidKinds := [.data, .pinned], laidTests := true, laidLooks := .later }
def EventBytesCardSaid : Prop := Claim7.holds Tryd.pinned (.plain (OpenSpec.ofChange eventBytesSpec)) eventBytesCard

/-- THE TIED CARD OF 'hedgerowlaw06.EventCuts'. -/
def eventCutsCard : Claim7 := { stood := { row := eventCutsRow, standIns := [], harness := (true, "560e1271e788dd842bcd39e7a8d5ba7616ce4f17931a0dbf8e0b7344f5311c09"), looks := false }, kinds := [], alts := [], laidByText := true, laidKinds := [.data, .pinned], laidTests := true, laidLooks := .later }
def EventCutsCardSaid : Prop := Claim7.holds Tryd.pinned (.plain (OpenSpec.ofChange eventCutsSpec)) eventCutsCard

/-- THE SECOND FORM's CARD OF 'hedgerowlaw06.EventRight'. -/
def eventRightUptoCard : Claim7 := { stood := { row := eventRightUptoRow, standIns := [], harness := (true, "560e1271e788dd842bcd39e7a8d5ba7616ce4f17931a0dbf8e0b7344f5311c09"), looks := false }, kinds := [], alts := [], laidByText := true, laidKinds := [.data, .pinned], laidTests := true, laidLooks := .later }
def EventRightUptoCardSaid : Prop := Claim7.holds Tryd.pinned (.plain (OpenSpec.upto eventRightSpec)) eventRightUptoCard

/-- THE SECOND FORM's CARD OF 'hedgerowlaw06.EventBytes'. -/
def eventBytesUptoCard : Claim7 := { stood := { row := eventBytesUptoRow, standIns := [], harness := (true, "560e1271e788dd842bcd39e7a8d5ba7616ce4f17931a0dbf8e0b7344f5311c09"), looks := false }, kinds := [], alts := [], laidByText := true, laidKinds := [.data, .pinned], laidTests := true, laidLooks := .later }
def EventBytesUptoCardSaid : Prop := Claim7.holds Tryd.pinned (.plain (OpenSpec.upto eventBytesSpec)) eventBytesUptoCard

/-- THE SECOND FORM's CARD OF 'hedgerowlaw06.EventCuts'. -/
def eventCutsUptoCard : Claim7 := { stood := { row := eventCutsUptoRow, standIns := [], harness := (true, "560e1271e788dd842bcd39e7a8d5ba7616ce4f17931a0dbf8e0b7344f5311c09"), looks := false }, kinds := [], alts := [], laidByText := true, laidKinds := [.data, .pinned], laidTests := true, laidLooks := .later }
def EventCutsUptoCardSaid : Prop := Claim7.holds Tryd.pinned (.plain (OpenSpec.upto eventCutsSpec)) eventCutsUptoCard
end Rows
end Go.Proofs.YtjkjbbmbfobdaaaDoor
