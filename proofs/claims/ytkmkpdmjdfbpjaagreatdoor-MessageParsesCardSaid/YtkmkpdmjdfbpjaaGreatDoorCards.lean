/-
  DERIVED. GIVEN WITH THE SEED: THE CARDS: each row of YtkmkpdmjdfbpjaaGreatDoorRows.lean that lists a variable, with what it lists TIED to the program's text (the seventh form; the later family's looks); each row that meets fmt, with fmt's text TOLD by the authors' own Lean function (tested against real Go, not proved from fmt's source: count such statements apart). THE CARD IS WHAT COUNTS. Prove the row's statement (the work); the ties are given (YtkmkpdmjdfbpjaaGreatDoorTie.lean); close each card by the builder's one call (the guide's Derived/Test/ToyasCard.lean, 'card_holds'). Laid BY PROGRAM, IN A SANDBOX (cutbox-door.mjs). By AI agents, Wed Nov 11 2026. No macro, syntax, notation, axiom, sorry.
-/
import Derived.Test.YtkmkpdmjdfbpjaaGreatDoorRows
import GoSem.ClaimSeven
namespace Go.Proofs.YtkmkpdmjdfbpjaaGreatDoor
namespace Rows

/-- THE TIED CARD OF 'hedgerowlaw14.MessageBytes'. -/
def messageBytesCard : Claim7 := { stood := { row := messageBytesRow, standIns := [], harness := (true, "dd2cbbf751cd068ad162288338ffecabaa1014f24e37d8c90c5d57ccabf73e99"), looks := false }, kinds := [], alts := [], laidByText := true, laidKinds := [.data, .pinned], laidTests := true, laidLooks := .later }
def MessageBytesCardSaid : Prop := Claim7.holds Tryz.pinned (.plain (OpenSpec.ofChange messageBytesSpec)) messageBytesCard

/-- THE TIED CARD OF 'hedgerowlaw14.MessageParses'. -/
def messageParsesCard : Claim7 := { stood := { row := messageParsesRow, standIns := [], harness := (true, "dd2cbbf751cd068ad162288338ffecabaa1014f24e37d8c90c5d57ccabf73e99"), looks := false }, kinds := [], alts := [], laidByText := true, laidKinds := [.data, .pinned], laidTests := true, laidLooks := .later }
def MessageParsesCardSaid : Prop := Claim7.holds Tryz.pinned (.plain (OpenSpec.ofChange messageParsesSpec)) messageParsesCard

/-- THE TIED CARD OF 'hedgerowlaw14.MessageTurned'. -/
def messageTurnedCard : Claim7 := { stood := { row := messageTurnedRow, standIns := [], harness := (true, "dd2cbbf751cd068ad162288338ffecabaa1014f24e37d8c90c5d57ccabf73e99"), looks := false }, kinds := [], alts := [], laidByText := true, laidKinds := [.data, .pinned], laidTests := true, laidLooks := .later }
def MessageTurnedCardSaid : Prop := Claim7.holds Tryz.pinned (.plain (OpenSpec.ofChange messageTurnedSpec)) messageTurnedCard

/-- THE TIED CARD OF 'hedgerowlaw14.MessageAlone'. -/
def messageAloneCard : Claim7 := { stood := { row := messageAloneRow, standIns := [], harness := (true, "dd2cbbf751cd068ad162288338ffecabaa1014f24e37d8c90c5d57ccabf73e99"), looks := false }, kinds := [], alts := [], laidByText := true, laidKinds := [.data, .pinned], laidTests := true, laidLooks := .later }
def MessageAloneCardSaid : Prop := Claim7.holds Tryz.pinned (.plain (OpenSpec.ofChange messageAloneSpec)) messageAloneCard

/-- THE SECOND FORM's CARD OF 'hedgerowlaw14.MessageBytes'. -/
def messageBytesUptoCard : Claim7 := { stood := { row := messageBytesUptoRow, standIns := [], harness := (true, "dd2cbbf751cd068ad162288338ffecabaa1014f24e37d8c90c5d57ccabf73e99"), looks := false }, kinds := [], alts := [], laidByText := true, laidKinds := [.data, .pinned], laidTests := true, laidLooks := .later }
def MessageBytesUptoCardSaid : Prop := Claim7.holds Tryz.pinned (.plain (OpenSpec.upto messageBytesSpec)) messageBytesUptoCard

/-- THE SECOND FORM's CARD OF 'hedgerowlaw14.MessageParses'. -/
def messageParsesUptoCard : Claim7 := { stood := { row := messageParsesUptoRow, standIns := [], harness := (true, "dd2cbbf751cd068ad162288338ffecabaa1014f24e37d8c90c5d57ccabf73e99"), looks := false }, kinds := [], alts := [], laidByText := true, laidKinds := [.data, .pinned], laidTests := true, laidLooks := .later }
def MessageParsesUptoCardSaid : Prop := Claim7.holds Tryz.pinned (.plain (OpenSpec.upto messageParsesSpec)) messageParsesUptoCard

/-- THE SECOND FORM's CARD OF 'hedgerowlaw14.MessageTurned'. -/
def messageTurnedUptoCard : Claim7 := { stood := { row := messageTurnedUptoRow, standIns := [], harness := (true, "dd2cbbf751cd068ad162288338ffecabaa1014f24e37d8c90c5d57ccabf73e99"), looks := false }, kinds := [], alts := [], laidByText := true, laidKinds := [.data, .pinned], laidTests := true, laidLooks := .later }
def MessageTurnedUptoCardSaid : Prop := Claim7.holds Tryz.pinned (.plain (OpenSpec.upto messageTurnedSpec)) messageTurnedUptoCard

/-- THE SECOND FORM's CARD OF 'hedgerowlaw14.MessageAlone'. -/
def messageAloneUptoCard : Claim7 := { stood := { row := messageAloneUptoRow, standIns := [], harness := (true, "dd2cbbf751cd068ad162288338ffecabaa1014f24e37d8c90c5d57ccabf73e99"), looks := false }, kinds := [], alts := [], laidByText := true, laidKinds := [.data, .pinned], laidTests := true, laidLooks := .later }
def MessageAloneUptoCardSaid : Prop := Claim7.holds Tryz.pinned (.plain (OpenSpec.upto messageAloneSpec)) messageAloneUptoCard
end Rows
end Go.Proofs.YtkmkpdmjdfbpjaaGreatDoor
