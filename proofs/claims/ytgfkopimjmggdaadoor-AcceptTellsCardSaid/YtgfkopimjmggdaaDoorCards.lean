/-
  DERIVED. GIVEN WITH THE SEED: THE CARDS: each row of YtgfkopimjmggdaaDoorRows.lean that lists a variable, with what it lists TIED to the program's text (the seventh form; the later family's looks); each row that meets fmt, with fmt's text TOLD by the authors' own Lean function (tested against real Go, not proved from fmt's source: count such statements apart). THE CARD IS WHAT COUNTS. Prove the row's statement (the work); the ties are given (YtgfkopimjmggdaaDoorTie.lean); close each card by the builder's one call (the guide's Derived/Test/ToyasCard.lean, 'card_holds'). Laid BY PROGRAM, IN A SANDBOX (cutbox-door.mjs). By AI agents, Wed Nov 11 2026. No macro, syntax, notation, axiom, sorry.
-/
import Derived.Test.YtgfkopimjmggdaaDoorRows
import GoSem.ClaimSeven
namespace Go.Proofs.YtgfkopimjmggdaaDoor
namespace Rows

/-- THE TIED CARD OF 'hedgerowlaw09.AcceptTells'. -/
def acceptTellsCard : Claim7 := { stood := { row := acceptTellsRow, standIns := [], harness := (true, "4b7f1a1451636f68dd2b982b5f15fbc38262b4b81509b530fcbe95381da035f9"), looks := false }, kinds := [], alts := [], laidByText := true, laidKinds := [.data, .pinned], laidTests := true, laidLooks := .later }
def AcceptTellsCardSaid : Prop := Claim7.holds Tryd.pinned (.plain (OpenSpec.ofChange acceptTellsSpec)) acceptTellsCard

/-- THE TIED CARD OF 'hedgerowlaw09.AcceptSorts'. -/
def acceptSortsCard : Claim7 := { stood := { row := acceptSortsRow, standIns := [], harness := (true, "4b7f1a1451636f68dd2b982b5f15fbc38262b4b81509b530fcbe95381da035f9"), looks := false }, kinds := [], alts := [], laidByText := true, laidKinds := [.data, .pinned], laidTests := true, laidLooks := .later }
def AcceptSortsCardSaid : Prop := Claim7.holds Tryd.pinned (.plain (OpenSpec.ofChange acceptSortsSpec)) acceptSortsCard

/-- THE TIED CARD OF 'hedgerowlaw09.AcceptOrder'. -/
def acceptOrderCard : Claim7 := { stood := { row := acceptOrderRow, standIns := [], harness := (true, "4b7f1a1451636f68dd2b982b5f15fbc38262b4b81509b530fcbe95381da035f9"), looks := false }, kinds := [], alts := [], laidByText := true, laidKinds := [.data, .pinned], laidTests := true, laidLooks := .later }
def AcceptOrderCardSaid : Prop := Claim7.holds Tryd.pinned (.plain (OpenSpec.ofChange acceptOrderSpec)) acceptOrderCard

/-- THE TIED CARD OF 'hedgerowlaw09.AcceptAgain'. -/
def acceptAgainCard : Claim7 := { stood := { row := acceptAgainRow, standIns := [], harness := (true, "4b7f1a1451636f68dd2b982b5f15fbc38262b4b81509b530fcbe95381da035f9"), looks := false }, kinds := [], alts := [], laidByText := true, laidKinds := [.data, .pinned], laidTests := true, laidLooks := .later }
def AcceptAgainCardSaid : Prop := Claim7.holds Tryd.pinned (.plain (OpenSpec.ofChange acceptAgainSpec)) acceptAgainCard

/-- THE SECOND FORM's CARD OF 'hedgerowlaw09.AcceptTells'. -/
def acceptTellsUptoCard : Claim7 := { stood := { row := acceptTellsUptoRow, standIns := [], harness := (true, "4b7f1a1451636f68dd2b982b5f15fbc38262b4b81509b530fcbe95381da035f9"), looks := false }, kinds := [], alts := [], laidByText := true, laidKinds := [.data, .pinned], laidTests := true, laidLooks := .later }
def AcceptTellsUptoCardSaid : Prop := Claim7.holds Tryd.pinned (.plain (OpenSpec.upto acceptTellsSpec)) acceptTellsUptoCard

/-- THE SECOND FORM's CARD OF 'hedgerowlaw09.AcceptSorts'. -/
def acceptSortsUptoCard : Claim7 := { stood := { row := acceptSortsUptoRow, standIns := [], harness := (true, "4b7f1a1451636f68dd2b982b5f15fbc38262b4b81509b530fcbe95381da035f9"), looks := false }, kinds := [], alts := [], laidByText := true, laidKinds := [.data, .pinned], laidTests := true, laidLooks := .later }
def AcceptSortsUptoCardSaid : Prop := Claim7.holds Tryd.pinned (.plain (OpenSpec.upto acceptSortsSpec)) acceptSortsUptoCard

/-- THE SECOND FORM's CARD OF 'hedgerowlaw09.AcceptOrder'. -/
def acceptOrderUptoCard : Claim7 := { stood := { row := acceptOrderUptoRow, standIns := [], harness := (true, "4b7f1a1451636f68dd2b982b5f15fbc38262b4b81509b530fcbe95381da035f9"), looks := false }, kinds := [], alts := [], laidByText := true, laidKinds := [.data, .pinned], laidTests := true, laidLooks := .later }
def AcceptOrderUptoCardSaid : Prop := Claim7.holds Tryd.pinned (.plain (OpenSpec.upto acceptOrderSpec)) acceptOrderUptoCard

/-- THE SECOND FORM's CARD OF 'hedgerowlaw09.AcceptAgain'. -/
def acceptAgainUptoCard : Claim7 := { stood := { row := acceptAgainUptoRow, standIns := [], harness := (true, "4b7f1a1451636f68dd2b982b5f15fbc38262b4b81509b530fcbe95381da035f9"), looks := false }, kinds := [], alts := [], laidByText := true, laidKinds := [.data, .pinned], laidTests := true, laidLooks := .later }
def AcceptAgainUptoCardSaid : Prop := Claim7.holds Tryd.pinned (.plain (OpenSpec.upto acceptAgainSpec)) acceptAgainUptoCard
end Rows
end Go.Proofs.YtgfkopimjmggdaaDoor
