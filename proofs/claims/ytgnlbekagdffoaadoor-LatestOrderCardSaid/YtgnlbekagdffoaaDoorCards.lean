/-
  DERIVED. GIVEN WITH THE SEED: THE CARDS: each row of YtgnlbekagdffoaaDoorRows.lean that lists a variable, with what it lists TIED to the program's text (the seventh form; the later family's looks); each row that meets fmt, with fmt's text TOLD by the authors' own Lean function (tested against real Go, not proved from fmt's source: count such statements apart). THE CARD IS WHAT COUNTS. Prove the row's statement (the work); the ties are given (YtgnlbekagdffoaaDoorTie.lean); close each card by the builder's one call (the guide's Derived/Test/ToyasCard.lean, 'card_holds'). Laid BY PROGRAM, IN A SANDBOX (cutbox-door.mjs). By AI agents, Wed Nov 11 2026. No macro, syntax, notation, axiom, sorry.
-/
import Derived.Test.YtgnlbekagdffoaaDoorRows
import GoSem.ClaimSeven
namespace Go.Proofs.YtgnlbekagdffoaaDoor
namespace Rows

/-- THE TIED CARD OF 'hedgerowlaw36.LatestPuts'. -/
def latestPutsCard : Claim7 := { stood := { row := latestPutsRow, standIns := [], harness := (true, "3cb0ed3278146e370e21927e578cc0d57e27e62d0a1a72eb17c43da8e58a0fc0"), looks := false }, kinds := [], alts := [], laidByText := true, laidKinds := [.data, .pinned], laidTests := true, laidLooks := .later }
def LatestPutsCardSaid : Prop := Claim7.holds Tryd.pinned (.plain (OpenSpec.ofChange latestPutsSpec)) latestPutsCard

/-- THE TIED CARD OF 'hedgerowlaw36.LatestOrder'. -/
def latestOrderCard : Claim7 := { stood := { row := latestOrderRow, standIns := [], harness := (true, "3cb0ed3278146e370e21927e578cc0d57e27e62d0a1a72eb17c43da8e58a0fc0"), looks := false }, kinds := [], alts := [], laidByText := true, laidKinds := [.data, .pinned], laidTests := true, laidLooks := .later }
def LatestOrderCardSaid : Prop := Claim7.holds Tryd.pinned (.plain (OpenSpec.ofChange latestOrderSpec)) latestOrderCard

/-- THE TIED CARD OF 'hedgerowlaw36.LatestTicks'. -/
def latestTicksCard : Claim7 := { stood := { row := latestTicksRow, standIns := [], harness := (true, "3cb0ed3278146e370e21927e578cc0d57e27e62d0a1a72eb17c43da8e58a0fc0"), looks := false }, kinds := [], alts := [], laidByText := true, laidKinds := [.data, .pinned], laidTests := true, laidLooks := .later }
def LatestTicksCardSaid : Prop := Claim7.holds Tryd.pinned (.plain (OpenSpec.ofChange latestTicksSpec)) latestTicksCard

/-- THE TIED CARD OF 'hedgerowlaw36.LatestGrows'. -/
def latestGrowsCard : Claim7 := { stood := { row := latestGrowsRow, standIns := [], harness := (true, "3cb0ed3278146e370e21927e578cc0d57e27e62d0a1a72eb17c43da8e58a0fc0"), looks := false }, kinds := [], alts := [], laidByText := true, laidKinds := [.data, .pinned], laidTests := true, laidLooks := .later }
def LatestGrowsCardSaid : Prop := Claim7.holds Tryd.pinned (.plain (OpenSpec.ofChange latestGrowsSpec)) latestGrowsCard

/-- THE SECOND FORM's CARD OF 'hedgerowlaw36.LatestPuts'. -/
def latestPutsUptoCard : Claim7 := { stood := { row := latestPutsUptoRow, standIns := [], harness := (true, "3cb0ed3278146e370e21927e578cc0d57e27e62d0a1a72eb17c43da8e58a0fc0"), looks := false }, kinds := [], alts := [], laidByText := true, laidKinds := [.data, .pinned], laidTests := true, laidLooks := .later }
def LatestPutsUptoCardSaid : Prop := Claim7.holds Tryd.pinned (.plain (OpenSpec.upto latestPutsSpec)) latestPutsUptoCard

/-- THE SECOND FORM's CARD OF 'hedgerowlaw36.LatestOrder'. -/
def latestOrderUptoCard : Claim7 := { stood := { row := latestOrderUptoRow, standIns := [], harness := (true, "3cb0ed3278146e370e21927e578cc0d57e27e62d0a1a72eb17c43da8e58a0fc0"), looks := false }, kinds := [], alts := [], laidByText := true, laidKinds := [.data, .pinned], laidTests := true, laidLooks := .later }
def LatestOrderUptoCardSaid : Prop := Claim7.holds Tryd.pinned (.plain (OpenSpec.upto latestOrderSpec)) latestOrderUptoCard

/-- THE SECOND FORM's CARD OF 'hedgerowlaw36.LatestTicks'. -/
def latestTicksUptoCard : Claim7 := { stood := { row := latestTicksUptoRow, standIns := [], harness := (true, "3cb0ed3278146e370e21927e578cc0d57e27e62d0a1a72eb17c43da8e58a0fc0"), looks := false }, kinds := [], alts := [], laidByText := true, laidKinds := [.data, .pinned], laidTests := true, laidLooks := .later }
def LatestTicksUptoCardSaid : Prop := Claim7.holds Tryd.pinned (.plain (OpenSpec.upto latestTicksSpec)) latestTicksUptoCard

/-- THE SECOND FORM's CARD OF 'hedgerowlaw36.LatestGrows'. -/
def latestGrowsUptoCard : Claim7 := { stood := { row := latestGrowsUptoRow, standIns := [], harness := (true, "3cb0ed3278146e370e21927e578cc0d57e27e62d0a1a72eb17c43da8e58a0fc0"), looks := false }, kinds := [], alts := [], laidByText := true, laidKinds := [.data, .pinned], laidTests := true, laidLooks := .later }
def LatestGrowsUptoCardSaid : Prop := Claim7.holds Tryd.pinned (.plain (OpenSpec.upto latestGrowsSpec)) latestGrowsUptoCard
end Rows
end Go.Proofs.YtgnlbekagdffoaaDoor
