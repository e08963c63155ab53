/-
  DERIVED. GIVEN WITH THE SEED: THE CARDS: each row of YtdnpmgbpnkjikaaGreatDoorRows.lean that lists a variable, with what it lists TIED to the program's text (the seventh form; the later family's looks); each row that meets fmt, with fmt's text TOLD by the authors' own Lean function (tested against real Go, not proved from fmt's source: count such statements apart). THE CARD IS WHAT COUNTS. Prove the row's statement (the work); the ties are given (YtdnpmgbpnkjikaaGreatDoorTie.lean); close each card by the builder's one call (the guide's Derived/Test/ToyasCard.lean, 'card_holds'). Laid BY PROGRAM, IN A SANDBOX (cutbox-door.mjs). By AI agents, Wed Nov 11 2026. No macro, syntax, notation, axiom, sorry.
-/
import Derived.Test.YtdnpmgbpnkjikaaGreatDoorRows
import GoSem.ClaimSeven
namespace Go.Proofs.YtdnpmgbpnkjikaaGreatDoor
namespace Rows

/-- THE TIED CARD OF 'murmurationlaw17.SwapNil'. -/
def swapNilCard : Claim7 := { stood := { row := swapNilRow, standIns := [], harness := (true, "94006e4e1f959700edfaa0d3f21408875c111fdd0f527e3af91cdc5742d0fa5b"), looks := false }, kinds := [], alts := [], laidByText := true, laidKinds := [.data, .data, .data, .data], laidTests := true, laidLooks := .later }
def SwapNilCardSaid : Prop := Claim7.holds Tryz.pinned (.plain (OpenSpec.ofChange swapNilSpec)) swapNilCard

/-- THE SECOND FORM's CARD OF 'murmurationlaw17.SwapNil'. -/
def swapNilUptoCard : Claim7 := { stood := { row := swapNilUptoRow, standIns := [], harness := (true, "94006e4e1f959700edfaa0d3f21408875c111fdd0f527e3af91cdc5742d0fa5b"), looks := false }, kinds := [], alts := [], laidByText := true, laidKinds := [.data, .data, .data, .data], laidTests := true, laidLooks := .later }
def SwapNilUptoCardSaid : Prop := Claim7.holds Tryz.pinned (.plain (OpenSpec.upto swapNilSpec)) swapNilUptoCard
end Rows
end Go.Proofs.YtdnpmgbpnkjikaaGreatDoor
