/-
  DERIVED. GIVEN WITH THE SEED: THE CARDS: each row of YtcopnmbokhjjmaaGreatDoorRows.lean that lists a variable, with what it lists TIED to the program's text (the seventh form; the later family's looks); each row that meets fmt, with fmt's text TOLD by the authors' own Lean function (tested against real Go, not proved from fmt's source: count such statements apart). THE CARD IS WHAT COUNTS. Prove the row's statement (the work); the ties are given (YtcopnmbokhjjmaaGreatDoorTie.lean); close each card by the builder's one call (the guide's Derived/Test/ToyasCard.lean, 'card_holds'). Laid BY PROGRAM, IN A SANDBOX (cutbox-door.mjs). By AI agents, Wed Nov 11 2026. No macro, syntax, notation, axiom, sorry.
-/
import Derived.Test.YtcopnmbokhjjmaaGreatDoorRows
import GoSem.ClaimSeven
namespace Go.Proofs.YtcopnmbokhjjmaaGreatDoor
namespace Rows

/-- THE TIED CARD OF 'murmurationlaw05.SquashTwo'. -/
def squashTwoCard : Claim7 := { stood := { row := squashTwoRow, standIns := [], harness := (true, "b5e9a4ca7896f22e2b0a1d6222c60729683d88686540fd83e3661879c0ad5b16"), looks := true }, kinds := [], alts := [], laidByText := true, laidKinds := [.data, .data, .data, .sentinel, .sentinel], laidTests := true, laidLooks := .later }
def SquashTwoCardSaid : Prop := Claim7.holds Tryz.pinned (.plain (OpenSpec.ofChange squashTwoSpec)) squashTwoCard

/-- THE TIED CARD OF 'murmurationlaw05.SquashLess'. -/
def squashLessCard : Claim7 := { stood := { row := squashLessRow, standIns := [], harness := (true, "b5e9a4ca7896f22e2b0a1d6222c60729683d88686540fd83e3661879c0ad5b16"), looks := true }, kinds := [], alts := [], laidByText := true, laidKinds := [.data, .data, .data, .sentinel, .sentinel], laidTests := true, laidLooks := .later }
def SquashLessCardSaid : Prop := Claim7.holds Tryz.pinned (.plain (OpenSpec.ofChange squashLessSpec)) squashLessCard

/-- THE TIED CARD OF 'murmurationlaw05.SquashNil'. -/
def squashNilCard : Claim7 := { stood := { row := squashNilRow, standIns := [], harness := (true, "b5e9a4ca7896f22e2b0a1d6222c60729683d88686540fd83e3661879c0ad5b16"), looks := true }, kinds := [], alts := [], laidByText := true, laidKinds := [.data, .data, .data, .sentinel, .sentinel], laidTests := true, laidLooks := .later }
def SquashNilCardSaid : Prop := Claim7.holds Tryz.pinned (.plain (OpenSpec.ofChange squashNilSpec)) squashNilCard

/-- THE TIED CARD OF 'murmurationlaw05.SquashOnce'. -/
def squashOnceCard : Claim7 := { stood := { row := squashOnceRow, standIns := [], harness := (true, "b5e9a4ca7896f22e2b0a1d6222c60729683d88686540fd83e3661879c0ad5b16"), looks := true }, kinds := [], alts := [], laidByText := true, laidKinds := [.data, .data, .data, .sentinel, .sentinel], laidTests := true, laidLooks := .later }
def SquashOnceCardSaid : Prop := Claim7.holds Tryz.pinned (.plain (OpenSpec.ofChange squashOnceSpec)) squashOnceCard

/-- THE TIED CARD OF 'murmurationlaw05.SquashCounts'. -/
def squashCountsCard : Claim7 := { stood := { row := squashCountsRow, standIns := [], harness := (true, "b5e9a4ca7896f22e2b0a1d6222c60729683d88686540fd83e3661879c0ad5b16"), looks := true }, kinds := [], alts := [], laidByText := true, laidKinds := [.data, .data, .data, .sentinel, .sentinel], laidTests := true, laidLooks := .later }
def SquashCountsCardSaid : Prop := Claim7.holds Tryz.pinned (.plain (OpenSpec.ofChange squashCountsSpec)) squashCountsCard

/-- THE TIED CARD OF 'murmurationlaw05.SquashKeeps'. -/
def squashKeepsCard : Claim7 := { stood := { row := squashKeepsRow, standIns := [], harness := (true, "b5e9a4ca7896f22e2b0a1d6222c60729683d88686540fd83e3661879c0ad5b16"), looks := true }, kinds := [], alts := [], laidByText := true, laidKinds := [.data, .data, .data, .sentinel, .sentinel], laidTests := true, laidLooks := .later }
def SquashKeepsCardSaid : Prop := Claim7.holds Tryz.pinned (.plain (OpenSpec.ofChange squashKeepsSpec)) squashKeepsCard

/-- THE SECOND FORM's CARD OF 'murmurationlaw05.SquashTwo'. -/
def squashTwoUptoCard : Claim7 := { stood := { row := squashTwoUptoRow, standIns := [], harness := (true, "b5e9a4ca7896f22e2b0a1d6222c60729683d88686540fd83e3661879c0ad5b16"), looks := true }, kinds := [], alts := [], laidByText := true, laidKinds := [.data, .data, .data, .sentinel, .sentinel], laidTests := true, laidLooks := .later }
def SquashTwoUptoCardSaid : Prop := Claim7.holds Tryz.pinned (.plain (OpenSpec.upto squashTwoSpec)) squashTwoUptoCard

/-- THE SECOND FORM's CARD OF 'murmurationlaw05.SquashLess'. -/
def squashLessUptoCard : Claim7 := { stood := { row := squashLessUptoRow, standIns := [], harness := (true, "b5e9a4ca7896f22e2b0a1d6222c60729683d88686540fd83e3661879c0ad5b16"), looks := true }, kinds := [], alts := [], laidByText := true, laidKinds := [.data, .data, .data, .sentinel, .sentinel], laidTests := true, laidLooks := .later }
def SquashLessUptoCardSaid : Prop := Claim7.holds Tryz.pinned (.plain (OpenSpec.upto squashLessSpec)) squashLessUptoCard

/-- THE SECOND FORM's CARD OF 'murmurationlaw05.SquashNil'. -/
def squashNilUptoCard : Claim7 := { stood := { row := squashNilUptoRow, standIns := [], harness := (true, "b5e9a4ca7896f22e2b0a1d6222c60729683d88686540fd83e3661879c0ad5b16"), looks := true }, kinds := [], alts := [], laidByText := true, laidKinds := [.data, .data, .data, .sentinel, .sentinel], laidTests := true, laidLooks := .later }
def SquashNilUptoCardSaid : Prop := Claim7.holds Tryz.pinned (.plain (OpenSpec.upto squashNilSpec)) squashNilUptoCard

/-- THE SECOND FORM's CARD OF 'murmurationlaw05.SquashOnce'. -/
def squashOnceUptoCard : Claim7 := { stood := { row := squashOnceUptoRow, standIns := [], harness := (true, "b5e9a4ca7896f22e2b0a1d6222c60729683d88686540fd83e3661879c0ad5b16"), looks := true }, kinds := [], alts := [], laidByText := true, laidKinds := [.data, .data, .data, .sentinel, .sentinel], laidTests := true, laidLooks := .later }
def SquashOnceUptoCardSaid : Prop := Claim7.holds Tryz.pinned (.plain (OpenSpec.upto squashOnceSpec)) squashOnceUptoCard

/-- THE SECOND FORM's CARD OF 'murmurationlaw05.SquashCounts'. -/
def squashCountsUptoCard : Claim7 := { stood := { row := squashCountsUptoRow, standIns := [], harness := (true, "b5e9a4ca7896f22e2b0a1d6222c60729683d88686540fd83e3661879c0ad5b16"), looks := true }, kinds := [], alts := [], laidByText := true, laidKinds := [.data, .data, .data, .sentinel, .sentinel], laidTests := true, laidLooks := .later }
def SquashCountsUptoCardSaid : Prop := Claim7.holds Tryz.pinned (.plain (OpenSpec.upto squashCountsSpec)) squashCountsUptoCard

/-- THE SECOND FORM's CARD OF 'murmurationlaw05.SquashKeeps'. -/
def squashKeepsUptoCard : Claim7 := { stood := { row := squashKeepsUptoRow, standIns := [], harness := (true, "b5e9a4ca7896f22e2b0a1d6222c60729683d88686540fd83e3661879c0ad5b16"), looks := true }, kinds := [], alts := [], laidByText := true, laidKinds := [.data, .data, .data, .sentinel, .sentinel], laidTests := true, laidLooks := .later }
def SquashKeepsUptoCardSaid : Prop := Claim7.holds Tryz.pinned (.plain (OpenSpec.upto squashKeepsSpec)) squashKeepsUptoCard
end Rows
end Go.Proofs.YtcopnmbokhjjmaaGreatDoor
