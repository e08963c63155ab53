/-
  DERIVED. GIVEN WITH THE SEED: THE CARDS: each row of YtaefgigfoifjaaaGreatDoorRows.lean that lists a variable, with what it lists TIED to the program's text (the seventh form; the later family's looks); each row that meets fmt, with fmt's text TOLD by the authors' own Lean function (tested against real Go, not proved from fmt's source: count such statements apart). THE CARD IS WHAT COUNTS. Prove the row's statement (the work); the ties are given (YtaefgigfoifjaaaGreatDoorTie.lean); close each card by the builder's one call (the guide's Derived/Test/ToyasCard.lean, 'card_holds'). Laid BY PROGRAM, IN A SANDBOX (cutbox-door.mjs). By AI agents, Wed Nov 11 2026. No macro, syntax, notation, axiom, sorry.
-/
import Derived.Test.YtaefgigfoifjaaaGreatDoorRows
import GoSem.ClaimSeven
namespace Go.Proofs.YtaefgigfoifjaaaGreatDoor
namespace Rows

/-- THE TIED CARD OF 'murmurationlaw04.CaskBytes'. -/
def caskBytesCard : Claim7 := { stood := { row := caskBytesRow, standIns := [], harness := (true, "3578e79eabea4143e098c9a5ea63e67b7fde8a871c32659181d760c1ad2988f2"), looks := true }, kinds := [], alts := [], laidByText := true, laidKinds := [.data, .data, .data, .sentinel, .sentinel], laidTests := true, laidLooks := .later }
def CaskBytesCardSaid : Prop := Claim7.holds Tryz.pinned (.plain (OpenSpec.ofChange caskBytesSpec)) caskBytesCard

/-- THE TIED CARD OF 'murmurationlaw04.CaskTurned'. -/
def caskTurnedCard : Claim7 := { stood := { row := caskTurnedRow, standIns := [], harness := (true, "3578e79eabea4143e098c9a5ea63e67b7fde8a871c32659181d760c1ad2988f2"), looks := true }, kinds := [], alts := [], laidByText := true, laidKinds := [.data, .data, .data, .sentinel, .sentinel], laidTests := true, laidLooks := .later }
def CaskTurnedCardSaid : Prop := Claim7.holds Tryz.pinned (.plain (OpenSpec.ofChange caskTurnedSpec)) caskTurnedCard

/-- THE TIED CARD OF 'murmurationlaw04.CaskTwo'. -/
def caskTwoCard : Claim7 := { stood := { row := caskTwoRow, standIns := [], harness := (true, "3578e79eabea4143e098c9a5ea63e67b7fde8a871c32659181d760c1ad2988f2"), looks := true }, kinds := [], alts := [], laidByText := true, laidKinds := [.data, .data, .data, .sentinel, .sentinel], laidTests := true, laidLooks := .later }
def CaskTwoCardSaid : Prop := Claim7.holds Tryz.pinned (.plain (OpenSpec.ofChange caskTwoSpec)) caskTwoCard

/-- THE TIED CARD OF 'murmurationlaw04.CaskFull'. -/
def caskFullCard : Claim7 := { stood := { row := caskFullRow, standIns := [], harness := (true, "3578e79eabea4143e098c9a5ea63e67b7fde8a871c32659181d760c1ad2988f2"), looks := true }, kinds := [], alts := [], laidByText := true, laidKinds := [.data, .data, .data, .sentinel, .sentinel], laidTests := true, laidLooks := .later }
def CaskFullCardSaid : Prop := Claim7.holds Tryz.pinned (.plain (OpenSpec.ofChange caskFullSpec)) caskFullCard

/-- THE TIED CARD OF 'murmurationlaw04.CaskKeeps'. -/
def caskKeepsCard : Claim7 := { stood := { row := caskKeepsRow, standIns := [], harness := (true, "3578e79eabea4143e098c9a5ea63e67b7fde8a871c32659181d760c1ad2988f2"), looks := true }, kinds := [], alts := [], laidByText := true, laidKinds := [.data, .data, .data, .sentinel, .sentinel], laidTests := true, laidLooks := .later }
def CaskKeepsCardSaid : Prop := Claim7.holds Tryz.pinned (.plain (OpenSpec.ofChange caskKeepsSpec)) caskKeepsCard

/-- THE TIED CARD OF 'murmurationlaw04.CaskLast'. -/
def caskLastCard : Claim7 := { stood := { row := caskLastRow, standIns := [], harness := (true, "3578e79eabea4143e098c9a5ea63e67b7fde8a871c32659181d760c1ad2988f2"), looks := true }, kinds := [], alts := [], laidByText := true, laidKinds := [.data, .data, .data, .sentinel, .sentinel], laidTests := true, laidLooks := .later }
def CaskLastCardSaid : Prop := Claim7.holds Tryz.pinned (.plain (OpenSpec.ofChange caskLastSpec)) caskLastCard

/-- THE TIED CARD OF 'murmurationlaw04.CaskPlays'. -/
def caskPlaysCard : Claim7 := { stood := { row := caskPlaysRow, standIns := [], harness := (true, "3578e79eabea4143e098c9a5ea63e67b7fde8a871c32659181d760c1ad2988f2"), looks := true }, kinds := [], alts := [], laidByText := true, laidKinds := [.data, .data, .data, .sentinel, .sentinel], laidTests := true, laidLooks := .later }
def CaskPlaysCardSaid : Prop := Claim7.holds Tryz.pinned (.plain (OpenSpec.ofChange caskPlaysSpec)) caskPlaysCard

/-- THE SECOND FORM's CARD OF 'murmurationlaw04.CaskBytes'. -/
def caskBytesUptoCard : Claim7 := { stood := { row := caskBytesUptoRow, standIns := [], harness := (true, "3578e79eabea4143e098c9a5ea63e67b7fde8a871c32659181d760c1ad2988f2"), looks := true }, kinds := [], alts := [], laidByText := true, laidKinds := [.data, .data, .data, .sentinel, .sentinel], laidTests := true, laidLooks := .later }
def CaskBytesUptoCardSaid : Prop := Claim7.holds Tryz.pinned (.plain (OpenSpec.upto caskBytesSpec)) caskBytesUptoCard

/-- THE SECOND FORM's CARD OF 'murmurationlaw04.CaskTurned'. -/
def caskTurnedUptoCard : Claim7 := { stood := { row := caskTurnedUptoRow, standIns := [], harness := (true, "3578e79eabea4143e098c9a5ea63e67b7fde8a871c32659181d760c1ad2988f2"), looks := true }, kinds := [], alts := [], laidByText := true, laidKinds := [.data, .data, .data, .sentinel, .sentinel], laidTests := true, laidLooks := .later }
def CaskTurnedUptoCardSaid : Prop := Claim7.holds Tryz.pinned (.plain (OpenSpec.upto caskTurnedSpec)) caskTurnedUptoCard

/-- THE SECOND FORM's CARD OF 'murmurationlaw04.CaskTwo'. -/
def caskTwoUptoCard : Claim7 := { stood := { row := caskTwoUptoRow, standIns := [], harness := (true, "3578e79eabea4143e098c9a5ea63e67b7fde8a871c32659181d760c1ad2988f2"), looks := true }, kinds := [], alts := [], laidByText := true, laidKinds := [.data, .data, .data, .sentinel, .sentinel], laidTests := true, laidLooks := .later }
def CaskTwoUptoCardSaid : Prop := Claim7.holds Tryz.pinned (.plain (OpenSpec.upto caskTwoSpec)) caskTwoUptoCard

/-- THE SECOND FORM's CARD OF 'murmurationlaw04.CaskFull'. -/
def caskFullUptoCard : Claim7 := { stood := { row := caskFullUptoRow, standIns := [], harness := (true, "3578e79eabea4143e098c9a5ea63e67b7fde8a871c32659181d760c1ad2988f2"), looks := true }, kinds := [], alts := [], laidByText := true, laidKinds := [.data, .data, .data, .sentinel, .sentinel], laidTests := true, laidLooks := .later }
def CaskFullUptoCardSaid : Prop := Claim7.holds Tryz.pinned (.plain (OpenSpec.upto caskFullSpec)) caskFullUptoCard

/-- THE SECOND FORM's CARD OF 'murmurationlaw04.CaskKeeps'. -/
def caskKeepsUptoCard : Claim7 := { stood := { row := caskKeepsUptoRow, standIns := [], harness := (true, "3578e79eabea4143e098c9a5ea63e67b7fde8a871c32659181d760c1ad2988f2"), looks := true }, kinds := [], alts := [], laidByText := true, laidKinds := [.data, .data, .data, .sentinel, .sentinel], laidTests := true, laidLooks := .later }
def CaskKeepsUptoCardSaid : Prop := Claim7.holds Tryz.pinned (.plain (OpenSpec.upto caskKeepsSpec)) caskKeepsUptoCard

/-- THE SECOND FORM's CARD OF 'murmurationlaw04.CaskLast'. -/
def caskLastUptoCard : Claim7 := { stood := { row := caskLastUptoRow, standIns := [], harness := (true, "3578e79eabea4143e098c9a5ea63e67b7fde8a871c32659181d760c1ad2988f2"), looks := true }, kinds := [], alts := [], laidByText := true, laidKinds := [.data, .data, .data, .sentinel, .sentinel], laidTests := true, laidLooks := .later }
def CaskLastUptoCardSaid : Prop := Claim7.holds Tryz.pinned (.plain (OpenSpec.upto caskLastSpec)) caskLastUptoCard

/-- THE SECOND FORM's CARD OF 'murmurationlaw04.CaskPlays'. -/
def caskPlaysUptoCard : Claim7 := { stood := { row := caskPlaysUptoRow, standIns := [], harness := (true, "3578e79eabea4143e098c9a5ea63e67b7fde8a871c32659181d760c1ad2988f2"), looks := true }, kinds := [], alts := [], laidByText := true, laidKinds := [.data, .data, .data, .sentinel, .sentinel], laidTests := true, laidLooks := .later }
def CaskPlaysUptoCardSaid : Prop := Claim7.holds Tryz.pinned (.plain (OpenSpec.upto caskPlaysSpec)) caskPlaysUptoCard
end Rows
end Go.Proofs.YtaefgigfoifjaaaGreatDoor
