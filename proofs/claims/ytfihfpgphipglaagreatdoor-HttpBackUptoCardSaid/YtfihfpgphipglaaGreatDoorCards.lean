/-
  DERIVED. GIVEN WITH THE SEED: THE CARDS: each row of YtfihfpgphipglaaGreatDoorRows.lean that lists a variable, with what it lists TIED to the program's text (the seventh form; the later family's looks); each row that meets fmt, with fmt's text TOLD by the authors' own Lean function (tested against real Go, not proved from fmt's source: count such statements apart). THE CARD IS WHAT COUNTS. Prove the row's statement (the work); the ties are given (YtfihfpgphipglaaGreatDoorTie.lean); close each card by the builder's one call (the guide's Derived/Test/ToyasCard.lean, 'card_holds'). Laid BY PROGRAM, IN A SANDBOX (cutbox-door.mjs). By AI agents, Wed Nov 11 2026. No macro, syntax, notation, axiom, sorry.
-/
import Derived.Test.YtfihfpgphipglaaGreatDoorRows
import GoSem.ClaimSeven
namespace Go.Proofs.YtfihfpgphipglaaGreatDoor
namespace Rows

/-- THE TIED CARD OF 'murmurationlaw21.HttpCuts'. -/
def httpCutsCard : Claim7 := { stood := { row := httpCutsRow, standIns := [], harness := (true, "46adb51bd1d9218327f3102748e7250bf7461c98718ed9cca5c68ebd857ce2bc"), looks := true }, kinds := [], alts := [], laidByText := true, laidKinds := [.data, .data, .data, .data, .sentinel, .sentinel, .pinned, .pinned], laidTests := true, laidLooks := .later }
def HttpCutsCardSaid : Prop := Claim7.holds Tryz.pinned (.plain (OpenSpec.ofChange httpCutsSpec)) httpCutsCard

/-- THE TIED CARD OF 'murmurationlaw21.HttpBack'. -/
def httpBackCard : Claim7 := { stood := { row := httpBackRow, standIns := [], harness := (true, "46adb51bd1d9218327f3102748e7250bf7461c98718ed9cca5c68ebd857ce2bc"), looks := true }, kinds := [], alts := [], laidByText := true, laidKinds := [.data, .data, .data, .data, .sentinel, .sentinel, .pinned, .pinned], laidTests := true, laidLooks := .later }
def HttpBackCardSaid : Prop := Claim7.holds Tryz.pinned (.plain (OpenSpec.ofChange httpBackSpec)) httpBackCard

/-- THE TIED CARD OF 'murmurationlaw21.HttpBodies'. -/
def httpBodiesCard : Claim7 := { stood := { row := httpBodiesRow, standIns := [], harness := (true, "46adb51bd1d9218327f3102748e7250bf7461c98718ed9cca5c68ebd857ce2bc"), looks := true }, kinds := [], alts := [], laidByText := true, laidKinds := [.data, .data, .data, .data, .sentinel, .sentinel, .pinned, .pinned], laidTests := true, laidLooks := .later }
def HttpBodiesCardSaid : Prop := Claim7.holds Tryz.pinned (.plain (OpenSpec.ofChange httpBodiesSpec)) httpBodiesCard

/-- THE TIED CARD OF 'murmurationlaw21.HttpPercents'. -/
def httpPercentsCard : Claim7 := { stood := { row := httpPercentsRow, standIns := [], harness := (true, "46adb51bd1d9218327f3102748e7250bf7461c98718ed9cca5c68ebd857ce2bc"), looks := true }, kinds := [], alts := [], laidByText := true, laidKinds := [.data, .data, .data, .data, .sentinel, .sentinel, .pinned, .pinned], laidTests := true, laidLooks := .later }
def HttpPercentsCardSaid : Prop := Claim7.holds Tryz.pinned (.plain (OpenSpec.ofChange httpPercentsSpec)) httpPercentsCard

/-- THE SECOND FORM's CARD OF 'murmurationlaw21.HttpCuts'. -/
def httpCutsUptoCard : Claim7 := { stood := { row := httpCutsUptoRow, standIns := [], harness := (true, "46adb51bd1d9218327f3102748e7250bf7461c98718ed9cca5c68ebd857ce2bc"), looks := true }, kinds := [], alts := [], laidByText := true, laidKinds := [.data, .data, .data, .data, .sentinel, .sentinel, .pinned, .pinned], laidTests := true, laidLooks := .later }
def HttpCutsUptoCardSaid : Prop := Claim7.holds Tryz.pinned (.plain (OpenSpec.upto httpCutsSpec)) httpCutsUptoCard

/-- THE SECOND FORM's CARD OF 'murmurationlaw21.HttpBack'. -/
def httpBackUptoCard : Claim7 := { stood := { row := httpBackUptoRow, standIns := [], harness := (true, "46adb51bd1d9218327f3102748e7250bf7461c98718ed9cca5c68ebd857ce2bc"), looks := true }, kinds := [], alts := [], laidByText := true, laidKinds := [.data, .data, .data, .data, .sentinel, .sentinel, .pinned, .pinned], laidTests := true, laidLooks := .later }
def HttpBackUptoCardSaid : Prop := Claim7.holds Tryz.pinned (.plain (OpenSpec.upto httpBackSpec)) httpBackUptoCard

/-- THE SECOND FORM's CARD OF 'murmurationlaw21.HttpBodies'. -/
def httpBodiesUptoCard : Claim7 := { stood := { row := httpBodiesUptoRow, standIns := [], harness := (true, "46adb51bd1d9218327f3102748e7250bf7461c98718ed9cca5c68ebd857ce2bc"), looks := true }, kinds := [], alts := [], laidByText := true, laidKinds := [.data, .data, .data, .data, .sentinel, .sentinel, .pinned, .pinned], laidTests := true, laidLooks := .later }
def HttpBodiesUptoCardSaid : Prop := Claim7.holds Tryz.pinned (.plain (OpenSpec.upto httpBodiesSpec)) httpBodiesUptoCard

/-- THE SECOND FORM's CARD OF 'murmurationlaw21.HttpPercents'. -/
def httpPercentsUptoCard : Claim7 := { stood := { row := httpPercentsUptoRow, standIns := [], harness := (true, "46adb51bd1d9218327f3102748e7250bf7461c98718ed9cca5c68ebd857ce2bc"), looks := true }, kinds := [], alts := [], laidByText := true, laidKinds := [.data, .data, .data, .data, .sentinel, .sentinel, .pinned, .pinned], laidTests := true, laidLooks := .later }
def HttpPercentsUptoCardSaid : Prop := Claim7.holds Tryz.pinned (.plain (OpenSpec.upto httpPercentsSpec)) httpPercentsUptoCard
end Rows
end Go.Proofs.YtfihfpgphipglaaGreatDoor
