/- A world that bears the listed variables: what the program's own door leaves. -/
import Derived.Test.YtdnpmgbpnkjikaaGreatDoorTmSwRow
import Derived.LaidByTextLater
import Derived.Deep.DeepWitnessRowRef
set_option linter.unusedVariables false
set_option linter.unusedSimpArgs false
set_option linter.unusedSectionVars false
namespace Go.Proofs.YtdnpmgbpnkjikaaGreatDoor.swapNil
open Go Go.Tm
set_option maxRecDepth 100000
def zeroSwap : Value := .agg #[.int .i64 0, .slice none 0 0, .slice none 0 0, .slice none 0 0, .slice none 0 0, .slice none 0 0]
noncomputable def laidWorld (os : Os) : World := varsWorld Tryz.prog 21 310 os (fun _ _ => 0)
noncomputable def memory (os : Os) : World := ((laidWorld os).forCall (fun _ _ => 0) ⟨#[], #[zeroSwap], []⟩).memory
theorem laid_met (os : Os) : laidMet Tryz.prog Rows.swapNilRow.laid (memory os) := by
  obtain ⟨p1, h1, _⟩ := (laidWith_of_run 8 4096 [0, 2, 3, 4] (by kernel_rfl) : ∃ ps, LaidWith Tryz.prog Rows.swapNilRow.laid (memory os) ps ∧ ∀ p ∈ ps, p.block ∈ [0, 2, 3, 4])
  exact h1.met
theorem os_eq (os : Os) : (laidWorld os).os = os := by kernel_rfl
theorem vars_ok (os : Os) : ((laidWorld os).forCall (fun _ _ => 0) ⟨#[], #[zeroSwap], []⟩).variablesRefB Tryz.prog = true := by kernel_rfl
end Go.Proofs.YtdnpmgbpnkjikaaGreatDoor.swapNil
