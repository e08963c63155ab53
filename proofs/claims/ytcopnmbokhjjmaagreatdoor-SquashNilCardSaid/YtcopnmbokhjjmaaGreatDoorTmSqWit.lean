/- A world that bears the listed variables: what the program's own door leaves. -/
import Derived.Test.YtcopnmbokhjjmaaGreatDoorTmSqRow
import Derived.LaidByTextLater
import Derived.Deep.DeepWitnessRowRef
namespace Go.Proofs.YtcopnmbokhjjmaaGreatDoor.squashNil
open Go Go.Tm
set_option maxRecDepth 100000
noncomputable def laidWorld (os : Os) : World := varsWorld Tryz.prog 62 262 os (fun _ _ => 0)
noncomputable def memory (os : Os) : World := ((laidWorld os).forCall (fun _ _ => 0) ⟨#[], #[.string ⟨#[]⟩], []⟩).memory
theorem laid_met (os : Os) : laidMet Tryz.prog Rows.squashNilRow.laid (memory os) := by
  obtain ⟨p1, h1, _⟩ := (laidWith_of_run 8 4096 [1, 2, 3, 4, 5, 11, 12] (by kernel_rfl) : ∃ ps, LaidWith Tryz.prog Rows.squashNilRow.laid (memory os) ps ∧ ∀ p ∈ ps, p.block ∈ [1, 2, 3, 4, 5, 11, 12])
  exact h1.met
theorem os_eq (os : Os) : (laidWorld os).os = os := by kernel_rfl
theorem vars_ok (os : Os) : ((laidWorld os).forCall (fun _ _ => 0) ⟨#[], #[.string ⟨#[]⟩], []⟩).variablesRefB Tryz.prog = true := by kernel_rfl
end Go.Proofs.YtcopnmbokhjjmaaGreatDoor.squashNil
