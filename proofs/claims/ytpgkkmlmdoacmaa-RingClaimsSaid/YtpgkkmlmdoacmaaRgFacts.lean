/- The ring's types, as the machine sees them. -/
import Derived.Test.YtpgkkmlmdoacmaaRingIx
import Derived.Test.YtpgkkmlmdoacmaaRgKit
set_option linter.unusedVariables false
set_option linter.unusedSimpArgs false
set_option linter.unusedSectionVars false
namespace Go.Proofs
open Go.Tm
set_option maxRecDepth 100000
theorem u23 : Kz.P.underlying 23 = some (.array 8 3) := Try.underlying23
theorem z3 : tZero Kz.P 3 = some (i64 0) := by kernel_rfl
theorem in3 : ∃ info, Kz.P.info? 3 = some info ∧ info.bytes = 8 := by
 have h : (Kz.P.info? 3).map (·.bytes) = some 8 := by kernel_rfl
 obtain ⟨i, h1, h2⟩ := Option.map_eq_some_iff.1 h
 exact ⟨i, h1, h2⟩
theorem ag23 : tAgg Kz.P 23 = some true := by kernel_rfl
theorem sz23 : tSize Kz.P 23 = some 8 := by kernel_rfl
end Go.Proofs
