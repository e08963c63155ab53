/- The tree machine: an argument of whatever type, as it is handed in: nothing looks into it. -/
import Derived.Test.YtdnpmgbpnkjikaaGreatDoorTmTop
import Derived.Carry
set_option linter.unusedVariables false
set_option linter.unusedSimpArgs false
set_option linter.unusedSectionVars false
namespace Go.Tm

theorem cell_flat {P : Program} {w : World} {r : Reach} {base : Nat} {t : TypeId} {v : Value} (h : Cell.okWide P w r base t v) : flat v = true := by
  cases v <;> try rfl
  all_goals
    exfalso
    unfold Cell.okWide at h
    split at h <;> try (simp_all; done)
    unfold Cell.ok at h
    split at h <;> simp_all

/-- A value that is handed in. -/
def opaqueOf : Value → AV
  | .agg ⟨cs⟩ => .agg (cs.map AV.v)
  | x => .v x

theorem opaque_ok {P : Program} {w : World} {r : Reach} {base : Nat} {t : TypeId} {v : Value} {g : Gh} (h : Value.okWide P w r base t v) : VR g (opaqueOf v) v := by
  unfold Value.okWide at h
  have agg : (∃ cs, v = .agg cs ∧ cs.size = P.cellsOf t ∧ Row.okWide P w r base t cs) → VR g (opaqueOf v) v := by
    rintro ⟨⟨cs⟩, rfl, _, ts, _, _, hc⟩
    refine .agg (by simp) fun i x y hx hy => ?_
    rw [List.getElem?_map, hy] at hx
    simp only [Option.map_some, Option.some.injEq] at hx
    subst hx
    obtain ⟨u, _, hu⟩ := hc i y (by simpa using hy)
    exact .v (cell_flat hu)
  split at h
  · exact agg h
  · exact agg h
  · have hf := cell_flat h
    cases v <;> first | exact .v hf | (simp [flat] at hf)
end Go.Tm
