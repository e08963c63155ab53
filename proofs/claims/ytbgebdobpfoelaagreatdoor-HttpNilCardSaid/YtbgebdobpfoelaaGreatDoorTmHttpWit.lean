/- A world that bears the listed variables: what the program's own door leaves, with the two pinned tables laid. -/
import Derived.Test.YtbgebdobpfoelaaGreatDoorTmHttpRow
import Derived.LaidByTextLater
import Derived.Deep.DeepWitnessRowRef
namespace Go.Proofs.YtbgebdobpfoelaaGreatDoor.httpNil
open Go Go.Tm
set_option maxRecDepth 100000
def firstCells8 : List Value := Go.Pinned.utf8FirstZ.map fun (n : Nat) => Value.int .u8 n
noncomputable def laidWorld (os : Os) : World :=
  let w := varsWorld Tryz.prog 72 153 os (fun _ _ => 0)
  let h := (w.heap.modify 7 fun | .cells _ t f => .cells firstCells8.toArray t f | o => o).modify 4 fun | .cells _ t f => .cells #[.slice (some ⟨16, 0, none⟩) 336 336] t f | o => o
  { w with heap := h.push (.cells (Go.Pinned.caseRows.flatMap crCells).toArray 161) }
noncomputable def memory (os : Os) : World := ((laidWorld os).forCall (fun _ _ => 0) ⟨#[], #[.string ⟨#[]⟩], []⟩).memory
theorem caseTypes : ∃ f0 f1 f2, CaseTypes Tryz.prog 146 161 109 21 159 f0 f1 f2 :=
  ⟨_, _, _, { hS := Tryz.underlying146, hR := Tryz.underlying161, hU := Tryz.underlying109, hI := Tryz.underlying21, hD := Tryz.underlying159, cR := by kernel_rfl, cU := by kernel_rfl, cI := by kernel_rfl, cD := by kernel_rfl, e0 := rfl, e1 := rfl, e2 := rfl, o0 := rfl, o1 := rfl, o2 := rfl }⟩
theorem laid1 (os : Os) : ∃ ps, LaidWith Tryz.prog (Rows.httpNilRow.laid.take 6) (memory os) ps ∧ ∀ p ∈ ps, p.block ∈ [1, 2, 3, 5, 6, 8, 14, 15] := laidWith_of_run 8 4096 _ (by kernel_rfl)
theorem laid3 (os : Os) : ∃ ps, LaidWith Tryz.prog (Rows.httpNilRow.laid.drop 7) (memory os) ps ∧ ∀ p ∈ ps, p.block ∈ [7] := laidWith_of_run 8 4096 _ (by kernel_rfl)
theorem rows_wf : Go.Pinned.caseRows.all crWf = true := by kernel_rfl
theorem rows_length : Go.Pinned.caseRows.length = 336 := by kernel_rfl
theorem case_var (os : Os) : (memory os).heap[4]? = some (.cells #[.slice (some ⟨16, 0, none⟩) 336 336] 146 (0, 0)) := by kernel_rfl
theorem case_block (os : Os) : (memory os).heap[16]? = some (.cells (Go.Pinned.caseRows.flatMap crCells).toArray 161 (0, 0)) := by kernel_rfl
theorem laid2 (os : Os) : ∃ ps, LaidWith Tryz.prog [("unicode.CaseRanges", .slice (Go.Pinned.caseRows.map Go.Pinned.caseRange) [])] (memory os) ps ∧ ∀ p ∈ ps, p.block = 4 ∨ p.block = 16 := by
  obtain ⟨f0, f1, f2, L⟩ := caseTypes
  exact case_laid L (by decide) (by kernel_rfl) (by kernel_rfl) rows_wf (by rw [rows_length]; decide) (by rw [rows_length]; exact case_var os) (case_block os)
theorem laid_met (os : Os) : laidMet Tryz.prog Rows.httpNilRow.laid (memory os) := by
  obtain ⟨p1, h1, b1⟩ := laid1 os
  obtain ⟨p2, h2, b2⟩ := laid2 os
  obtain ⟨p3, h3, b3⟩ := laid3 os
  have h12 := h1.append h2 fun p hp hq => by
    have a := b1 p hp
    rcases b2 p hq with b | b <;> rw [b] at a <;> revert a <;> decide
  exact (h12.append h3 fun p hp hq => by
    have b := b3 p hq
    simp only [List.mem_singleton] at b
    rcases List.mem_append.1 hp with hp | hp
    · have a := b1 p hp
      rw [b] at a
      revert a
      decide
    · rcases b2 p hp with a | a <;> rw [b] at a <;> revert a <;> decide).met
theorem os_eq (os : Os) : (laidWorld os).os = os := by kernel_rfl
theorem vars_ok (os : Os) : ((laidWorld os).forCall (fun _ _ => 0) ⟨#[], #[.string ⟨#[]⟩], []⟩).variablesRefB Tryz.prog = true := by kernel_rfl
end Go.Proofs.YtbgebdobpfoelaaGreatDoor.httpNil
