/-
 DERIVED: THE SHELF's CONTRACTS AT THIS DUMP, IN PLAIN WORDS (tools/lay-plain.mjs out of 'CkLayKS.lean', which tools/lay-shelf.mjs wrote): THE SAME DECLARATIONS UNDER THE SAME NAMES: 'import', 'namespace', 'open', 'def', 'theorem' AND NOTHING ELSE: no command of the shelf's: FOR A HAND-IN. Each laying: the table of numbers ('.._ren') and one theorem, a field a fact of the dump's own or the kernel's comparison; each contract: ONE APPLICATION.
-/
import Derived.Shelf.SlIter.Nil
import Derived.Ground.GgzProg
import Derived.Test.YtaefgigfoifjaaaGreatDoorProg
set_option linter.unusedVariables false
set_option linter.unusedSimpArgs false
set_option linter.unusedSectionVars false
namespace Go.Proofs
open Go.Shelf
def Tryz.keysA_ren : Go.Shelf.Ren := ⟨fun | 7 => 64 | 10 => 124 | n => n, fun | 23 => 96 | 26 => 9 | 3 => 9 | 28 => 109 | 0 => 0 | 27 => 108 | 33 => 150 | 4 => 4 | n => n, fun | n => n⟩
theorem Tryz.keysA : Go.Proofs.SlLaysZ.n7 Tryz.prog Tryz.keysA_ren := {
 mixed := by kernel_rfl
 f7 := ⟨Tryz.f64.name, by decide, Tryz.func64.trans (congrArg some (by kernel_rfl))⟩
 f10 := ⟨Tryz.f124.name, by decide, Tryz.func124.trans (congrArg some (by kernel_rfl))⟩
 t0 := Tryz.underlying0
 a0 := Tryz.isAgg0
 z0 := Tryz.sizeOf0
 v0 := Tryz.zeroValue0
 t4 := Tryz.underlying4
 a4 := Tryz.isAgg4
 z4 := Tryz.sizeOf4
 v4 := Tryz.zeroValue4
 t23 := Tryz.underlying96
 a23 := Tryz.isAgg96
 z23 := Tryz.sizeOf96
 v23 := Tryz.zeroValue96
 t26 := Tryz.underlying9
 a26 := Tryz.isAgg9
 z26 := Tryz.sizeOf9
 v26 := Tryz.zeroValue9
 t27 := Tryz.underlying108
 a27 := Tryz.isAgg108
 z27 := Tryz.sizeOf108
 v27 := Tryz.zeroValue108
 t28 := Tryz.underlying109
 a28 := Tryz.isAgg109
 z28 := Tryz.sizeOf109
 v28 := Tryz.zeroValue109
 t33 := Tryz.underlying150
 a33 := Tryz.isAgg150
 z33 := Tryz.sizeOf150
 v33 := Tryz.zeroValue150 }
def Tryz.keysB_ren : Go.Shelf.Ren := ⟨fun | 7 => 69 | 10 => 127 | n => n, fun | 23 => 86 | 26 => 9 | 3 => 90 | 28 => 109 | 0 => 0 | 27 => 108 | 33 => 150 | 4 => 4 | n => n, fun | n => n⟩
theorem Tryz.keysB : Go.Proofs.SlLaysZ.n7 Tryz.prog Tryz.keysB_ren := {
 mixed := by kernel_rfl
 f7 := ⟨Tryz.f69.name, by decide, Tryz.func69.trans (congrArg some (by kernel_rfl))⟩
 f10 := ⟨Tryz.f127.name, by decide, Tryz.func127.trans (congrArg some (by kernel_rfl))⟩
 t0 := Tryz.underlying0
 a0 := Tryz.isAgg0
 z0 := Tryz.sizeOf0
 v0 := Tryz.zeroValue0
 t4 := Tryz.underlying4
 a4 := Tryz.isAgg4
 z4 := Tryz.sizeOf4
 v4 := Tryz.zeroValue4
 t23 := Tryz.underlying86
 a23 := Tryz.isAgg86
 z23 := Tryz.sizeOf86
 v23 := Tryz.zeroValue86
 t26 := Tryz.underlying9
 a26 := Tryz.isAgg9
 z26 := Tryz.sizeOf9
 v26 := Tryz.zeroValue9
 t27 := Tryz.underlying108
 a27 := Tryz.isAgg108
 z27 := Tryz.sizeOf108
 v27 := Tryz.zeroValue108
 t28 := Tryz.underlying109
 a28 := Tryz.isAgg109
 z28 := Tryz.sizeOf109
 v28 := Tryz.zeroValue109
 t33 := Tryz.underlying150
 a33 := Tryz.isAgg150
 z33 := Tryz.sizeOf150
 v33 := Tryz.zeroValue150 }
def Tryz.collectA_ren : Go.Shelf.Ren := ⟨fun | 8 => 122 | 11 => 157 | n => n, fun | 26 => 9 | 28 => 109 | 24 => 89 | 0 => 0 | 33 => 150 | 4 => 4 | n => n, fun | n => n⟩
theorem Tryz.collectA : Go.Proofs.SlLaysZ.n8 Tryz.prog Tryz.collectA_ren := {
 mixed := by kernel_rfl
 f8 := ⟨Tryz.f122.name, by decide, Tryz.func122.trans (congrArg some (by kernel_rfl))⟩
 f11 := ⟨Tryz.f157.name, by decide, Tryz.func157.trans (congrArg some (by kernel_rfl))⟩
 t0 := Tryz.underlying0
 a0 := Tryz.isAgg0
 z0 := Tryz.sizeOf0
 v0 := Tryz.zeroValue0
 t24 := Tryz.underlying89
 a24 := Tryz.isAgg89
 z24 := Tryz.sizeOf89
 v24 := Tryz.zeroValue89
 t26 := Tryz.underlying9
 a26 := Tryz.isAgg9
 z26 := Tryz.sizeOf9
 v26 := Tryz.zeroValue9
 t28 := Tryz.underlying109
 a28 := Tryz.isAgg109
 z28 := Tryz.sizeOf109
 v28 := Tryz.zeroValue109
 i26 := by kernel_rfl }
end Go.Proofs
