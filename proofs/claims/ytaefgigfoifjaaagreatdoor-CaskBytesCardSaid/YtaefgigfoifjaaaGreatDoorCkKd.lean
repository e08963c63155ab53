/- The cask's examples: awake tells true, by the kernel's own run. -/
import Derived.Test.YtaefgigfoifjaaaGreatDoorTmQf
import Derived.Test.YtaefgigfoifjaaaGreatDoorTmFast5
import Derived.Test.YtaefgigfoifjaaaGreatDoorTmCollect
import Derived.Test.YtaefgigfoifjaaaGreatDoorTmMemo
import Derived.Test.YtaefgigfoifjaaaGreatDoorCkCol
import Derived.Test.YtaefgigfoifjaaaGreatDoorChecked
set_option linter.unusedVariables false
set_option linter.unusedSimpArgs false
set_option linter.unusedSectionVars false
namespace Go.Proofs
open Go.Tm
noncomputable def Kd : Cfg where
 P := Tryz.prog
 chg := fun f _ => [106, 145, 142].contains f
 vals := fun f => (3618502788665873996899137698589698416999086951447514855615454547690007494655 : Nat).testBit f
 lib := fun f => if f == 172 then some (toldNew 5) else if f == 122 then some (toldCollect [124, 127] 9) else none
 libv := fun f => if f == 171 then some toldSame else if f == 146 then some toldIndexByte else none
theorem ck_names : (Tryz.prog.funcs.all fun fn => !fn.body.isSome || !(fn.name == "runtime.NumGoroutine")) = true := by kernel_rfl
theorem ck_names_ok : ∀ (f : FuncId) (fn : Func), Tryz.prog.funcs[f]? = some fn → fn.body.isSome = true → (fn.name == "runtime.NumGoroutine") = false := fun f fn hf hb => by
 have h := Array.all_eq_true_iff_forall_mem.1 ck_names fn (Array.mem_of_getElem? hf)
 rw [hb] at h
 simpa using h
theorem kd_ok : CfgOk Kd where
 mixed := by kernel_rfl
 names := ck_names_ok
 lib := fun f h args H r H' hl hr => by
  by_cases q : f = 172
  ·subst q
   have hh : h = toldNew 5 := (Option.some.inj hl).symm
   subst hh
   exact new_told (K := Kd) (fn := Tryz.f172) Tryz.func172 (by kernel_rfl) (by kernel_rfl) (by kernel_rfl) (t := 37) (by kernel_rfl) (by kernel_rfl) (by kernel_rfl) hr
  ·by_cases q2 : f = 122
   ·subst q2
    have hh : h = toldCollect [124, 127] 9 := (Option.some.inj hl).symm
    subst hh
    refine collect_told (K := Kd) rfl Tryz.underlying9 (enters_of Tryz.func122 (by kernel_rfl) rfl) (fun g hg w Bm b D0 h1 h2 h3 h4 => ?_) (fun g hg w Bm h1 h2 => ?_) hr
    ·rcases List.mem_cons.1 hg with rfl | hg
     ·exact Tryz.collect_124 w Bm b D0 _ h1 h2 h3 h4
     ·obtain rfl := List.mem_singleton.1 hg
      exact Tryz.collect_127 w Bm b D0 _ h1 h2 h3 h4
    ·rcases List.mem_cons.1 hg with rfl | hg
     ·exact Tryz.collect_nil_124 w Bm h1 h2
     ·obtain rfl := List.mem_singleton.1 hg
      exact Tryz.collect_nil_127 w Bm h1 h2
   ·exact absurd hl (by show (if f == 172 then some (toldNew 5) else if f == 122 then some (toldCollect [124, 127] 9) else none) ≠ some h; simp [q, q2])
 libv := fun f h args H r hl hr => by
  by_cases q2 : f = 171
  ·subst q2
   have hh : h = toldSame := (Option.some.inj hl).symm
   subst hh
   exact same_told (K := Kd) (fn := Tryz.f171) Tryz.func171 (by kernel_rfl) (by kernel_rfl) (by kernel_rfl) (by kernel_rfl) hr
  ·by_cases q4 : f = 146
   ·subst q4
    have hh : h = toldIndexByte := (Option.some.inj hl).symm
    subst hh
    exact indexByte_told (K := Kd) (fn := Tryz.f146) Tryz.func146 (by kernel_rfl) (by kernel_rfl) (by kernel_rfl) (by kernel_rfl) hr
   ·exact absurd hl (by show (if f == 171 then some toldSame else if f == 146 then some toldIndexByte else none) ≠ some h; simp [q2, q4])
theorem awake_run (H : List AB) : callF Kd 1000 10 [] H = some (.v (.bool true), H) := by kernel_rfl
theorem awake_call (H : List AB) : CallOk Kd 10 [] H (.v (.bool true)) H := callOk_run kd_ok rfl rfl (awake_run H)
end Go.Proofs
