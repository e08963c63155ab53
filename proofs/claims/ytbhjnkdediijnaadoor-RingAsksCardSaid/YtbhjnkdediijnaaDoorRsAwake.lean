/- The ring's examples: awake tells true, by the kernel's own run. -/
import Derived.Test.YtbhjnkdediijnaaDoorRsSeq
import Derived.Test.YtbhjnkdediijnaaDoorTmMemo
set_option linter.unusedVariables false
set_option linter.unusedSimpArgs false
set_option linter.unusedSectionVars false
namespace Go.Proofs
open Go.Tm
noncomputable def Kr : Cfg where
 P := Tryd.prog
 chg := fun f _ => [17, 20, 40, 52].contains f
 vals := fun f => !(f == 27)
 seq := fun f => if f == 46 then some toldValues else none
theorem ring_names : (Tryd.prog.funcs.all fun fn => !fn.body.isSome || !(fn.name == "runtime.NumGoroutine")) = true := by kernel_rfl
theorem ring_names_ok : ∀ (f : FuncId) (fn : Func), Tryd.prog.funcs[f]? = some fn → fn.body.isSome = true → (fn.name == "runtime.NumGoroutine") = false := fun f fn hf hb => by
 have h := Array.all_eq_true_iff_forall_mem.1 ring_names fn (Array.mem_of_getElem? hf)
 rw [hb] at h
 simpa using h
theorem ring_seq {K : Cfg} (hP : K.P = Tryd.prog) (hd : K.dr = false) : ∀ (f : FuncId) q, (if f == 46 then some toldValues else none) = some q → SeqOk K f q := fun f q h => by
 by_cases e : f = 46
 ·subst e
  have : q = toldValues := (Option.some.inj h).symm
  subst this
  exact seq46 hP hd
 ·simp [e] at h
theorem kr_ok : CfgOk Kr where
 mixed := by kernel_rfl
 names := ring_names_ok
 lib := fun f h args H r H' hl hr => by cases hl
 libv := fun f h args H r hl hr => by cases hl
 seq := fun f q h => ring_seq rfl rfl f q h
theorem awake_run (H : List AB) : callF Kr 1000 4 [] H = some (.v (.bool true), H) := by kernel_rfl
theorem awake_call (H : List AB) : CallOk Kr 4 [] H (.v (.bool true)) H := callOk_run kr_ok rfl rfl (awake_run H)
end Go.Proofs
