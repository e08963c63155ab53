/- The tree machine over the swap's program: sha.Join over what its argument holds, by the table; a tree's reckoning leaves no block of its own. -/
import Derived.Test.YtdnpmgbpnkjikaaGreatDoorTmSwJoin
set_option linter.unusedVariables false
set_option linter.unusedSimpArgs false
set_option linter.unusedSectionVars false
namespace Go.Proofs
open Go.Tm
noncomputable def Kw1 : Cfg := { Kw0 with libv := fun f => if f == 44 then some (toldMemo joinTbl) else Kw0.libv f }
theorem cfgw1 : CfgOk Kw1 where
  mixed := by kernel_rfl
  names := names_ok
  lib := fun f h args H r H' hl hr => callOk_like (K := Kw0) (K' := Kw1) rfl rfl rfl (lib_ok f h args H r H' hl hr)
  libv := fun f h args H r hl hr => by
    refine callOk_like (K := Kw0) (K' := Kw1) rfl rfl rfl ?_
    have hl : (if f == 44 then some (toldMemo joinTbl) else Kw0.libv f) = some h := hl
    by_cases q1 : f = 44
    · subst q1
      obtain rfl := Option.some.inj hl
      exact callOk_run cfgw0 rfl rfl (join_run H _ (toldMemo_some hr))
    · rw [if_neg (by simp [q1])] at hl
      exact libv_ok f h args H r hl hr
noncomputable def Kw2 : Cfg := { Kw0 with lib := fun f => if f == 44 then some (toldFrozen Kw1 990 44) else Kw0.lib f }
theorem cfgw2 : CfgOk Kw2 where
  mixed := by kernel_rfl
  names := names_ok
  lib := fun f h args H r H' hl hr => by
    have hl : (if f == 44 then some (toldFrozen Kw1 990 44) else Kw0.lib f) = some h := hl
    by_cases q1 : f = 44
    · subst q1
      obtain rfl := Option.some.inj hl
      exact callOk_like (K := Kw1) (K' := Kw2) rfl rfl rfl (frozen_told cfgw1 rfl rfl hr)
    · rw [if_neg (by simp [q1])] at hl
      exact callOk_like (K := Kw0) (K' := Kw2) rfl rfl rfl (lib_ok f h args H r H' hl hr)
  libv := fun f h args H r hl hr => callOk_like (K := Kw0) (K' := Kw2) rfl rfl rfl (libv_ok f h args H r hl hr)
noncomputable def Kw3 : Cfg := { Kw0 with lib := fun f => if f == 25 then some (toldCut Kw2 980 25) else Kw2.lib f }
theorem cfgw3 : CfgOk Kw3 where
  mixed := by kernel_rfl
  names := names_ok
  lib := fun f h args H r H' hl hr => by
    refine callOk_like (K := Kw2) (K' := Kw3) rfl rfl rfl ?_
    have hl : (if f == 25 then some (toldCut Kw2 980 25) else Kw2.lib f) = some h := hl
    by_cases q1 : f = 25
    · subst q1
      obtain rfl := Option.some.inj hl
      exact cut_told cfgw2 rfl rfl hr
    · rw [if_neg (by simp [q1])] at hl
      exact cfgw2.lib f h args H r H' hl hr
  libv := fun f h args H r hl hr => callOk_like (K := Kw0) (K' := Kw3) rfl rfl rfl (libv_ok f h args H r hl hr)
end Go.Proofs
