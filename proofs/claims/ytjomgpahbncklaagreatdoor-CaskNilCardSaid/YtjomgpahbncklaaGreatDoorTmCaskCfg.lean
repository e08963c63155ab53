/- The tree machine over the cask's program: what is told, and why it may be. -/
import Derived.Test.YtjomgpahbncklaaGreatDoorTmTop
import Derived.Test.YtjomgpahbncklaaGreatDoorTmFast5
import Derived.Test.YtjomgpahbncklaaGreatDoorTmCollect
import Derived.Test.YtjomgpahbncklaaGreatDoorTmCaskCol
namespace Go.Proofs
open Go.Tm
noncomputable def Kd : Cfg where
  P := Tryz.prog
  chg := fun f _ => [76, 108, 146].contains f
  vals := fun f => (7237005577331747993798275397179391258811209493931319187491818018997630533631 : Nat).testBit f
  lib := fun f => if f == 173 then some (toldNew 5) else if f == 124 then some (toldCollect [126, 129] 9) else none
  libv := fun f => if f == 172 then some toldSame else if f == 147 then some toldIndexByte else none

theorem cfgd_names : (Tryz.prog.funcs.all fun fn => !fn.body.isSome || !(fn.name == "runtime.NumGoroutine")) = true := by kernel_rfl

theorem cfgd : CfgOk Kd where
  mixed := by kernel_rfl
  names := fun f fn hf hb => by
    have h := Array.all_eq_true_iff_forall_mem.1 cfgd_names fn (Array.mem_of_getElem? hf)
    rw [hb] at h
    simpa using h
  lib := fun f h args H r H' hl hr => by
    by_cases q : f = 173
    · subst q
      have hh : h = toldNew 5 := (Option.some.inj hl).symm
      subst hh
      exact new_told (K := Kd) (fn := Tryz.f173) Tryz.func173 (by kernel_rfl) (by kernel_rfl) (by kernel_rfl) (t := 37) (by kernel_rfl) (by kernel_rfl) (by kernel_rfl) hr
    · by_cases q2 : f = 124
      · subst q2
        have hh : h = toldCollect [126, 129] 9 := (Option.some.inj hl).symm
        subst hh
        refine collect_told (K := Kd) Tryz.underlying9 (enters_of Tryz.func124 (by kernel_rfl) rfl) (fun g hg w Bm b D0 h1 h2 h3 h4 => ?_) (fun g hg w Bm h1 h2 => ?_) hr
        · rcases List.mem_cons.1 hg with rfl | hg
          · exact Tryz.collect_126 w Bm b D0 _ h1 h2 h3 h4
          · obtain rfl := List.mem_singleton.1 hg
            exact Tryz.collect_129 w Bm b D0 _ h1 h2 h3 h4
        · rcases List.mem_cons.1 hg with rfl | hg
          · exact Tryz.collect_nil_126 w Bm h1 h2
          · obtain rfl := List.mem_singleton.1 hg
            exact Tryz.collect_nil_129 w Bm h1 h2
      · exact absurd hl (by show (if f == 173 then some (toldNew 5) else if f == 124 then some (toldCollect [126, 129] 9) else none) ≠ some h; simp [q, q2])
  libv := fun f h args H r hl hr => by
    by_cases q2 : f = 172
    · subst q2
      have hh : h = toldSame := (Option.some.inj hl).symm
      subst hh
      exact same_told (K := Kd) (fn := Tryz.f172) Tryz.func172 (by kernel_rfl) (by kernel_rfl) (by kernel_rfl) (by kernel_rfl) hr
    · by_cases q4 : f = 147
      · subst q4
        have hh : h = toldIndexByte := (Option.some.inj hl).symm
        subst hh
        exact indexByte_told (K := Kd) (fn := Tryz.f147) Tryz.func147 (by kernel_rfl) (by kernel_rfl) (by kernel_rfl) (by kernel_rfl) hr
      · exact absurd hl (by show (if f == 172 then some toldSame else if f == 147 then some toldIndexByte else none) ≠ some h; simp [q2, q4])
end Go.Proofs
