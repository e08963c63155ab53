/- A part of the proof: the tree machine and its use. -/
import Derived.Test.YtbgebdobpfoelaaGreatDoorTmTop
import Derived.Test.YtbgebdobpfoelaaGreatDoorTmTryzIxPlain
import Derived.Test.YtbgebdobpfoelaaGreatDoorProg
namespace Go.Proofs
open Go.Tm Go.Shelf
def pow10 : List Int := [1, 10, 100, 1000, 10000, 100000, 1000000, 10000000, 100000000, 1000000000, 10000000000, 100000000000, 1000000000000, 10000000000000, 100000000000000, 1000000000000000, 10000000000000000, 100000000000000000, 1000000000000000000, 10000000000000000000]
noncomputable def Kc : Cfg where
  P := Tryz.prog
  gl := fun i => if i == 3 then some (pow10.map fun n => AV.v (.int .u64 n)) else none
  ints := [0]
  chg := fun f _ => [28, 33, 35, 61, 105].contains f
  vals := fun f => (22835963081966089511569633618948127028202700799 : Nat).testBit f
  lib := fun f => if f == 114 then some (toldNew 5) else none
  libv := fun f => if f == 43 then some toldIndex else if f == 67 then some toldSame else if f == 102 then some toldCount else if f == 74 then some toldIndexByte else none

theorem cfg_names : (Tryz.prog.funcs.all fun fn => !fn.body.isSome || !(fn.name == "runtime.NumGoroutine")) = true := by kernel_rfl

theorem cfg : CfgOk Kc where
  mixed := by kernel_rfl
  names := fun f fn hf hb => by
    have h := Array.all_eq_true_iff_forall_mem.1 cfg_names fn (Array.mem_of_getElem? hf)
    rw [hb] at h
    simpa using h
  lib := fun f h args H r H' hl hr => by
    have hf : f = 114 := by
      by_cases q : f = 114
      · exact q
      · exact absurd hl (by show (if f == 114 then some (toldNew 5) else none) ≠ some h; simp [q])
    subst hf
    have hh : h = toldNew 5 := (Option.some.inj hl).symm
    subst hh
    exact new_told (K := Kc) (fn := Tryz.f114) Tryz.func114 (by kernel_rfl) (by kernel_rfl) (by kernel_rfl) (t := 68) (by kernel_rfl) (by kernel_rfl) (by kernel_rfl) hr
  libv := fun f h args H r hl hr => by
    by_cases q1 : f = 43
    · subst q1
      have hh : h = toldIndex := (Option.some.inj hl).symm
      subst hh
      exact index_told (K := Kc) (b := 0) (by show 0 ∈ [0]; simp) (enters_of Tryz.func43 (by kernel_rfl) rfl) (fun s t m w h1 h2 => Tryz.stringslite_Index s t m w h1 h2) hr
    · by_cases q2 : f = 67
      · subst q2
        have hh : h = toldSame := (Option.some.inj hl).symm
        subst hh
        exact same_told (K := Kc) (fn := Tryz.f67) Tryz.func67 (by kernel_rfl) (by kernel_rfl) (by kernel_rfl) (by kernel_rfl) hr
      · by_cases q3 : f = 102
        · subst q3
          have hh : h = toldCount := (Option.some.inj hl).symm
          subst hh
          exact count_told (K := Kc) (fn := Tryz.f102) Tryz.func102 (by kernel_rfl) (by kernel_rfl) (by kernel_rfl) (by kernel_rfl) hr
        · by_cases q4 : f = 74
          · subst q4
            have hh : h = toldIndexByte := (Option.some.inj hl).symm
            subst hh
            exact indexByte_told (K := Kc) (fn := Tryz.f74) Tryz.func74 (by kernel_rfl) (by kernel_rfl) (by kernel_rfl) (by kernel_rfl) hr
          · exact absurd hl (by show (if f == 43 then some toldIndex else if f == 67 then some toldSame else if f == 102 then some toldCount else if f == 74 then some toldIndexByte else none) ≠ some h; simp [q1, q2, q3, q4])
end Go.Proofs
