/- The tree machine over the swap's program: what is told, and why it may be. -/
import Derived.Test.YtdnpmgbpnkjikaaGreatDoorTmTop
import Derived.Test.YtdnpmgbpnkjikaaGreatDoorTmFreeze
import Derived.Test.YtdnpmgbpnkjikaaGreatDoorTmRope
import Derived.Test.YtdnpmgbpnkjikaaGreatDoorTmSorted
import Derived.Test.YtdnpmgbpnkjikaaGreatDoorTmSwapCol
import Derived.Test.YtdnpmgbpnkjikaaGreatDoorTmSwapSha
set_option linter.unusedVariables false
set_option linter.unusedSimpArgs false
set_option linter.unusedSectionVars false
namespace Go.Proofs
open Go.Tm
def z8 : AV := .v (.int .u8 0)
def h32 : List AV := [z8, z8, z8, z8, z8, z8, z8, z8, z8, z8, z8, z8, z8, z8, z8, z8, z8, z8, z8, z8, z8, z8, z8, z8, z8, z8, z8, z8, z8, z8, z8, z8]
def tl0 : BT := .leaf [.v (.map none), z8, z8, z8, z8, z8, z8, z8, z8, z8, z8, z8, z8, z8, z8, z8, z8, z8, z8, z8, z8, z8, z8, z8, z8, z8, z8, z8, z8, z8, z8, z8, z8, .v (.bool false)]
def tl1 : BT := .node 34 tl0 tl0
def tl2 : BT := .node 68 tl1 tl1
def tl3 : BT := .node 136 tl2 tl2
def tl4 : BT := .node 272 tl3 tl3
def tl5 : BT := .node 544 tl4 tl4
def tl6 : BT := .node 1088 tl5 tl5
def tl7 : BT := .node 2176 tl6 tl6
def tl8 : BT := .node 4352 tl7 tl7
def tb0 : BT := .leaf h32
def tb1 : BT := .node 32 tb0 tb0
def tb2 : BT := .node 64 tb1 tb1
def tb3 : BT := .node 128 tb2 tb2
def tb4 : BT := .node 256 tb3 tb3
/-- A tree of hashes that is new: 256 leaves, 16 branches, the root, whole or not. -/
def treeBT : BT := .node 8704 tl8 (.node 512 tb4 (.node 32 tb0 (.leaf [.v (.bool false)])))
set_option maxRecDepth 1000000 in
theorem treeBT_ok : bigOk Tryz.prog 74 9249 treeBT = true := by kernel_rfl
/-- For the run of tree.New alone. -/
noncomputable def Kwn : Cfg where
  P := Tryz.prog
  gl := (Kw Ar.real).gl
  vals := fun _ => false
set_option maxRecDepth 1000000 in
theorem new_run (H : List AB) : callF Kwn 10 20 [] H = some (.ptr H.length 0, H ++ [.cells (74, true) (match tZero Kwn.P 74 with | some z => z.cells | none => [])]) := by kernel_rfl
set_option maxRecDepth 1000000 in
theorem new_zero : ∃ z, tZero Tryz.prog 74 = some z := by
  have h : (tZero Tryz.prog 74).isSome = true := by kernel_rfl
  exact Option.isSome_iff_exists.1 h
noncomputable def Kw0 : Cfg where
  P := Tryz.prog
  big := fun t => if t == 74 then some (9249, treeBT) else if t == 72 then some (512, tb4) else none
  gl := (Kw Ar.real).gl
  chg := fun f _ => [23, 70, 99, 136].contains f
  vals := fun f => (4171849679533027504676893344644994903570673632004701232860674750003267992182938994402244100095 : Nat).testBit f
  lib := fun f => if f == 105 then some toldFeed else if f == 20 then some (toldRope 74 9249 treeBT) else if f == 264 then some (toldNew 5) else if f == 71 then some (toldCollect [73] 9) else if f == 45 then some (toldSorted [73] 9) else none
  libv := fun f => if f == 188 then some toldSame else if f == 250 then some toldIndexByte else none

theorem cfgw_names : (Tryz.prog.funcs.all fun fn => !fn.body.isSome || !(fn.name == "runtime.NumGoroutine")) = true := by kernel_rfl
theorem names_ok : ∀ (f : FuncId) (fn : Func), Tryz.prog.funcs[f]? = some fn → fn.body.isSome = true → (fn.name == "runtime.NumGoroutine") = false := fun f fn hf hb => by
  have h := Array.all_eq_true_iff_forall_mem.1 cfgw_names fn (Array.mem_of_getElem? hf)
  rw [hb] at h
  simpa using h
theorem cfgk : CfgOk (Kw Ar.real) where
  mixed := by kernel_rfl
  names := names_ok
  lib := fun f h args H r H' hl hr => by cases hl
  libv := fun f h args H r hl hr => by cases hl

theorem cfgwn : CfgOk Kwn where
  mixed := by kernel_rfl
  names := names_ok
  lib := fun f h args H r H' hl hr => by cases hl
  libv := fun f h args H r hl hr => by cases hl
set_option maxRecDepth 100000 in
theorem lib_ok : ∀ (f : FuncId) (h : List AV → List AB → Option (AV × List AB)) (args : List AV) (H : List AB) (r : AV) (H' : List AB), Kw0.lib f = some h → h args H = some (r, H') → CallOk Kw0 f args H r H' := fun f h args H r H' hl hr => by
  by_cases q0 : f = 105
  · subst q0
    have hh : h = toldFeed := (Option.some.inj hl).symm
    subst hh
    exact callOk_like (K := Kw Ar.real) (K' := Kw0) rfl rfl rfl (feed_told cfgk rfl rfl (fun a b c d e f' g h s t rest => feed_run Ar.real a b c d e f' g h s t rest) hr)
  · by_cases q5 : f = 20
    · subst q5
      have hh : h = toldRope 74 9249 treeBT := (Option.some.inj hl).symm
      subst hh
      obtain ⟨z, hz⟩ := new_zero
      exact callOk_like (K := Kwn) (K' := Kw0) rfl rfl rfl (rope_told cfgwn rfl rfl hz treeBT_ok new_run hr)
    by_cases q : f = 264
    · subst q
      have hh : h = toldNew 5 := (Option.some.inj hl).symm
      subst hh
      exact new_told (K := Kw0) (fn := Tryz.f264) Tryz.func264 (by kernel_rfl) (by kernel_rfl) (by kernel_rfl) (t := 101) (by kernel_rfl) (by kernel_rfl) (by kernel_rfl) hr
    · by_cases q2 : f = 71
      · subst q2
        have hh : h = toldCollect [73] 9 := (Option.some.inj hl).symm
        subst hh
        refine collect_told (K := Kw0) Tryz.underlying9 (enters_of Tryz.func71 (by kernel_rfl) rfl) (fun g hg w Bm b D0 h1 h2 h3 h4 => ?_) (fun g hg w Bm h1 h2 => ?_) hr
        · obtain rfl := List.mem_singleton.1 hg
          exact Tryz.collect_73 w Bm b D0 _ h1 h2 h3 h4
        · obtain rfl := List.mem_singleton.1 hg
          exact Tryz.collect_nil_73 w Bm h1 h2
      · by_cases q3 : f = 45
        · subst q3
          have hh : h = toldSorted [73] 9 := (Option.some.inj hl).symm
          subst hh
          refine sorted_told (K := Kw0) Tryz.underlying9 (enters_of Tryz.func45 (by kernel_rfl) rfl) (fun g hg w Bm b n D0 h1 h2 h3 h4 => ?_) (fun g hg w Bm h1 h2 => ?_) hr
          · obtain rfl := List.mem_singleton.1 hg
            exact Tryz.sorted_73 w Bm b n D0 _ h1 h2 h3 h4
          · obtain rfl := List.mem_singleton.1 hg
            exact Tryz.sorted_nil_73 w Bm h1 h2
        · exact absurd hl (by show (if f == 105 then some toldFeed else if f == 20 then some (toldRope 74 9249 treeBT) else if f == 264 then some (toldNew 5) else if f == 71 then some (toldCollect [73] 9) else if f == 45 then some (toldSorted [73] 9) else none) ≠ some h; simp [q0, q5, q, q2, q3])

theorem libv_ok : ∀ (f : FuncId) (h : List AV → Option AV) (args : List AV) (H : List AB) (r : AV), Kw0.libv f = some h → h args = some r → CallOk Kw0 f args H r H := fun f h args H r hl hr => by
  by_cases q2 : f = 188
  · subst q2
    have hh : h = toldSame := (Option.some.inj hl).symm
    subst hh
    exact same_told (K := Kw0) (fn := Tryz.f188) Tryz.func188 (by kernel_rfl) (by kernel_rfl) (by kernel_rfl) (by kernel_rfl) hr
  · by_cases q4 : f = 250
    · subst q4
      have hh : h = toldIndexByte := (Option.some.inj hl).symm
      subst hh
      exact indexByte_told (K := Kw0) (fn := Tryz.f250) Tryz.func250 (by kernel_rfl) (by kernel_rfl) (by kernel_rfl) (by kernel_rfl) hr
    · exact absurd hl (by show (if f == 188 then some toldSame else if f == 250 then some toldIndexByte else none) ≠ some h; simp [q2, q4])

theorem cfgw0 : CfgOk Kw0 where
  mixed := by kernel_rfl
  names := names_ok
  lib := lib_ok
  libv := libv_ok
end Go.Proofs
