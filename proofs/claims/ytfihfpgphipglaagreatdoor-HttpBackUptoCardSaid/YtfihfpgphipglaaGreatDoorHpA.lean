/- HpIx, HpCfg, HpErr, joined. -/
import Derived.Shelf.Strings.Search1
import Derived.Shelf.Strings.Search2
import Derived.Ground.NamesProg
import Derived.Test.YtfihfpgphipglaaGreatDoorProg
import Derived.Test.YtfihfpgphipglaaGreatDoorTmQf
import Derived.Test.YtfihfpgphipglaaGreatDoorTmMono
import Derived.Test.YtfihfpgphipglaaGreatDoorTmMemo
set_option linter.unusedVariables false
set_option linter.unusedSimpArgs false
set_option linter.unusedSectionVars false
section
namespace Go.Proofs
open Go.Shelf
def Tryz.lays219_ren : Go.Shelf.Ren := ⟨fun | 219 => 42 | 217 => 55 | 225 => 57 | 224 => 58 | 267 => 59 | 266 => 73 | 314 => 78 | n => n, fun | 9 => 9 | 3 => 3 | 4 => 4 | 5 => 5 | 46 => 84 | 146 => 110 | 51 => 109 | n => n, fun | 1 => 0 | n => n⟩
theorem Tryz.lays219 : Go.Proofs.Lays.n219 Tryz.prog Tryz.lays219_ren := {
 mixed := by kernel_rfl
 f217 := Tryz.func55.trans (congrArg some (by kernel_rfl))
 f219 := Tryz.func42.trans (congrArg some (by kernel_rfl))
 f224 := Tryz.func58.trans (congrArg some (by kernel_rfl))
 f225 := Tryz.func57.trans (congrArg some (by kernel_rfl))
 f266 := Tryz.func73.trans (congrArg some (by kernel_rfl))
 f267 := Tryz.func59.trans (congrArg some (by kernel_rfl))
 f314 := Tryz.func78.trans (congrArg some (by kernel_rfl))
 t3 := Tryz.underlying3
 a3 := Tryz.isAgg3
 z3 := Tryz.sizeOf3
 v3 := Tryz.zeroValue3
 t4 := Tryz.underlying4
 a4 := Tryz.isAgg4
 z4 := Tryz.sizeOf4
 v4 := Tryz.zeroValue4
 t5 := Tryz.underlying5
 a5 := Tryz.isAgg5
 z5 := Tryz.sizeOf5
 v5 := Tryz.zeroValue5
 t9 := Tryz.underlying9
 a9 := Tryz.isAgg9
 z9 := Tryz.sizeOf9
 v9 := Tryz.zeroValue9
 t46 := Tryz.underlying84
 a46 := Tryz.isAgg84
 z46 := Tryz.sizeOf84
 v46 := Tryz.zeroValue84
 t51 := Tryz.underlying109
 a51 := Tryz.isAgg109
 z51 := Tryz.sizeOf109
 v51 := Tryz.zeroValue109
 t146 := Tryz.underlying110
 a146 := Tryz.isAgg110
 z146 := Tryz.sizeOf110
 v146 := Tryz.zeroValue110
 g1 := by kernel_rfl }
open Go.RowKit Go.Lib in
theorem Tryz.stringslite_Index_one (s : ByteArray) (c : UInt8) (w : World) :
  Calls Tryz.prog 42 #[.string s, .string ⟨#[c]⟩] w fun e w' => e = .returned (.int .i64 (Lib.indexByte s.data.toList c)) ∧ w' = w := Any.stringslite_Index_one Tryz.lays219 s c w
open Go.RowKit Go.Lib in
theorem Tryz.stringslite_Index (s sub : ByteArray) (m : Int) (w : World) (hs : s.size < 4294967281) (hm : w.cell? ⟨0, 0, none⟩ = some (.int .i64 m)) :
  Calls Tryz.prog 42 #[.string s, .string sub] w fun e w' => e = .returned (.int .i64 (Lib.index s.data.toList sub.data.toList)) ∧ w' = w := Any.stringslite_Index Tryz.lays219 s sub m w hs hm
end Go.Proofs
end
section
namespace Go.Proofs
open Go.Tm Go.Shelf
def pow10 : List Int := [1, 10, 100, 1000, 10000, 100000, 1000000, 10000000, 100000000, 1000000000, 10000000000, 100000000000, 1000000000000, 10000000000000, 100000000000000, 1000000000000000, 10000000000000000, 100000000000000000, 1000000000000000000, 10000000000000000000]
noncomputable def Kb (x : Value) : Cfg where
 P := Tryz.prog
 gl := fun i => if i == 3 then some (pow10.map fun n => AV.v (.int .u64 n)) else if i == 1 then some [.v x] else none
 ints := [0]
 chg := fun f d => [27, 32, 34, 60, 92, 104].contains f && !(f == 34 && d == 13)
 vals := fun f => (11417981540983044755784816809501085120455507967 : Nat).testBit f
 lib := fun f => if f == 113 then some (toldNew 5) else none
 libv := fun f => if f == 42 then some toldIndex else if f == 66 then some toldSame else if f == 101 then some toldCount else if f == 73 then some toldIndexByte else none
theorem http_names : (Tryz.prog.funcs.all fun fn => !fn.body.isSome || !(fn.name == "runtime.NumGoroutine")) = true := by kernel_rfl
theorem http_names_ok : ∀ (f : FuncId) (fn : Func), Tryz.prog.funcs[f]? = some fn → fn.body.isSome = true → (fn.name == "runtime.NumGoroutine") = false := fun f fn hf hb => by
 have h := Array.all_eq_true_iff_forall_mem.1 http_names fn (Array.mem_of_getElem? hf)
 rw [hb] at h
 simpa using h
theorem kb_lib (x : Value) : ∀ (f : FuncId) h args H r H', (Kb x).lib f = some h → h args H = some (r, H') → CallOk (Kb x) f args H r H' := fun f h args H r H' hl hr => by
 have hf : f = 113 := by
  by_cases q : f = 113
  ·exact q
  ·exact absurd hl (by show (if f == 113 then some (toldNew 5) else none) ≠ some h; simp [q])
 subst hf
 have hh : h = toldNew 5 := (Option.some.inj hl).symm
 subst hh
 exact new_told (K := Kb x) (fn := Tryz.f113) Tryz.func113 (by kernel_rfl) (by kernel_rfl) (by kernel_rfl) (t := 67) (by kernel_rfl) (by kernel_rfl) (by kernel_rfl) hr
theorem kb_libv (x : Value) : ∀ (f : FuncId) h args H r, (Kb x).libv f = some h → h args = some r → CallOk (Kb x) f args H r H := fun f h args H r hl hr => by
 by_cases q1 : f = 42
 ·subst q1
  have hh : h = toldIndex := (Option.some.inj hl).symm
  subst hh
  exact index_told (K := Kb x) (b := 0) (by show 0 ∈ [0]; simp) (enters_of Tryz.func42 (by kernel_rfl) rfl) (fun s t m w h1 h2 => Tryz.stringslite_Index s t m w h1 h2) hr
 ·by_cases q2 : f = 66
  ·subst q2
   have hh : h = toldSame := (Option.some.inj hl).symm
   subst hh
   exact same_told (K := Kb x) (fn := Tryz.f66) Tryz.func66 (by kernel_rfl) (by kernel_rfl) (by kernel_rfl) (by kernel_rfl) hr
  ·by_cases q3 : f = 101
   ·subst q3
    have hh : h = toldCount := (Option.some.inj hl).symm
    subst hh
    exact count_told (K := Kb x) (fn := Tryz.f101) Tryz.func101 (by kernel_rfl) (by kernel_rfl) (by kernel_rfl) (by kernel_rfl) hr
   ·by_cases q4 : f = 73
    ·subst q4
     have hh : h = toldIndexByte := (Option.some.inj hl).symm
     subst hh
     exact indexByte_told (K := Kb x) (fn := Tryz.f73) Tryz.func73 (by kernel_rfl) (by kernel_rfl) (by kernel_rfl) (by kernel_rfl) hr
    ·exact absurd hl (by show (if f == 42 then some toldIndex else if f == 66 then some toldSame else if f == 101 then some toldCount else if f == 73 then some toldIndexByte else none) ≠ some h; simp [q1, q2, q3, q4])
theorem kb_ok (x : Value) : CfgOk (Kb x) where
 mixed := by kernel_rfl
 names := http_names_ok
 lib := kb_lib x
 libv := kb_libv x
theorem awake_run (x : Value) (H : List AB) : callF (Kb x) 1000 7 [] H = some (.v (.bool true), H) := by kernel_rfl
theorem awake_call (x : Value) (H : List AB) : CallOk (Kb x) 7 [] H (.v (.bool true)) H := callOk_run (kb_ok x) rfl rfl (awake_run x H)
end Go.Proofs
end
section
namespace Go.Proofs
open Go.Tm
end Go.Proofs
end
