/- The tree machine over the squash's program: what is told, and why it may be; what some functions of values tell, each run once. -/
import Derived.Test.YtcopnmbokhjjmaaGreatDoorTmTop
import Derived.Test.YtcopnmbokhjjmaaGreatDoorTmCut
import Derived.Test.YtcopnmbokhjjmaaGreatDoorTmSorted
import Derived.Test.YtcopnmbokhjjmaaGreatDoorTmSquashCol
import Derived.Test.YtcopnmbokhjjmaaGreatDoorTmSquashUsed
namespace Go.Proofs
open Go.Tm
noncomputable def Ks0 : Cfg where
  P := Tryz.prog
  chg := fun f _ => [20, 50, 67, 122, 149].contains f
  vals := fun f => (14821387422376440104125646950329018652681473749576980395547516749904203271353343 : Nat).testBit f
  lib := fun f => if f == 211 then some (toldNew 5) else if f == 128 then some (toldCollect [130, 143, 165] 9) else if f == 71 then some (toldSorted [130, 143, 165] 9) else if f == 17 then some toldUsed else none
  libv := fun f => if f == 187 then some toldSame else if f == 175 then some toldIndexByte else none

theorem cfgs_names : (Tryz.prog.funcs.all fun fn => !fn.body.isSome || !(fn.name == "runtime.NumGoroutine")) = true := by kernel_rfl

theorem lib_ok (lv : FuncId → Option (List AV → Option AV)) : ∀ (f : FuncId) (h : List AV → List AB → Option (AV × List AB)) (args : List AV) (H : List AB) (r : AV) (H' : List AB), Ks0.lib f = some h → h args H = some (r, H') → CallOk { Ks0 with libv := lv } f args H r H' := fun f h args H r H' hl hr => by
  refine callOk_with ?_
  by_cases q : f = 211
  · subst q
    have hh : h = toldNew 5 := (Option.some.inj hl).symm
    subst hh
    exact new_told (K := Ks0) (fn := Tryz.f211) Tryz.func211 (by kernel_rfl) (by kernel_rfl) (by kernel_rfl) (t := 99) (by kernel_rfl) (by kernel_rfl) (by kernel_rfl) hr
  · by_cases q2 : f = 128
    · subst q2
      have hh : h = toldCollect [130, 143, 165] 9 := (Option.some.inj hl).symm
      subst hh
      refine collect_told (K := Ks0) Tryz.underlying9 (enters_of Tryz.func128 (by kernel_rfl) rfl) (fun g hg w Bm b D0 h1 h2 h3 h4 => ?_) (fun g hg w Bm h1 h2 => ?_) hr
      · rcases List.mem_cons.1 hg with rfl | hg
        · exact Tryz.collect_130 w Bm b D0 _ h1 h2 h3 h4
        · rcases List.mem_cons.1 hg with rfl | hg
          · exact Tryz.collect_143 w Bm b D0 _ h1 h2 h3 h4
          · obtain rfl := List.mem_singleton.1 hg
            exact Tryz.collect_165 w Bm b D0 _ h1 h2 h3 h4
      · rcases List.mem_cons.1 hg with rfl | hg
        · exact Tryz.collect_nil_130 w Bm h1 h2
        · rcases List.mem_cons.1 hg with rfl | hg
          · exact Tryz.collect_nil_143 w Bm h1 h2
          · obtain rfl := List.mem_singleton.1 hg
            exact Tryz.collect_nil_165 w Bm h1 h2
    · by_cases q3 : f = 71
      · subst q3
        have hh : h = toldSorted [130, 143, 165] 9 := (Option.some.inj hl).symm
        subst hh
        refine sorted_told (K := Ks0) Tryz.underlying9 (enters_of Tryz.func71 (by kernel_rfl) rfl) (fun g hg w Bm b n D0 h1 h2 h3 h4 => ?_) (fun g hg w Bm h1 h2 => ?_) hr
        · rcases List.mem_cons.1 hg with rfl | hg
          · exact Tryz.sorted_130 w Bm b n D0 _ h1 h2 h3 h4
          · rcases List.mem_cons.1 hg with rfl | hg
            · exact Tryz.sorted_143 w Bm b n D0 _ h1 h2 h3 h4
            · obtain rfl := List.mem_singleton.1 hg
              exact Tryz.sorted_165 w Bm b n D0 _ h1 h2 h3 h4
        · rcases List.mem_cons.1 hg with rfl | hg
          · exact Tryz.sorted_nil_130 w Bm h1 h2
          · rcases List.mem_cons.1 hg with rfl | hg
            · exact Tryz.sorted_nil_143 w Bm h1 h2
            · obtain rfl := List.mem_singleton.1 hg
              exact Tryz.sorted_nil_165 w Bm h1 h2
      · by_cases q4 : f = 17
        · subst q4
          have hh : h = toldUsed := (Option.some.inj hl).symm
          subst hh
          exact used_told (K := Ks0) (enters_of Tryz.func17 (by kernel_rfl) rfl) Tryz.used Tryz.used_nil hr
        · exact absurd hl (by show (if f == 211 then some (toldNew 5) else if f == 128 then some (toldCollect [130, 143, 165] 9) else if f == 71 then some (toldSorted [130, 143, 165] 9) else if f == 17 then some toldUsed else none) ≠ some h; simp [q, q2, q3, q4])

theorem libv_ok : ∀ (f : FuncId) (h : List AV → Option AV) (args : List AV) (H : List AB) (r : AV), Ks0.libv f = some h → h args = some r → CallOk Ks0 f args H r H := fun f h args H r hl hr => by
  by_cases q2 : f = 187
  · subst q2
    have hh : h = toldSame := (Option.some.inj hl).symm
    subst hh
    exact same_told (K := Ks0) (fn := Tryz.f187) Tryz.func187 (by kernel_rfl) (by kernel_rfl) (by kernel_rfl) (by kernel_rfl) hr
  · by_cases q4 : f = 175
    · subst q4
      have hh : h = toldIndexByte := (Option.some.inj hl).symm
      subst hh
      exact indexByte_told (K := Ks0) (fn := Tryz.f175) Tryz.func175 (by kernel_rfl) (by kernel_rfl) (by kernel_rfl) (by kernel_rfl) hr
    · exact absurd hl (by show (if f == 187 then some toldSame else if f == 175 then some toldIndexByte else none) ≠ some h; simp [q2, q4])

theorem names_ok : ∀ (f : FuncId) (fn : Func), Tryz.prog.funcs[f]? = some fn → fn.body.isSome = true → (fn.name == "runtime.NumGoroutine") = false := fun f fn hf hb => by
  have h := Array.all_eq_true_iff_forall_mem.1 cfgs_names fn (Array.mem_of_getElem? hf)
  rw [hb] at h
  simpa using h

theorem cfgs0 : CfgOk Ks0 where
  mixed := by kernel_rfl
  names := names_ok
  lib := fun f h args H r H' hl hr => lib_ok Ks0.libv f h args H r H' hl hr
  libv := libv_ok

/-! What some functions of values tell. -/
def recTbl : List (List AV × AV) := [([.str [97], .str [49], .v (.bool false)], .tup [.str [5, 1, 97, 0, 1, 49, 48, 29, 127, 176], .v (.int .i64 0)])]
def frameTbl : List (List AV × AV) := [
  ([.str [1, 97, 0, 1, 49]], .tup [.str [5, 1, 97, 0, 1, 49, 48, 29, 127, 176], .v (.int .i64 0)]),
  ([.str [100]], .tup [.str [1, 100, 152, 221, 74, 204], .v (.int .i64 0)]),
  ([.str [200, 1]], .tup [.str [2, 200, 1, 53, 253, 127, 47], .v (.int .i64 0)])]
def fileTbl : List (List AV × AV) := [
  ([.str [118, 49], .v (.int .i64 1)], .str [118, 49, 46, 48, 48, 48, 48, 48, 49]),
  ([.str [110], .v (.int .i64 1)], .str [110, 46, 48, 48, 48, 48, 48, 49])]
def nameTbl : List (List AV × AV) := [
  ([.str [118, 49, 46, 48, 48, 48, 48, 48, 49]], .v (.bool true)),
  ([.str [118, 49, 46, 48, 48, 48, 48, 48, 49, 46, 110, 101, 119]], .v (.bool true)),
  ([.str [110, 46, 99, 111, 117, 110, 116]], .v (.bool true)),
  ([.str [110, 46, 99, 111, 117, 110, 116, 46, 110, 101, 119]], .v (.bool true))]
theorem rec_run (H : List AB) : ∀ e ∈ recTbl, callF Ks0 1000 120 e.1 H = some (e.2, H) := by
  intro e he
  obtain rfl := List.mem_singleton.1 he
  kernel_rfl
theorem frame_run (H : List AB) : ∀ e ∈ frameTbl, callF Ks0 1000 46 e.1 H = some (e.2, H) := by
  intro e he
  rcases List.mem_cons.1 he with rfl | he
  · kernel_rfl
  · rcases List.mem_cons.1 he with rfl | he
    · kernel_rfl
    · obtain rfl := List.mem_singleton.1 he
      kernel_rfl
theorem file_run (H : List AB) : ∀ e ∈ fileTbl, callF Ks0 1000 51 e.1 H = some (e.2, H) := by
  intro e he
  rcases List.mem_cons.1 he with rfl | he
  · kernel_rfl
  · obtain rfl := List.mem_singleton.1 he
    kernel_rfl
theorem name_run (H : List AB) : ∀ e ∈ nameTbl, callF Ks0 1000 174 e.1 H = some (e.2, H) := by
  intro e he
  rcases List.mem_cons.1 he with rfl | he
  · kernel_rfl
  · rcases List.mem_cons.1 he with rfl | he
    · kernel_rfl
    · rcases List.mem_cons.1 he with rfl | he
      · kernel_rfl
      · obtain rfl := List.mem_singleton.1 he
        kernel_rfl

noncomputable def Ks : Cfg := { Ks0 with libv := fun f => if f == 120 then some (toldMemo recTbl) else if f == 46 then some (toldMemo frameTbl) else if f == 51 then some (toldMemo fileTbl) else if f == 174 then some (toldMemo nameTbl) else Ks0.libv f }

theorem cfgs : CfgOk Ks where
  mixed := by kernel_rfl
  names := names_ok
  lib := fun f h args H r H' hl hr => lib_ok _ f h args H r H' hl hr
  libv := fun f h args H r hl hr => by
    refine callOk_with ?_
    have hl : (if f == 120 then some (toldMemo recTbl) else if f == 46 then some (toldMemo frameTbl) else if f == 51 then some (toldMemo fileTbl) else if f == 174 then some (toldMemo nameTbl) else Ks0.libv f) = some h := hl
    by_cases q1 : f = 120
    · subst q1
      obtain rfl := Option.some.inj hl
      exact callOk_run cfgs0 rfl (rec_run H _ (toldMemo_some hr))
    · by_cases q2 : f = 46
      · subst q2
        obtain rfl := Option.some.inj hl
        exact callOk_run cfgs0 rfl (frame_run H _ (toldMemo_some hr))
      · by_cases q3 : f = 51
        · subst q3
          obtain rfl := Option.some.inj hl
          exact callOk_run cfgs0 rfl (file_run H _ (toldMemo_some hr))
        · by_cases q4 : f = 174
          · subst q4
            obtain rfl := Option.some.inj hl
            exact callOk_run cfgs0 rfl (name_run H _ (toldMemo_some hr))
          · rw [if_neg (by simp [q1]), if_neg (by simp [q2]), if_neg (by simp [q3]), if_neg (by simp [q4])] at hl
            exact libv_ok f h args H r hl hr

/-! Calls that leave no block of their own. -/
noncomputable def Kt : Cfg := { Ks with lib := fun f => if f == 16 then some (toldCut Ks 990 16) else if f == 12 then some (toldCut Ks 990 12) else if f == 20 then some (toldCut Ks 990 20) else Ks0.lib f }
theorem cfgt : CfgOk Kt where
  mixed := by kernel_rfl
  names := names_ok
  lib := fun f h args H r H' hl hr => by
    have hl : (if f == 16 then some (toldCut Ks 990 16) else if f == 12 then some (toldCut Ks 990 12) else if f == 20 then some (toldCut Ks 990 20) else Ks0.lib f) = some h := hl
    refine callOk_like (K := Ks) (K' := Kt) rfl rfl rfl ?_
    by_cases q1 : f = 16
    · subst q1
      obtain rfl := Option.some.inj hl
      exact cut_told cfgs rfl hr
    · by_cases q2 : f = 12
      · subst q2
        obtain rfl := Option.some.inj hl
        exact cut_told cfgs rfl hr
      · by_cases q3 : f = 20
        · subst q3
          obtain rfl := Option.some.inj hl
          exact cut_told cfgs rfl hr
        · rw [if_neg (by simp [q1]), if_neg (by simp [q2]), if_neg (by simp [q3])] at hl
          exact lib_ok _ f h args H r H' hl hr
  libv := fun f h args H r hl hr => callOk_like (K := Ks) (K' := Kt) rfl rfl rfl (cfgs.libv f h args H r hl hr)
end Go.Proofs
