/- The tree machine: what a function has been seen to tell of values, told again. -/
import Derived.Test.YtaefgigfoifjaaaGreatDoorTmFast5
set_option linter.unusedVariables false
set_option linter.unusedSimpArgs false
set_option linter.unusedSectionVars false
namespace Go.Tm

mutual
def memoEq : AV → AV → Bool
 | .str s, .str t => strEqF s t
 | .v (.int k n), .v (.int k' n') => kEq k k' && eqF n n'
 | .v (.bool a), .v (.bool b) => bEq a b
 | .agg a, .agg b => memoEqL a b
 | .sl a .unk, .sl b .unk => memoEqL a b
 | _, _ => false
def memoEqL : List AV → List AV → Bool
 | [], [] => true
 | x :: r, y :: q => match memoEq x y with
  | true => memoEqL r q
  | false => false
 | _, _ => false
end
mutual
theorem memoEq_ok : ∀ {x y : AV}, memoEq x y = true → x = y := by
 intro x y h
 unfold memoEq at h
 split at h
 ·rw [strEqF_eq] at h; rw [eq_of_beq h]
 ·simp only [Bool.and_eq_true] at h
  rw [eqF_eq] at h
  rw [kEq_ok h.1, eq_of_beq h.2]
 ·rw [bEq_eq] at h; rw [eq_of_beq h]
 ·rw [memoEqL_ok h]
 ·rw [memoEqL_ok h]
 ·cases h
theorem memoEqL_ok : ∀ {x y : List AV}, memoEqL x y = true → x = y := by
 intro x y h
 unfold memoEqL at h
 split at h
 ·rfl
 ·split at h
  ·rename_i hxy
   rw [memoEq_ok hxy, memoEqL_ok h]
  ·cases h
 ·cases h
end

def toldMemo : List (List AV × AV) → List AV → Option AV
 | [], _ => none
 | e :: r, args => match memoEqL args e.1 with
  | true => some e.2
  | false => toldMemo r args
theorem toldMemo_some : ∀ {tbl : List (List AV × AV)} {args : List AV} {r : AV}, toldMemo tbl args = some r → (args, r) ∈ tbl
 | [], _, _, h => by cases h
 | e :: l, args, r, h => by
  unfold toldMemo at h
  cases hm : memoEqL args e.1 with
  | true =>
   simp only [hm, Option.some.injEq] at h
   subst h
   rw [memoEqL_ok hm]
   exact List.mem_cons_self
  | false =>
   simp only [hm] at h
   exact List.mem_cons_of_mem _ (toldMemo_some h)

theorem callOk_with {K : Cfg} {lv : FuncId → Option (List AV → Option AV)} {f : FuncId} {args : List AV} {H H' : List AB} {r : AV} (h : CallOk K f args H r H') : CallOk { K with libv := lv } f args H r H' :=
 fun g w rargs hg hs hv => h g w rargs ⟨hg.1, hg.2, hg.3⟩ hs hv

theorem callOk_run {K : Cfg} (hk : CfgOk K) (hs : K.sym = false) (har : K.ar = Ar.real) {n : Nat} {f : FuncId} {args : List AV} {r : AV} {H : List AB} (h : callF K n f args H = some (r, H)) : CallOk K f args H r H :=
 call_ok hk n f args H [] [] r H ⟨[], callF_ok hs har n f args H _ h, by simp⟩
end Go.Tm
