/- The ring's members: rising, each once. -/
import Derived.Test.YtpgkkmlmdoacmaaRingDel
import Derived.Test.YtpgkkmlmdoacmaaRgFacts
import Derived.Test.YtpgkkmlmdoacmaaTmStep
import Derived.Test.YtpgkkmlmdoacmaaTmRange
import Derived.Lib.RowBridge
set_option linter.unusedVariables false
set_option linter.unusedSimpArgs false
set_option linter.unusedSectionVars false
namespace Go.Proofs
open Go.Tm Go.Proofs.RgPlain
set_option maxRecDepth 100000
theorem ik : IntK Kz 24 3 := ⟨rfl, u24, sz3, z3, in3⟩
section
variable {K : Cfg} {f : FuncId} {o : Oper} {R : List AV} {own : Nat → Nat} {H : List AB}
theorem op_isnil {t e yt : TypeId} {x : Operand} {xs : List AV} {tl : Tail} {y : Operand} (ho : o.op = .binOp .eql t x y yt) (hu : K.P.underlying t = some (.slice e)) (hx : evalO K R x = some (.sl xs tl)) (hy : evalO K R y = some (.sl [] .nil)) : aOp K f ⟨R, own, H⟩ o [] = some (.val (.v (.bool (tl == .nil))) own H, [], []) := by
 refine op_bin_nil ho hx hy ?_
 cases xs <;> cases tl <;> simp only [aBinOp, aNilEq, hu] <;> rfl
end
def Cloned (H H' : List AB) (r : AV) (ms : List Int) (tl : Tail) : Prop := (ms = [] ∧ (r = .sl [] .nil ∨ r = .sl [] .full) ∧ H' = H) ∨ (ms ≠ [] ∧ r = .ms H.length 0 ms.length 1 ∧ H' = H ++ [.cells (3, false) (ms.map i64)])
set_option maxHeartbeats 2000000 in
theorem clone_tells (ms : List Int) (tl : Tail) (htl : tl.un = tl) (hnil : tl = .nil → ms = []) (hl : ms.length < 2 ^ 44) (H : List AB) : Tells Kz 32 [.sl (ms.map i64) tl] H fun r H' => Cloned H H' r ms tl := by
 refine Tells.mem (c := _) Try.func32 rfl (args' := [.sl (ms.map i64) tl]) (m := 7) (by simp only [List.map, unown_sl, htl]) rfl rfl rfl rfl ?_
 (repeat (first | (with_reducible first | refine jk ?_ | refine jl ?_ | refine jn ?_ | refine jo ?_ | refine jp ?_ | refine jq ?_ | refine jr ?_ | refine js ?_ | refine jt ?_ | refine ju ?_ | refine jv ?_ | refine jw ?_ | refine jx ?_ | refine jy ?_) | (with_reducible refine jz ?_; refine jA (by first | (simp only [setAt, enter, List.replicate, List.cons_append, List.nil_append]; rfl) | rfl) ?_) | with_reducible refine jB (by decide) ?_ | (with_reducible refine jC ?_; first | refine jD rfl rfl rfl ?_ | refine jE rfl rfl rfl ?_) | ((first | (with_reducible refine jF ?_; first | refine jm rfl rfl rfl rfl ?_ | refine jG rfl rfl rfl rfl rfl ?_) | (with_reducible refine jH ?_; refine ja rfl rfl (je rfl rfl) ?_) | (with_reducible refine jI ?_; refine ja rfl rfl (jf rfl rfl) ?_) | (with_reducible refine jJ ?_; refine ja rfl rfl (jd rfl rfl rfl rfl rfl) ?_) | (with_reducible refine jK ?_; refine ja rfl rfl (jg rfl rfl rfl rfl) ?_) | (with_reducible refine jL ?_; first | refine ja rfl rfl (jh rfl rfl rfl rfl rfl rfl) ?_ | refine ja rfl rfl (ji rfl rfl rfl rfl rfl rfl) ?_) | (with_reducible refine jM ?_; refine ja rfl rfl (jj rfl rfl u24 rfl) ?_)); refine jc (by first | (simp only [setAt]; rfl) | rfl) ?_)))
 refine ja rfl rfl (op_isnil rfl u24 rfl rfl) ?_
 refine jc (by first | (simp only [setAt]; rfl) | rfl) ?_
 (repeat (first | (with_reducible first | refine jk ?_ | refine jl ?_ | refine jn ?_ | refine jo ?_ | refine jp ?_ | refine jq ?_ | refine jr ?_ | refine js ?_ | refine jt ?_ | refine ju ?_ | refine jv ?_ | refine jw ?_ | refine jx ?_ | refine jy ?_) | (with_reducible refine jz ?_; refine jA (by first | (simp only [setAt, List.nil_append]; rfl) | rfl) ?_) | with_reducible refine jB (by decide) ?_ | (with_reducible refine jC ?_; first | refine jD rfl rfl rfl ?_ | refine jE rfl rfl rfl ?_) | ((first | (with_reducible refine jF ?_; first | refine jm rfl rfl rfl rfl ?_ | refine jG rfl rfl rfl rfl rfl ?_) | (with_reducible refine jH ?_; refine ja rfl rfl (je rfl rfl) ?_) | (with_reducible refine jI ?_; refine ja rfl rfl (jf rfl rfl) ?_) | (with_reducible refine jJ ?_; refine ja rfl rfl (jd rfl rfl rfl rfl rfl) ?_) | (with_reducible refine jK ?_; refine ja rfl rfl (jg rfl rfl rfl rfl) ?_) | (with_reducible refine jL ?_; first | refine ja rfl rfl (jh rfl rfl rfl rfl rfl rfl) ?_ | refine ja rfl rfl (ji rfl rfl rfl rfl rfl rfl) ?_) | (with_reducible refine jM ?_; refine ja rfl rfl (jj rfl rfl u24 rfl) ?_)); refine jc (by first | (simp only [setAt]; rfl) | rfl) ?_)))
 by_cases hn : tl = .nil
 ·subst hn
  obtain rfl := hnil rfl
  (repeat (first | (with_reducible first | refine jk ?_ | refine jl ?_ | refine jn ?_ | refine jo ?_ | refine jp ?_ | refine jq ?_ | refine jr ?_ | refine js ?_ | refine jt ?_ | refine ju ?_ | refine jv ?_ | refine jw ?_ | refine jx ?_ | refine jy ?_) | (with_reducible refine jz ?_; refine jA (by first | (simp only [setAt, List.nil_append]; rfl) | rfl) ?_) | with_reducible refine jB (by decide) ?_ | (with_reducible refine jC ?_; first | refine jD rfl rfl rfl ?_ | refine jE rfl rfl rfl ?_) | ((first | (with_reducible refine jF ?_; first | refine jm rfl rfl rfl rfl ?_ | refine jG rfl rfl rfl rfl rfl ?_) | (with_reducible refine jH ?_; refine ja rfl rfl (je rfl rfl) ?_) | (with_reducible refine jI ?_; refine ja rfl rfl (jf rfl rfl) ?_) | (with_reducible refine jJ ?_; refine ja rfl rfl (jd rfl rfl rfl rfl rfl) ?_) | (with_reducible refine jK ?_; refine ja rfl rfl (jg rfl rfl rfl rfl) ?_) | (with_reducible refine jL ?_; first | refine ja rfl rfl (jh rfl rfl rfl rfl rfl rfl) ?_ | refine ja rfl rfl (ji rfl rfl rfl rfl rfl rfl) ?_) | (with_reducible refine jM ?_; refine ja rfl rfl (jj rfl rfl u24 rfl) ?_)); refine jc (by first | (simp only [setAt]; rfl) | rfl) ?_)))
  exact EndQ.ret (r := .sl [] .nil) rfl (.inl ⟨rfl, .inl rfl, rfl⟩)
 ·have hb : (tl == Tail.nil) = false := by
   cases hq : tl == Tail.nil with
   | false => rfl
   | true => exact absurd (by simpa using hq) hn
  rw [hb]
  (repeat (first | (with_reducible first | refine jk ?_ | refine jl ?_ | refine jn ?_ | refine jo ?_ | refine jp ?_ | refine jq ?_ | refine jr ?_ | refine js ?_ | refine jt ?_ | refine ju ?_ | refine jv ?_ | refine jw ?_ | refine jx ?_ | refine jy ?_) | (with_reducible refine jz ?_; refine jA (by first | (simp only [setAt, List.nil_append]; rfl) | rfl) ?_) | with_reducible refine jB (by decide) ?_ | (with_reducible refine jC ?_; first | refine jD rfl rfl rfl ?_ | refine jE rfl rfl rfl ?_) | ((first | (with_reducible refine jF ?_; first | refine jm rfl rfl rfl rfl ?_ | refine jG rfl rfl rfl rfl rfl ?_) | (with_reducible refine jH ?_; refine ja rfl rfl (je rfl rfl) ?_) | (with_reducible refine jI ?_; refine ja rfl rfl (jf rfl rfl) ?_) | (with_reducible refine jJ ?_; refine ja rfl rfl (jd rfl rfl rfl rfl rfl) ?_) | (with_reducible refine jK ?_; refine ja rfl rfl (jg rfl rfl rfl rfl) ?_) | (with_reducible refine jL ?_; first | refine ja rfl rfl (jh rfl rfl rfl rfl rfl rfl) ?_ | refine ja rfl rfl (ji rfl rfl rfl rfl rfl rfl) ?_) | (with_reducible refine jM ?_; refine ja rfl rfl (jj rfl rfl u24 rfl) ?_)); refine jc (by first | (simp only [setAt]; rfl) | rfl) ?_)))
  refine ja rfl rfl (op_buildSlice (qs := []) rfl rfl rfl (show aBuildSlice Kz false _ _ 24 0 [] = some (.val (.sl [] .full) _ _) from by simp only [aBuildSlice, u24, sz3, z3]; rfl)) ?_
  refine jc (by first | (simp only [setAt]; rfl) | rfl) ?_
  (repeat (first | (with_reducible first | refine jk ?_ | refine jl ?_ | refine jn ?_ | refine jo ?_ | refine jp ?_ | refine jq ?_ | refine jr ?_ | refine js ?_ | refine jt ?_ | refine ju ?_ | refine jv ?_ | refine jw ?_ | refine jx ?_ | refine jy ?_) | (with_reducible refine jz ?_; refine jA (by first | (simp only [setAt, List.nil_append]; rfl) | rfl) ?_) | with_reducible refine jB (by decide) ?_ | (with_reducible refine jC ?_; first | refine jD rfl rfl rfl ?_ | refine jE rfl rfl rfl ?_) | ((first | (with_reducible refine jF ?_; first | refine jm rfl rfl rfl rfl ?_ | refine jG rfl rfl rfl rfl rfl ?_) | (with_reducible refine jH ?_; refine ja rfl rfl (je rfl rfl) ?_) | (with_reducible refine jI ?_; refine ja rfl rfl (jf rfl rfl) ?_) | (with_reducible refine jJ ?_; refine ja rfl rfl (jd rfl rfl rfl rfl rfl) ?_) | (with_reducible refine jK ?_; refine ja rfl rfl (jg rfl rfl rfl rfl) ?_) | (with_reducible refine jL ?_; first | refine ja rfl rfl (jh rfl rfl rfl rfl rfl rfl) ?_ | refine ja rfl rfl (ji rfl rfl rfl rfl rfl rfl) ?_) | (with_reducible refine jM ?_; refine ja rfl rfl (jj rfl rfl u24 rfl) ?_)); refine jc (by first | (simp only [setAt]; rfl) | rfl) ?_)))
  obtain ⟨info, hinfo, hbytes⟩ := in3
  cases ms with
  | nil =>
   have hap : ∀ o : Oper, o.op = .call { callee := .builtin .append, args := #[.tmp 5, .tmp 6], argTypes := #[24, 24] } → o.dst = some 7 → aOp Kz 32 ⟨(.sl [] tl :: .undef :: .sl [] .nil :: .sl [] tl :: .v (.bool false) :: .sl [] .full :: .sl [] tl :: .undef :: []), fun _ => 0, H⟩ o [] = some (.val (.sl [] .full) (fun _ => 0) H, [], []) := by
    intro o ho hd
    have hm : mapO (evalO Kz (.sl [] tl :: .undef :: .sl [] .nil :: .sl [] tl :: .v (.bool false) :: .sl [] .full :: .sl [] tl :: .undef :: [])) [.tmp 5, .tmp 6] = some [.sl [] .full, .sl [] tl] := rfl
    simp only [aOp, ho, hm, aBuiltin, u24, aAppend, hinfo, sz3, z3, asEls, List.all_nil, if_true, hd, Option.getD_some]
    refine (E.bind_nil (a := ()) (by simp [E.chk, roomOk]; rfl)).trans ?_
    rfl
   refine ja rfl rfl (hap _ rfl rfl) ?_
   refine jc (by first | (simp only [setAt]; rfl) | rfl) ?_
   (repeat (first | (with_reducible first | refine jk ?_ | refine jl ?_ | refine jn ?_ | refine jo ?_ | refine jp ?_ | refine jq ?_ | refine jr ?_ | refine js ?_ | refine jt ?_ | refine ju ?_ | refine jv ?_ | refine jw ?_ | refine jx ?_ | refine jy ?_) | (with_reducible refine jz ?_; refine jA (by first | (simp only [setAt, List.nil_append]; rfl) | rfl) ?_) | with_reducible refine jB (by decide) ?_ | (with_reducible refine jC ?_; first | refine jD rfl rfl rfl ?_ | refine jE rfl rfl rfl ?_) | ((first | (with_reducible refine jF ?_; first | refine jm rfl rfl rfl rfl ?_ | refine jG rfl rfl rfl rfl rfl ?_) | (with_reducible refine jH ?_; refine ja rfl rfl (je rfl rfl) ?_) | (with_reducible refine jI ?_; refine ja rfl rfl (jf rfl rfl) ?_) | (with_reducible refine jJ ?_; refine ja rfl rfl (jd rfl rfl rfl rfl rfl) ?_) | (with_reducible refine jK ?_; refine ja rfl rfl (jg rfl rfl rfl rfl) ?_) | (with_reducible refine jL ?_; first | refine ja rfl rfl (jh rfl rfl rfl rfl rfl rfl) ?_ | refine ja rfl rfl (ji rfl rfl rfl rfl rfl rfl) ?_) | (with_reducible refine jM ?_; refine ja rfl rfl (jj rfl rfl u24 rfl) ?_)); refine jc (by first | (simp only [setAt]; rfl) | rfl) ?_)))
   exact EndQ.ret (r := .sl [] .full) rfl (.inl ⟨rfl, .inr rfl, rfl⟩)
  | cons a l =>
   refine ja rfl rfl (op_append_new (ys := (a :: l).map i64) rfl rfl rfl rfl u24 u24 hinfo sz3 z3 rfl rfl rfl (.inr rfl) rfl (by simp [AV.cells]) (by simp) (by simp [roomOk, hbytes] at hl ⊢; omega)) ?_
   refine jc (by first | (simp only [setAt]; rfl) | rfl) ?_
   (repeat (first | (with_reducible first | refine jk ?_ | refine jl ?_ | refine jn ?_ | refine jo ?_ | refine jp ?_ | refine jq ?_ | refine jr ?_ | refine js ?_ | refine jt ?_ | refine ju ?_ | refine jv ?_ | refine jw ?_ | refine jx ?_ | refine jy ?_) | (with_reducible refine jz ?_; refine jA (by first | (simp only [setAt, List.nil_append]; rfl) | rfl) ?_) | with_reducible refine jB (by decide) ?_ | (with_reducible refine jC ?_; first | refine jD rfl rfl rfl ?_ | refine jE rfl rfl rfl ?_) | ((first | (with_reducible refine jF ?_; first | refine jm rfl rfl rfl rfl ?_ | refine jG rfl rfl rfl rfl rfl ?_) | (with_reducible refine jH ?_; refine ja rfl rfl (je rfl rfl) ?_) | (with_reducible refine jI ?_; refine ja rfl rfl (jf rfl rfl) ?_) | (with_reducible refine jJ ?_; refine ja rfl rfl (jd rfl rfl rfl rfl rfl) ?_) | (with_reducible refine jK ?_; refine ja rfl rfl (jg rfl rfl rfl rfl) ?_) | (with_reducible refine jL ?_; first | refine ja rfl rfl (jh rfl rfl rfl rfl rfl rfl) ?_ | refine ja rfl rfl (ji rfl rfl rfl rfl rfl rfl) ?_) | (with_reducible refine jM ?_; refine ja rfl rfl (jj rfl rfl u24 rfl) ?_)); refine jc (by first | (simp only [setAt]; rfl) | rfl) ?_)))
   refine EndQ.ret (r := .ms H.length 0 (a :: l).length 1) (by simp [aResults, mapO, aResult, nth]) (.inr ⟨by simp, rfl, ?_⟩)
   have hfm : ∀ l : List Int, (l.map i64).flatMap AV.cells = l.map i64 := fun l => by induction l with
    | nil => rfl
    | cons a l ih => simp only [List.map_cons, List.flatMap_cons, ih]; rfl
   show _ ++ [AB.cells (3, false) (((a :: l).map i64).flatMap AV.cells)] = _
   rw [hfm]
theorem those_nil : those [] = [] := by simp [those, Lib.compact, Lib.compactUpTo]
theorem low_tells (n : Int) (H : List AB) : Tells Kz 33 [i64 n] H fun r H' => r = .v (.bool (decide (n ≤ 0))) ∧ H' = H := by
 refine Tells.plain (c := _) Try.func33 rfl (args' := [i64 n]) (m := 4) rfl rfl rfl rfl (fun H0 h0 => ?_)
 (repeat (first | (with_reducible first | refine jk ?_ | refine jl ?_ | refine jn ?_ | refine jo ?_ | refine jp ?_ | refine jq ?_ | refine jr ?_ | refine js ?_ | refine jt ?_ | refine ju ?_ | refine jv ?_ | refine jw ?_ | refine jx ?_ | refine jy ?_) | (with_reducible refine jz ?_; refine jA (by first | (simp only [setAt, enter, List.replicate, List.cons_append, List.nil_append]; rfl) | rfl) ?_) | with_reducible refine jB (by decide) ?_ | (with_reducible refine jC ?_; first | refine jD rfl rfl rfl ?_ | refine jE rfl rfl rfl ?_) | ((first | (with_reducible refine jF ?_; first | refine jm rfl rfl rfl rfl ?_ | refine jG rfl rfl rfl rfl rfl ?_) | (with_reducible refine jH ?_; refine ja rfl rfl (je rfl rfl) ?_) | (with_reducible refine jI ?_; refine ja rfl rfl (jf rfl rfl) ?_) | (with_reducible refine jJ ?_; refine ja rfl rfl (jd rfl rfl rfl rfl rfl) ?_) | (with_reducible refine jK ?_; refine ja rfl rfl (jg rfl rfl rfl rfl) ?_) | (with_reducible refine jL ?_; first | refine ja rfl rfl (jh rfl rfl rfl rfl rfl rfl) ?_ | refine ja rfl rfl (ji rfl rfl rfl rfl rfl rfl) ?_) | (with_reducible refine jM ?_; refine ja rfl rfl (jj rfl rfl u24 rfl) ?_)); refine jc (by first | (simp only [setAt]; rfl) | rfl) ?_)))
 exact EndQ.ret (r := .v (.bool (decide (n ≤ 0)))) rfl ⟨rfl, rfl⟩
set_option maxHeartbeats 2000000 in
theorem deleteF_nil {tl : Tail} (htl : tl.un = tl) (p : Int → Bool) (g : FuncId) (cl : List AV) (hcl : cl.map AV.unown = cl) (H : List AB) (hp : ∀ y, Tells Kz g (i64 y :: cl) H fun r H' => r = .v (.bool (p y)) ∧ H' = H) :
  Tells Kz 29 [.sl [] tl, .func (.func g) [] cl] H fun r H' => r = .sl [] tl ∧ H' = H := by
 have hv : View H (.sl [] tl) [] := .inl ⟨tl, rfl, htl⟩
 refine Tells.mem (c := _) Try.func29 rfl (args' := [.sl [] tl, .func (.func g) [] cl]) (m := 40) (by simp only [List.map, hv.unown]; rfl) rfl rfl rfl rfl ?_
 (repeat (first | (with_reducible first | refine jk ?_ | refine jl ?_ | refine jn ?_ | refine jo ?_ | refine jp ?_ | refine jq ?_ | refine jr ?_ | refine js ?_ | refine jt ?_ | refine ju ?_ | refine jv ?_ | refine jw ?_ | refine jx ?_ | refine jy ?_) | (with_reducible refine jz ?_; refine jA (by first | (simp only [setAt, enter, List.replicate, List.cons_append, List.nil_append]; rfl) | rfl) ?_) | with_reducible refine jB (by decide) ?_ | (with_reducible refine jC ?_; first | refine jD rfl rfl rfl ?_ | refine jE rfl rfl rfl ?_) | ((first | (with_reducible refine jF ?_; first | refine jm rfl rfl rfl rfl ?_ | refine jG rfl rfl rfl rfl rfl ?_) | (with_reducible refine jH ?_; refine ja rfl rfl (je rfl rfl) ?_) | (with_reducible refine jI ?_; refine ja rfl rfl (jf rfl rfl) ?_) | (with_reducible refine jJ ?_; refine ja rfl rfl (jd rfl rfl rfl rfl rfl) ?_) | (with_reducible refine jK ?_; refine ja rfl rfl (jg rfl rfl rfl rfl) ?_) | (with_reducible refine jL ?_; first | refine ja rfl rfl (jh rfl rfl rfl rfl rfl rfl) ?_ | refine ja rfl rfl (ji rfl rfl rfl rfl rfl rfl) ?_) | (with_reducible refine jM ?_; refine ja rfl rfl (jj rfl rfl u24 rfl) ?_)); refine jc (by first | (simp only [setAt]; rfl) | rfl) ?_)))
 refine Wo.doCall rfl rfl (op_call (args := [.sl [] tl, .func (.func g) [] cl]) rfl rfl) ?_
 rw [show List.map AV.unown [.sl [] tl, .func (.func g) [] cl] = [.sl [] tl, .func (.func g) [] cl] by simp only [List.map, hv.unown]; rfl]
 refine (indexF_tells [] p g cl hcl H hv (by simp) hp).mono ?_
 rintro r H0 ⟨rfl, rfl⟩
 refine jc (by first | (simp only [setAt]; rfl) | rfl) ?_
 (repeat (first | (with_reducible first | refine jk ?_ | refine jl ?_ | refine jn ?_ | refine jo ?_ | refine jp ?_ | refine jq ?_ | refine jr ?_ | refine js ?_ | refine jt ?_ | refine ju ?_ | refine jv ?_ | refine jw ?_ | refine jx ?_ | refine jy ?_) | (with_reducible refine jz ?_; refine jA (by first | (simp only [setAt, List.nil_append]; rfl) | rfl) ?_) | with_reducible refine jB (by decide) ?_ | (with_reducible refine jC ?_; first | refine jD rfl rfl rfl ?_ | refine jE rfl rfl rfl ?_) | ((first | (with_reducible refine jF ?_; first | refine jm rfl rfl rfl rfl ?_ | refine jG rfl rfl rfl rfl rfl ?_) | (with_reducible refine jH ?_; refine ja rfl rfl (je rfl rfl) ?_) | (with_reducible refine jI ?_; refine ja rfl rfl (jf rfl rfl) ?_) | (with_reducible refine jJ ?_; refine ja rfl rfl (jd rfl rfl rfl rfl rfl) ?_) | (with_reducible refine jK ?_; refine ja rfl rfl (jg rfl rfl rfl rfl) ?_) | (with_reducible refine jL ?_; first | refine ja rfl rfl (jh rfl rfl rfl rfl rfl rfl) ?_ | refine ja rfl rfl (ji rfl rfl rfl rfl rfl rfl) ?_) | (with_reducible refine jM ?_; refine ja rfl rfl (jj rfl rfl u24 rfl) ?_)); refine jc (by first | (simp only [setAt]; rfl) | rfl) ?_)))
 exact EndQ.ret (r := .sl [] tl) rfl ⟨rfl, rfl⟩
theorem toldSort_ms {H : List AB} {b off : Nat} {tt : TypeId × Bool} {cs : List AV} {xs : List Int} (hb : nth H b = some (.cells tt cs)) (hle : off + xs.length ≤ cs.length) (hl : xs.length < 2 ^ 62) (hc : ∀ (j : Nat) (h : j < xs.length), cs[off + j]? = some (i64 xs[j])) : toldSort [.ms b off xs.length 1] H = some (.tup [], setAt H b (.cells tt (putAll cs off ((sortI xs).map i64)))) := by
 simp only [toldSort, rowOf_mk hb hle hl hc]
theorem toldComp_ms {H : List AB} {b off : Nat} {tt : TypeId × Bool} {cs : List AV} {xs : List Int} (hb : nth H b = some (.cells tt cs)) (hle : off + xs.length ≤ cs.length) (hl : xs.length < 2 ^ 62) (hc : ∀ (j : Nat) (h : j < xs.length), cs[off + j]? = some (i64 xs[j])) : toldComp [.ms b off xs.length 1] H = some (.ms b off (Lib.compact xs).length 1, setAt H b (.cells tt (putAll cs off ((Lib.compact xs ++ List.replicate (xs.length - (Lib.compact xs).length) 0).map i64)))) := by
 simp only [toldComp, rowOf_mk hb hle hl hc]
theorem len_sortI (xs : List Int) : (sortI xs).length = xs.length := (List.mergeSort_perm _ _).length_eq
theorem put_get {cs : List AV} {off : Nat} {ys : List Int} (hle : off + ys.length ≤ cs.length) (j : Nat) (h : j < ys.length) : (putAll cs off (ys.map i64))[off + j]? = some (i64 ys[j]) := by
 rw [putAll_at _ _ _ _ (by simpa using hle), if_pos ⟨by omega, by simpa using h⟩, show off + j - off = j by omega, List.getElem?_map, List.getElem?_eq_getElem h]; rfl
theorem length_filter_eq (ms : List Int) : (ms.filter fun y => !decide (y ≤ 0)) = ms.filter fun n => decide (0 < n) := by
 apply List.filter_congr
 intro x _
 by_cases h : x ≤ 0
 ·have : ¬ 0 < x := by omega
  simp [h, this]
 ·have : 0 < x := by omega
  simp [h, this]
set_option maxHeartbeats 4000000 in
theorem those_tells (ms : List Int) (tl : Tail) (htl : tl.un = tl) (hnil : tl = .nil → ms = []) (hl : ms.length < 2 ^ 44) (H : List AB) : Tells Kz 18 [.sl (ms.map i64) tl] H fun r H' => (∃ tl', r = .sl ((those ms).map i64) tl' ∧ tl'.un = tl') ∧ H' = H := by
 have hcl : AV.closedL [.sl (ms.map i64) tl] = true := by simp [AV.closedL, AV.closed]
 refine Tells.vals (c := _) Try.func18 rfl (args' := [.sl (ms.map i64) tl]) (m := 10) (by simp only [List.map, unown_sl, htl]) rfl rfl rfl (by rw [hcl]; rfl) ?_
 (repeat (first | (with_reducible first | refine jk ?_ | refine jl ?_ | refine jn ?_ | refine jo ?_ | refine jp ?_ | refine jq ?_ | refine jr ?_ | refine js ?_ | refine jt ?_ | refine ju ?_ | refine jv ?_ | refine jw ?_ | refine jx ?_ | refine jy ?_) | (with_reducible refine jz ?_; refine jA (by first | (simp only [setAt, enter, List.replicate, List.cons_append, List.nil_append]; rfl) | rfl) ?_) | with_reducible refine jB (by decide) ?_ | (with_reducible refine jC ?_; first | refine jD rfl rfl rfl ?_ | refine jE rfl rfl rfl ?_) | ((first | (with_reducible refine jF ?_; first | refine jm rfl rfl rfl rfl ?_ | refine jG rfl rfl rfl rfl rfl ?_) | (with_reducible refine jH ?_; refine ja rfl rfl (je rfl rfl) ?_) | (with_reducible refine jI ?_; refine ja rfl rfl (jf rfl rfl) ?_) | (with_reducible refine jJ ?_; refine ja rfl rfl (jd rfl rfl rfl rfl rfl) ?_) | (with_reducible refine jK ?_; refine ja rfl rfl (jg rfl rfl rfl rfl) ?_) | (with_reducible refine jL ?_; first | refine ja rfl rfl (jh rfl rfl rfl rfl rfl rfl) ?_ | refine ja rfl rfl (ji rfl rfl rfl rfl rfl rfl) ?_) | (with_reducible refine jM ?_; refine ja rfl rfl (jj rfl rfl u24 rfl) ?_)); refine jc (by first | (simp only [setAt]; rfl) | rfl) ?_)))
 refine Wo.doCall rfl rfl (op_call (args := [.sl (ms.map i64) tl]) rfl rfl) ?_
 rw [show List.map AV.unown [.sl (ms.map i64) tl] = [.sl (ms.map i64) tl] by simp only [List.map, unown_sl, htl]]
 refine (clone_tells ms tl htl hnil hl []).mono ?_
 rintro r H1 (⟨rfl, hr, rfl⟩ | ⟨hne, rfl, rfl⟩)
 ·obtain ⟨tl2, rfl, ht2, hsn⟩ : ∃ tl2, r = .sl [] tl2 ∧ tl2.un = tl2 ∧ (tl2 = .nil ∨ tl2 = .full) := by
   rcases hr with rfl | rfl
   ·exact ⟨.nil, rfl, rfl, .inl rfl⟩
   ·exact ⟨.full, rfl, rfl, .inr rfl⟩
  rw [unown_sl, ht2]
  refine jc (by first | (simp only [setAt]; rfl) | rfl) ?_
  refine Wo.doCall rfl rfl (op_call (args := [.sl [] tl2, .func (.func 33) [] []]) rfl rfl) ?_
  rw [show List.map AV.unown [.sl [] tl2, .func (.func 33) [] []] = [.sl [] tl2, .func (.func 33) [] []] by simp only [List.map, unown_sl, ht2]; rfl]
  refine (deleteF_nil ht2 (fun y => decide (y ≤ 0)) 33 [] rfl [] (fun y => low_tells y [])).mono ?_
  rintro r H0 ⟨rfl, rfl⟩
  rw [unown_sl, ht2]
  refine jc (by first | (simp only [setAt]; rfl) | rfl) ?_
  (repeat (first | (with_reducible first | refine jk ?_ | refine jl ?_ | refine jn ?_ | refine jo ?_ | refine jp ?_ | refine jq ?_ | refine jr ?_ | refine js ?_ | refine jt ?_ | refine ju ?_ | refine jv ?_ | refine jw ?_ | refine jx ?_ | refine jy ?_) | (with_reducible refine jz ?_; refine jA (by first | (simp only [setAt, List.nil_append]; rfl) | rfl) ?_) | with_reducible refine jB (by decide) ?_ | (with_reducible refine jC ?_; first | refine jD rfl rfl rfl ?_ | refine jE rfl rfl rfl ?_) | ((first | (with_reducible refine jF ?_; first | refine jm rfl rfl rfl rfl ?_ | refine jG rfl rfl rfl rfl rfl ?_) | (with_reducible refine jH ?_; refine ja rfl rfl (je rfl rfl) ?_) | (with_reducible refine jI ?_; refine ja rfl rfl (jf rfl rfl) ?_) | (with_reducible refine jJ ?_; refine ja rfl rfl (jd rfl rfl rfl rfl rfl) ?_) | (with_reducible refine jK ?_; refine ja rfl rfl (jg rfl rfl rfl rfl) ?_) | (with_reducible refine jL ?_; first | refine ja rfl rfl (jh rfl rfl rfl rfl rfl rfl) ?_ | refine ja rfl rfl (ji rfl rfl rfl rfl rfl rfl) ?_) | (with_reducible refine jM ?_; refine ja rfl rfl (jj rfl rfl u24 rfl) ?_)); refine jc (by first | (simp only [setAt]; rfl) | rfl) ?_)))
  refine Wo.doCall rfl rfl (op_call (args := [.sl [] tl2]) rfl rfl) ?_
  rw [show List.map AV.unown [.sl [] tl2] = [.sl [] tl2] by simp only [List.map, unown_sl, ht2]]
  refine Tells.lib (g := toldSort) (r := .tup []) (H' := []) rfl rfl (by rcases hsn with rfl | rfl <;> rfl) ?_
  refine jc (by first | (simp only [setAt]; rfl) | rfl) ?_
  (repeat (first | (with_reducible first | refine jk ?_ | refine jl ?_ | refine jn ?_ | refine jo ?_ | refine jp ?_ | refine jq ?_ | refine jr ?_ | refine js ?_ | refine jt ?_ | refine ju ?_ | refine jv ?_ | refine jw ?_ | refine jx ?_ | refine jy ?_) | (with_reducible refine jz ?_; refine jA (by first | (simp only [setAt, List.nil_append]; rfl) | rfl) ?_) | with_reducible refine jB (by decide) ?_ | (with_reducible refine jC ?_; first | refine jD rfl rfl rfl ?_ | refine jE rfl rfl rfl ?_) | ((first | (with_reducible refine jF ?_; first | refine jm rfl rfl rfl rfl ?_ | refine jG rfl rfl rfl rfl rfl ?_) | (with_reducible refine jH ?_; refine ja rfl rfl (je rfl rfl) ?_) | (with_reducible refine jI ?_; refine ja rfl rfl (jf rfl rfl) ?_) | (with_reducible refine jJ ?_; refine ja rfl rfl (jd rfl rfl rfl rfl rfl) ?_) | (with_reducible refine jK ?_; refine ja rfl rfl (jg rfl rfl rfl rfl) ?_) | (with_reducible refine jL ?_; first | refine ja rfl rfl (jh rfl rfl rfl rfl rfl rfl) ?_ | refine ja rfl rfl (ji rfl rfl rfl rfl rfl rfl) ?_) | (with_reducible refine jM ?_; refine ja rfl rfl (jj rfl rfl u24 rfl) ?_)); refine jc (by first | (simp only [setAt]; rfl) | rfl) ?_)))
  refine Wo.doCall rfl rfl (op_call (args := [.sl [] tl2]) rfl rfl) ?_
  rw [show List.map AV.unown [.sl [] tl2] = [.sl [] tl2] by simp only [List.map, unown_sl, ht2]]
  refine Tells.lib (g := toldComp) (r := .sl [] tl2) (H' := []) rfl rfl (by rcases hsn with rfl | rfl <;> rfl) ?_
  rw [unown_sl, ht2]
  refine jc (by first | (simp only [setAt]; rfl) | rfl) ?_
  (repeat (first | (with_reducible first | refine jk ?_ | refine jl ?_ | refine jn ?_ | refine jo ?_ | refine jp ?_ | refine jq ?_ | refine jr ?_ | refine js ?_ | refine jt ?_ | refine ju ?_ | refine jv ?_ | refine jw ?_ | refine jx ?_ | refine jy ?_) | (with_reducible refine jz ?_; refine jA (by first | (simp only [setAt, List.nil_append]; rfl) | rfl) ?_) | with_reducible refine jB (by decide) ?_ | (with_reducible refine jC ?_; first | refine jD rfl rfl rfl ?_ | refine jE rfl rfl rfl ?_) | ((first | (with_reducible refine jF ?_; first | refine jm rfl rfl rfl rfl ?_ | refine jG rfl rfl rfl rfl rfl ?_) | (with_reducible refine jH ?_; refine ja rfl rfl (je rfl rfl) ?_) | (with_reducible refine jI ?_; refine ja rfl rfl (jf rfl rfl) ?_) | (with_reducible refine jJ ?_; refine ja rfl rfl (jd rfl rfl rfl rfl rfl) ?_) | (with_reducible refine jK ?_; refine ja rfl rfl (jg rfl rfl rfl rfl) ?_) | (with_reducible refine jL ?_; first | refine ja rfl rfl (jh rfl rfl rfl rfl rfl rfl) ?_ | refine ja rfl rfl (ji rfl rfl rfl rfl rfl rfl) ?_) | (with_reducible refine jM ?_; refine ja rfl rfl (jj rfl rfl u24 rfl) ?_)); refine jc (by first | (simp only [setAt]; rfl) | rfl) ?_)))
  exact EndQ.ret (r := .sl [] tl2) rfl ⟨.sl [] tl2, rfl, rfl, ⟨tl2, by rw [those_nil]; rfl, ht2⟩, rfl⟩
 ·refine jc (by first | (simp only [setAt]; rfl) | rfl) ?_
  refine Wo.doCall rfl rfl (op_call (args := [.ms 0 0 ms.length 1, .func (.func 33) [] []]) rfl rfl) ?_
  refine (deleteF_tells ms (fun y => decide (y ≤ 0)) 33 [] rfl [AB.cells (3, false) (ms.map i64)] 0 0 (3, false) (ms.map i64) rfl (by simp) (fun j h => by simp [List.getElem?_map, List.getElem?_eq_getElem h]) (by omega) (fun H2 _ y => low_tells y H2)).mono ?_
  rintro r H1 ⟨hv, _, m, rfl⟩
  rw [length_filter_eq] at hv
  have hfl := List.length_filter_le (fun n => decide (0 < n)) ms
  generalize hxs : (ms.filter fun n => decide (0 < n)) = xs at hv hfl
  rcases hv with ⟨tl', h, _⟩ | ⟨b, off, tt, cs, h, hb, hle, hc⟩
  ·cases h
  ·cases h
   refine jc (by first | (simp only [setAt]; rfl) | rfl) ?_
   (repeat (first | (with_reducible first | refine jk ?_ | refine jl ?_ | refine jn ?_ | refine jo ?_ | refine jp ?_ | refine jq ?_ | refine jr ?_ | refine js ?_ | refine jt ?_ | refine ju ?_ | refine jv ?_ | refine jw ?_ | refine jx ?_ | refine jy ?_) | (with_reducible refine jz ?_; refine jA (by first | (simp only [setAt, List.nil_append]; rfl) | rfl) ?_) | with_reducible refine jB (by decide) ?_ | (with_reducible refine jC ?_; first | refine jD rfl rfl rfl ?_ | refine jE rfl rfl rfl ?_) | ((first | (with_reducible refine jF ?_; first | refine jm rfl rfl rfl rfl ?_ | refine jG rfl rfl rfl rfl rfl ?_) | (with_reducible refine jH ?_; refine ja rfl rfl (je rfl rfl) ?_) | (with_reducible refine jI ?_; refine ja rfl rfl (jf rfl rfl) ?_) | (with_reducible refine jJ ?_; refine ja rfl rfl (jd rfl rfl rfl rfl rfl) ?_) | (with_reducible refine jK ?_; refine ja rfl rfl (jg rfl rfl rfl rfl) ?_) | (with_reducible refine jL ?_; first | refine ja rfl rfl (jh rfl rfl rfl rfl rfl rfl) ?_ | refine ja rfl rfl (ji rfl rfl rfl rfl rfl rfl) ?_) | (with_reducible refine jM ?_; refine ja rfl rfl (jj rfl rfl u24 rfl) ?_)); refine jc (by first | (simp only [setAt]; rfl) | rfl) ?_)))
   refine Wo.doCall rfl rfl (op_call (args := [.ms 0 0 xs.length 1]) rfl rfl) ?_
   refine Tells.lib (g := toldSort) rfl rfl (toldSort_ms hb hle (by omega) hc) ?_
   refine jc (by first | (simp only [setAt]; rfl) | rfl) ?_
   (repeat (first | (with_reducible first | refine jk ?_ | refine jl ?_ | refine jn ?_ | refine jo ?_ | refine jp ?_ | refine jq ?_ | refine jr ?_ | refine js ?_ | refine jt ?_ | refine ju ?_ | refine jv ?_ | refine jw ?_ | refine jx ?_ | refine jy ?_) | (with_reducible refine jz ?_; refine jA (by first | (simp only [setAt, List.nil_append]; rfl) | rfl) ?_) | with_reducible refine jB (by decide) ?_ | (with_reducible refine jC ?_; first | refine jD rfl rfl rfl ?_ | refine jE rfl rfl rfl ?_) | ((first | (with_reducible refine jF ?_; first | refine jm rfl rfl rfl rfl ?_ | refine jG rfl rfl rfl rfl rfl ?_) | (with_reducible refine jH ?_; refine ja rfl rfl (je rfl rfl) ?_) | (with_reducible refine jI ?_; refine ja rfl rfl (jf rfl rfl) ?_) | (with_reducible refine jJ ?_; refine ja rfl rfl (jd rfl rfl rfl rfl rfl) ?_) | (with_reducible refine jK ?_; refine ja rfl rfl (jg rfl rfl rfl rfl) ?_) | (with_reducible refine jL ?_; first | refine ja rfl rfl (jh rfl rfl rfl rfl rfl rfl) ?_ | refine ja rfl rfl (ji rfl rfl rfl rfl rfl rfl) ?_) | (with_reducible refine jM ?_; refine ja rfl rfl (jj rfl rfl u24 rfl) ?_)); refine jc (by first | (simp only [setAt]; rfl) | rfl) ?_)))
   refine Wo.doCall rfl rfl (op_call (args := [.ms 0 0 xs.length 1]) rfl rfl) ?_
   have hb2 := nth_setAt_same H1 0 (.cells tt (putAll cs 0 ((sortI xs).map i64))) _ hb
   have hls := len_sortI xs
   have hcl := Lib.compact_length_le (sortI xs)
   rw [show AV.ms 0 0 xs.length 1 = AV.ms 0 0 (sortI xs).length 1 by rw [hls]]
   refine Tells.lib (g := toldComp) rfl rfl (toldComp_ms hb2 (by rw [putAll_len, hls]; exact hle) (by omega) (fun j h => put_get (by rw [hls]; exact hle) j h)) ?_
   refine jc (by first | (simp only [setAt]; rfl) | rfl) ?_
   (repeat (first | (with_reducible first | refine jk ?_ | refine jl ?_ | refine jn ?_ | refine jo ?_ | refine jp ?_ | refine jq ?_ | refine jr ?_ | refine js ?_ | refine jt ?_ | refine ju ?_ | refine jv ?_ | refine jw ?_ | refine jx ?_ | refine jy ?_) | (with_reducible refine jz ?_; refine jA (by first | (simp only [setAt, List.nil_append]; rfl) | rfl) ?_) | with_reducible refine jB (by decide) ?_ | (with_reducible refine jC ?_; first | refine jD rfl rfl rfl ?_ | refine jE rfl rfl rfl ?_) | ((first | (with_reducible refine jF ?_; first | refine jm rfl rfl rfl rfl ?_ | refine jG rfl rfl rfl rfl rfl ?_) | (with_reducible refine jH ?_; refine ja rfl rfl (je rfl rfl) ?_) | (with_reducible refine jI ?_; refine ja rfl rfl (jf rfl rfl) ?_) | (with_reducible refine jJ ?_; refine ja rfl rfl (jd rfl rfl rfl rfl rfl) ?_) | (with_reducible refine jK ?_; refine ja rfl rfl (jg rfl rfl rfl rfl) ?_) | (with_reducible refine jL ?_; first | refine ja rfl rfl (jh rfl rfl rfl rfl rfl rfl) ?_ | refine ja rfl rfl (ji rfl rfl rfl rfl rfl rfl) ?_) | (with_reducible refine jM ?_; refine ja rfl rfl (jj rfl rfl u24 rfl) ?_)); refine jc (by first | (simp only [setAt]; rfl) | rfl) ?_)))
   refine EndQ.ret (r := .ms 0 0 (Lib.compact (sortI xs)).length 1) rfl ⟨.sl ((those ms).map i64) .unk, ?_, by simp [AV.closed], ⟨.unk, rfl, rfl⟩, rfl⟩
   have hth : those ms = Lib.compact (sortI xs) := by unfold those sortI; rw [hxs]
   rw [hth]
   refine snap_ms (nth_setAt_same _ _ _ _ hb2) ?_ ?_
   ·rw [putAll_len, putAll_len]; omega
   ·intro j hj
    rw [putAll_at _ _ _ _ (by rw [putAll_len]; simp; omega), if_pos ⟨by omega, by simp; omega⟩]
    rw [List.getElem?_map, List.getElem?_append_left (by omega), List.getElem?_eq_getElem (by omega)]
    simp
end Go.Proofs
