/- RingClaims over the tree machine: the law's body. -/
import Derived.Test.YtpgkkmlmdoacmaaRgRef4
import Derived.Test.YtpgkkmlmdoacmaaTmQh
set_option linter.unusedVariables false
set_option linter.unusedSimpArgs false
set_option linter.unusedSectionVars false
namespace Go.Proofs
open Go.Tm Go.Proofs.RgPlain
set_option maxRecDepth 100000
theorem ag29 : tAgg Kz.P 29 = some true := by kernel_rfl
theorem take29 (t : Int × Int × Int) : takeVar Kz.P 29 (tr3 t).cells = some (tr3 t) := take_agg ag29 sz29 (Nat.le_refl 3)
theorem un29 (t : Int × Int × Int) : (tr3 t).unown = tr3 t := rfl
theorem same29 (a b c : Int) : pureRun Kz.P (Op.equal 29 (.agg #[.int .i64 a, .int .i64 b, .int .i64 c]) (.agg #[.int .i64 a, .int .i64 b, .int .i64 c])) = some true := by
 show pureRun Kz.P (Op.equalIn (9999 + 1) 29 _ _) = _
 unfold Op.equalIn
 rw [pureRun_bind]
 have h : pureRun Kz.P (underlying 29) = some (.struct #[⟨"Partition", 3, 0, false, "", "", 0⟩, ⟨"From", 3, 1, false, "", "", 8⟩, ⟨"To", 3, 2, false, "", "", 16⟩]) := by kernel_rfl
 rw [h]
 simp only [Option.bind_some]
 have hp : ∀ f : Program → Sem Bool, pureRun Kz.P ((Go.program : Sem Program) >>= f) = pureRun Kz.P (f Kz.P) := fun f => pureRun_bind Kz.P f _
 have hs : Kz.P.stoodInHeld 29 = false := by kernel_rfl
 have p0 : pureRun Kz.P (part 3 #[.int .i64 a, .int .i64 b, .int .i64 c] 0) = some (.int .i64 a) := by kernel_rfl
 have p1 : pureRun Kz.P (part 3 #[.int .i64 a, .int .i64 b, .int .i64 c] 1) = some (.int .i64 b) := by kernel_rfl
 have p2 : pureRun Kz.P (part 3 #[.int .i64 a, .int .i64 b, .int .i64 c] 2) = some (.int .i64 c) := by kernel_rfl
 have n0 : ("Partition" : String) ≠ "_" := by decide
 have n1 : ("From" : String) ≠ "_" := by decide
 have n2 : ("To" : String) ≠ "_" := by decide
 rw [hp, hs]
 simp only [Array.forIn_toList.symm, List.forIn_cons, List.forIn_nil, if_pos n0, if_pos n1, if_pos n2, pureRun_bind, pureRun_pure, p0, p1, p2, eq3', Option.bind_some, beq_self_eq_true, Bool.not_true, Bool.false_eq_true, if_false]
theorem op_ne29 {f : FuncId} {o : Oper} {R : List AV} {own : Nat → Nat} {H : List AB} {yt : TypeId} {x y : Operand} (t : Int × Int × Int) (ho : o.op = .binOp .neq 29 x y yt) (hx : evalO Kz R x = some (tr3 t)) (hy : evalO Kz R y = some (tr3 t)) : aOp Kz f ⟨R, own, H⟩ o [] = some (.val (.v (.bool false)) own H, [], []) := by
 obtain ⟨a, b, c⟩ := t
 simp only [aOp, ho, hx, hy, aKeepE]
 refine (E.bind_nil (a := AV.v (.bool false)) ?_).trans rfl
 have h : pureRun Kz.P (do eqGuard .neq 29 x y (.agg #[.int .i64 a, .int .i64 b, .int .i64 c]) (.agg #[.int .i64 a, .int .i64 b, .int .i64 c]); binOp .neq 29 (.agg #[.int .i64 a, .int .i64 b, .int .i64 c]) (.agg #[.int .i64 a, .int .i64 b, .int .i64 c])) = some (.bool false) := by
  rw [pureRun_bind, show pureRun Kz.P (eqGuard .neq 29 x y (.agg #[.int .i64 a, .int .i64 b, .int .i64 c]) (.agg #[.int .i64 a, .int .i64 b, .int .i64 c])) = some () by kernel_rfl, Option.bind_some]
  refine (pureRun_bind Kz.P (fun r => (pure (Value.bool (!r)) : Sem Value)) (Op.equal 29 _ _)).trans ?_
  rw [same29, Option.bind_some, pureRun_pure]; rfl
 show (match pureRun Kz.P (do eqGuard .neq 29 x y _ _; binOp .neq 29 _ _) with | some r => if flat r then (pure (.v r) : E AV) else E.fail | none => E.fail) [] = _
 rw [show pureRun Kz.P _ = _ from h]
 rfl
theorem pure11 (o ms : List Int) (tl : Tail) : isPure Kz 11 [.agg (o.map i64), .sl (ms.map i64) tl] = true := by
 show (true && AV.closedL [.agg (o.map i64), .sl (ms.map i64) tl]) = true
 rw [closed_arr]; rfl
theorem pure13 (o ms : List Int) (tl : Tail) : isPure Kz 13 [.agg (o.map i64), .sl (ms.map i64) tl] = true := by
 show (true && AV.closedL [.agg (o.map i64), .sl (ms.map i64) tl]) = true
 rw [closed_arr]; rfl
set_option maxHeartbeats 16000000 in
theorem claims_tells (o : List Int) (ho : o.length = 8) (ms : List Int) (tl : Tail) (htl : tl.un = tl) (hnil : tl = .nil → ms = []) (hl : ms.length ≤ 17592186043904) (p : List Int) (hp : p.length = 8) (H : List AB) :
  Tells Kz 3 [.agg (o.map i64), .sl (ms.map i64) tl, .agg (p.map i64)] H fun r H' => r = .v (.bool true) ∧ H' = H := by
 have hcl : AV.closedL [.agg (o.map i64), .sl (ms.map i64) tl, .agg (p.map i64)] = true := by simp [AV.closedL, AV.closed, closedL_ints]
 refine Tells.vals (c := _) Try.func3 rfl (args' := [.agg (o.map i64), .sl (ms.map i64) tl, .agg (p.map i64)]) (m := 54) (by simp only [List.map, unown_sl, htl]; rfl) rfl rfl rfl (by rw [hcl]; rfl) ?_
 have hua : List.map AV.unown [.agg (o.map i64), .sl (ms.map i64) tl] = [.agg (o.map i64), .sl (ms.map i64) tl] := by simp only [List.map, unown_sl, htl]; rfl
 have e0 : nth [AB.cells (23, true) (o.map i64), AB.cells (23, true) (p.map i64)] 0 = some (.cells (23, true) (o.map i64)) := rfl
 have e1 : nth [AB.cells (23, true) (o.map i64), AB.cells (23, true) (p.map i64)] 1 = some (.cells (23, true) (p.map i64)) := rfl
 refine jk ?_
 refine jl ?_
 refine ja rfl rfl (op_box rfl rfl (allOne_ints o)) ?_
 refine jc (by first | (simp only [setAt]; rfl) | rfl) ?_
 refine ja rfl rfl (op_box rfl rfl (allOne_ints p)) ?_
 refine jc (by first | (simp only [setAt]; rfl) | rfl) ?_
 (repeat (first | (with_reducible first | refine jk ?_ | refine jl ?_ | refine jn ?_ | refine jo ?_ | refine jp ?_ | refine jq ?_ | refine jr ?_ | refine js ?_ | refine jt ?_ | refine ju ?_ | refine jv ?_ | refine jw ?_ | refine jx ?_ | refine jy ?_) | (with_reducible refine jz ?_; refine jA (by first | (simp only [setAt, enter, List.replicate, List.cons_append, List.nil_append]; rfl) | rfl) ?_) | with_reducible refine jB (by decide) ?_ | (with_reducible refine jC ?_; first | refine jD rfl rfl rfl ?_ | refine jE rfl rfl rfl ?_) | ((first | (with_reducible refine jF ?_; first | refine jm rfl rfl rfl rfl ?_ | refine jG rfl rfl rfl rfl rfl ?_) | (with_reducible refine jH ?_; refine ja rfl rfl (je rfl rfl) ?_) | (with_reducible refine jI ?_; refine ja rfl rfl (jf rfl rfl) ?_) | (with_reducible refine jJ ?_; refine ja rfl rfl (jd rfl rfl rfl rfl rfl) ?_) | (with_reducible refine jK ?_; refine ja rfl rfl (jg rfl rfl rfl rfl) ?_) | (with_reducible refine jL ?_; first | refine ja rfl rfl (jh rfl rfl rfl rfl rfl rfl) ?_ | refine ja rfl rfl (ji rfl rfl rfl rfl rfl rfl) ?_) | (with_reducible refine jM ?_; refine ja rfl rfl (jj rfl rfl (by first | exact u24 | exact u26) rfl) ?_)); refine jc (by first | (simp only [setAt]; rfl) | rfl) ?_)))
 refine Wo.doCall rfl rfl (op_call (args := []) rfl rfl) (Tells.libv (g := toldTrue) (r := .v (.bool true)) rfl rfl ?_)
 refine jc (by first | (simp only [setAt]; rfl) | rfl) ?_
 (repeat (first | (with_reducible first | refine jk ?_ | refine jl ?_ | refine jn ?_ | refine jo ?_ | refine jp ?_ | refine jq ?_ | refine jr ?_ | refine js ?_ | refine jt ?_ | refine ju ?_ | refine jv ?_ | refine jw ?_ | refine jx ?_ | refine jy ?_) | (with_reducible refine jz ?_; refine jA (by first | (simp only [setAt, List.nil_append]; rfl) | rfl) ?_) | with_reducible refine jB (by decide) ?_ | (with_reducible refine jC ?_; first | refine jD rfl rfl rfl ?_ | refine jE rfl rfl rfl ?_) | ((first | (with_reducible refine jF ?_; first | refine jm rfl rfl rfl rfl ?_ | refine jG rfl rfl rfl rfl rfl ?_) | (with_reducible refine jH ?_; refine ja rfl rfl (je rfl rfl) ?_) | (with_reducible refine jI ?_; refine ja rfl rfl (jf rfl rfl) ?_) | (with_reducible refine jJ ?_; refine ja rfl rfl (jd rfl rfl rfl rfl rfl) ?_) | (with_reducible refine jK ?_; refine ja rfl rfl (jg rfl rfl rfl rfl) ?_) | (with_reducible refine jL ?_; first | refine ja rfl rfl (jh rfl rfl rfl rfl rfl rfl) ?_ | refine ja rfl rfl (ji rfl rfl rfl rfl rfl rfl) ?_) | (with_reducible refine jM ?_; refine ja rfl rfl (jj rfl rfl (by first | exact u24 | exact u26) rfl) ?_)); refine jc (by first | (simp only [setAt]; rfl) | rfl) ?_)))
 refine ja rfl rfl (op_load_arr (l := o) rfl rfl e0 ag23 sz23 ho) ?_
 refine jc (by first | (simp only [setAt]; rfl) | rfl) ?_
 refine ja rfl rfl (op_load_arr (l := p) rfl rfl e1 ag23 sz23 hp) ?_
 refine jc (by first | (simp only [setAt]; rfl) | rfl) ?_
 refine Wo.doCall rfl rfl (op_call (args := [.agg (o.map i64), .agg (p.map i64)]) rfl rfl) ?_
 refine (transfers_tells o p ho hp _).mono ?_
 rintro r H1 ⟨⟨t1, rfl⟩, rfl⟩
 rw [unown_sl]
 refine jc (by first | (simp only [setAt]; rfl) | rfl) ?_
 (repeat (first | (with_reducible first | refine jk ?_ | refine jl ?_ | refine jn ?_ | refine jo ?_ | refine jp ?_ | refine jq ?_ | refine jr ?_ | refine js ?_ | refine jt ?_ | refine ju ?_ | refine jv ?_ | refine jw ?_ | refine jx ?_ | refine jy ?_) | (with_reducible refine jz ?_; refine jA (by first | (simp only [setAt, List.nil_append]; rfl) | rfl) ?_) | with_reducible refine jB (by decide) ?_ | (with_reducible refine jC ?_; first | refine jD rfl rfl rfl ?_ | refine jE rfl rfl rfl ?_) | ((first | (with_reducible refine jF ?_; first | refine jm rfl rfl rfl rfl ?_ | refine jG rfl rfl rfl rfl rfl ?_) | (with_reducible refine jH ?_; refine ja rfl rfl (je rfl rfl) ?_) | (with_reducible refine jI ?_; refine ja rfl rfl (jf rfl rfl) ?_) | (with_reducible refine jJ ?_; refine ja rfl rfl (jd rfl rfl rfl rfl rfl) ?_) | (with_reducible refine jK ?_; refine ja rfl rfl (jg rfl rfl rfl rfl) ?_) | (with_reducible refine jL ?_; first | refine ja rfl rfl (jh rfl rfl rfl rfl rfl rfl) ?_ | refine ja rfl rfl (ji rfl rfl rfl rfl rfl rfl) ?_) | (with_reducible refine jM ?_; refine ja rfl rfl (jj rfl rfl (by first | exact u24 | exact u26) rfl) ?_)); refine jc (by first | (simp only [setAt]; rfl) | rfl) ?_)))
 refine ja rfl rfl (op_load_arr (l := o) rfl rfl e0 ag23 sz23 ho) ?_
 refine jc (by first | (simp only [setAt]; rfl) | rfl) ?_
 refine ja rfl rfl (op_load_arr (l := p) rfl rfl e1 ag23 sz23 hp) ?_
 refine jc (by first | (simp only [setAt]; rfl) | rfl) ?_
 refine Wo.doCall rfl rfl (op_call (args := [.agg (o.map i64), .agg (p.map i64)]) rfl rfl) ?_
 refine (rtransfers_tells o p ho hp _).mono ?_
 rintro r H1 ⟨⟨t2, rfl⟩, rfl⟩
 rw [unown_sl]
 have htr : (transfers o p).length ≤ 8 := transfersTo_len o p 8
 generalize transfers o p = tr at *
 obtain ⟨u1, hu1⟩ : ∃ t, t1.un = t := ⟨_, rfl⟩
 obtain ⟨u2, hu2⟩ : ∃ t, t2.un = t := ⟨_, rfl⟩
 rw [hu1, hu2]
 refine jc (by first | (simp only [setAt]; rfl) | rfl) ?_
 (repeat (first | (with_reducible first | refine jk ?_ | refine jl ?_ | refine jn ?_ | refine jo ?_ | refine jp ?_ | refine jq ?_ | refine jr ?_ | refine js ?_ | refine jt ?_ | refine ju ?_ | refine jv ?_ | refine jw ?_ | refine jx ?_ | refine jy ?_) | (with_reducible refine jz ?_; refine jA (by first | (simp only [setAt, List.nil_append]; rfl) | rfl) ?_) | with_reducible refine jB (by decide) ?_ | (with_reducible refine jC ?_; first | refine jD rfl rfl rfl ?_ | refine jE rfl rfl rfl ?_) | ((first | (with_reducible refine jF ?_; first | refine jm rfl rfl rfl rfl ?_ | refine jG rfl rfl rfl rfl rfl ?_) | (with_reducible refine jH ?_; refine ja rfl rfl (je rfl rfl) ?_) | (with_reducible refine jI ?_; refine ja rfl rfl (jf rfl rfl) ?_) | (with_reducible refine jJ ?_; refine ja rfl rfl (jd rfl rfl rfl rfl rfl) ?_) | (with_reducible refine jK ?_; refine ja rfl rfl (jg rfl rfl rfl rfl) ?_) | (with_reducible refine jL ?_; first | refine ja rfl rfl (jh rfl rfl rfl rfl rfl rfl) ?_ | refine ja rfl rfl (ji rfl rfl rfl rfl rfl rfl) ?_) | (with_reducible refine jM ?_; refine ja rfl rfl (jj rfl rfl (by first | exact u24 | exact u26) rfl) ?_)); refine jc (by first | (simp only [setAt]; rfl) | rfl) ?_)))
 rw [List.length_map]
 rw [show ((tr.length : Int) != (tr.length : Int)) = false by simp]
 (repeat (first | (with_reducible first | refine jk ?_ | refine jl ?_ | refine jn ?_ | refine jo ?_ | refine jp ?_ | refine jq ?_ | refine jr ?_ | refine js ?_ | refine jt ?_ | refine ju ?_ | refine jv ?_ | refine jw ?_ | refine jx ?_ | refine jy ?_) | (with_reducible refine jz ?_; refine jA (by first | (simp only [setAt, List.nil_append]; rfl) | rfl) ?_) | with_reducible refine jB (by decide) ?_ | (with_reducible refine jC ?_; first | refine jD rfl rfl rfl ?_ | refine jE rfl rfl rfl ?_) | ((first | (with_reducible refine jF ?_; first | refine jm rfl rfl rfl rfl ?_ | refine jG rfl rfl rfl rfl rfl ?_) | (with_reducible refine jH ?_; refine ja rfl rfl (je rfl rfl) ?_) | (with_reducible refine jI ?_; refine ja rfl rfl (jf rfl rfl) ?_) | (with_reducible refine jJ ?_; refine ja rfl rfl (jd rfl rfl rfl rfl rfl) ?_) | (with_reducible refine jK ?_; refine ja rfl rfl (jg rfl rfl rfl rfl) ?_) | (with_reducible refine jL ?_; first | refine ja rfl rfl (jh rfl rfl rfl rfl rfl rfl) ?_ | refine ja rfl rfl (ji rfl rfl rfl rfl rfl rfl) ?_) | (with_reducible refine jM ?_; refine ja rfl rfl (jj rfl rfl (by first | exact u24 | exact u26) rfl) ?_)); refine jc (by first | (simp only [setAt]; rfl) | rfl) ?_)))
 refine Wc.inv (fun m s => ∃ (i : Nat), m = tr.length - i ∧ i ≤ tr.length ∧ s.H = [AB.cells (23, true) (o.map i64), AB.cells (23, true) (p.map i64)] ∧ ∃ d : Nat → AV, s.regs = (d 0 :: .sl (ms.map i64) tl :: d 2 :: .ptr 0 0 :: d 4 :: .ptr 1 0 :: d 6 :: .v (.bool true) :: .sl (tr.map tr3) u1 :: .sl (tr.map tr3) u2 :: i64 i :: d 11 :: d 12 :: d 13 :: d 14 :: d 15 :: d 16 :: d 17 :: d 18 :: d 19 :: d 20 :: d 21 :: d 22 :: d 23 :: d 24 :: d 25 :: d 26 :: d 27 :: d 28 :: d 29 :: d 30 :: d 31 :: d 32 :: d 33 :: d 34 :: d 35 :: d 36 :: d 37 :: d 38 :: d 39 :: d 40 :: d 41 :: d 42 :: d 43 :: d 44 :: d 45 :: d 46 :: d 47 :: d 48 :: d 49 :: d 50 :: d 51 :: d 52 :: d 53 :: d 54 :: d 55 :: d 56 :: [])) tr.length ?_ ?_
 ·exact ⟨0, by omega, by omega, rfl, dead_of rfl⟩
 ·rintro m regs own H1 ⟨i, rfl, hi, hH, d, rfl⟩
  simp only at hH
  subst hH
  (repeat (first | (with_reducible first | refine jk ?_ | refine jl ?_ | refine jn ?_ | refine jo ?_ | refine jp ?_ | refine jq ?_ | refine jr ?_ | refine js ?_ | refine jt ?_ | refine ju ?_ | refine jv ?_ | refine jw ?_ | refine jx ?_ | refine jy ?_) | (with_reducible refine jz ?_; refine jA (by first | (simp only [setAt, List.nil_append]; rfl) | rfl) ?_) | with_reducible refine jB (by decide) ?_ | (with_reducible refine jC ?_; first | refine jD rfl rfl rfl ?_ | refine jE rfl rfl rfl ?_) | ((first | (with_reducible refine jF ?_; first | refine jm rfl rfl rfl rfl ?_ | refine jG rfl rfl rfl rfl rfl ?_) | (with_reducible refine jH ?_; refine ja rfl rfl (je rfl rfl) ?_) | (with_reducible refine jI ?_; refine ja rfl rfl (jf rfl rfl) ?_) | (with_reducible refine jJ ?_; refine ja rfl rfl (jd rfl rfl rfl rfl rfl) ?_) | (with_reducible refine jK ?_; refine ja rfl rfl (jg rfl rfl rfl rfl) ?_) | (with_reducible refine jL ?_; first | refine ja rfl rfl (jh rfl rfl rfl rfl rfl rfl) ?_ | refine ja rfl rfl (ji rfl rfl rfl rfl rfl rfl) ?_) | (with_reducible refine jM ?_; refine ja rfl rfl (jj rfl rfl (by first | exact u24 | exact u26) rfl) ?_)); refine jc (by first | (simp only [setAt]; rfl) | rfl) ?_)))
  rw [List.length_map]
  refine Wc.cond rfl rfl (fun h => ?_) (fun h => ?_)
  ·have hlt : i < tr.length := by simpa [goInt] using h
   clear h
   (repeat (first | (with_reducible first | refine jk ?_ | refine jl ?_ | refine jn ?_ | refine jo ?_ | refine jp ?_ | refine jq ?_ | refine jr ?_ | refine js ?_ | refine jt ?_ | refine ju ?_ | refine jv ?_ | refine jw ?_ | refine jx ?_ | refine jy ?_) | (with_reducible refine jz ?_; refine jA (by first | (simp only [setAt, List.nil_append]; rfl) | rfl) ?_) | with_reducible refine jB (by decide) ?_ | (with_reducible refine jC ?_; first | refine jD rfl rfl rfl ?_ | refine jE rfl rfl rfl ?_) | ((first | (with_reducible refine jF ?_; first | refine jm rfl rfl rfl rfl ?_ | refine jG rfl rfl rfl rfl rfl ?_) | (with_reducible refine jH ?_; refine ja rfl rfl (je rfl rfl) ?_) | (with_reducible refine jI ?_; refine ja rfl rfl (jf rfl rfl) ?_) | (with_reducible refine jJ ?_; refine ja rfl rfl (jd rfl rfl rfl rfl rfl) ?_) | (with_reducible refine jK ?_; refine ja rfl rfl (jg rfl rfl rfl rfl) ?_) | (with_reducible refine jL ?_; first | refine ja rfl rfl (jh rfl rfl rfl rfl rfl rfl) ?_ | refine ja rfl rfl (ji rfl rfl rfl rfl rfl rfl) ?_) | (with_reducible refine jM ?_; refine ja rfl rfl (jj rfl rfl (by first | exact u24 | exact u26) rfl) ?_)); refine jc (by first | (simp only [setAt]; rfl) | rfl) ?_)))
   refine Wc.drawn rfl (by kernel_rfl) ?_
   (repeat (with_reducible refine jQ ?_; first | refine jR ?_ | (refine jS rfl rfl rfl rfl rfl ?_; refine jN (by first | (simp only [setAt]; rfl) | rfl) ?_) | ((first | refine jO rfl rfl ?_ | refine jP rfl rfl rfl rfl ?_); (first | refine jb rfl (je rfl rfl) rfl ?_ | refine jb rfl (jf rfl rfl) rfl ?_ | refine jb rfl (jd rfl rfl rfl rfl rfl) rfl ?_ | refine jb rfl (jg rfl rfl rfl rfl) rfl ?_ | refine jb rfl (jh rfl rfl rfl rfl rfl rfl) rfl ?_ | refine jb rfl (ji rfl rfl rfl rfl rfl rfl) rfl ?_ | refine jb rfl (jj rfl rfl (by first | with_reducible exact u24) rfl) rfl ?_ | refine jb rfl (jT rfl rfl (by first | with_reducible exact u24) rfl) rfl ?_); refine jN (by first | (simp only [setAt]; rfl) | rfl) ?_)))
   ((first | refine jO rfl rfl ?_ | refine jP rfl rfl rfl rfl ?_); refine jb rfl (op_indexAddr_sl (sz := 2) (j := i) (el := tr3 tr[i]) rfl rfl u26 sz29 rfl rfl rfl (by simp [List.getElem?_map, List.getElem?_eq_getElem hlt]) rfl) rfl ?_; refine jN (by first | (simp only [setAt]; rfl) | rfl) ?_)
   ((first | refine jO rfl rfl ?_ | refine jP rfl rfl rfl rfl ?_); refine jb rfl (op_load_rp (v := tr3 tr[i]) rfl rfl (take29 _)) rfl ?_; refine jN (by first | (simp only [setAt]; rfl) | rfl) ?_)
   rw [un29]
   (repeat (with_reducible refine jQ ?_; first | refine jR ?_ | (refine jS rfl rfl rfl rfl rfl ?_; refine jN (by first | (simp only [setAt]; rfl) | rfl) ?_) | ((first | refine jO rfl rfl ?_ | refine jP rfl rfl rfl rfl ?_); (first | refine jb rfl (je rfl rfl) rfl ?_ | refine jb rfl (jf rfl rfl) rfl ?_ | refine jb rfl (jd rfl rfl rfl rfl rfl) rfl ?_ | refine jb rfl (jg rfl rfl rfl rfl) rfl ?_ | refine jb rfl (jh rfl rfl rfl rfl rfl rfl) rfl ?_ | refine jb rfl (ji rfl rfl rfl rfl rfl rfl) rfl ?_ | refine jb rfl (jj rfl rfl (by first | with_reducible exact u24) rfl) rfl ?_ | refine jb rfl (jT rfl rfl (by first | with_reducible exact u24) rfl) rfl ?_); refine jN (by first | (simp only [setAt]; rfl) | rfl) ?_)))
   ((first | refine jO rfl rfl ?_ | refine jP rfl rfl rfl rfl ?_); refine jb rfl (op_indexAddr_sl (sz := 2) (j := i) (el := tr3 tr[i]) rfl rfl u26 sz29 rfl rfl rfl (by simp [List.getElem?_map, List.getElem?_eq_getElem hlt]) rfl) rfl ?_; refine jN (by first | (simp only [setAt]; rfl) | rfl) ?_)
   ((first | refine jO rfl rfl ?_ | refine jP rfl rfl rfl rfl ?_); refine jb rfl (op_load_rp (v := tr3 tr[i]) rfl rfl (take29 _)) rfl ?_; refine jN (by first | (simp only [setAt]; rfl) | rfl) ?_)
   rw [un29]
   ((first | refine jO rfl rfl ?_ | refine jP rfl rfl rfl rfl ?_); refine jb rfl (op_ne29 tr[i] rfl rfl rfl) rfl ?_; refine jN (by first | (simp only [setAt]; rfl) | rfl) ?_)
   (repeat (with_reducible refine jQ ?_; first | refine jR ?_ | (refine jS rfl rfl rfl rfl rfl ?_; refine jN (by first | (simp only [setAt]; rfl) | rfl) ?_) | ((first | refine jO rfl rfl ?_ | refine jP rfl rfl rfl rfl ?_); (first | refine jb rfl (je rfl rfl) rfl ?_ | refine jb rfl (jf rfl rfl) rfl ?_ | refine jb rfl (jd rfl rfl rfl rfl rfl) rfl ?_ | refine jb rfl (jg rfl rfl rfl rfl) rfl ?_ | refine jb rfl (jh rfl rfl rfl rfl rfl rfl) rfl ?_ | refine jb rfl (ji rfl rfl rfl rfl rfl rfl) rfl ?_ | refine jb rfl (jj rfl rfl (by first | with_reducible exact u24) rfl) rfl ?_ | refine jb rfl (jT rfl rfl (by first | with_reducible exact u24) rfl) rfl ?_); refine jN (by first | (simp only [setAt]; rfl) | rfl) ?_)))
   (repeat (first | (with_reducible first | refine jk ?_ | refine jl ?_ | refine jn ?_ | refine jo ?_ | refine jp ?_ | refine jq ?_ | refine jr ?_ | refine js ?_ | refine jt ?_ | refine ju ?_ | refine jv ?_ | refine jw ?_ | refine jx ?_ | refine jy ?_) | (with_reducible refine jz ?_; refine jA (by first | (simp only [setAt, List.nil_append]; rfl) | rfl) ?_) | with_reducible refine jB (by decide) ?_ | (with_reducible refine jC ?_; first | refine jD rfl rfl rfl ?_ | refine jE rfl rfl rfl ?_) | ((first | (with_reducible refine jF ?_; first | refine jm rfl rfl rfl rfl ?_ | refine jG rfl rfl rfl rfl rfl ?_) | (with_reducible refine jH ?_; refine ja rfl rfl (je rfl rfl) ?_) | (with_reducible refine jI ?_; refine ja rfl rfl (jf rfl rfl) ?_) | (with_reducible refine jJ ?_; refine ja rfl rfl (jd rfl rfl rfl rfl rfl) ?_) | (with_reducible refine jK ?_; refine ja rfl rfl (jg rfl rfl rfl rfl) ?_) | (with_reducible refine jL ?_; first | refine ja rfl rfl (jh rfl rfl rfl rfl rfl rfl) ?_ | refine ja rfl rfl (ji rfl rfl rfl rfl rfl rfl) ?_) | (with_reducible refine jM ?_; refine ja rfl rfl (jj rfl rfl (by first | exact u24 | exact u26) rfl) ?_)); refine jc (by first | (simp only [setAt]; rfl) | rfl) ?_)))
   refine LoopQ.normal (tr.length - (i + 1)) (by omega) ⟨i + 1, rfl, by omega, rfl, dead_of ?_⟩
   rw [w64 (by omega)]; rfl
  ·(repeat (first | (with_reducible first | refine jk ?_ | refine jl ?_ | refine jn ?_ | refine jo ?_ | refine jp ?_ | refine jq ?_ | refine jr ?_ | refine js ?_ | refine jt ?_ | refine ju ?_ | refine jv ?_ | refine jw ?_ | refine jx ?_ | refine jy ?_) | (with_reducible refine jz ?_; refine jA (by first | (simp only [setAt, List.nil_append]; rfl) | rfl) ?_) | with_reducible refine jB (by decide) ?_ | (with_reducible refine jC ?_; first | refine jD rfl rfl rfl ?_ | refine jE rfl rfl rfl ?_) | ((first | (with_reducible refine jF ?_; first | refine jm rfl rfl rfl rfl ?_ | refine jG rfl rfl rfl rfl rfl ?_) | (with_reducible refine jH ?_; refine ja rfl rfl (je rfl rfl) ?_) | (with_reducible refine jI ?_; refine ja rfl rfl (jf rfl rfl) ?_) | (with_reducible refine jJ ?_; refine ja rfl rfl (jd rfl rfl rfl rfl rfl) ?_) | (with_reducible refine jK ?_; refine ja rfl rfl (jg rfl rfl rfl rfl) ?_) | (with_reducible refine jL ?_; first | refine ja rfl rfl (jh rfl rfl rfl rfl rfl rfl) ?_ | refine ja rfl rfl (ji rfl rfl rfl rfl rfl rfl) ?_) | (with_reducible refine jM ?_; refine ja rfl rfl (jj rfl rfl (by first | exact u24 | exact u26) rfl) ?_)); refine jc (by first | (simp only [setAt]; rfl) | rfl) ?_)))
   refine Wc.drawn rfl (by kernel_rfl) ?_
   (repeat (with_reducible refine jQ ?_; first | refine jR ?_ | (refine jS rfl rfl rfl rfl rfl ?_; refine jN (by first | (simp only [setAt]; rfl) | rfl) ?_) | ((first | refine jO rfl rfl ?_ | refine jP rfl rfl rfl rfl ?_); (first | refine jb rfl (je rfl rfl) rfl ?_ | refine jb rfl (jf rfl rfl) rfl ?_ | refine jb rfl (jd rfl rfl rfl rfl rfl) rfl ?_ | refine jb rfl (jg rfl rfl rfl rfl) rfl ?_ | refine jb rfl (jh rfl rfl rfl rfl rfl rfl) rfl ?_ | refine jb rfl (ji rfl rfl rfl rfl rfl rfl) rfl ?_ | refine jb rfl (jj rfl rfl (by first | with_reducible exact u24) rfl) rfl ?_ | refine jb rfl (jT rfl rfl (by first | with_reducible exact u24) rfl) rfl ?_); refine jN (by first | (simp only [setAt]; rfl) | rfl) ?_)))
   ((first | refine jO rfl rfl ?_ | refine jP rfl rfl rfl rfl ?_); refine jb rfl (op_load_arr (l := o) rfl rfl e0 ag23 sz23 ho) rfl ?_; refine jN (by first | (simp only [setAt]; rfl) | rfl) ?_)
   (repeat (with_reducible refine jQ ?_; first | refine jR ?_ | (refine jS rfl rfl rfl rfl rfl ?_; refine jN (by first | (simp only [setAt]; rfl) | rfl) ?_) | ((first | refine jO rfl rfl ?_ | refine jP rfl rfl rfl rfl ?_); (first | refine jb rfl (je rfl rfl) rfl ?_ | refine jb rfl (jf rfl rfl) rfl ?_ | refine jb rfl (jd rfl rfl rfl rfl rfl) rfl ?_ | refine jb rfl (jg rfl rfl rfl rfl) rfl ?_ | refine jb rfl (jh rfl rfl rfl rfl rfl rfl) rfl ?_ | refine jb rfl (ji rfl rfl rfl rfl rfl rfl) rfl ?_ | refine jb rfl (jj rfl rfl (by first | with_reducible exact u24) rfl) rfl ?_ | refine jb rfl (jT rfl rfl (by first | with_reducible exact u24) rfl) rfl ?_); refine jN (by first | (simp only [setAt]; rfl) | rfl) ?_)))
   refine Wd.call rfl (.yes rfl rfl rfl) rfl (op_call (args := [.agg (o.map i64), .sl (ms.map i64) tl]) rfl rfl) (by rw [hua]; show (true && isPure Kz 10 _) = true; rw [Bool.true_and]; exact pure10 o ms tl) ?_
   rw [hua]
   refine (claim_tells o ho ms tl htl hnil hl _).mono ?_
   rintro r H1 ⟨rfl, rfl⟩
   have hcl8 := claim_len o ms ho
   have hcs := claim_same o ms ho
   have hbs := bal_same o ms ho
   refine jN (by first | (simp only [setAt]; rfl) | rfl) ?_
   (repeat (with_reducible refine jQ ?_; first | refine jR ?_ | (refine jS rfl rfl rfl rfl rfl ?_; refine jN (by first | (simp only [setAt]; rfl) | rfl) ?_) | ((first | refine jO rfl rfl ?_ | refine jP rfl rfl rfl rfl ?_); (first | refine jb rfl (je rfl rfl) rfl ?_ | refine jb rfl (jf rfl rfl) rfl ?_ | refine jb rfl (jd rfl rfl rfl rfl rfl) rfl ?_ | refine jb rfl (jg rfl rfl rfl rfl) rfl ?_ | refine jb rfl (jh rfl rfl rfl rfl rfl rfl) rfl ?_ | refine jb rfl (ji rfl rfl rfl rfl rfl rfl) rfl ?_ | refine jb rfl (jj rfl rfl (by first | with_reducible exact u24) rfl) rfl ?_ | refine jb rfl (jT rfl rfl (by first | with_reducible exact u24) rfl) rfl ?_); refine jN (by first | (simp only [setAt]; rfl) | rfl) ?_)))
   ((first | refine jO rfl rfl ?_ | refine jP rfl rfl rfl rfl ?_); refine jb rfl (op_load_arr (l := o) rfl rfl e0 ag23 sz23 ho) rfl ?_; refine jN (by first | (simp only [setAt]; rfl) | rfl) ?_)
   (repeat (with_reducible refine jQ ?_; first | refine jR ?_ | (refine jS rfl rfl rfl rfl rfl ?_; refine jN (by first | (simp only [setAt]; rfl) | rfl) ?_) | ((first | refine jO rfl rfl ?_ | refine jP rfl rfl rfl rfl ?_); (first | refine jb rfl (je rfl rfl) rfl ?_ | refine jb rfl (jf rfl rfl) rfl ?_ | refine jb rfl (jd rfl rfl rfl rfl rfl) rfl ?_ | refine jb rfl (jg rfl rfl rfl rfl) rfl ?_ | refine jb rfl (jh rfl rfl rfl rfl rfl rfl) rfl ?_ | refine jb rfl (ji rfl rfl rfl rfl rfl rfl) rfl ?_ | refine jb rfl (jj rfl rfl (by first | with_reducible exact u24) rfl) rfl ?_ | refine jb rfl (jT rfl rfl (by first | with_reducible exact u24) rfl) rfl ?_); refine jN (by first | (simp only [setAt]; rfl) | rfl) ?_)))
   refine Wd.call rfl (.yes rfl rfl rfl) rfl (op_call (args := [.agg (o.map i64), .sl (ms.map i64) tl]) rfl rfl) (by rw [hua]; show (true && isPure Kz 11 _) = true; rw [Bool.true_and]; exact pure11 o ms tl) ?_
   rw [hua]
   refine (rclaim_tells o ho ms tl htl hl _).mono ?_
   rintro r H1 ⟨rfl, rfl⟩
   rw [hcs]
   generalize claim o ms = c at *
   refine jN (by first | (simp only [setAt]; rfl) | rfl) ?_
   (repeat (with_reducible refine jQ ?_; first | refine jR ?_ | (refine jS rfl rfl rfl rfl rfl ?_; refine jN (by first | (simp only [setAt]; rfl) | rfl) ?_) | ((first | refine jO rfl rfl ?_ | refine jP rfl rfl rfl rfl ?_); (first | refine jb rfl (je rfl rfl) rfl ?_ | refine jb rfl (jf rfl rfl) rfl ?_ | refine jb rfl (jd rfl rfl rfl rfl rfl) rfl ?_ | refine jb rfl (jg rfl rfl rfl rfl) rfl ?_ | refine jb rfl (jh rfl rfl rfl rfl rfl rfl) rfl ?_ | refine jb rfl (ji rfl rfl rfl rfl rfl rfl) rfl ?_ | refine jb rfl (jj rfl rfl (by first | with_reducible exact u24) rfl) rfl ?_ | refine jb rfl (jT rfl rfl (by first | with_reducible exact u24) rfl) rfl ?_); refine jN (by first | (simp only [setAt]; rfl) | rfl) ?_)))
   ((first | refine jO rfl rfl ?_ | refine jP rfl rfl rfl rfl ?_); refine jb rfl (op_eq_arr hcl8 hcl8 rfl rfl rfl) rfl ?_; refine jN (by first | (simp only [setAt]; rfl) | rfl) ?_)
   rw [show decide True = true by decide]
   (repeat (with_reducible refine jQ ?_; first | refine jR ?_ | (refine jS rfl rfl rfl rfl rfl ?_; refine jN (by first | (simp only [setAt]; rfl) | rfl) ?_) | ((first | refine jO rfl rfl ?_ | refine jP rfl rfl rfl rfl ?_); (first | refine jb rfl (je rfl rfl) rfl ?_ | refine jb rfl (jf rfl rfl) rfl ?_ | refine jb rfl (jd rfl rfl rfl rfl rfl) rfl ?_ | refine jb rfl (jg rfl rfl rfl rfl) rfl ?_ | refine jb rfl (jh rfl rfl rfl rfl rfl rfl) rfl ?_ | refine jb rfl (ji rfl rfl rfl rfl rfl rfl) rfl ?_ | refine jb rfl (jj rfl rfl (by first | with_reducible exact u24) rfl) rfl ?_ | refine jb rfl (jT rfl rfl (by first | with_reducible exact u24) rfl) rfl ?_); refine jN (by first | (simp only [setAt]; rfl) | rfl) ?_)))
   ((first | refine jO rfl rfl ?_ | refine jP rfl rfl rfl rfl ?_); refine jb rfl (op_load_arr (l := o) rfl rfl e0 ag23 sz23 ho) rfl ?_; refine jN (by first | (simp only [setAt]; rfl) | rfl) ?_)
   (repeat (with_reducible refine jQ ?_; first | refine jR ?_ | (refine jS rfl rfl rfl rfl rfl ?_; refine jN (by first | (simp only [setAt]; rfl) | rfl) ?_) | ((first | refine jO rfl rfl ?_ | refine jP rfl rfl rfl rfl ?_); (first | refine jb rfl (je rfl rfl) rfl ?_ | refine jb rfl (jf rfl rfl) rfl ?_ | refine jb rfl (jd rfl rfl rfl rfl rfl) rfl ?_ | refine jb rfl (jg rfl rfl rfl rfl) rfl ?_ | refine jb rfl (jh rfl rfl rfl rfl rfl rfl) rfl ?_ | refine jb rfl (ji rfl rfl rfl rfl rfl rfl) rfl ?_ | refine jb rfl (jj rfl rfl (by first | with_reducible exact u24) rfl) rfl ?_ | refine jb rfl (jT rfl rfl (by first | with_reducible exact u24) rfl) rfl ?_); refine jN (by first | (simp only [setAt]; rfl) | rfl) ?_)))
   refine Wd.call rfl (.yes rfl rfl rfl) rfl (op_call (args := [.agg (o.map i64), .sl (ms.map i64) tl]) rfl rfl) (by rw [hua]; show (true && isPure Kz 12 _) = true; rw [Bool.true_and]; exact pure12 o ms tl) ?_
   rw [hua]
   refine (balanced_tells o ho ms tl htl hnil hl _).mono ?_
   rintro r H1 ⟨rfl, rfl⟩
   refine jN (by first | (simp only [setAt]; rfl) | rfl) ?_
   (repeat (with_reducible refine jQ ?_; first | refine jR ?_ | (refine jS rfl rfl rfl rfl rfl ?_; refine jN (by first | (simp only [setAt]; rfl) | rfl) ?_) | ((first | refine jO rfl rfl ?_ | refine jP rfl rfl rfl rfl ?_); (first | refine jb rfl (je rfl rfl) rfl ?_ | refine jb rfl (jf rfl rfl) rfl ?_ | refine jb rfl (jd rfl rfl rfl rfl rfl) rfl ?_ | refine jb rfl (jg rfl rfl rfl rfl) rfl ?_ | refine jb rfl (jh rfl rfl rfl rfl rfl rfl) rfl ?_ | refine jb rfl (ji rfl rfl rfl rfl rfl rfl) rfl ?_ | refine jb rfl (jj rfl rfl (by first | with_reducible exact u24) rfl) rfl ?_ | refine jb rfl (jT rfl rfl (by first | with_reducible exact u24) rfl) rfl ?_); refine jN (by first | (simp only [setAt]; rfl) | rfl) ?_)))
   ((first | refine jO rfl rfl ?_ | refine jP rfl rfl rfl rfl ?_); refine jb rfl (op_load_arr (l := o) rfl rfl e0 ag23 sz23 ho) rfl ?_; refine jN (by first | (simp only [setAt]; rfl) | rfl) ?_)
   (repeat (with_reducible refine jQ ?_; first | refine jR ?_ | (refine jS rfl rfl rfl rfl rfl ?_; refine jN (by first | (simp only [setAt]; rfl) | rfl) ?_) | ((first | refine jO rfl rfl ?_ | refine jP rfl rfl rfl rfl ?_); (first | refine jb rfl (je rfl rfl) rfl ?_ | refine jb rfl (jf rfl rfl) rfl ?_ | refine jb rfl (jd rfl rfl rfl rfl rfl) rfl ?_ | refine jb rfl (jg rfl rfl rfl rfl) rfl ?_ | refine jb rfl (jh rfl rfl rfl rfl rfl rfl) rfl ?_ | refine jb rfl (ji rfl rfl rfl rfl rfl rfl) rfl ?_ | refine jb rfl (jj rfl rfl (by first | with_reducible exact u24) rfl) rfl ?_ | refine jb rfl (jT rfl rfl (by first | with_reducible exact u24) rfl) rfl ?_); refine jN (by first | (simp only [setAt]; rfl) | rfl) ?_)))
   refine Wd.call rfl (.yes rfl rfl rfl) rfl (op_call (args := [.agg (o.map i64), .sl (ms.map i64) tl]) rfl rfl) (by rw [hua]; show (true && isPure Kz 13 _) = true; rw [Bool.true_and]; exact pure13 o ms tl) ?_
   rw [hua]
   refine (rbalanced_tells o ho ms tl htl hl _).mono ?_
   rintro r H1 ⟨rfl, rfl⟩
   rw [hbs]
   generalize balanced o ms = b at *
   refine jN (by first | (simp only [setAt]; rfl) | rfl) ?_
   (repeat (with_reducible refine jQ ?_; first | refine jR ?_ | (refine jS rfl rfl rfl rfl rfl ?_; refine jN (by first | (simp only [setAt]; rfl) | rfl) ?_) | ((first | refine jO rfl rfl ?_ | refine jP rfl rfl rfl rfl ?_); (first | refine jb rfl (je rfl rfl) rfl ?_ | refine jb rfl (jf rfl rfl) rfl ?_ | refine jb rfl (jd rfl rfl rfl rfl rfl) rfl ?_ | refine jb rfl (jg rfl rfl rfl rfl) rfl ?_ | refine jb rfl (jh rfl rfl rfl rfl rfl rfl) rfl ?_ | refine jb rfl (ji rfl rfl rfl rfl rfl rfl) rfl ?_ | refine jb rfl (jj rfl rfl (by first | with_reducible exact u24) rfl) rfl ?_ | refine jb rfl (jT rfl rfl (by first | with_reducible exact u24) rfl) rfl ?_); refine jN (by first | (simp only [setAt]; rfl) | rfl) ?_)))
   rw [show (b == b) = true by simp]
   (repeat (first | (with_reducible first | refine jk ?_ | refine jl ?_ | refine jn ?_ | refine jo ?_ | refine jp ?_ | refine jq ?_ | refine jr ?_ | refine js ?_ | refine jt ?_ | refine ju ?_ | refine jv ?_ | refine jw ?_ | refine jx ?_ | refine jy ?_) | (with_reducible refine jz ?_; refine jA (by first | (simp only [setAt, List.nil_append]; rfl) | rfl) ?_) | with_reducible refine jB (by decide) ?_ | (with_reducible refine jC ?_; first | refine jD rfl rfl rfl ?_ | refine jE rfl rfl rfl ?_) | ((first | (with_reducible refine jF ?_; first | refine jm rfl rfl rfl rfl ?_ | refine jG rfl rfl rfl rfl rfl ?_) | (with_reducible refine jH ?_; refine ja rfl rfl (je rfl rfl) ?_) | (with_reducible refine jI ?_; refine ja rfl rfl (jf rfl rfl) ?_) | (with_reducible refine jJ ?_; refine ja rfl rfl (jd rfl rfl rfl rfl rfl) ?_) | (with_reducible refine jK ?_; refine ja rfl rfl (jg rfl rfl rfl rfl) ?_) | (with_reducible refine jL ?_; first | refine ja rfl rfl (jh rfl rfl rfl rfl rfl rfl) ?_ | refine ja rfl rfl (ji rfl rfl rfl rfl rfl rfl) ?_) | (with_reducible refine jM ?_; refine ja rfl rfl (jj rfl rfl u24 rfl) ?_)); refine jc (by first | (simp only [setAt]; rfl) | rfl) ?_)))
   exact EndQ.ret (r := .v (.bool true)) rfl ⟨_, rfl, rfl, rfl, rfl⟩
end Go.Proofs
