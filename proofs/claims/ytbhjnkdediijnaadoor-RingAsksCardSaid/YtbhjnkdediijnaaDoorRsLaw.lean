/- RingAsks over the tree machine: the law's body. -/
import Derived.Test.YtbhjnkdediijnaaDoorRxD
import Derived.Test.YtbhjnkdediijnaaDoorRxF
set_option linter.unusedVariables false
set_option linter.unusedSimpArgs false
set_option linter.unusedSectionVars false
namespace Go.Proofs
open Go.Tm Go.Proofs.RingPlain Go.Proofs.RgPlain Go.Proofs.RsPlain
set_option maxRecDepth 100000
theorem ga0 (b : Nat) : aFieldAddr Kz 26 (.ptr b 0) 0 = some (.ptr b 0) := by kernel_rfl
theorem ga1 (b : Nat) : aFieldAddr Kz 26 (.ptr b 0) 1 = some (.ptr b 1) := by kernel_rfl
theorem ga2 (b : Nat) : aFieldAddr Kz 26 (.ptr b 0) 2 = some (.ptr b 2) := by kernel_rfl
theorem pR_bind {α β : Type} (P : Program) (f : α → Sem β) : ∀ x : Sem α, pureRun P (x >>= f) = (pureRun P x).bind fun a => pureRun P (f a) := by
 intro x
 induction x with
 | pure a => rfl
 | program k ih => exact ih P
 | _ => rfl
theorem pR_pure {α : Type} (P : Program) (a : α) : pureRun P (pure a : Sem α) = some a := rfl
theorem eq3k (a b : Int) : pureRun Kz.P (Op.equalIn 9999 3 (.int .i64 a) (.int .i64 b)) = some (a == b) := by
 show pureRun Kz.P (Op.equalIn (9998 + 1) 3 _ _) = _
 unfold Op.equalIn
 rw [pR_bind]
 have h : pureRun Kz.P (underlying 3) = some (.int .i64) := by kernel_rfl
 rw [h]
 simp only [Option.bind_some, if_true]
 rfl
theorem u31 : Kz.P.underlying 31 = some (.slice 35) := u38
theorem ag35 : tAgg Kz.P 35 = some true := by kernel_rfl
theorem take35 (t : Int × Int) : takeVar Kz.P 35 (tgt t).cells = some (tgt t) := take_agg ag35 sz43 (Nat.le_refl 2)
theorem un35 (t : Int × Int) : (tgt t).unown = tgt t := rfl
theorem same35 (a b : Int) : pureRun Kz.P (Op.equal 35 (.agg #[.int .i64 a, .int .i64 b]) (.agg #[.int .i64 a, .int .i64 b])) = some true := by
 show pureRun Kz.P (Op.equalIn (9999 + 1) 35 _ _) = _
 unfold Op.equalIn
 rw [pR_bind]
 have h : pureRun Kz.P (underlying 35) = some (.struct #[⟨"Node", 3, 0, false, "", "", 0⟩, ⟨"For", 3, 1, false, "", "", 8⟩]) := by kernel_rfl
 rw [h]
 simp only [Option.bind_some]
 have hp : ∀ f : Program → Sem Bool, pureRun Kz.P ((Go.program : Sem Program) >>= f) = pureRun Kz.P (f Kz.P) := fun f => pR_bind Kz.P f _
 have hs : Kz.P.stoodInHeld 35 = false := by kernel_rfl
 have p0 : pureRun Kz.P (part 3 #[.int .i64 a, .int .i64 b] 0) = some (.int .i64 a) := by kernel_rfl
 have p1 : pureRun Kz.P (part 3 #[.int .i64 a, .int .i64 b] 1) = some (.int .i64 b) := by kernel_rfl
 have n0 : ("Node" : String) ≠ "_" := by decide
 have n1 : ("For" : String) ≠ "_" := by decide
 rw [hp, hs]
 simp only [Array.forIn_toList.symm, List.forIn_cons, List.forIn_nil, if_pos n0, if_pos n1, pR_bind, pR_pure, p0, p1, eq3k, Option.bind_some, beq_self_eq_true, Bool.not_true, Bool.false_eq_true, if_false]
theorem op_ne35 {f : FuncId} {o : Oper} {R : List AV} {own : Nat → Nat} {H : List AB} {yt : TypeId} {x y : Operand} (t : Int × Int) (ho : o.op = .binOp .neq 35 x y yt) (hx : evalO Kz R x = some (tgt t)) (hy : evalO Kz R y = some (tgt t)) : aOp Kz f ⟨R, own, H⟩ o [] = some (.val (.v (.bool false)) own H, [], []) := by
 obtain ⟨a, b⟩ := t
 simp only [aOp, ho, hx, hy, aKeepE]
 refine (E.bind_nil (a := AV.v (.bool false)) ?_).trans rfl
 have h : pureRun Kz.P (do eqGuard .neq 35 x y (.agg #[.int .i64 a, .int .i64 b]) (.agg #[.int .i64 a, .int .i64 b]); binOp .neq 35 (.agg #[.int .i64 a, .int .i64 b]) (.agg #[.int .i64 a, .int .i64 b])) = some (.bool false) := by
  rw [pR_bind, show pureRun Kz.P (eqGuard .neq 35 x y (.agg #[.int .i64 a, .int .i64 b]) (.agg #[.int .i64 a, .int .i64 b])) = some () by kernel_rfl, Option.bind_some]
  refine (pR_bind Kz.P (fun r => (pure (Value.bool (!r)) : Sem Value)) (Op.equal 35 _ _)).trans ?_
  rw [same35, Option.bind_some, pR_pure]; rfl
 show (match pureRun Kz.P (do eqGuard .neq 35 x y _ _; binOp .neq 35 _ _) with | some r => if flat r then (pure (.v r) : E AV) else E.fail | none => E.fail) [] = _
 rw [show pureRun Kz.P _ = _ from h]
 rfl
theorem sloppy_le (up : List Int) (f r : List Int) : (RingPlain.sloppy up f r).length ≤ f.length := by rw [sloppy_len]; exact Nat.min_le_left _ _
theorem cl2 (o : List Int) (p : Int) : AV.closedL [.agg (o.map i64), i64 p] = true := by simp [AV.closedL, AV.closed, closedL_ints]
theorem cl3 (o : List Int) (p n : Int) : AV.closedL [.agg (o.map i64), i64 p, i64 n] = true := by simp [AV.closedL, AV.closed, closedL_ints]
theorem cls (a b : List Int) (t u : Tail) : AV.closedL [.sl (a.map i64) t, .sl (b.map i64) u] = true := by simp [AV.closedL, AV.closed, closedL_ints]
set_option maxHeartbeats 2000000 in
theorem asks_tells (o : List Int) (ho : o.length = 8) (p n : Int) (ups : List Int) (tl : Tail) (htl : tl.un = tl) (hl : ups.length < 2^62) (s : List UInt8) (hs : s.length < 2 ^ 60) (H : List AB) : Tells Kz 3 [.agg (o.map i64), .agg [i64 p, i64 n, .sl (ups.map i64) tl], .str s] H fun r H' => r = .v (.bool true) ∧ H' = H := by
 have hcl : AV.closedL [.agg (o.map i64), .agg [i64 p, i64 n, .sl (ups.map i64) tl], .str s] = true := by simp [AV.closedL, AV.closed, closedL_ints]
 refine Tells.vals (c := _) Tryd.func3 rfl (args' := [.agg (o.map i64), .agg [i64 p, i64 n, .sl (ups.map i64) tl], .str s]) (m := 83) rfl rfl rfl rfl (by rw [hcl]; rfl) ?_
 have e0 : nth [AB.cells (23, true) (o.map i64), AB.cells (26, true) [i64 p, i64 n, .sl (ups.map i64) tl]] 0 = some (.cells (23, true) (o.map i64)) := rfl
 have e1 : nth [AB.cells (23, true) (o.map i64), AB.cells (26, true) [i64 p, i64 n, .sl (ups.map i64) tl]] 1 = some (.cells (26, true) [i64 p, i64 n, .sl (ups.map i64) tl]) := rfl
 refine jh ?_
 refine ji ?_
 refine ja rfl rfl (op_box rfl rfl (allOne_ints o)) ?_
 refine jb (by first | (simp only [setAt]; rfl) | rfl) ?_
 refine ja rfl rfl (op_box rfl rfl rfl) ?_
 refine jb (by first | (simp only [setAt]; rfl) | rfl) ?_
 (repeat (first | (with_reducible first | refine jh ?_ | refine ji ?_ | refine jl ?_ | refine jm ?_ | refine jn ?_ | refine jo ?_ | refine jp ?_ | refine jq ?_ | refine jr ?_ | refine js ?_ | refine jt ?_ | refine ju ?_ | refine jv ?_ | refine jw ?_) | (with_reducible refine jj ?_; refine jk (by first | (simp only [setAt, enter, List.replicate, List.cons_append, List.nil_append]; rfl) | rfl) ?_) | with_reducible refine jx (by decide) ?_ | (with_reducible refine jD ?_; first | refine jE rfl rfl rfl ?_ | refine jF rfl rfl rfl ?_) | ((first | (with_reducible refine jG ?_; first | refine jB rfl rfl rfl rfl ?_ | refine jC rfl rfl rfl rfl rfl ?_) | (with_reducible refine jH ?_; refine ja rfl rfl (jc rfl rfl) ?_) | (with_reducible refine jI ?_; refine ja rfl rfl (je rfl rfl) ?_) | (with_reducible refine jJ ?_; refine ja rfl rfl (jd rfl rfl rfl rfl rfl) ?_) | (with_reducible refine jK ?_; refine ja rfl rfl (jf rfl rfl rfl rfl) ?_) | (with_reducible refine jL ?_; first | refine ja rfl rfl (jy rfl rfl rfl rfl rfl rfl) ?_ | refine ja rfl rfl (jz rfl rfl rfl rfl rfl rfl) ?_) | (with_reducible refine jM ?_; refine ja rfl rfl (jg rfl rfl u24 rfl) ?_)); refine jb (by first | (simp only [setAt]; rfl) | rfl) ?_)))
 refine Wo.doCall rfl rfl (op_call (args := []) rfl rfl) (Tells.libv (g := toldTrue) (r := .v (.bool true)) rfl rfl ?_)
 refine jb (by first | (simp only [setAt]; rfl) | rfl) ?_
 (repeat (first | (with_reducible first | refine jh ?_ | refine ji ?_ | refine jl ?_ | refine jm ?_ | refine jn ?_ | refine jo ?_ | refine jp ?_ | refine jq ?_ | refine jr ?_ | refine js ?_ | refine jt ?_ | refine ju ?_ | refine jv ?_ | refine jw ?_) | (with_reducible refine jj ?_; refine jk (by first | (simp only [setAt, enter, List.replicate, List.cons_append, List.nil_append]; rfl) | rfl) ?_) | with_reducible refine jx (by decide) ?_ | (with_reducible refine jD ?_; first | refine jE rfl rfl rfl ?_ | refine jF rfl rfl rfl ?_) | ((first | (with_reducible refine jG ?_; first | refine jB rfl rfl rfl rfl ?_ | refine jC rfl rfl rfl rfl rfl ?_) | (with_reducible refine jH ?_; refine ja rfl rfl (jc rfl rfl) ?_) | (with_reducible refine jI ?_; refine ja rfl rfl (je rfl rfl) ?_) | (with_reducible refine jJ ?_; refine ja rfl rfl (jd rfl rfl rfl rfl rfl) ?_) | (with_reducible refine jK ?_; refine ja rfl rfl (jf rfl rfl rfl rfl) ?_) | (with_reducible refine jL ?_; first | refine ja rfl rfl (jy rfl rfl rfl rfl rfl rfl) ?_ | refine ja rfl rfl (jz rfl rfl rfl rfl rfl rfl) ?_) | (with_reducible refine jM ?_; refine ja rfl rfl (jg rfl rfl u24 rfl) ?_)); refine jb (by first | (simp only [setAt]; rfl) | rfl) ?_)))
 refine Wc.drawn rfl (by kernel_rfl) ?_
 ((first | refine jO rfl rfl ?_ | refine jP rfl rfl rfl rfl ?_); refine jA rfl (op_load_arr (l := o) rfl rfl e0 ag23 sz23 ho) rfl ?_; refine jN (by first | (simp only [setAt]; rfl) | rfl) ?_)
 ((first | refine jO rfl rfl ?_ | refine jP rfl rfl rfl rfl ?_); refine jA rfl (op_fieldAddr rfl rfl (ga0 1)) rfl ?_; refine jN (by first | (simp only [setAt]; rfl) | rfl) ?_)
 ((first | refine jO rfl rfl ?_ | refine jP rfl rfl rfl rfl ?_); refine jA rfl (op_load_ptr (v := i64 p) rfl rfl e1 (take_one ag3 sz3)) rfl ?_; refine jN (by first | (simp only [setAt]; rfl) | rfl) ?_)
 ((first | refine jO rfl rfl ?_ | refine jP rfl rfl rfl rfl ?_); refine jA rfl (op_fieldAddr rfl rfl (ga1 1)) rfl ?_; refine jN (by first | (simp only [setAt]; rfl) | rfl) ?_)
 ((first | refine jO rfl rfl ?_ | refine jP rfl rfl rfl rfl ?_); refine jA rfl (op_load_ptr (v := i64 n) rfl rfl e1 (take_one ag3 sz3)) rfl ?_; refine jN (by first | (simp only [setAt]; rfl) | rfl) ?_)
 refine Wd.call rfl (.inl rfl) rfl (op_call (args := [.agg (o.map i64), i64 p, i64 n]) rfl rfl) (by show (true && (true && AV.closedL [.agg (o.map i64), i64 p, i64 n])) = true; rw [cl3]; rfl) ((prim_tells o ho p n _).mono ?_)
 rintro r H1 ⟨⟨t1, rfl, ht1⟩, rfl⟩
 rw [unown_sl, ht1]
 refine jN (by first | (simp only [setAt]; rfl) | rfl) ?_
 ((first | refine jO rfl rfl ?_ | refine jP rfl rfl rfl rfl ?_); refine jA rfl (op_load_arr (l := o) rfl rfl e0 ag23 sz23 ho) rfl ?_; refine jN (by first | (simp only [setAt]; rfl) | rfl) ?_)
 ((first | refine jO rfl rfl ?_ | refine jP rfl rfl rfl rfl ?_); refine jA rfl (op_fieldAddr rfl rfl (ga0 1)) rfl ?_; refine jN (by first | (simp only [setAt]; rfl) | rfl) ?_)
 ((first | refine jO rfl rfl ?_ | refine jP rfl rfl rfl rfl ?_); refine jA rfl (op_load_ptr (v := i64 p) rfl rfl e1 (take_one ag3 sz3)) rfl ?_; refine jN (by first | (simp only [setAt]; rfl) | rfl) ?_)
 ((first | refine jO rfl rfl ?_ | refine jP rfl rfl rfl rfl ?_); refine jA rfl (op_fieldAddr rfl rfl (ga1 1)) rfl ?_; refine jN (by first | (simp only [setAt]; rfl) | rfl) ?_)
 ((first | refine jO rfl rfl ?_ | refine jP rfl rfl rfl rfl ?_); refine jA rfl (op_load_ptr (v := i64 n) rfl rfl e1 (take_one ag3 sz3)) rfl ?_; refine jN (by first | (simp only [setAt]; rfl) | rfl) ?_)
 refine Wd.call rfl (.inl rfl) rfl (op_call (args := [.agg (o.map i64), i64 p, i64 n]) rfl rfl) (by show (true && (true && AV.closedL [.agg (o.map i64), i64 p, i64 n])) = true; rw [cl3]; rfl) ((rprim_tells o ho p n _).mono ?_)
 rintro r H1 ⟨⟨t2, rfl, ht2⟩, rfl⟩
 rw [unown_sl, ht2]
 have hfl : (firsts o p n).length ≤ 8 := by
  have := owners_len o p 8
  unfold firsts; rw [List.length_take]; omega
 refine jN (by first | (simp only [setAt]; rfl) | rfl) ?_
 refine Wd.call rfl (.inl rfl) rfl (op_call (args := [.sl ((firsts o p n).map i64) t1, .sl ((firsts o p n).map i64) t2]) rfl rfl) (by simp only [List.map, unown_sl, ht1, ht2]; show (true && (true && AV.closedL [.sl ((firsts o p n).map i64) t1, .sl ((firsts o p n).map i64) t2])) = true; rw [cls]; rfl) ?_
 rw [show List.map AV.unown [.sl ((firsts o p n).map i64) t1, .sl ((firsts o p n).map i64) t2] = [.sl ((firsts o p n).map i64) t1, .sl ((firsts o p n).map i64) t2] by simp only [List.map, unown_sl, ht1, ht2]]
 refine (same_tells (firsts o p n) (by omega) t1 t2 ht1 ht2 _).mono ?_
 rintro r H1 ⟨rfl, rfl⟩
 refine jN (by first | (simp only [setAt]; rfl) | rfl) ?_
 (repeat (with_reducible refine jS ?_; first | refine jR ?_ | (refine jT rfl rfl rfl rfl rfl ?_; refine jN (by first | (simp only [setAt]; rfl) | rfl) ?_) | ((first | refine jO rfl rfl ?_ | refine jP rfl rfl rfl rfl ?_); (first | refine jA rfl (jc rfl rfl) rfl ?_ | refine jA rfl (je rfl rfl) rfl ?_ | refine jA rfl (jd rfl rfl rfl rfl rfl) rfl ?_ | refine jA rfl (jf rfl rfl rfl rfl) rfl ?_ | refine jA rfl (jy rfl rfl rfl rfl rfl rfl) rfl ?_ | refine jA rfl (jz rfl rfl rfl rfl rfl rfl) rfl ?_ | refine jA rfl (jg rfl rfl (by first | with_reducible exact u24) rfl) rfl ?_ | refine jA rfl (jQ rfl rfl (by first | with_reducible exact u24) rfl) rfl ?_); refine jN (by first | (simp only [setAt]; rfl) | rfl) ?_)))
 (repeat (first | (with_reducible first | refine jh ?_ | refine ji ?_ | refine jl ?_ | refine jm ?_ | refine jn ?_ | refine jo ?_ | refine jp ?_ | refine jq ?_ | refine jr ?_ | refine js ?_ | refine jt ?_ | refine ju ?_ | refine jv ?_ | refine jw ?_) | (with_reducible refine jj ?_; refine jk (by first | (simp only [setAt, enter, List.replicate, List.cons_append, List.nil_append]; rfl) | rfl) ?_) | with_reducible refine jx (by decide) ?_ | (with_reducible refine jD ?_; first | refine jE rfl rfl rfl ?_ | refine jF rfl rfl rfl ?_) | ((first | (with_reducible refine jG ?_; first | refine jB rfl rfl rfl rfl ?_ | refine jC rfl rfl rfl rfl rfl ?_) | (with_reducible refine jH ?_; refine ja rfl rfl (jc rfl rfl) ?_) | (with_reducible refine jI ?_; refine ja rfl rfl (je rfl rfl) ?_) | (with_reducible refine jJ ?_; refine ja rfl rfl (jd rfl rfl rfl rfl rfl) ?_) | (with_reducible refine jK ?_; refine ja rfl rfl (jf rfl rfl rfl rfl) ?_) | (with_reducible refine jL ?_; first | refine ja rfl rfl (jy rfl rfl rfl rfl rfl rfl) ?_ | refine ja rfl rfl (jz rfl rfl rfl rfl rfl rfl) ?_) | (with_reducible refine jM ?_; refine ja rfl rfl (jg rfl rfl u24 rfl) ?_)); refine jb (by first | (simp only [setAt]; rfl) | rfl) ?_)))
 refine Wc.drawn rfl (by kernel_rfl) ?_
 ((first | refine jO rfl rfl ?_ | refine jP rfl rfl rfl rfl ?_); refine jA rfl (op_load_arr (l := o) rfl rfl e0 ag23 sz23 ho) rfl ?_; refine jN (by first | (simp only [setAt]; rfl) | rfl) ?_)
 ((first | refine jO rfl rfl ?_ | refine jP rfl rfl rfl rfl ?_); refine jA rfl (op_fieldAddr rfl rfl (ga1 1)) rfl ?_; refine jN (by first | (simp only [setAt]; rfl) | rfl) ?_)
 ((first | refine jO rfl rfl ?_ | refine jP rfl rfl rfl rfl ?_); refine jA rfl (op_load_ptr (v := i64 n) rfl rfl e1 (take_one ag3 sz3)) rfl ?_; refine jN (by first | (simp only [setAt]; rfl) | rfl) ?_)
 refine Wd.call rfl (.inl rfl) rfl (op_call (args := [.agg (o.map i64), i64 n]) rfl rfl) (by show (true && (true && AV.closedL [.agg (o.map i64), i64 n])) = true; rw [cl2]; rfl) ((owned_tells o ho n _).mono ?_)
 rintro r H1 ⟨⟨w1, rfl, hw1⟩, rfl⟩
 rw [unown_sl, hw1]
 refine jN (by first | (simp only [setAt]; rfl) | rfl) ?_
 ((first | refine jO rfl rfl ?_ | refine jP rfl rfl rfl rfl ?_); refine jA rfl (op_load_arr (l := o) rfl rfl e0 ag23 sz23 ho) rfl ?_; refine jN (by first | (simp only [setAt]; rfl) | rfl) ?_)
 ((first | refine jO rfl rfl ?_ | refine jP rfl rfl rfl rfl ?_); refine jA rfl (op_fieldAddr rfl rfl (ga1 1)) rfl ?_; refine jN (by first | (simp only [setAt]; rfl) | rfl) ?_)
 ((first | refine jO rfl rfl ?_ | refine jP rfl rfl rfl rfl ?_); refine jA rfl (op_load_ptr (v := i64 n) rfl rfl e1 (take_one ag3 sz3)) rfl ?_; refine jN (by first | (simp only [setAt]; rfl) | rfl) ?_)
 refine Wd.call rfl (.inl rfl) rfl (op_call (args := [.agg (o.map i64), i64 n]) rfl rfl) (by show (true && (true && AV.closedL [.agg (o.map i64), i64 n])) = true; rw [cl2]; rfl) ((rowned_tells o ho n _).mono ?_)
 rintro r H1 ⟨⟨w2, rfl, hw2⟩, rfl⟩
 rw [unown_sl, hw2]
 refine jN (by first | (simp only [setAt]; rfl) | rfl) ?_
 have hol : (owned o n).length ≤ 8 := ownedTo_len o n 8
 refine Wd.call rfl (.inl rfl) rfl (op_call (args := [.sl ((owned o n).map i64) w1, .sl ((owned o n).map i64) w2]) rfl rfl) (by simp only [List.map, unown_sl, hw1, hw2]; show (true && (true && AV.closedL [.sl ((owned o n).map i64) w1, .sl ((owned o n).map i64) w2])) = true; rw [cls]; rfl) ?_
 rw [show List.map AV.unown [.sl ((owned o n).map i64) w1, .sl ((owned o n).map i64) w2] = [.sl ((owned o n).map i64) w1, .sl ((owned o n).map i64) w2] by simp only [List.map, unown_sl, hw1, hw2]]
 refine (same_tells (owned o n) (by omega) w1 w2 hw1 hw2 _).mono ?_
 rintro r H1 ⟨rfl, rfl⟩
 refine jN (by first | (simp only [setAt]; rfl) | rfl) ?_
 (repeat (with_reducible refine jS ?_; first | refine jR ?_ | (refine jT rfl rfl rfl rfl rfl ?_; refine jN (by first | (simp only [setAt]; rfl) | rfl) ?_) | ((first | refine jO rfl rfl ?_ | refine jP rfl rfl rfl rfl ?_); (first | refine jA rfl (jc rfl rfl) rfl ?_ | refine jA rfl (je rfl rfl) rfl ?_ | refine jA rfl (jd rfl rfl rfl rfl rfl) rfl ?_ | refine jA rfl (jf rfl rfl rfl rfl) rfl ?_ | refine jA rfl (jy rfl rfl rfl rfl rfl rfl) rfl ?_ | refine jA rfl (jz rfl rfl rfl rfl rfl rfl) rfl ?_ | refine jA rfl (jg rfl rfl (by first | with_reducible exact u24) rfl) rfl ?_ | refine jA rfl (jQ rfl rfl (by first | with_reducible exact u24) rfl) rfl ?_); refine jN (by first | (simp only [setAt]; rfl) | rfl) ?_)))
 (repeat (first | (with_reducible first | refine jh ?_ | refine ji ?_ | refine jl ?_ | refine jm ?_ | refine jn ?_ | refine jo ?_ | refine jp ?_ | refine jq ?_ | refine jr ?_ | refine js ?_ | refine jt ?_ | refine ju ?_ | refine jv ?_ | refine jw ?_) | (with_reducible refine jj ?_; refine jk (by first | (simp only [setAt, enter, List.replicate, List.cons_append, List.nil_append]; rfl) | rfl) ?_) | with_reducible refine jx (by decide) ?_ | (with_reducible refine jD ?_; first | refine jE rfl rfl rfl ?_ | refine jF rfl rfl rfl ?_) | ((first | (with_reducible refine jG ?_; first | refine jB rfl rfl rfl rfl ?_ | refine jC rfl rfl rfl rfl rfl ?_) | (with_reducible refine jH ?_; refine ja rfl rfl (jc rfl rfl) ?_) | (with_reducible refine jI ?_; refine ja rfl rfl (je rfl rfl) ?_) | (with_reducible refine jJ ?_; refine ja rfl rfl (jd rfl rfl rfl rfl rfl) ?_) | (with_reducible refine jK ?_; refine ja rfl rfl (jf rfl rfl rfl rfl) ?_) | (with_reducible refine jL ?_; first | refine ja rfl rfl (jy rfl rfl rfl rfl rfl rfl) ?_ | refine ja rfl rfl (jz rfl rfl rfl rfl rfl rfl) ?_) | (with_reducible refine jM ?_; refine ja rfl rfl (jg rfl rfl u24 rfl) ?_)); refine jb (by first | (simp only [setAt]; rfl) | rfl) ?_)))
 refine ja rfl rfl (op_load_arr (l := o) rfl rfl e0 ag23 sz23 ho) ?_
 refine jb (by first | (simp only [setAt]; rfl) | rfl) ?_
 refine ja rfl rfl (op_fieldAddr rfl rfl (ga0 1)) ?_
 refine jb (by first | (simp only [setAt]; rfl) | rfl) ?_
 refine ja rfl rfl (op_load_ptr (v := i64 p) rfl rfl e1 (take_one ag3 sz3)) ?_
 refine jb (by first | (simp only [setAt]; rfl) | rfl) ?_
 refine ja rfl rfl (op_fieldAddr rfl rfl (ga1 1)) ?_
 refine jb (by first | (simp only [setAt]; rfl) | rfl) ?_
 refine ja rfl rfl (op_load_ptr (v := i64 n) rfl rfl e1 (take_one ag3 sz3)) ?_
 refine jb (by first | (simp only [setAt]; rfl) | rfl) ?_
 refine ja rfl rfl (op_fieldAddr rfl rfl (ga2 1)) ?_
 refine jb (by first | (simp only [setAt]; rfl) | rfl) ?_
 refine ja rfl rfl (op_load_ptr (v := .sl (ups.map i64) tl) rfl rfl e1 (take_one ag24 sz24)) ?_
 rw [unown_sl, htl]
 refine jb (by first | (simp only [setAt]; rfl) | rfl) ?_
 refine Wo.doCall rfl rfl (op_call (args := [.agg (o.map i64), i64 p, i64 n, .sl (ups.map i64) tl]) rfl rfl) ?_
 rw [show List.map AV.unown [.agg (o.map i64), i64 p, i64 n, .sl (ups.map i64) tl] = [.agg (o.map i64), i64 p, i64 n, .sl (ups.map i64) tl] by simp only [List.map, unown_sl, htl]; rfl]
 refine (sloppy_tells o ho p n ups tl htl hl _).mono ?_
 rintro r H1 ⟨⟨s1, rfl⟩, rfl⟩
 rw [unown_sl]
 refine jb (by first | (simp only [setAt]; rfl) | rfl) ?_
 (repeat (first | (with_reducible first | refine jh ?_ | refine ji ?_ | refine jl ?_ | refine jm ?_ | refine jn ?_ | refine jo ?_ | refine jp ?_ | refine jq ?_ | refine jr ?_ | refine js ?_ | refine jt ?_ | refine ju ?_ | refine jv ?_ | refine jw ?_) | (with_reducible refine jj ?_; refine jk (by first | (simp only [setAt, enter, List.replicate, List.cons_append, List.nil_append]; rfl) | rfl) ?_) | with_reducible refine jx (by decide) ?_ | (with_reducible refine jD ?_; first | refine jE rfl rfl rfl ?_ | refine jF rfl rfl rfl ?_) | ((first | (with_reducible refine jG ?_; first | refine jB rfl rfl rfl rfl ?_ | refine jC rfl rfl rfl rfl rfl ?_) | (with_reducible refine jH ?_; refine ja rfl rfl (jc rfl rfl) ?_) | (with_reducible refine jI ?_; refine ja rfl rfl (je rfl rfl) ?_) | (with_reducible refine jJ ?_; refine ja rfl rfl (jd rfl rfl rfl rfl rfl) ?_) | (with_reducible refine jK ?_; refine ja rfl rfl (jf rfl rfl rfl rfl) ?_) | (with_reducible refine jL ?_; first | refine ja rfl rfl (jy rfl rfl rfl rfl rfl rfl) ?_ | refine ja rfl rfl (jz rfl rfl rfl rfl rfl rfl) ?_) | (with_reducible refine jM ?_; refine ja rfl rfl (jg rfl rfl (by first | exact u24 | exact u31) rfl) ?_)); refine jb (by first | (simp only [setAt]; rfl) | rfl) ?_)))
 refine ja rfl rfl (op_load_arr (l := o) rfl rfl e0 ag23 sz23 ho) ?_
 refine jb (by first | (simp only [setAt]; rfl) | rfl) ?_
 refine ja rfl rfl (op_fieldAddr rfl rfl (ga0 1)) ?_
 refine jb (by first | (simp only [setAt]; rfl) | rfl) ?_
 refine ja rfl rfl (op_load_ptr (v := i64 p) rfl rfl e1 (take_one ag3 sz3)) ?_
 refine jb (by first | (simp only [setAt]; rfl) | rfl) ?_
 refine ja rfl rfl (op_fieldAddr rfl rfl (ga1 1)) ?_
 refine jb (by first | (simp only [setAt]; rfl) | rfl) ?_
 refine ja rfl rfl (op_load_ptr (v := i64 n) rfl rfl e1 (take_one ag3 sz3)) ?_
 refine jb (by first | (simp only [setAt]; rfl) | rfl) ?_
 refine ja rfl rfl (op_fieldAddr rfl rfl (ga2 1)) ?_
 refine jb (by first | (simp only [setAt]; rfl) | rfl) ?_
 refine ja rfl rfl (op_load_ptr (v := .sl (ups.map i64) tl) rfl rfl e1 (take_one ag24 sz24)) ?_
 rw [unown_sl, htl]
 refine jb (by first | (simp only [setAt]; rfl) | rfl) ?_
 refine Wo.doCall rfl rfl (op_call (args := [.agg (o.map i64), i64 p, i64 n, .sl (ups.map i64) tl]) rfl rfl) ?_
 rw [show List.map AV.unown [.agg (o.map i64), i64 p, i64 n, .sl (ups.map i64) tl] = [.agg (o.map i64), i64 p, i64 n, .sl (ups.map i64) tl] by simp only [List.map, unown_sl, htl]; rfl]
 refine (rsloppy_tells o ho p n ups tl htl hl _).mono ?_
 rintro r H1 ⟨⟨s2, rfl⟩, rfl⟩
 rw [unown_sl]
 refine jb (by first | (simp only [setAt]; rfl) | rfl) ?_
 (repeat (first | (with_reducible first | refine jh ?_ | refine ji ?_ | refine jl ?_ | refine jm ?_ | refine jn ?_ | refine jo ?_ | refine jp ?_ | refine jq ?_ | refine jr ?_ | refine js ?_ | refine jt ?_ | refine ju ?_ | refine jv ?_ | refine jw ?_) | (with_reducible refine jj ?_; refine jk (by first | (simp only [setAt, enter, List.replicate, List.cons_append, List.nil_append]; rfl) | rfl) ?_) | with_reducible refine jx (by decide) ?_ | (with_reducible refine jD ?_; first | refine jE rfl rfl rfl ?_ | refine jF rfl rfl rfl ?_) | ((first | (with_reducible refine jG ?_; first | refine jB rfl rfl rfl rfl ?_ | refine jC rfl rfl rfl rfl rfl ?_) | (with_reducible refine jH ?_; refine ja rfl rfl (jc rfl rfl) ?_) | (with_reducible refine jI ?_; refine ja rfl rfl (je rfl rfl) ?_) | (with_reducible refine jJ ?_; refine ja rfl rfl (jd rfl rfl rfl rfl rfl) ?_) | (with_reducible refine jK ?_; refine ja rfl rfl (jf rfl rfl rfl rfl) ?_) | (with_reducible refine jL ?_; first | refine ja rfl rfl (jy rfl rfl rfl rfl rfl rfl) ?_ | refine ja rfl rfl (jz rfl rfl rfl rfl rfl rfl) ?_) | (with_reducible refine jM ?_; refine ja rfl rfl (jg rfl rfl (by first | exact u24 | exact u31) rfl) ?_)); refine jb (by first | (simp only [setAt]; rfl) | rfl) ?_)))
 have hsl := sloppy_le ups (firsts o p n) (others o p n ups)
 generalize RingPlain.sloppy ups (firsts o p n) (others o p n ups) = sp at *
 obtain ⟨u1, hu1⟩ : ∃ t, s1.un = t := ⟨_, rfl⟩
 obtain ⟨u2, hu2⟩ : ∃ t, s2.un = t := ⟨_, rfl⟩
 rw [hu1, hu2]
 rw [List.length_map]
 rw [show ((sp.length : Int) != (sp.length : Int)) = false by simp]
 (repeat (first | (with_reducible first | refine jh ?_ | refine ji ?_ | refine jl ?_ | refine jm ?_ | refine jn ?_ | refine jo ?_ | refine jp ?_ | refine jq ?_ | refine jr ?_ | refine js ?_ | refine jt ?_ | refine ju ?_ | refine jv ?_ | refine jw ?_) | (with_reducible refine jj ?_; refine jk (by first | (simp only [setAt, enter, List.replicate, List.cons_append, List.nil_append]; rfl) | rfl) ?_) | with_reducible refine jx (by decide) ?_ | (with_reducible refine jD ?_; first | refine jE rfl rfl rfl ?_ | refine jF rfl rfl rfl ?_) | ((first | (with_reducible refine jG ?_; first | refine jB rfl rfl rfl rfl ?_ | refine jC rfl rfl rfl rfl rfl ?_) | (with_reducible refine jH ?_; refine ja rfl rfl (jc rfl rfl) ?_) | (with_reducible refine jI ?_; refine ja rfl rfl (je rfl rfl) ?_) | (with_reducible refine jJ ?_; refine ja rfl rfl (jd rfl rfl rfl rfl rfl) ?_) | (with_reducible refine jK ?_; refine ja rfl rfl (jf rfl rfl rfl rfl) ?_) | (with_reducible refine jL ?_; first | refine ja rfl rfl (jy rfl rfl rfl rfl rfl rfl) ?_ | refine ja rfl rfl (jz rfl rfl rfl rfl rfl rfl) ?_) | (with_reducible refine jM ?_; refine ja rfl rfl (jg rfl rfl (by first | exact u24 | exact u31) rfl) ?_)); refine jb (by first | (simp only [setAt]; rfl) | rfl) ?_)))
 refine Wc.inv (fun m s1 => ∃ (i : Nat), m = sp.length - i ∧ i ≤ sp.length ∧ s1.H = [AB.cells (23, true) (o.map i64), AB.cells (26, true) [i64 p, i64 n, .sl (ups.map i64) tl]] ∧ ∃ d : Nat → AV, s1.regs = (d 0 :: d 1 :: .str s :: d 3 :: d 4 :: d 5 :: d 6 :: .v (.bool true) :: .v (.bool true) :: .v (.bool true) :: .sl (sp.map tgt) u1 :: .sl (sp.map tgt) u2 :: i64 i :: d 13 :: d 14 :: d 15 :: d 16 :: d 17 :: d 18 :: d 19 :: d 20 :: d 21 :: d 22 :: d 23 :: d 24 :: d 25 :: d 26 :: d 27 :: d 28 :: d 29 :: d 30 :: d 31 :: d 32 :: d 33 :: d 34 :: d 35 :: d 36 :: d 37 :: d 38 :: d 39 :: d 40 :: d 41 :: d 42 :: d 43 :: d 44 :: d 45 :: d 46 :: d 47 :: d 48 :: d 49 :: d 50 :: d 51 :: d 52 :: d 53 :: d 54 :: d 55 :: d 56 :: d 57 :: d 58 :: d 59 :: d 60 :: d 61 :: d 62 :: d 63 :: d 64 :: d 65 :: d 66 :: d 67 :: d 68 :: d 69 :: d 70 :: d 71 :: d 72 :: d 73 :: d 74 :: d 75 :: d 76 :: d 77 :: d 78 :: d 79 :: d 80 :: d 81 :: d 82 :: d 83 :: d 84 :: d 85 :: [])) sp.length ?_ ?_
 ·exact ⟨0, by omega, by omega, rfl, dead_of rfl⟩
 ·rintro m regs own H1 ⟨i, rfl, hi, hH, d, rfl⟩
  simp only at hH
  subst hH
  (repeat (first | (with_reducible first | refine jh ?_ | refine ji ?_ | refine jl ?_ | refine jm ?_ | refine jn ?_ | refine jo ?_ | refine jp ?_ | refine jq ?_ | refine jr ?_ | refine js ?_ | refine jt ?_ | refine ju ?_ | refine jv ?_ | refine jw ?_) | (with_reducible refine jj ?_; refine jk (by first | (simp only [setAt, enter, List.replicate, List.cons_append, List.nil_append]; rfl) | rfl) ?_) | with_reducible refine jx (by decide) ?_ | (with_reducible refine jD ?_; first | refine jE rfl rfl rfl ?_ | refine jF rfl rfl rfl ?_) | ((first | (with_reducible refine jG ?_; first | refine jB rfl rfl rfl rfl ?_ | refine jC rfl rfl rfl rfl rfl ?_) | (with_reducible refine jH ?_; refine ja rfl rfl (jc rfl rfl) ?_) | (with_reducible refine jI ?_; refine ja rfl rfl (je rfl rfl) ?_) | (with_reducible refine jJ ?_; refine ja rfl rfl (jd rfl rfl rfl rfl rfl) ?_) | (with_reducible refine jK ?_; refine ja rfl rfl (jf rfl rfl rfl rfl) ?_) | (with_reducible refine jL ?_; first | refine ja rfl rfl (jy rfl rfl rfl rfl rfl rfl) ?_ | refine ja rfl rfl (jz rfl rfl rfl rfl rfl rfl) ?_) | (with_reducible refine jM ?_; refine ja rfl rfl (jg rfl rfl (by first | exact u24 | exact u31) rfl) ?_)); refine jb (by first | (simp only [setAt]; rfl) | rfl) ?_)))
  rw [List.length_map]
  refine Wc.cond rfl rfl (fun h => ?_) (fun h => ?_)
  ·have hlt : i < sp.length := by simpa [goInt] using h
   clear h
   (repeat (first | (with_reducible first | refine jh ?_ | refine ji ?_ | refine jl ?_ | refine jm ?_ | refine jn ?_ | refine jo ?_ | refine jp ?_ | refine jq ?_ | refine jr ?_ | refine js ?_ | refine jt ?_ | refine ju ?_ | refine jv ?_ | refine jw ?_) | (with_reducible refine jj ?_; refine jk (by first | (simp only [setAt, enter, List.replicate, List.cons_append, List.nil_append]; rfl) | rfl) ?_) | with_reducible refine jx (by decide) ?_ | (with_reducible refine jD ?_; first | refine jE rfl rfl rfl ?_ | refine jF rfl rfl rfl ?_) | ((first | (with_reducible refine jG ?_; first | refine jB rfl rfl rfl rfl ?_ | refine jC rfl rfl rfl rfl rfl ?_) | (with_reducible refine jH ?_; refine ja rfl rfl (jc rfl rfl) ?_) | (with_reducible refine jI ?_; refine ja rfl rfl (je rfl rfl) ?_) | (with_reducible refine jJ ?_; refine ja rfl rfl (jd rfl rfl rfl rfl rfl) ?_) | (with_reducible refine jK ?_; refine ja rfl rfl (jf rfl rfl rfl rfl) ?_) | (with_reducible refine jL ?_; first | refine ja rfl rfl (jy rfl rfl rfl rfl rfl rfl) ?_ | refine ja rfl rfl (jz rfl rfl rfl rfl rfl rfl) ?_) | (with_reducible refine jM ?_; refine ja rfl rfl (jg rfl rfl (by first | exact u24 | exact u31) rfl) ?_)); refine jb (by first | (simp only [setAt]; rfl) | rfl) ?_)))
   refine Wc.drawn rfl (by kernel_rfl) ?_
   ((first | refine jO rfl rfl ?_ | refine jP rfl rfl rfl rfl ?_); refine jA rfl (jc rfl rfl) rfl ?_; refine jN (by first | (simp only [setAt]; rfl) | rfl) ?_)
   ((first | refine jO rfl rfl ?_ | refine jP rfl rfl rfl rfl ?_); refine jA rfl (jc rfl rfl) rfl ?_; refine jN (by first | (simp only [setAt]; rfl) | rfl) ?_)
   ((first | refine jO rfl rfl ?_ | refine jP rfl rfl rfl rfl ?_); refine jA rfl (op_indexAddr_sl (sz := 1) (j := i) (el := tgt sp[i]) rfl rfl u38 sz43 rfl rfl rfl (by simp [List.getElem?_map, List.getElem?_eq_getElem hlt]) rfl) rfl ?_; refine jN (by first | (simp only [setAt]; rfl) | rfl) ?_)
   ((first | refine jO rfl rfl ?_ | refine jP rfl rfl rfl rfl ?_); refine jA rfl (op_load_rp (v := tgt sp[i]) rfl rfl (take35 _)) rfl ?_; refine jN (by first | (simp only [setAt]; rfl) | rfl) ?_)
   rw [un35]
   ((first | refine jO rfl rfl ?_ | refine jP rfl rfl rfl rfl ?_); refine jA rfl (jc rfl rfl) rfl ?_; refine jN (by first | (simp only [setAt]; rfl) | rfl) ?_)
   ((first | refine jO rfl rfl ?_ | refine jP rfl rfl rfl rfl ?_); refine jA rfl (jc rfl rfl) rfl ?_; refine jN (by first | (simp only [setAt]; rfl) | rfl) ?_)
   ((first | refine jO rfl rfl ?_ | refine jP rfl rfl rfl rfl ?_); refine jA rfl (op_indexAddr_sl (sz := 1) (j := i) (el := tgt sp[i]) rfl rfl u38 sz43 rfl rfl rfl (by simp [List.getElem?_map, List.getElem?_eq_getElem hlt]) rfl) rfl ?_; refine jN (by first | (simp only [setAt]; rfl) | rfl) ?_)
   ((first | refine jO rfl rfl ?_ | refine jP rfl rfl rfl rfl ?_); refine jA rfl (op_load_rp (v := tgt sp[i]) rfl rfl (take35 _)) rfl ?_; refine jN (by first | (simp only [setAt]; rfl) | rfl) ?_)
   rw [un35]
   ((first | refine jO rfl rfl ?_ | refine jP rfl rfl rfl rfl ?_); refine jA rfl (op_ne35 sp[i] rfl rfl rfl) rfl ?_; refine jN (by first | (simp only [setAt]; rfl) | rfl) ?_)
   (repeat (with_reducible refine jS ?_; first | refine jR ?_ | (refine jT rfl rfl rfl rfl rfl ?_; refine jN (by first | (simp only [setAt]; rfl) | rfl) ?_) | ((first | refine jO rfl rfl ?_ | refine jP rfl rfl rfl rfl ?_); (first | refine jA rfl (jc rfl rfl) rfl ?_ | refine jA rfl (je rfl rfl) rfl ?_ | refine jA rfl (jd rfl rfl rfl rfl rfl) rfl ?_ | refine jA rfl (jf rfl rfl rfl rfl) rfl ?_ | refine jA rfl (jy rfl rfl rfl rfl rfl rfl) rfl ?_ | refine jA rfl (jz rfl rfl rfl rfl rfl rfl) rfl ?_ | refine jA rfl (jg rfl rfl (by first | with_reducible exact u24) rfl) rfl ?_ | refine jA rfl (jQ rfl rfl (by first | with_reducible exact u24) rfl) rfl ?_); refine jN (by first | (simp only [setAt]; rfl) | rfl) ?_)))
   (repeat (first | (with_reducible first | refine jh ?_ | refine ji ?_ | refine jl ?_ | refine jm ?_ | refine jn ?_ | refine jo ?_ | refine jp ?_ | refine jq ?_ | refine jr ?_ | refine js ?_ | refine jt ?_ | refine ju ?_ | refine jv ?_ | refine jw ?_) | (with_reducible refine jj ?_; refine jk (by first | (simp only [setAt, enter, List.replicate, List.cons_append, List.nil_append]; rfl) | rfl) ?_) | with_reducible refine jx (by decide) ?_ | (with_reducible refine jD ?_; first | refine jE rfl rfl rfl ?_ | refine jF rfl rfl rfl ?_) | ((first | (with_reducible refine jG ?_; first | refine jB rfl rfl rfl rfl ?_ | refine jC rfl rfl rfl rfl rfl ?_) | (with_reducible refine jH ?_; refine ja rfl rfl (jc rfl rfl) ?_) | (with_reducible refine jI ?_; refine ja rfl rfl (je rfl rfl) ?_) | (with_reducible refine jJ ?_; refine ja rfl rfl (jd rfl rfl rfl rfl rfl) ?_) | (with_reducible refine jK ?_; refine ja rfl rfl (jf rfl rfl rfl rfl) ?_) | (with_reducible refine jL ?_; first | refine ja rfl rfl (jy rfl rfl rfl rfl rfl rfl) ?_ | refine ja rfl rfl (jz rfl rfl rfl rfl rfl rfl) ?_) | (with_reducible refine jM ?_; refine ja rfl rfl (jg rfl rfl (by first | exact u24 | exact u31) rfl) ?_)); refine jb (by first | (simp only [setAt]; rfl) | rfl) ?_)))
   refine LoopQ.normal (sp.length - (i + 1)) (by omega) ⟨i + 1, rfl, by omega, rfl, dead_of ?_⟩
   rw [w64 (by omega)]; rfl
  ·clear h
   (repeat (first | (with_reducible first | refine jh ?_ | refine ji ?_ | refine jl ?_ | refine jm ?_ | refine jn ?_ | refine jo ?_ | refine jp ?_ | refine jq ?_ | refine jr ?_ | refine js ?_ | refine jt ?_ | refine ju ?_ | refine jv ?_ | refine jw ?_) | (with_reducible refine jj ?_; refine jk (by first | (simp only [setAt, enter, List.replicate, List.cons_append, List.nil_append]; rfl) | rfl) ?_) | with_reducible refine jx (by decide) ?_ | (with_reducible refine jD ?_; first | refine jE rfl rfl rfl ?_ | refine jF rfl rfl rfl ?_) | ((first | (with_reducible refine jG ?_; first | refine jB rfl rfl rfl rfl ?_ | refine jC rfl rfl rfl rfl rfl ?_) | (with_reducible refine jH ?_; refine ja rfl rfl (jc rfl rfl) ?_) | (with_reducible refine jI ?_; refine ja rfl rfl (je rfl rfl) ?_) | (with_reducible refine jJ ?_; refine ja rfl rfl (jd rfl rfl rfl rfl rfl) ?_) | (with_reducible refine jK ?_; refine ja rfl rfl (jf rfl rfl rfl rfl) ?_) | (with_reducible refine jL ?_; first | refine ja rfl rfl (jy rfl rfl rfl rfl rfl rfl) ?_ | refine ja rfl rfl (jz rfl rfl rfl rfl rfl rfl) ?_) | (with_reducible refine jM ?_; refine ja rfl rfl (jg rfl rfl (by first | exact u24 | exact u31) rfl) ?_)); refine jb (by first | (simp only [setAt]; rfl) | rfl) ?_)))
   refine Wo.doCall rfl rfl (op_call (args := [.str s]) rfl rfl) ((part_tells s hs _).mono ?_)
   rintro r H1 ⟨rfl, rfl⟩
   refine jb (by first | (simp only [setAt]; rfl) | rfl) ?_
   (repeat (first | (with_reducible first | refine jh ?_ | refine ji ?_ | refine jl ?_ | refine jm ?_ | refine jn ?_ | refine jo ?_ | refine jp ?_ | refine jq ?_ | refine jr ?_ | refine js ?_ | refine jt ?_ | refine ju ?_ | refine jv ?_ | refine jw ?_) | (with_reducible refine jj ?_; refine jk (by first | (simp only [setAt, enter, List.replicate, List.cons_append, List.nil_append]; rfl) | rfl) ?_) | with_reducible refine jx (by decide) ?_ | (with_reducible refine jD ?_; first | refine jE rfl rfl rfl ?_ | refine jF rfl rfl rfl ?_) | ((first | (with_reducible refine jG ?_; first | refine jB rfl rfl rfl rfl ?_ | refine jC rfl rfl rfl rfl rfl ?_) | (with_reducible refine jH ?_; refine ja rfl rfl (jc rfl rfl) ?_) | (with_reducible refine jI ?_; refine ja rfl rfl (je rfl rfl) ?_) | (with_reducible refine jJ ?_; refine ja rfl rfl (jd rfl rfl rfl rfl rfl) ?_) | (with_reducible refine jK ?_; refine ja rfl rfl (jf rfl rfl rfl rfl) ?_) | (with_reducible refine jL ?_; first | refine ja rfl rfl (jy rfl rfl rfl rfl rfl rfl) ?_ | refine ja rfl rfl (jz rfl rfl rfl rfl rfl rfl) ?_) | (with_reducible refine jM ?_; refine ja rfl rfl (jg rfl rfl (by first | exact u24 | exact u31) rfl) ?_)); refine jb (by first | (simp only [setAt]; rfl) | rfl) ?_)))
   refine Wo.doCall rfl rfl (op_call (args := [.str s]) rfl rfl) ((rpart_tells s hs _).mono ?_)
   rintro r H1 ⟨rfl, rfl⟩
   refine jb (by first | (simp only [setAt]; rfl) | rfl) ?_
   (repeat (first | (with_reducible first | refine jh ?_ | refine ji ?_ | refine jl ?_ | refine jm ?_ | refine jn ?_ | refine jo ?_ | refine jp ?_ | refine jq ?_ | refine jr ?_ | refine js ?_ | refine jt ?_ | refine ju ?_ | refine jv ?_ | refine jw ?_) | (with_reducible refine jj ?_; refine jk (by first | (simp only [setAt, enter, List.replicate, List.cons_append, List.nil_append]; rfl) | rfl) ?_) | with_reducible refine jx (by decide) ?_ | (with_reducible refine jD ?_; first | refine jE rfl rfl rfl ?_ | refine jF rfl rfl rfl ?_) | ((first | (with_reducible refine jG ?_; first | refine jB rfl rfl rfl rfl ?_ | refine jC rfl rfl rfl rfl rfl ?_) | (with_reducible refine jH ?_; refine ja rfl rfl (jc rfl rfl) ?_) | (with_reducible refine jI ?_; refine ja rfl rfl (je rfl rfl) ?_) | (with_reducible refine jJ ?_; refine ja rfl rfl (jd rfl rfl rfl rfl rfl) ?_) | (with_reducible refine jK ?_; refine ja rfl rfl (jf rfl rfl rfl rfl) ?_) | (with_reducible refine jL ?_; first | refine ja rfl rfl (jy rfl rfl rfl rfl rfl rfl) ?_ | refine ja rfl rfl (jz rfl rfl rfl rfl rfl rfl) ?_) | (with_reducible refine jM ?_; refine ja rfl rfl (jg rfl rfl (by first | exact u24 | exact u31) rfl) ?_)); refine jb (by first | (simp only [setAt]; rfl) | rfl) ?_)))
   rw [show (((partU s : Nat) : Int) == ((partU s : Nat) : Int)) = true by simp]
   (repeat (first | (with_reducible first | refine jh ?_ | refine ji ?_ | refine jl ?_ | refine jm ?_ | refine jn ?_ | refine jo ?_ | refine jp ?_ | refine jq ?_ | refine jr ?_ | refine js ?_ | refine jt ?_ | refine ju ?_ | refine jv ?_ | refine jw ?_) | (with_reducible refine jj ?_; refine jk (by first | (simp only [setAt, enter, List.replicate, List.cons_append, List.nil_append]; rfl) | rfl) ?_) | with_reducible refine jx (by decide) ?_ | (with_reducible refine jD ?_; first | refine jE rfl rfl rfl ?_ | refine jF rfl rfl rfl ?_) | ((first | (with_reducible refine jG ?_; first | refine jB rfl rfl rfl rfl ?_ | refine jC rfl rfl rfl rfl rfl ?_) | (with_reducible refine jH ?_; refine ja rfl rfl (jc rfl rfl) ?_) | (with_reducible refine jI ?_; refine ja rfl rfl (je rfl rfl) ?_) | (with_reducible refine jJ ?_; refine ja rfl rfl (jd rfl rfl rfl rfl rfl) ?_) | (with_reducible refine jK ?_; refine ja rfl rfl (jf rfl rfl rfl rfl) ?_) | (with_reducible refine jL ?_; first | refine ja rfl rfl (jy rfl rfl rfl rfl rfl rfl) ?_ | refine ja rfl rfl (jz rfl rfl rfl rfl rfl rfl) ?_) | (with_reducible refine jM ?_; refine ja rfl rfl (jg rfl rfl (by first | exact u24 | exact u31) rfl) ?_)); refine jb (by first | (simp only [setAt]; rfl) | rfl) ?_)))
   exact EndQ.ret (r := .v (.bool true)) rfl ⟨_, rfl, rfl, rfl, rfl⟩
end Go.Proofs
