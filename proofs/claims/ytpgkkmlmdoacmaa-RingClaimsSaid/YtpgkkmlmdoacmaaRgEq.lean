/- The ring's arrays compared. -/
import Derived.Test.YtpgkkmlmdoacmaaRgTake
set_option linter.unusedVariables false
set_option linter.unusedSimpArgs false
set_option linter.unusedSectionVars false
namespace Go.Tm
theorem pureRun_bind {α β : Type} (P : Program) (f : α → Sem β) : ∀ x : Sem α, pureRun P (x >>= f) = (pureRun P x).bind fun a => pureRun P (f a) := by
 intro x
 induction x with
 | pure a => rfl
 | program k ih => exact ih P
 | _ => rfl
theorem pureRun_pure {α : Type} (P : Program) (a : α) : pureRun P (pure a : Sem α) = some a := rfl
end Go.Tm
namespace Go.Proofs
open Go.Tm
set_option maxRecDepth 100000
theorem eq3 (d : Nat) (a b : Int) : pureRun Kz.P (Op.equalIn (d + 1) 3 (.int .i64 a) (.int .i64 b)) = some (a == b) := by
 unfold Op.equalIn
 rw [pureRun_bind]
 have h : pureRun Kz.P (underlying 3) = some (.int .i64) := by kernel_rfl
 rw [h]
 simp only [Option.bind_some, if_true]
 rfl
theorem eq3' (a b : Int) : pureRun Kz.P (Op.equalIn 9999 3 (.int .i64 a) (.int .i64 b)) = some (a == b) := eq3 9998 a b
theorem arr_eq (a0 a1 a2 a3 a4 a5 a6 a7 b0 b1 b2 b3 b4 b5 b6 b7 : Int) : pureRun Kz.P (Op.equal 23 (.agg #[.int .i64 a0, .int .i64 a1, .int .i64 a2, .int .i64 a3, .int .i64 a4, .int .i64 a5, .int .i64 a6, .int .i64 a7]) (.agg #[.int .i64 b0, .int .i64 b1, .int .i64 b2, .int .i64 b3, .int .i64 b4, .int .i64 b5, .int .i64 b6, .int .i64 b7])) = some (a0 == b0 && (a1 == b1 && (a2 == b2 && (a3 == b3 && (a4 == b4 && (a5 == b5 && (a6 == b6 && a7 == b7))))))) := by
 show pureRun Kz.P (Op.equalIn (9999 + 1) 23 _ _) = _
 unfold Op.equalIn
 rw [pureRun_bind]
 have h : pureRun Kz.P (underlying 23) = some (.array 8 3) := by kernel_rfl
 rw [h]
 simp only [Option.bind_some]
 rw [pureRun_bind]
 have h : pureRun Kz.P (Go.sizeOf 3) = some 1 := by kernel_rfl
 rw [h]
 simp only [Option.bind_some]
 have pa0 : pureRun Kz.P (part 3 #[.int .i64 a0, .int .i64 a1, .int .i64 a2, .int .i64 a3, .int .i64 a4, .int .i64 a5, .int .i64 a6, .int .i64 a7] ((0) * 1)) = some (.int .i64 a0) := by kernel_rfl
 have pa1 : pureRun Kz.P (part 3 #[.int .i64 a0, .int .i64 a1, .int .i64 a2, .int .i64 a3, .int .i64 a4, .int .i64 a5, .int .i64 a6, .int .i64 a7] ((0 + 1) * 1)) = some (.int .i64 a1) := by kernel_rfl
 have pa2 : pureRun Kz.P (part 3 #[.int .i64 a0, .int .i64 a1, .int .i64 a2, .int .i64 a3, .int .i64 a4, .int .i64 a5, .int .i64 a6, .int .i64 a7] ((0 + 1 + 1) * 1)) = some (.int .i64 a2) := by kernel_rfl
 have pa3 : pureRun Kz.P (part 3 #[.int .i64 a0, .int .i64 a1, .int .i64 a2, .int .i64 a3, .int .i64 a4, .int .i64 a5, .int .i64 a6, .int .i64 a7] ((0 + 1 + 1 + 1) * 1)) = some (.int .i64 a3) := by kernel_rfl
 have pa4 : pureRun Kz.P (part 3 #[.int .i64 a0, .int .i64 a1, .int .i64 a2, .int .i64 a3, .int .i64 a4, .int .i64 a5, .int .i64 a6, .int .i64 a7] ((0 + 1 + 1 + 1 + 1) * 1)) = some (.int .i64 a4) := by kernel_rfl
 have pa5 : pureRun Kz.P (part 3 #[.int .i64 a0, .int .i64 a1, .int .i64 a2, .int .i64 a3, .int .i64 a4, .int .i64 a5, .int .i64 a6, .int .i64 a7] ((0 + 1 + 1 + 1 + 1 + 1) * 1)) = some (.int .i64 a5) := by kernel_rfl
 have pa6 : pureRun Kz.P (part 3 #[.int .i64 a0, .int .i64 a1, .int .i64 a2, .int .i64 a3, .int .i64 a4, .int .i64 a5, .int .i64 a6, .int .i64 a7] ((0 + 1 + 1 + 1 + 1 + 1 + 1) * 1)) = some (.int .i64 a6) := by kernel_rfl
 have pa7 : pureRun Kz.P (part 3 #[.int .i64 a0, .int .i64 a1, .int .i64 a2, .int .i64 a3, .int .i64 a4, .int .i64 a5, .int .i64 a6, .int .i64 a7] ((0 + 1 + 1 + 1 + 1 + 1 + 1 + 1) * 1)) = some (.int .i64 a7) := by kernel_rfl
 have pb0 : pureRun Kz.P (part 3 #[.int .i64 b0, .int .i64 b1, .int .i64 b2, .int .i64 b3, .int .i64 b4, .int .i64 b5, .int .i64 b6, .int .i64 b7] ((0) * 1)) = some (.int .i64 b0) := by kernel_rfl
 have pb1 : pureRun Kz.P (part 3 #[.int .i64 b0, .int .i64 b1, .int .i64 b2, .int .i64 b3, .int .i64 b4, .int .i64 b5, .int .i64 b6, .int .i64 b7] ((0 + 1) * 1)) = some (.int .i64 b1) := by kernel_rfl
 have pb2 : pureRun Kz.P (part 3 #[.int .i64 b0, .int .i64 b1, .int .i64 b2, .int .i64 b3, .int .i64 b4, .int .i64 b5, .int .i64 b6, .int .i64 b7] ((0 + 1 + 1) * 1)) = some (.int .i64 b2) := by kernel_rfl
 have pb3 : pureRun Kz.P (part 3 #[.int .i64 b0, .int .i64 b1, .int .i64 b2, .int .i64 b3, .int .i64 b4, .int .i64 b5, .int .i64 b6, .int .i64 b7] ((0 + 1 + 1 + 1) * 1)) = some (.int .i64 b3) := by kernel_rfl
 have pb4 : pureRun Kz.P (part 3 #[.int .i64 b0, .int .i64 b1, .int .i64 b2, .int .i64 b3, .int .i64 b4, .int .i64 b5, .int .i64 b6, .int .i64 b7] ((0 + 1 + 1 + 1 + 1) * 1)) = some (.int .i64 b4) := by kernel_rfl
 have pb5 : pureRun Kz.P (part 3 #[.int .i64 b0, .int .i64 b1, .int .i64 b2, .int .i64 b3, .int .i64 b4, .int .i64 b5, .int .i64 b6, .int .i64 b7] ((0 + 1 + 1 + 1 + 1 + 1) * 1)) = some (.int .i64 b5) := by kernel_rfl
 have pb6 : pureRun Kz.P (part 3 #[.int .i64 b0, .int .i64 b1, .int .i64 b2, .int .i64 b3, .int .i64 b4, .int .i64 b5, .int .i64 b6, .int .i64 b7] ((0 + 1 + 1 + 1 + 1 + 1 + 1) * 1)) = some (.int .i64 b6) := by kernel_rfl
 have pb7 : pureRun Kz.P (part 3 #[.int .i64 b0, .int .i64 b1, .int .i64 b2, .int .i64 b3, .int .i64 b4, .int .i64 b5, .int .i64 b6, .int .i64 b7] ((0 + 1 + 1 + 1 + 1 + 1 + 1 + 1) * 1)) = some (.int .i64 b7) := by kernel_rfl
 simp only [Std.Legacy.Range.forIn_eq_forIn_range', Std.Legacy.Range.size, List.range', Nat.sub_zero, Nat.add_sub_cancel, Nat.div_one, List.forIn_cons, List.forIn_nil]
 simp only [pureRun_bind, pureRun_pure, pa0, pa1, pa2, pa3, pa4, pa5, pa6, pa7, pb0, pb1, pb2, pb3, pb4, pb5, pb6, pb7, eq3', Option.bind_some, Bool.not_true, Bool.false_eq_true, if_false, ite_false]
 generalize (a0 == b0) = t0
 cases t0
 ·rfl
 simp only [pureRun_bind, pureRun_pure, pa0, pa1, pa2, pa3, pa4, pa5, pa6, pa7, pb0, pb1, pb2, pb3, pb4, pb5, pb6, pb7, eq3', Option.bind_some, Bool.not_true, Bool.false_eq_true, if_false, ite_false]
 generalize (a1 == b1) = t1
 cases t1
 ·rfl
 simp only [pureRun_bind, pureRun_pure, pa0, pa1, pa2, pa3, pa4, pa5, pa6, pa7, pb0, pb1, pb2, pb3, pb4, pb5, pb6, pb7, eq3', Option.bind_some, Bool.not_true, Bool.false_eq_true, if_false, ite_false]
 generalize (a2 == b2) = t2
 cases t2
 ·rfl
 simp only [pureRun_bind, pureRun_pure, pa0, pa1, pa2, pa3, pa4, pa5, pa6, pa7, pb0, pb1, pb2, pb3, pb4, pb5, pb6, pb7, eq3', Option.bind_some, Bool.not_true, Bool.false_eq_true, if_false, ite_false]
 generalize (a3 == b3) = t3
 cases t3
 ·rfl
 simp only [pureRun_bind, pureRun_pure, pa0, pa1, pa2, pa3, pa4, pa5, pa6, pa7, pb0, pb1, pb2, pb3, pb4, pb5, pb6, pb7, eq3', Option.bind_some, Bool.not_true, Bool.false_eq_true, if_false, ite_false]
 generalize (a4 == b4) = t4
 cases t4
 ·rfl
 simp only [pureRun_bind, pureRun_pure, pa0, pa1, pa2, pa3, pa4, pa5, pa6, pa7, pb0, pb1, pb2, pb3, pb4, pb5, pb6, pb7, eq3', Option.bind_some, Bool.not_true, Bool.false_eq_true, if_false, ite_false]
 generalize (a5 == b5) = t5
 cases t5
 ·rfl
 simp only [pureRun_bind, pureRun_pure, pa0, pa1, pa2, pa3, pa4, pa5, pa6, pa7, pb0, pb1, pb2, pb3, pb4, pb5, pb6, pb7, eq3', Option.bind_some, Bool.not_true, Bool.false_eq_true, if_false, ite_false]
 generalize (a6 == b6) = t6
 cases t6
 ·rfl
 simp only [pureRun_bind, pureRun_pure, pa0, pa1, pa2, pa3, pa4, pa5, pa6, pa7, pb0, pb1, pb2, pb3, pb4, pb5, pb6, pb7, eq3', Option.bind_some, Bool.not_true, Bool.false_eq_true, if_false, ite_false]
 generalize (a7 == b7) = t7
 cases t7
 ·rfl
 rfl
end Go.Proofs
namespace Go.Proofs
open Go.Tm
set_option maxRecDepth 100000
theorem eight (l : List Int) (h : l.length = 8) : ∃ a b c d e f g i, l = [a, b, c, d, e, f, g, i] := by
 match l, h with
 | [a, b, c, d, e, f, g, i], _ => exact ⟨a, b, c, d, e, f, g, i, rfl⟩
theorem guard_eq (op : BinOp) (hop : op = .eql ∨ op = .neq) (x y : Operand) (a0 a1 a2 a3 a4 a5 a6 a7 b0 b1 b2 b3 b4 b5 b6 b7 : Int) : pureRun Kz.P (eqGuard op 23 x y (.agg #[.int .i64 a0, .int .i64 a1, .int .i64 a2, .int .i64 a3, .int .i64 a4, .int .i64 a5, .int .i64 a6, .int .i64 a7]) (.agg #[.int .i64 b0, .int .i64 b1, .int .i64 b2, .int .i64 b3, .int .i64 b4, .int .i64 b5, .int .i64 b6, .int .i64 b7])) = some () := by
 rcases hop with rfl | rfl <;> rfl
theorem op_eq_arr {f : FuncId} {o : Oper} {R : List AV} {own : Nat → Nat} {H : List AB} {yt : TypeId} {x y : Operand} {a b : List Int} (ha : a.length = 8) (hb : b.length = 8) (ho : o.op = .binOp .eql 23 x y yt) (hx : evalO Kz R x = some (.agg (a.map i64))) (hy : evalO Kz R y = some (.agg (b.map i64))) : aOp Kz f ⟨R, own, H⟩ o [] = some (.val (.v (.bool (decide (a = b)))) own H, [], []) := by
 obtain ⟨a0, a1, a2, a3, a4, a5, a6, a7, rfl⟩ := eight a ha
 obtain ⟨b0, b1, b2, b3, b4, b5, b6, b7, rfl⟩ := eight b hb
 simp only [aOp, ho, hx, hy, aKeepE]
 refine (E.bind_nil (a := AV.v (.bool (decide ([a0, a1, a2, a3, a4, a5, a6, a7] = [b0, b1, b2, b3, b4, b5, b6, b7])))) ?_).trans rfl
 have h : pureRun Kz.P (do eqGuard .eql 23 x y (.agg #[.int .i64 a0, .int .i64 a1, .int .i64 a2, .int .i64 a3, .int .i64 a4, .int .i64 a5, .int .i64 a6, .int .i64 a7]) (.agg #[.int .i64 b0, .int .i64 b1, .int .i64 b2, .int .i64 b3, .int .i64 b4, .int .i64 b5, .int .i64 b6, .int .i64 b7]); binOp .eql 23 (.agg #[.int .i64 a0, .int .i64 a1, .int .i64 a2, .int .i64 a3, .int .i64 a4, .int .i64 a5, .int .i64 a6, .int .i64 a7]) (.agg #[.int .i64 b0, .int .i64 b1, .int .i64 b2, .int .i64 b3, .int .i64 b4, .int .i64 b5, .int .i64 b6, .int .i64 b7])) = some (.bool (decide ([a0, a1, a2, a3, a4, a5, a6, a7] = [b0, b1, b2, b3, b4, b5, b6, b7]))) := by
  rw [pureRun_bind, guard_eq _ (.inl rfl), Option.bind_some]
  refine (pureRun_bind Kz.P (fun r => (pure (Value.bool r) : Sem Value)) (Op.equal 23 _ _)).trans ?_
  rw [arr_eq, Option.bind_some, pureRun_pure]
  congr 2
  rw [Bool.eq_iff_iff]
  simp
 show (match pureRun Kz.P (do eqGuard .eql 23 x y _ _; binOp .eql 23 _ _) with | some r => if flat r then (pure (.v r) : E AV) else E.fail | none => E.fail) [] = _
 rw [show pureRun Kz.P _ = _ from h]
 rfl
theorem op_ne_arr {f : FuncId} {o : Oper} {R : List AV} {own : Nat → Nat} {H : List AB} {yt : TypeId} {x y : Operand} {a b : List Int} (ha : a.length = 8) (hb : b.length = 8) (ho : o.op = .binOp .neq 23 x y yt) (hx : evalO Kz R x = some (.agg (a.map i64))) (hy : evalO Kz R y = some (.agg (b.map i64))) : aOp Kz f ⟨R, own, H⟩ o [] = some (.val (.v (.bool (!decide (a = b)))) own H, [], []) := by
 obtain ⟨a0, a1, a2, a3, a4, a5, a6, a7, rfl⟩ := eight a ha
 obtain ⟨b0, b1, b2, b3, b4, b5, b6, b7, rfl⟩ := eight b hb
 simp only [aOp, ho, hx, hy, aKeepE]
 refine (E.bind_nil (a := AV.v (.bool (!decide ([a0, a1, a2, a3, a4, a5, a6, a7] = [b0, b1, b2, b3, b4, b5, b6, b7])))) ?_).trans rfl
 have h : pureRun Kz.P (do eqGuard .neq 23 x y (.agg #[.int .i64 a0, .int .i64 a1, .int .i64 a2, .int .i64 a3, .int .i64 a4, .int .i64 a5, .int .i64 a6, .int .i64 a7]) (.agg #[.int .i64 b0, .int .i64 b1, .int .i64 b2, .int .i64 b3, .int .i64 b4, .int .i64 b5, .int .i64 b6, .int .i64 b7]); binOp .neq 23 (.agg #[.int .i64 a0, .int .i64 a1, .int .i64 a2, .int .i64 a3, .int .i64 a4, .int .i64 a5, .int .i64 a6, .int .i64 a7]) (.agg #[.int .i64 b0, .int .i64 b1, .int .i64 b2, .int .i64 b3, .int .i64 b4, .int .i64 b5, .int .i64 b6, .int .i64 b7])) = some (.bool (!decide ([a0, a1, a2, a3, a4, a5, a6, a7] = [b0, b1, b2, b3, b4, b5, b6, b7]))) := by
  rw [pureRun_bind, guard_eq _ (.inr rfl), Option.bind_some]
  refine (pureRun_bind Kz.P (fun r => (pure (Value.bool (!r)) : Sem Value)) (Op.equal 23 _ _)).trans ?_
  rw [arr_eq, Option.bind_some, pureRun_pure]
  congr 3
  rw [Bool.eq_iff_iff]
  simp
 show (match pureRun Kz.P (do eqGuard .neq 23 x y _ _; binOp .neq 23 _ _) with | some r => if flat r then (pure (.v r) : E AV) else E.fail | none => E.fail) [] = _
 rw [show pureRun Kz.P _ = _ from h]
 rfl
end Go.Proofs
