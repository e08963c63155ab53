/- Pairs of texts compared: the model's == on a struct of two strings. -/
import Derived.Test.YtfihfpgphipglaaGreatDoorHcNext2
set_option linter.unusedVariables false
set_option linter.unusedSimpArgs false
set_option linter.unusedSectionVars false
namespace Go.Proofs.Hc
open Go.Tm
set_option maxRecDepth 100000
theorem ba_refl (a : ByteArray) : (a == a) = true := by
 show (a.data == a.data) = true
 simp
theorem pureRun_bind {P : Program} {α β : Type} (x : Sem α) (f : α → Sem β) : pureRun P (x >>= f) = (pureRun P x).bind fun a => pureRun P (f a) := by
 induction x with
 | pure a => rfl
 | program k ih => exact ih P
 | _ => rfl
theorem und52 : ∃ f0 f1 : Field, pureRun Tryz.prog (underlying 52) = some (.struct #[f0, f1]) ∧ (f0.name ≠ "_" ∧ f0.type = 9 ∧ f0.offset = 0) ∧ f1.name ≠ "_" ∧ f1.type = 9 ∧ f1.offset = 1 := ⟨_, _, rfl, by decide, by decide⟩
theorem equal9 (a b : ByteArray) (d : Nat) : pureRun Tryz.prog (Op.equalIn (d + 1) 9 (.string a) (.string b)) = some (a == b) := rfl
theorem part0 (a b : ByteArray) : pureRun Tryz.prog (part 9 #[Value.string a, Value.string b] 0) = some (.string a) := by kernel_rfl
theorem part1 (a b : ByteArray) : pureRun Tryz.prog (part 9 #[Value.string a, Value.string b] 1) = some (.string b) := by kernel_rfl
theorem no52 : Tryz.prog.stoodInHeld 52 = false := by kernel_rfl
theorem equal52 (a b : ByteArray) (d : Nat) : pureRun Tryz.prog (Op.equalIn (d + 2) 52 (.agg #[.string a, .string b]) (.agg #[.string a, .string b])) = some true := by
 obtain ⟨f0, f1, h, ⟨n0, t0, o0⟩, n1, t1, o1⟩ := und52
 unfold Op.equalIn
 rw [pureRun_bind, h]
 simp only [Option.bind_some]
 rw [pureRun_bind, show pureRun Tryz.prog program = some Tryz.prog from rfl]
 simp only [Option.bind_some, no52, Bool.false_eq_true, if_false]
 rw [pureRun_bind]
 have e : pureRun Tryz.prog (forIn #[f0, f1] ((none : Option Bool), ()) fun f __s =>
        if f.name ≠ "_" then do
         let __do_lift ← part f.type #[Value.string a, Value.string b] f.offset
         let __do_lift_1 ← part f.type #[Value.string a, Value.string b] f.offset
         let __do_lift ← Op.equalIn (d + 1) f.type __do_lift __do_lift_1
         if (!__do_lift) = true then pure (ForInStep.done (some false, ()))
          else pure (ForInStep.yield (none, ()))
        else pure (ForInStep.yield (none, ()))) = some (none, ()) := by
  rw [← Array.forIn_toList]
  simp only [List.forIn_cons, List.forIn_nil, pureRun_bind, n0, n1, t0, t1, o0, o1, ne_eq, not_false_eq_true, if_true, part0, part1, equal9, Option.bind_some, ba_refl, Bool.not_true, Bool.false_eq_true, if_false]
  simp only [show ∀ (α : Type) (z : α), pureRun Tryz.prog (pure z : Sem α) = some z from fun _ _ => rfl, Option.bind_some, pureRun_bind, part1, equal9, ba_refl, Bool.not_true, Bool.false_eq_true, if_false]
 rw [e]
 rfl
theorem guard52 (p q : Operand) (a b : ByteArray) : pureRun Tryz.prog (eqGuard .neq 52 p q (.agg #[.string a, .string b]) (.agg #[.string a, .string b])) = some () := by kernel_rfl
theorem pair_ne (x : Value) (p q : Operand) (h : Hd) : aBinOp (Kq x) .neq 52 p q (hdV h) (hdV h) [] = some (.v (.bool false), [], []) := by
 have e : pureRun Tryz.prog (do eqGuard .neq 52 p q (.agg ⟨[.string ⟨⟨h.1⟩⟩, .string ⟨⟨h.2⟩⟩]⟩) (.agg ⟨[.string ⟨⟨h.1⟩⟩, .string ⟨⟨h.2⟩⟩]⟩); binOp .neq 52 (.agg ⟨[.string ⟨⟨h.1⟩⟩, .string ⟨⟨h.2⟩⟩]⟩) (.agg ⟨[.string ⟨⟨h.1⟩⟩, .string ⟨⟨h.2⟩⟩]⟩)) = some (.bool false) := by
  rw [pureRun_bind, guard52]
  simp only [Option.bind_some]
  show pureRun Tryz.prog (Op.equal 52 _ _ >>= fun r => pure (Value.bool (!r))) = _
  rw [pureRun_bind]
  unfold Op.equal Op.maxDepth
  rw [equal52 _ _ 9998]
  rfl
 show (match some (Value.agg ⟨[.string ⟨⟨h.1⟩⟩, .string ⟨⟨h.2⟩⟩]⟩), some (Value.agg ⟨[.string ⟨⟨h.1⟩⟩, .string ⟨⟨h.2⟩⟩]⟩) with
   | some a, some b => match pureRun (Kq x).P (do eqGuard .neq 52 p q a b; binOp .neq 52 a b) with
    | some r => if flat r then (pure (.v r) : E AV) else E.fail
    | none => E.fail
   | _, _ => E.fail) [] = _
 simp only
 rw [show pureRun (Kq x).P _ = _ from e]
 rfl
end Go.Proofs.Hc
