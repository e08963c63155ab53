/- HcEq, HcSame, HcSeq, joined. -/
import Derived.Test.YtfihfpgphipglaaGreatDoorHcNext2
set_option linter.unusedVariables false
set_option linter.unusedSimpArgs false
set_option linter.unusedSectionVars false
section
namespace Go.Proofs.Hc
open Go.Tm
set_option maxRecDepth 100000
theorem ba_refl (a : ByteArray) : (a == a) = true := by
 show (a.data == a.data) = true
 simp
theorem pureRun_bind {P : Program} {α β : Type} (x : Sem α) (f : α → Sem β) : pureRun P (x >>= f) = (pureRun P x).bind fun a => pureRun P (f a) := by
 induction x with
 | pure a => rfl
 | program k ih => exact ih P
 | _ => rfl
theorem und52 : ∃ f0 f1 : Field, pureRun Tryz.prog (underlying 52) = some (.struct #[f0, f1]) ∧ (f0.name ≠ "_" ∧ f0.type = 9 ∧ f0.offset = 0) ∧ f1.name ≠ "_" ∧ f1.type = 9 ∧ f1.offset = 1 := ⟨_, _, rfl, by decide, by decide⟩
theorem equal9 (a b : ByteArray) (d : Nat) : pureRun Tryz.prog (Op.equalIn (d + 1) 9 (.string a) (.string b)) = some (a == b) := rfl
theorem part0 (a b : ByteArray) : pureRun Tryz.prog (part 9 #[Value.string a, Value.string b] 0) = some (.string a) := by kernel_rfl
theorem part1 (a b : ByteArray) : pureRun Tryz.prog (part 9 #[Value.string a, Value.string b] 1) = some (.string b) := by kernel_rfl
theorem no52 : Tryz.prog.stoodInHeld 52 = false := by kernel_rfl
theorem equal52 (a b : ByteArray) (d : Nat) : pureRun Tryz.prog (Op.equalIn (d + 2) 52 (.agg #[.string a, .string b]) (.agg #[.string a, .string b])) = some true := by
 obtain ⟨f0, f1, h, ⟨n0, t0, o0⟩, n1, t1, o1⟩ := und52
 unfold Op.equalIn
 rw [pureRun_bind, h]
 simp only [Option.bind_some]
 rw [pureRun_bind, show pureRun Tryz.prog program = some Tryz.prog from rfl]
 simp only [Option.bind_some, no52, Bool.false_eq_true, if_false]
 rw [pureRun_bind]
 have e : pureRun Tryz.prog (forIn #[f0, f1] ((none : Option Bool), ()) fun f __s =>
        if f.name ≠ "_" then do
         let __do_lift ← part f.type #[Value.string a, Value.string b] f.offset
         let __do_lift_1 ← part f.type #[Value.string a, Value.string b] f.offset
         let __do_lift ← Op.equalIn (d + 1) f.type __do_lift __do_lift_1
         if (!__do_lift) = true then pure (ForInStep.done (some false, ()))
          else pure (ForInStep.yield (none, ()))
        else pure (ForInStep.yield (none, ()))) = some (none, ()) := by
  rw [← Array.forIn_toList]
  simp only [List.forIn_cons, List.forIn_nil, pureRun_bind, n0, n1, t0, t1, o0, o1, ne_eq, not_false_eq_true, if_true, part0, part1, equal9, Option.bind_some, ba_refl, Bool.not_true, Bool.false_eq_true, if_false]
  simp only [show ∀ (α : Type) (z : α), pureRun Tryz.prog (pure z : Sem α) = some z from fun _ _ => rfl, Option.bind_some, pureRun_bind, part1, equal9, ba_refl, Bool.not_true, Bool.false_eq_true, if_false]
 rw [e]
 rfl
theorem guard52 (p q : Operand) (a b : ByteArray) : pureRun Tryz.prog (eqGuard .neq 52 p q (.agg #[.string a, .string b]) (.agg #[.string a, .string b])) = some () := by kernel_rfl
theorem pair_ne (x : Value) (p q : Operand) (h : Hd) : aBinOp (Kq x) .neq 52 p q (hdV h) (hdV h) [] = some (.v (.bool false), [], []) := by
 have e : pureRun Tryz.prog (do eqGuard .neq 52 p q (.agg ⟨[.string ⟨⟨h.1⟩⟩, .string ⟨⟨h.2⟩⟩]⟩) (.agg ⟨[.string ⟨⟨h.1⟩⟩, .string ⟨⟨h.2⟩⟩]⟩); binOp .neq 52 (.agg ⟨[.string ⟨⟨h.1⟩⟩, .string ⟨⟨h.2⟩⟩]⟩) (.agg ⟨[.string ⟨⟨h.1⟩⟩, .string ⟨⟨h.2⟩⟩]⟩)) = some (.bool false) := by
  rw [pureRun_bind, guard52]
  simp only [Option.bind_some]
  show pureRun Tryz.prog (Op.equal 52 _ _ >>= fun r => pure (Value.bool (!r))) = _
  rw [pureRun_bind]
  unfold Op.equal Op.maxDepth
  rw [equal52 _ _ 9998]
  rfl
 show (match some (Value.agg ⟨[.string ⟨⟨h.1⟩⟩, .string ⟨⟨h.2⟩⟩]⟩), some (Value.agg ⟨[.string ⟨⟨h.1⟩⟩, .string ⟨⟨h.2⟩⟩]⟩) with
   | some a, some b => match pureRun (Kq x).P (do eqGuard .neq 52 p q a b; binOp .neq 52 a b) with
    | some r => if flat r then (pure (.v r) : E AV) else E.fail
    | none => E.fail
   | _, _ => E.fail) [] = _
 simp only
 rw [show pureRun (Kq x).P _ = _ from e]
 rfl
end Go.Proofs.Hc
end
section
namespace Go.Proofs.Hc
open Go.Tm
set_option maxRecDepth 100000
section
variable {x : Value}
theorem closed_hds (l : List Hd) : AV.closedL (l.map hdV) = true := closed_hd l
theorem ne_str (s : Bs) : (!(s == s)) = false := by simp
theorem ne_int (n : Int) : (n != n) = false := by simp
set_option maxHeartbeats 1500000 in
theorem pairs_tells (l : List Hd) (tl : Tail) (htl : tl.un = tl) (hl : l.length < 4294967281) (H : List AB) : Tells (Kq x) 22 [.sl (l.map hdV) tl, .sl (l.map hdV) tl] H fun r H' => H' = H ∧ r = .v (.bool true) := by
 refine Tells.vals (c := _) Tryz.func22 rfl (args' := [.sl (l.map hdV) tl, .sl (l.map hdV) tl]) (m := 24) (by simp only [List.map, unown_sl, htl]) rfl rfl rfl rfl ?_
 (repeat (first|(with_reducible first|apply jA|apply jC|apply jD|apply jE|apply jF|apply jG|apply jH|apply jI|apply jJ|apply jK|apply jL|apply jM|apply jN|apply jO)|(with_reducible apply SeqQ.id;refine SeqQ.norm (by first|(simp only [j0];rfl)|rfl) ?_)|with_reducible refine jP (by decide) ?_|(with_reducible apply jQ;first|refine jR rfl rfl rfl ?_|refine jS rfl rfl rfl ?_)|((first|((with_reducible first|apply jm|apply jn|apply jb|apply ju);repeat rfl)|((with_reducible apply jy);iterate 3 rfl)|((with_reducible apply jz);iterate 3 rfl)|((with_reducible apply jp);iterate 5 rfl)|((with_reducible apply jq);iterate 5 rfl)|((with_reducible apply jl);(with_reducible first|exact u28|exact u29);rfl));refine jT (by first|(simp only [j0];rfl)|rfl) ?_)))
 rw [show (((l.map hdV).length : Int) != ((l.map hdV).length : Int)) = false from ne_int _]
 (repeat (first|(with_reducible first|apply jA|apply jC|apply jD|apply jE|apply jF|apply jG|apply jH|apply jI|apply jJ|apply jK|apply jL|apply jM|apply jN|apply jO)|(with_reducible apply SeqQ.id;refine SeqQ.norm (by first|(simp only [j0];rfl)|rfl) ?_)|with_reducible refine jP (by decide) ?_|(with_reducible apply jQ;first|refine jR rfl rfl rfl ?_|refine jS rfl rfl rfl ?_)|((first|((with_reducible first|apply jm|apply jn|apply jb|apply ju);repeat rfl)|((with_reducible apply jy);iterate 3 rfl)|((with_reducible apply jz);iterate 3 rfl)|((with_reducible apply jp);iterate 5 rfl)|((with_reducible apply jq);iterate 5 rfl)|((with_reducible apply jl);(with_reducible first|exact u28|exact u29);rfl));refine jT (by first|(simp only [j0];rfl)|rfl) ?_)))
 refine Wc.inv (fun m st => ∃ i : Nat, m = l.length - i ∧ i ≤ l.length ∧ ∃ d : Nat → AV, st.regs = (.sl (l.map hdV) tl :: .sl (l.map hdV) tl :: d 2 :: d 3 :: .v (.bool false) :: i64v i :: d 6 :: d 7 :: d 8 :: d 9 :: d 10 :: d 11 :: d 12 :: d 13 :: d 14 :: d 15 :: d 16 :: d 17 :: d 18 :: d 19 :: d 20 :: d 21 :: d 22 :: d 23 :: d 24 :: d 25 :: [])) l.length ?_ ?_
 ·exact ⟨0, by omega, by omega, dead_of rfl⟩
 ·rintro m regs own H1 ⟨i, rfl, hi, d, rfl⟩
  (repeat (first|(with_reducible first|apply jA|apply jC|apply jD|apply jE|apply jF|apply jG|apply jH|apply jI|apply jJ|apply jK|apply jL|apply jM|apply jN|apply jO)|(with_reducible apply SeqQ.id;refine SeqQ.norm (by first|(simp only [j0];rfl)|rfl) ?_)|with_reducible refine jP (by decide) ?_|(with_reducible apply jQ;first|refine jR rfl rfl rfl ?_|refine jS rfl rfl rfl ?_)|((first|((with_reducible first|apply jm|apply jn|apply jb|apply ju);repeat rfl)|((with_reducible apply jy);iterate 3 rfl)|((with_reducible apply jz);iterate 3 rfl)|((with_reducible apply jp);iterate 5 rfl)|((with_reducible apply jq);iterate 5 rfl)|((with_reducible apply jl);(with_reducible first|exact u28|exact u29);rfl));refine jT (by first|(simp only [j0];rfl)|rfl) ?_)))
  by_cases hlt : i < l.length
  ·have hget : (l.map hdV)[i]? = some (hdV l[i]) := by simp [List.getElem?_eq_getElem hlt]
   rw [show decide ((i : Int) < (((l.map hdV).length : Nat) : Int)) = true by simp; omega]
   (repeat (first|(with_reducible first|apply jA|apply jC|apply jD|apply jE|apply jF|apply jG|apply jH|apply jI|apply jJ|apply jK|apply jL|apply jM|apply jN|apply jO)|(with_reducible apply SeqQ.id;refine SeqQ.norm (by first|(simp only [j0];rfl)|rfl) ?_)|with_reducible refine jP (by decide) ?_|(with_reducible apply jQ;first|refine jR rfl rfl rfl ?_|refine jS rfl rfl rfl ?_)|((first|((with_reducible first|apply jm|apply jn|apply jb|apply ju);repeat rfl)|((with_reducible apply jy);iterate 3 rfl)|((with_reducible apply jz);iterate 3 rfl)|((with_reducible apply jp);iterate 5 rfl)|((with_reducible apply jq);iterate 5 rfl)|((with_reducible apply jl);(with_reducible first|exact u28|exact u29);rfl));refine jT (by first|(simp only [j0];rfl)|rfl) ?_)))
   refine Wc.drawnX rfl [] [] (by kernel_rfl) ?_
   (refine WdX.val rfl (.inl rfl) rfl rfl rfl (op_move rfl rfl) rfl ?_; refine WdX.norm (by first | (simp only [setAt]; rfl) | rfl) ?_)
   (refine WdX.val rfl (.inl rfl) rfl rfl rfl (op_move rfl rfl) rfl ?_; refine WdX.norm (by first | (simp only [setAt]; rfl) | rfl) ?_)
   refine WdX.val rfl (.inl rfl) rfl rfl rfl (op_indexAddr_sl (sz := 1) (j := i) (el := hdV l[i]) rfl rfl u29 sz52 rfl rfl rfl hget rfl) rfl ?_
   refine WdX.norm (by first | (simp only [setAt]; rfl) | rfl) ?_
   refine WdX.val rfl (.inl rfl) rfl rfl rfl (op_load_rp rfl rfl (tv52 _ _)) rfl ?_
   refine WdX.norm (by first | (simp only [setAt]; rfl) | rfl) ?_
   (refine WdX.val rfl (.inl rfl) rfl rfl rfl (op_move rfl rfl) rfl ?_; refine WdX.norm (by first | (simp only [setAt]; rfl) | rfl) ?_)
   (refine WdX.val rfl (.inl rfl) rfl rfl rfl (op_move rfl rfl) rfl ?_; refine WdX.norm (by first | (simp only [setAt]; rfl) | rfl) ?_)
   refine WdX.val rfl (.inl rfl) rfl rfl rfl (op_indexAddr_sl (sz := 1) (j := i) (el := hdV l[i]) rfl rfl u29 sz52 rfl rfl rfl hget rfl) rfl ?_
   refine WdX.norm (by first | (simp only [setAt]; rfl) | rfl) ?_
   refine WdX.val rfl (.inl rfl) rfl rfl rfl (op_load_rp rfl rfl (tv52 _ _)) rfl ?_
   refine WdX.norm (by first | (simp only [setAt]; rfl) | rfl) ?_
   refine WdX.val rfl (.inl rfl) rfl rfl rfl (op_binv rfl rfl rfl (pair_ne x _ _ l[i])) rfl ?_
   refine WdX.norm (by first | (simp only [setAt]; rfl) | rfl) ?_
   refine WdX.nil ?_
   (repeat (first|(with_reducible first|apply jA|apply jC|apply jD|apply jE|apply jF|apply jG|apply jH|apply jI|apply jJ|apply jK|apply jL|apply jM|apply jN|apply jO)|(with_reducible apply SeqQ.id;refine SeqQ.norm (by first|(simp only [j0];rfl)|rfl) ?_)|with_reducible refine jP (by decide) ?_|(with_reducible apply jQ;first|refine jR rfl rfl rfl ?_|refine jS rfl rfl rfl ?_)|((first|((with_reducible first|apply jm|apply jn|apply jb|apply ju);repeat rfl)|((with_reducible apply jy);iterate 3 rfl)|((with_reducible apply jz);iterate 3 rfl)|((with_reducible apply jp);iterate 5 rfl)|((with_reducible apply jq);iterate 5 rfl)|((with_reducible apply jl);(with_reducible first|exact u28|exact u29);rfl));refine jT (by first|(simp only [j0];rfl)|rfl) ?_)))
   rw [wrap1 (by omega)]
   (repeat (first|(with_reducible first|apply jA|apply jC|apply jD|apply jE|apply jF|apply jG|apply jH|apply jI|apply jJ|apply jK|apply jL|apply jM|apply jN|apply jO)|(with_reducible apply SeqQ.id;refine SeqQ.norm (by first|(simp only [j0];rfl)|rfl) ?_)|with_reducible refine jP (by decide) ?_|(with_reducible apply jQ;first|refine jR rfl rfl rfl ?_|refine jS rfl rfl rfl ?_)|((first|((with_reducible first|apply jm|apply jn|apply jb|apply ju);repeat rfl)|((with_reducible apply jy);iterate 3 rfl)|((with_reducible apply jz);iterate 3 rfl)|((with_reducible apply jp);iterate 5 rfl)|((with_reducible apply jq);iterate 5 rfl)|((with_reducible apply jl);(with_reducible first|exact u28|exact u29);rfl));refine jT (by first|(simp only [j0];rfl)|rfl) ?_)))
   exact LoopQ.normal (l.length - (i + 1)) (by omega) ⟨i + 1, rfl, by omega, dead_of rfl⟩
  ·rw [show decide ((i : Int) < (((l.map hdV).length : Nat) : Int)) = false by simp; omega]
   (repeat (first|(with_reducible first|apply jA|apply jC|apply jD|apply jE|apply jF|apply jG|apply jH|apply jI|apply jJ|apply jK|apply jL|apply jM|apply jN|apply jO)|(with_reducible apply SeqQ.id;refine SeqQ.norm (by first|(simp only [j0];rfl)|rfl) ?_)|with_reducible refine jP (by decide) ?_|(with_reducible apply jQ;first|refine jR rfl rfl rfl ?_|refine jS rfl rfl rfl ?_)|((first|((with_reducible first|apply jm|apply jn|apply jb|apply ju);repeat rfl)|((with_reducible apply jy);iterate 3 rfl)|((with_reducible apply jz);iterate 3 rfl)|((with_reducible apply jp);iterate 5 rfl)|((with_reducible apply jq);iterate 5 rfl)|((with_reducible apply jl);(with_reducible first|exact u28|exact u29);rfl));refine jT (by first|(simp only [j0];rfl)|rfl) ?_)))
   exact EndQ.ret rfl ⟨_, rfl, rfl, rfl, rfl⟩
theorem ld31 (a b c d e : AV) : (takeVar (Kq x).P 9 ([a, b, c, d, e].drop 0) = some a ∧ takeVar (Kq x).P 28 ([a, b, c, d, e].drop 1) = some b) ∧ takeVar (Kq x).P 29 ([a, b, c, d, e].drop 2) = some c ∧ takeVar (Kq x).P 29 ([a, b, c, d, e].drop 3) = some d ∧ takeVar (Kq x).P 9 ([a, b, c, d, e].drop 4) = some e := ⟨⟨take_one ag9 sz9, take_one ag28 sz28⟩, take_one ag29 sz29, take_one ag29 sz29, take_one ag9 sz9⟩
set_option maxHeartbeats 4000000 in
theorem same_tells (f : First) (hs : List Hd) (tl : Tail) (bd : Bs) (htl : tl.un = tl) (h1 : f.path.length < 4294967281) (h2 : f.query.length < 4294967281) (h3 : hs.length < 4294967281) (H : List AB) : Tells (Kq x) 9 [callV f hs tl bd, callV f hs tl bd] H fun r H' => H' = H ∧ r = .v (.bool true) := by
 refine Tells.vals (c := _) Tryz.func9 rfl (args' := [callV f hs tl bd, callV f hs tl bd]) (m := 57) rfl rfl rfl rfl rfl ?_
 (repeat (first|(with_reducible first|apply jA|apply jC|apply jD|apply jE|apply jF|apply jG|apply jH|apply jI|apply jJ|apply jK|apply jL|apply jM|apply jN|apply jO)|(with_reducible apply SeqQ.id;refine SeqQ.norm (by first|(simp only [j0];rfl)|rfl) ?_)|with_reducible refine jP (by decide) ?_|(with_reducible apply jQ;first|refine jR rfl rfl rfl ?_|refine jS rfl rfl rfl ?_)|((first|((with_reducible first|apply jm|apply jn|apply jb|apply ju);repeat rfl)|((with_reducible apply jy);iterate 3 rfl)|((with_reducible apply jz);iterate 3 rfl)|((with_reducible apply jp);iterate 5 rfl)|((with_reducible apply jq);iterate 5 rfl)|((with_reducible apply jl);(with_reducible first|exact u28|exact u29);rfl));refine jT (by first|(simp only [j0];rfl)|rfl) ?_)))
 refine Wo.doVal rfl rfl (op_box rfl rfl rfl) ?_
 refine Wo.doVal rfl rfl (op_box rfl rfl rfl) ?_
 (repeat (first|(with_reducible first|apply jA|apply jC|apply jD|apply jE|apply jF|apply jG|apply jH|apply jI|apply jJ|apply jK|apply jL|apply jM|apply jN|apply jO)|(with_reducible apply SeqQ.id;refine SeqQ.norm (by first|(simp only [j0];rfl)|rfl) ?_)|with_reducible refine jP (by decide) ?_|(with_reducible apply jQ;first|refine jR rfl rfl rfl ?_|refine jS rfl rfl rfl ?_)|((first|((with_reducible first|apply jm|apply jn|apply jb|apply ju);repeat rfl)|((with_reducible apply jy);iterate 3 rfl)|((with_reducible apply jz);iterate 3 rfl)|((with_reducible apply jp);iterate 5 rfl)|((with_reducible apply jq);iterate 5 rfl)|((with_reducible apply jl);(with_reducible first|exact u28|exact u29);rfl));refine jT (by first|(simp only [j0];rfl)|rfl) ?_)))
 have e0 : nth ([] ++ [AB.cells (31, true) (callV f hs tl bd).unown.cells] ++ [AB.cells (31, true) (callV f hs tl bd).unown.cells]) 0 = some (.cells (31, true) (callCells f hs tl bd)) := rfl
 have e1 : nth ([] ++ [AB.cells (31, true) (callV f hs tl bd).unown.cells] ++ [AB.cells (31, true) (callV f hs tl bd).unown.cells]) 1 = some (.cells (31, true) (callCells f hs tl bd)) := rfl
 generalize ([] ++ [AB.cells (31, true) (callV f hs tl bd).unown.cells] ++ [AB.cells (31, true) (callV f hs tl bd).unown.cells]) = H0 at *
 unfold callCells at e0 e1
 refine Wo.doVal rfl rfl (op_fieldAddr rfl rfl (fb31 0).1.1) ?_
 refine Wo.doVal rfl rfl (op_load_ptr rfl rfl e0 (ld31 _ _ _ _ _).1.1) ?_
 refine Wo.doVal rfl rfl (op_fieldAddr rfl rfl (fb31 1).1.1) ?_
 refine Wo.doVal rfl rfl (op_load_ptr rfl rfl e1 (ld31 _ _ _ _ _).1.1) ?_
 refine Wo.doVal rfl rfl (op_bin_str (r := .v (.bool (!(f.method == f.method)))) rfl rfl rfl rfl) ?_
 rw [ne_str]
 (repeat (first|(with_reducible first|apply jA|apply jC|apply jD|apply jE|apply jF|apply jG|apply jH|apply jI|apply jJ|apply jK|apply jL|apply jM|apply jN|apply jO)|(with_reducible apply SeqQ.id;refine SeqQ.norm (by first|(simp only [j0];rfl)|rfl) ?_)|with_reducible refine jP (by decide) ?_|(with_reducible apply jQ;first|refine jR rfl rfl rfl ?_|refine jS rfl rfl rfl ?_)|((first|((with_reducible first|apply jm|apply jn|apply jb|apply ju);repeat rfl)|((with_reducible apply jy);iterate 3 rfl)|((with_reducible apply jz);iterate 3 rfl)|((with_reducible apply jp);iterate 5 rfl)|((with_reducible apply jq);iterate 5 rfl)|((with_reducible apply jl);(with_reducible first|exact u28|exact u29);rfl));refine jT (by first|(simp only [j0];rfl)|rfl) ?_)))
 refine Wo.doVal rfl rfl (op_fieldAddr rfl rfl (fb31 0).2.2.2) ?_
 refine Wo.yes rfl rfl rfl rfl ?_
 refine Wo.doVal rfl rfl (op_load_ptr rfl rfl e0 (ld31 _ _ _ _ _).2.2.2) ?_
 refine Wo.yes rfl rfl rfl rfl ?_
 refine Wo.doVal rfl rfl (op_fieldAddr rfl rfl (fb31 1).2.2.2) ?_
 refine Wo.yes rfl rfl rfl rfl ?_
 refine Wo.doVal rfl rfl (op_load_ptr rfl rfl e1 (ld31 _ _ _ _ _).2.2.2) ?_
 refine Wo.yes rfl rfl rfl rfl ?_
 refine Wo.doVal rfl rfl (op_bin_str (r := .v (.bool (!(bd == bd)))) rfl rfl rfl rfl) ?_
 rw [ne_str]
 (repeat (first|(with_reducible first|apply jA|apply jC|apply jD|apply jE|apply jF|apply jG|apply jH|apply jI|apply jJ|apply jK|apply jL|apply jM|apply jN|apply jO)|(with_reducible apply SeqQ.id;refine SeqQ.norm (by first|(simp only [j0];rfl)|rfl) ?_)|with_reducible refine jP (by decide) ?_|(with_reducible apply jQ;first|refine jR rfl rfl rfl ?_|refine jS rfl rfl rfl ?_)|((first|((with_reducible first|apply jm|apply jn|apply jb|apply ju);repeat rfl)|((with_reducible apply jy);iterate 3 rfl)|((with_reducible apply jz);iterate 3 rfl)|((with_reducible apply jp);iterate 5 rfl)|((with_reducible apply jq);iterate 5 rfl)|((with_reducible apply jl);(with_reducible first|exact u28|exact u29);rfl));refine jT (by first|(simp only [j0];rfl)|rfl) ?_)))
 refine Wo.doVal rfl rfl (op_fieldAddr rfl rfl (fb31 0).1.2) ?_
 refine Wo.yes rfl rfl rfl rfl ?_
 refine Wo.doVal rfl rfl (op_load_ptr rfl rfl e0 (ld31 _ _ _ _ _).1.2) ?_
 rw [unown_sl, outTl_un]
 (repeat (first|(with_reducible first|apply jA|apply jC|apply jD|apply jE|apply jF|apply jG|apply jH|apply jI|apply jJ|apply jK|apply jL|apply jM|apply jN|apply jO)|(with_reducible apply SeqQ.id;refine SeqQ.norm (by first|(simp only [j0];rfl)|rfl) ?_)|with_reducible refine jP (by decide) ?_|(with_reducible apply jQ;first|refine jR rfl rfl rfl ?_|refine jS rfl rfl rfl ?_)|((first|((with_reducible first|apply jm|apply jn|apply jb|apply ju);repeat rfl)|((with_reducible apply jy);iterate 3 rfl)|((with_reducible apply jz);iterate 3 rfl)|((with_reducible apply jp);iterate 5 rfl)|((with_reducible apply jq);iterate 5 rfl)|((with_reducible apply jl);(with_reducible first|exact u28|exact u29);rfl));refine jT (by first|(simp only [j0];rfl)|rfl) ?_)))
 refine Wo.doVal rfl rfl (op_fieldAddr rfl rfl (fb31 1).1.2) ?_
 refine Wo.yes rfl rfl rfl rfl ?_
 refine Wo.doVal rfl rfl (op_load_ptr rfl rfl e1 (ld31 _ _ _ _ _).1.2) ?_
 rw [unown_sl, outTl_un]
 (repeat (first|(with_reducible first|apply jA|apply jC|apply jD|apply jE|apply jF|apply jG|apply jH|apply jI|apply jJ|apply jK|apply jL|apply jM|apply jN|apply jO)|(with_reducible apply SeqQ.id;refine SeqQ.norm (by first|(simp only [j0];rfl)|rfl) ?_)|with_reducible refine jP (by decide) ?_|(with_reducible apply jQ;first|refine jR rfl rfl rfl ?_|refine jS rfl rfl rfl ?_)|((first|((with_reducible first|apply jm|apply jn|apply jb|apply ju);repeat rfl)|((with_reducible apply jy);iterate 3 rfl)|((with_reducible apply jz);iterate 3 rfl)|((with_reducible apply jp);iterate 5 rfl)|((with_reducible apply jq);iterate 5 rfl)|((with_reducible apply jl);(with_reducible first|exact u28|exact u29);rfl));refine jT (by first|(simp only [j0];rfl)|rfl) ?_)))
 rw [show (((f.path.map AV.str).length : Int) != ((f.path.map AV.str).length : Int)) = false from ne_int _]
 (repeat (first|(with_reducible first|apply jA|apply jC|apply jD|apply jE|apply jF|apply jG|apply jH|apply jI|apply jJ|apply jK|apply jL|apply jM|apply jN|apply jO)|(with_reducible apply SeqQ.id;refine SeqQ.norm (by first|(simp only [j0];rfl)|rfl) ?_)|with_reducible refine jP (by decide) ?_|(with_reducible apply jQ;first|refine jR rfl rfl rfl ?_|refine jS rfl rfl rfl ?_)|((first|((with_reducible first|apply jm|apply jn|apply jb|apply ju);repeat rfl)|((with_reducible apply jy);iterate 3 rfl)|((with_reducible apply jz);iterate 3 rfl)|((with_reducible apply jp);iterate 5 rfl)|((with_reducible apply jq);iterate 5 rfl)|((with_reducible apply jl);(with_reducible first|exact u28|exact u29);rfl));refine jT (by first|(simp only [j0];rfl)|rfl) ?_)))
 refine Wc.inv (fun m st => ∃ i : Nat, m = f.path.length - i ∧ i ≤ f.path.length ∧ st.H = H0 ∧ ∃ d : Nat → AV, st.regs = (d 0 :: d 1 :: .ptr 0 0 :: .ptr 1 0 :: .v (.bool false) :: i64v i :: d 6 :: d 7 :: d 8 :: d 9 :: d 10 :: d 11 :: d 12 :: d 13 :: d 14 :: d 15 :: d 16 :: d 17 :: d 18 :: d 19 :: d 20 :: d 21 :: d 22 :: d 23 :: d 24 :: d 25 :: d 26 :: d 27 :: d 28 :: d 29 :: d 30 :: d 31 :: d 32 :: d 33 :: d 34 :: d 35 :: d 36 :: d 37 :: d 38 :: d 39 :: d 40 :: d 41 :: d 42 :: d 43 :: d 44 :: d 45 :: d 46 :: d 47 :: d 48 :: d 49 :: d 50 :: d 51 :: d 52 :: d 53 :: d 54 :: d 55 :: d 56 :: d 57 :: d 58 :: [])) f.path.length ?_ ?_
 ·exact ⟨0, by omega, by omega, rfl, dead_of rfl⟩
 ·rintro m regs own H1 ⟨i, rfl, hi, rfl, d, rfl⟩
  (repeat (first|(with_reducible first|apply jA|apply jC|apply jD|apply jE|apply jF|apply jG|apply jH|apply jI|apply jJ|apply jK|apply jL|apply jM|apply jN|apply jO)|(with_reducible apply SeqQ.id;refine SeqQ.norm (by first|(simp only [j0];rfl)|rfl) ?_)|with_reducible refine jP (by decide) ?_|(with_reducible apply jQ;first|refine jR rfl rfl rfl ?_|refine jS rfl rfl rfl ?_)|((first|((with_reducible first|apply jm|apply jn|apply jb|apply ju);repeat rfl)|((with_reducible apply jy);iterate 3 rfl)|((with_reducible apply jz);iterate 3 rfl)|((with_reducible apply jp);iterate 5 rfl)|((with_reducible apply jq);iterate 5 rfl)|((with_reducible apply jl);(with_reducible first|exact u28|exact u29);rfl));refine jT (by first|(simp only [j0];rfl)|rfl) ?_)))
  refine Wo.doVal rfl rfl (op_fieldAddr rfl rfl (fb31 0).1.2) ?_
  refine Wo.doVal rfl rfl (op_load_ptr rfl rfl e0 (ld31 _ _ _ _ _).1.2) ?_
  rw [unown_sl, outTl_un]
  (repeat (first|(with_reducible first|apply jA|apply jC|apply jD|apply jE|apply jF|apply jG|apply jH|apply jI|apply jJ|apply jK|apply jL|apply jM|apply jN|apply jO)|(with_reducible apply SeqQ.id;refine SeqQ.norm (by first|(simp only [j0];rfl)|rfl) ?_)|with_reducible refine jP (by decide) ?_|(with_reducible apply jQ;first|refine jR rfl rfl rfl ?_|refine jS rfl rfl rfl ?_)|((first|((with_reducible first|apply jm|apply jn|apply jb|apply ju);repeat rfl)|((with_reducible apply jy);iterate 3 rfl)|((with_reducible apply jz);iterate 3 rfl)|((with_reducible apply jp);iterate 5 rfl)|((with_reducible apply jq);iterate 5 rfl)|((with_reducible apply jl);(with_reducible first|exact u28|exact u29);rfl));refine jT (by first|(simp only [j0];rfl)|rfl) ?_)))
  by_cases hlt : i < f.path.length
  ·have hget : (f.path.map AV.str)[i]? = some (.str f.path[i]) := by simp [List.getElem?_eq_getElem hlt]
   rw [show decide ((i : Int) < (((f.path.map AV.str).length : Nat) : Int)) = true by simp; omega]
   (repeat (first|(with_reducible first|apply jA|apply jC|apply jD|apply jE|apply jF|apply jG|apply jH|apply jI|apply jJ|apply jK|apply jL|apply jM|apply jN|apply jO)|(with_reducible apply SeqQ.id;refine SeqQ.norm (by first|(simp only [j0];rfl)|rfl) ?_)|with_reducible refine jP (by decide) ?_|(with_reducible apply jQ;first|refine jR rfl rfl rfl ?_|refine jS rfl rfl rfl ?_)|((first|((with_reducible first|apply jm|apply jn|apply jb|apply ju);repeat rfl)|((with_reducible apply jy);iterate 3 rfl)|((with_reducible apply jz);iterate 3 rfl)|((with_reducible apply jp);iterate 5 rfl)|((with_reducible apply jq);iterate 5 rfl)|((with_reducible apply jl);(with_reducible first|exact u28|exact u29);rfl));refine jT (by first|(simp only [j0];rfl)|rfl) ?_)))
   refine Wc.drawnX rfl [] [] (by kernel_rfl) ?_
   refine WdX.val rfl (.inl rfl) rfl rfl rfl (op_fieldAddr rfl rfl (fb31 0).1.2) rfl ?_
   refine WdX.norm (by first | (simp only [setAt]; rfl) | rfl) ?_
   refine WdX.val rfl (.inl rfl) rfl rfl rfl (op_load_ptr rfl rfl e0 (ld31 _ _ _ _ _).1.2) rfl ?_
   rw [unown_sl, outTl_un]
   refine WdX.norm (by first | (simp only [setAt]; rfl) | rfl) ?_
   (refine WdX.val rfl (.inl rfl) rfl rfl rfl (op_move rfl rfl) rfl ?_; refine WdX.norm (by first | (simp only [setAt]; rfl) | rfl) ?_)
   refine WdX.val rfl (.inl rfl) rfl rfl rfl (op_indexAddr_sl (sz := 0) (j := i) (el := .str f.path[i]) rfl rfl u28 sz9 rfl rfl rfl hget rfl) rfl ?_
   refine WdX.norm (by first | (simp only [setAt]; rfl) | rfl) ?_
   refine WdX.val rfl (.inl rfl) rfl rfl rfl (op_load_rp rfl rfl (take_one ag9 sz9)) rfl ?_
   refine WdX.norm (by first | (simp only [setAt]; rfl) | rfl) ?_
   refine WdX.val rfl (.inl rfl) rfl rfl rfl (op_fieldAddr rfl rfl (fb31 1).1.2) rfl ?_
   refine WdX.norm (by first | (simp only [setAt]; rfl) | rfl) ?_
   refine WdX.val rfl (.inl rfl) rfl rfl rfl (op_load_ptr rfl rfl e1 (ld31 _ _ _ _ _).1.2) rfl ?_
   rw [unown_sl, outTl_un]
   refine WdX.norm (by first | (simp only [setAt]; rfl) | rfl) ?_
   (refine WdX.val rfl (.inl rfl) rfl rfl rfl (op_move rfl rfl) rfl ?_; refine WdX.norm (by first | (simp only [setAt]; rfl) | rfl) ?_)
   refine WdX.val rfl (.inl rfl) rfl rfl rfl (op_indexAddr_sl (sz := 0) (j := i) (el := .str f.path[i]) rfl rfl u28 sz9 rfl rfl rfl hget rfl) rfl ?_
   refine WdX.norm (by first | (simp only [setAt]; rfl) | rfl) ?_
   refine WdX.val rfl (.inl rfl) rfl rfl rfl (op_load_rp rfl rfl (take_one ag9 sz9)) rfl ?_
   refine WdX.norm (by first | (simp only [setAt]; rfl) | rfl) ?_
   refine WdX.val rfl (.inl rfl) rfl rfl rfl (op_bin_str (r := .v (.bool (!(f.path[i] == f.path[i])))) rfl rfl rfl rfl) rfl ?_
   rw [ne_str]
   refine WdX.norm (by first | (simp only [setAt]; rfl) | rfl) ?_
   refine WdX.nil ?_
   (repeat (first|(with_reducible first|apply jA|apply jC|apply jD|apply jE|apply jF|apply jG|apply jH|apply jI|apply jJ|apply jK|apply jL|apply jM|apply jN|apply jO)|(with_reducible apply SeqQ.id;refine SeqQ.norm (by first|(simp only [j0];rfl)|rfl) ?_)|with_reducible refine jP (by decide) ?_|(with_reducible apply jQ;first|refine jR rfl rfl rfl ?_|refine jS rfl rfl rfl ?_)|((first|((with_reducible first|apply jm|apply jn|apply jb|apply ju);repeat rfl)|((with_reducible apply jy);iterate 3 rfl)|((with_reducible apply jz);iterate 3 rfl)|((with_reducible apply jp);iterate 5 rfl)|((with_reducible apply jq);iterate 5 rfl)|((with_reducible apply jl);(with_reducible first|exact u28|exact u29);rfl));refine jT (by first|(simp only [j0];rfl)|rfl) ?_)))
   rw [wrap1 (by omega)]
   (repeat (first|(with_reducible first|apply jA|apply jC|apply jD|apply jE|apply jF|apply jG|apply jH|apply jI|apply jJ|apply jK|apply jL|apply jM|apply jN|apply jO)|(with_reducible apply SeqQ.id;refine SeqQ.norm (by first|(simp only [j0];rfl)|rfl) ?_)|with_reducible refine jP (by decide) ?_|(with_reducible apply jQ;first|refine jR rfl rfl rfl ?_|refine jS rfl rfl rfl ?_)|((first|((with_reducible first|apply jm|apply jn|apply jb|apply ju);repeat rfl)|((with_reducible apply jy);iterate 3 rfl)|((with_reducible apply jz);iterate 3 rfl)|((with_reducible apply jp);iterate 5 rfl)|((with_reducible apply jq);iterate 5 rfl)|((with_reducible apply jl);(with_reducible first|exact u28|exact u29);rfl));refine jT (by first|(simp only [j0];rfl)|rfl) ?_)))
   exact LoopQ.normal (f.path.length - (i + 1)) (by omega) ⟨i + 1, rfl, by omega, rfl, dead_of rfl⟩
  ·rw [show decide ((i : Int) < (((f.path.map AV.str).length : Nat) : Int)) = false by simp; omega]
   (repeat (first|(with_reducible first|apply jA|apply jC|apply jD|apply jE|apply jF|apply jG|apply jH|apply jI|apply jJ|apply jK|apply jL|apply jM|apply jN|apply jO)|(with_reducible apply SeqQ.id;refine SeqQ.norm (by first|(simp only [j0];rfl)|rfl) ?_)|with_reducible refine jP (by decide) ?_|(with_reducible apply jQ;first|refine jR rfl rfl rfl ?_|refine jS rfl rfl rfl ?_)|((first|((with_reducible first|apply jm|apply jn|apply jb|apply ju);repeat rfl)|((with_reducible apply jy);iterate 3 rfl)|((with_reducible apply jz);iterate 3 rfl)|((with_reducible apply jp);iterate 5 rfl)|((with_reducible apply jq);iterate 5 rfl)|((with_reducible apply jl);(with_reducible first|exact u28|exact u29);rfl));refine jT (by first|(simp only [j0];rfl)|rfl) ?_)))
   refine Wo.doVal rfl rfl (op_fieldAddr rfl rfl (fb31 0).2.1) ?_
   refine Wo.doVal rfl rfl (op_load_ptr rfl rfl e0 (ld31 _ _ _ _ _).2.1) ?_
   rw [unown_sl, outTl_un]
   refine Wo.doVal rfl rfl (op_fieldAddr rfl rfl (fb31 1).2.1) ?_
   refine Wo.doVal rfl rfl (op_load_ptr rfl rfl e1 (ld31 _ _ _ _ _).2.1) ?_
   rw [unown_sl, outTl_un]
   refine Wo.doCall rfl rfl (op_call (args := [.sl (f.query.map hdV) (outTl f.query), .sl (f.query.map hdV) (outTl f.query)]) rfl rfl) ?_
   simp only [List.map_cons, List.map_nil, unown_sl, outTl_un]
   refine (pairs_tells f.query (outTl f.query) (outTl_un _) h2 _).mono ?_
   rintro r1 H2 ⟨rfl, rfl⟩
   (repeat (first|(with_reducible first|apply jA|apply jC|apply jD|apply jE|apply jF|apply jG|apply jH|apply jI|apply jJ|apply jK|apply jL|apply jM|apply jN|apply jO)|(with_reducible apply SeqQ.id;refine SeqQ.norm (by first|(simp only [j0];rfl)|rfl) ?_)|with_reducible refine jP (by decide) ?_|(with_reducible apply jQ;first|refine jR rfl rfl rfl ?_|refine jS rfl rfl rfl ?_)|((first|((with_reducible first|apply jm|apply jn|apply jb|apply ju);repeat rfl)|((with_reducible apply jy);iterate 3 rfl)|((with_reducible apply jz);iterate 3 rfl)|((with_reducible apply jp);iterate 5 rfl)|((with_reducible apply jq);iterate 5 rfl)|((with_reducible apply jl);(with_reducible first|exact u28|exact u29);rfl));refine jT (by first|(simp only [j0];rfl)|rfl) ?_)))
   refine Wo.doVal rfl rfl (op_fieldAddr rfl rfl (fb31 0).2.2.1) ?_
   refine Wo.yes rfl rfl rfl rfl ?_
   refine Wo.doVal rfl rfl (op_load_ptr rfl rfl e0 (ld31 _ _ _ _ _).2.2.1) ?_
   rw [unown_sl, htl]
   (repeat (first|(with_reducible first|apply jA|apply jC|apply jD|apply jE|apply jF|apply jG|apply jH|apply jI|apply jJ|apply jK|apply jL|apply jM|apply jN|apply jO)|(with_reducible apply SeqQ.id;refine SeqQ.norm (by first|(simp only [j0];rfl)|rfl) ?_)|with_reducible refine jP (by decide) ?_|(with_reducible apply jQ;first|refine jR rfl rfl rfl ?_|refine jS rfl rfl rfl ?_)|((first|((with_reducible first|apply jm|apply jn|apply jb|apply ju);repeat rfl)|((with_reducible apply jy);iterate 3 rfl)|((with_reducible apply jz);iterate 3 rfl)|((with_reducible apply jp);iterate 5 rfl)|((with_reducible apply jq);iterate 5 rfl)|((with_reducible apply jl);(with_reducible first|exact u28|exact u29);rfl));refine jT (by first|(simp only [j0];rfl)|rfl) ?_)))
   refine Wo.doVal rfl rfl (op_fieldAddr rfl rfl (fb31 1).2.2.1) ?_
   refine Wo.yes rfl rfl rfl rfl ?_
   refine Wo.doVal rfl rfl (op_load_ptr rfl rfl e1 (ld31 _ _ _ _ _).2.2.1) ?_
   rw [unown_sl, htl]
   refine Wo.yes rfl rfl rfl rfl ?_
   refine Wo.doCall rfl rfl (op_call (args := [.sl (hs.map hdV) tl, .sl (hs.map hdV) tl]) rfl rfl) ?_
   simp only [List.map_cons, List.map_nil, unown_sl, htl]
   refine (pairs_tells hs tl htl h3 _).mono ?_
   rintro r1 H2 ⟨rfl, rfl⟩
   (repeat (first|(with_reducible first|apply jA|apply jC|apply jD|apply jE|apply jF|apply jG|apply jH|apply jI|apply jJ|apply jK|apply jL|apply jM|apply jN|apply jO)|(with_reducible apply SeqQ.id;refine SeqQ.norm (by first|(simp only [j0];rfl)|rfl) ?_)|with_reducible refine jP (by decide) ?_|(with_reducible apply jQ;first|refine jR rfl rfl rfl ?_|refine jS rfl rfl rfl ?_)|((first|((with_reducible first|apply jm|apply jn|apply jb|apply ju);repeat rfl)|((with_reducible apply jy);iterate 3 rfl)|((with_reducible apply jz);iterate 3 rfl)|((with_reducible apply jp);iterate 5 rfl)|((with_reducible apply jq);iterate 5 rfl)|((with_reducible apply jl);(with_reducible first|exact u28|exact u29);rfl));refine jT (by first|(simp only [j0];rfl)|rfl) ?_)))
   exact EndQ.ret rfl ⟨.v (.bool true), rfl, rfl, trivial, rfl⟩
end
end Go.Proofs.Hc
end
section
namespace Go.Proofs.Hc
open Go.Tm
theorem nextP_pos {b : Bs} {s : Nat} (h : nextP b = .broke s) : 0 < s := by
 unfold nextP at h
 split at h
 ·cases h; omega
 ·split at h
  ·cases h
  ·split at h
   ·cases h; omega
   ·unfold headP at h
    split at h
    ·unfold bodyP at h
     split at h
     ·rename_i st hh
      cases h
      rcases headersP_status hh with rfl | rfl <;> omega
     ·split at h <;> cases h
    ·split at h
     ·cases h; omega
     ·split at h
      ·cases h
      ·unfold bodyP at h
       split at h
       ·rename_i st hh
        cases h
        rcases headersP_status hh with rfl | rfl <;> omega
       ·split at h <;> cases h
theorem decAll_len {l p : List Bs} (h : decAll l = some p) : p.length = l.length := by
 rw [decAll_eq] at h
 split at h
 ·cases h; simp
 ·cases h
theorem decPairs_len {l : List Bs} {p : List Hd} (h : decPairs l = some p) : p.length = l.length := by
 rw [decPairs_eq] at h
 split at h
 ·cases h; simp
 ·cases h
theorem firstP_len {line : Bs} {f : First} (h : firstP line = some f) : f.path.length ≤ line.length + 1 ∧ f.query.length ≤ line.length + 1 := by
 unfold firstP at h
 split at h
 ·cases h
 ·split at h
  ·rename_i p q hp hq
   cases h
   have h1 := decAll_len hp
   have h2 := decPairs_len hq
   have l1 := cut_len line [32]
   have l2 := cut_len (Lib.cut line [32]).2.1 [32]
   have l3 := cut_len (targetOf line) [63]
   have l4 := split_len ((pathOf line).drop 1) 47
   rw [List.length_drop] at l4
   have e1 : (targetOf line).length ≤ line.length := by unfold targetOf; omega
   have e2 : (pathOf line).length ≤ line.length := by unfold pathOf; omega
   have e3 : (queryOf line).length ≤ line.length := by unfold queryOf; omega
   refine ⟨by simp only; omega, ?_⟩
   simp only
   rw [h2]
   unfold queryParts
   split
   ·simp
   ·have := split_len (queryOf line) 38
    omega
  ·cases h
theorem headersP_len : ∀ (k : Nat) (s : Bs) (out l : List Hd) (n m : Nat) (b : Bool), s.length = k → headersP s out n b = .ok l m → l.length ≤ out.length + s.length := by
 intro k
 induction k using Nat.strongRecOn with
 | ind k ih =>
  intro s out l n m b hk h
  by_cases hs : s = []
  ·subst hs; rw [heads_nil] at h; cases h; simp
  ·rw [heads_step hs] at h
   have hl := cut_shorter hs (show crlf ≠ [] by decide)
   split at h
   ·cases h
   ·split at h
    ·cases h
    ·split at h
     ·split at h
      ·cases h
      ·split at h
       ·cases h
       ·have := ih _ (by rw [← hk]; exact hl) _ _ _ _ _ _ rfl h
        simp only [List.length_append, List.length_cons, List.length_nil] at this
        omega
     ·have := ih _ (by rw [← hk]; exact hl) _ _ _ _ _ _ rfl h
      simp only [List.length_append, List.length_cons, List.length_nil] at this
      omega
def Small (n : Nat) (c : Req) : Prop := c.path.length ≤ n + 1 ∧ c.query.length ≤ n + 1 ∧ c.headers.length ≤ n
theorem Small.mono {n m : Nat} {c : Req} (h : Small n c) (hn : n ≤ m) : Small m c := ⟨by have := h.1; omega, by have := h.2.1; omega, by have := h.2.2; omega⟩
theorem bodyP_small {f : First} {rest : Bs} {e n : Nat} {c : Req} {r : Bs} (hf : f.path.length ≤ n + 1 ∧ f.query.length ≤ n + 1) (hr : rest.length ≤ n) (h : bodyP f rest e = .got c r) : Small n c := by
 unfold bodyP at h
 split at h
 ·cases h
 ·rename_i l k hh
  split at h
  ·cases h
  ·cases h
   have := headersP_len _ _ _ _ _ _ _ rfl hh
   simp only [List.length_nil, List.length_take] at this
   exact ⟨hf.1, hf.2, by simp only; omega⟩
theorem nextP_small {b : Bs} {c : Req} {r : Bs} (h : nextP b = .got c r) : Small b.length c := by
 unfold nextP at h
 split at h
 ·cases h
 ·split at h
  ·cases h
  ·split at h
   ·cases h
   ·rename_i f hf
    have hl := firstP_len hf
    have hl2 : f.path.length ≤ b.length + 1 ∧ f.query.length ≤ b.length + 1 := by
     simp only [List.length_take] at hl
     omega
    unfold headP at h
    split at h
    ·exact bodyP_small hl2 (by simp only [List.length_drop]; omega) h
    ·split at h
     ·cases h
     ·split at h
      ·cases h
      ·exact bodyP_small hl2 (by simp only [List.length_drop]; omega) h
theorem seqP_facts : ∀ (n : Nat) (b : Bs), b.length = n → (seqP b).1.length ≤ b.length ∧ (seqP b).2.2.length ≤ b.length ∧ (∀ c ∈ (seqP b).1, Small b.length c) ∧ ∀ s, (seqP b).2.1 = some s → 0 < s := by
 intro n
 induction n using Nat.strongRecOn with
 | ind n ih =>
  intro b hn
  cases h : nextP b with
  | wait => rw [seqP_wait h]; simp
  | broke s => rw [seqP_broke h]; exact ⟨by simp, by simp, by simp, fun t q => by cases q; exact nextP_pos h⟩
  | got c r =>
   have hl := nextP_len h
   obtain ⟨h1, h2, h3, h4⟩ := ih r.length (by omega) r rfl
   rw [seqP_got h]
   refine ⟨by simp only [List.length_cons]; omega, by simp only; omega, fun d hd => ?_, h4⟩
   rcases List.mem_cons.1 hd with rfl | hd
   ·exact nextP_small h
   ·exact (h3 d hd).mono (by omega)
def endOfP : Option Nat → Int
 | none => -1
 | some s => (s : Nat)
def allP (b : Bs) : List Req × Int := ((seqP b).1, endOfP (seqP b).2.1)
def reqV (c : Req) : AV := callV c.toFirst c.headers (outTl c.headers) c.body
theorem seqP_feed {t p : Bs} {out : List Req} {buf : Bs} (h : seqP t = (out, none, buf)) : seqP (t ++ p) = (out ++ (seqP (buf ++ p)).1, (seqP (buf ++ p)).2) := by
 rw [seqP_append _ t p rfl, h]
theorem allP_broke {t p : Bs} {out : List Req} {s : Nat} {r : Bs} (h : seqP t = (out, some s, r)) : allP (t ++ p) = (out, ((s : Nat) : Int)) := by
 unfold allP
 rw [seqP_append _ t p rfl, h]
 rfl
end Go.Proofs.Hc
end
