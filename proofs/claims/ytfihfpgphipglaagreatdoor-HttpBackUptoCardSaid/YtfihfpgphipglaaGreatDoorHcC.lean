/- HcEq, HcSame, joined. -/
import Derived.Test.YtfihfpgphipglaaGreatDoorHcNext2
set_option linter.unusedVariables false
set_option linter.unusedSimpArgs false
set_option linter.unusedSectionVars false
section
namespace Go.Proofs.Hc
open Go.Tm
set_option maxRecDepth 100000
theorem ba_refl (a : ByteArray) : (a == a) = true := by
 show (a.data == a.data) = true
 simp
theorem pureRun_bind {P : Program} {α β : Type} (x : Sem α) (f : α → Sem β) : pureRun P (x >>= f) = (pureRun P x).bind fun a => pureRun P (f a) := by
 induction x with
 | pure a => rfl
 | program k ih => exact ih P
 | _ => rfl
theorem und52 : ∃ f0 f1 : Field, pureRun Tryz.prog (underlying 52) = some (.struct #[f0, f1]) ∧ (f0.name ≠ "_" ∧ f0.type = 9 ∧ f0.offset = 0) ∧ f1.name ≠ "_" ∧ f1.type = 9 ∧ f1.offset = 1 := ⟨_, _, rfl, by decide, by decide⟩
theorem equal9 (a b : ByteArray) (d : Nat) : pureRun Tryz.prog (Op.equalIn (d + 1) 9 (.string a) (.string b)) = some (a == b) := rfl
theorem part0 (a b : ByteArray) : pureRun Tryz.prog (part 9 #[Value.string a, Value.string b] 0) = some (.string a) := by kernel_rfl
theorem part1 (a b : ByteArray) : pureRun Tryz.prog (part 9 #[Value.string a, Value.string b] 1) = some (.string b) := by kernel_rfl
theorem no52 : Tryz.prog.stoodInHeld 52 = false := by kernel_rfl
theorem equal52 (a b : ByteArray) (d : Nat) : pureRun Tryz.prog (Op.equalIn (d + 2) 52 (.agg #[.string a, .string b]) (.agg #[.string a, .string b])) = some true := by
 obtain ⟨f0, f1, h, ⟨n0, t0, o0⟩, n1, t1, o1⟩ := und52
 unfold Op.equalIn
 rw [pureRun_bind, h]
 simp only [Option.bind_some]
 rw [pureRun_bind, show pureRun Tryz.prog program = some Tryz.prog from rfl]
 simp only [Option.bind_some, no52, Bool.false_eq_true, if_false]
 rw [pureRun_bind]
 have e : pureRun Tryz.prog (forIn #[f0, f1] ((none : Option Bool), ()) fun f __s =>
        if f.name ≠ "_" then do
         let __do_lift ← part f.type #[Value.string a, Value.string b] f.offset
         let __do_lift_1 ← part f.type #[Value.string a, Value.string b] f.offset
         let __do_lift ← Op.equalIn (d + 1) f.type __do_lift __do_lift_1
         if (!__do_lift) = true then pure (ForInStep.done (some false, ()))
          else pure (ForInStep.yield (none, ()))
        else pure (ForInStep.yield (none, ()))) = some (none, ()) := by
  rw [← Array.forIn_toList]
  simp only [List.forIn_cons, List.forIn_nil, pureRun_bind, n0, n1, t0, t1, o0, o1, ne_eq, not_false_eq_true, if_true, part0, part1, equal9, Option.bind_some, ba_refl, Bool.not_true, Bool.false_eq_true, if_false]
  simp only [show ∀ (α : Type) (z : α), pureRun Tryz.prog (pure z : Sem α) = some z from fun _ _ => rfl, Option.bind_some, pureRun_bind, part1, equal9, ba_refl, Bool.not_true, Bool.false_eq_true, if_false]
 rw [e]
 rfl
theorem guard52 (p q : Operand) (a b : ByteArray) : pureRun Tryz.prog (eqGuard .neq 52 p q (.agg #[.string a, .string b]) (.agg #[.string a, .string b])) = some () := by kernel_rfl
theorem pair_ne (x : Value) (p q : Operand) (h : Hd) : aBinOp (Kq x) .neq 52 p q (hdV h) (hdV h) [] = some (.v (.bool false), [], []) := by
 have e : pureRun Tryz.prog (do eqGuard .neq 52 p q (.agg ⟨[.string ⟨⟨h.1⟩⟩, .string ⟨⟨h.2⟩⟩]⟩) (.agg ⟨[.string ⟨⟨h.1⟩⟩, .string ⟨⟨h.2⟩⟩]⟩); binOp .neq 52 (.agg ⟨[.string ⟨⟨h.1⟩⟩, .string ⟨⟨h.2⟩⟩]⟩) (.agg ⟨[.string ⟨⟨h.1⟩⟩, .string ⟨⟨h.2⟩⟩]⟩)) = some (.bool false) := by
  rw [pureRun_bind, guard52]
  simp only [Option.bind_some]
  show pureRun Tryz.prog (Op.equal 52 _ _ >>= fun r => pure (Value.bool (!r))) = _
  rw [pureRun_bind]
  unfold Op.equal Op.maxDepth
  rw [equal52 _ _ 9998]
  rfl
 show (match some (Value.agg ⟨[.string ⟨⟨h.1⟩⟩, .string ⟨⟨h.2⟩⟩]⟩), some (Value.agg ⟨[.string ⟨⟨h.1⟩⟩, .string ⟨⟨h.2⟩⟩]⟩) with
   | some a, some b => match pureRun (Kq x).P (do eqGuard .neq 52 p q a b; binOp .neq 52 a b) with
    | some r => if flat r then (pure (.v r) : E AV) else E.fail
    | none => E.fail
   | _, _ => E.fail) [] = _
 simp only
 rw [show pureRun (Kq x).P _ = _ from e]
 rfl
end Go.Proofs.Hc
end
section
namespace Go.Proofs.Hc
open Go.Tm
set_option maxRecDepth 100000
section
variable {x : Value}
theorem ne_str (s : Bs) : (!(s == s)) = false := by simp
theorem ne_int (n : Int) : (n != n) = false := by simp
set_option maxHeartbeats 1500000 in
theorem pairs_tells (l : List Hd) (tl tl' : Tail) (htl : tl.un = tl) (htl' : tl'.un = tl') (hl : l.length < 4294967281) (H : List AB) : Tells (Kq x) 22 [.sl (l.map hdV) tl, .sl (l.map hdV) tl'] H fun r H' => H' = H ∧ r = .v (.bool true) := by
 refine Tells.vals (c := _) Tryz.func22 rfl (args' := [.sl (l.map hdV) tl, .sl (l.map hdV) tl']) (m := 24) (by simp only [List.map, unown_sl, htl, htl']) rfl rfl rfl rfl ?_
 (repeat (first|(with_reducible first|apply jA|apply jC|apply jD|apply jE|apply jF|apply jG|apply jH|apply jI|apply jJ|apply jK|apply jL|apply jM|apply jN|apply jO)|(with_reducible apply SeqQ.id;refine SeqQ.norm (by first|(simp only [j0];rfl)|rfl) ?_)|with_reducible refine jP (by decide) ?_|(with_reducible apply jQ;first|refine jR rfl rfl rfl ?_|refine jS rfl rfl rfl ?_)|((first|((with_reducible first|apply jm|apply jn|apply jb|apply ju);repeat rfl)|((with_reducible apply jy);iterate 3 rfl)|((with_reducible apply jz);iterate 3 rfl)|((with_reducible apply jp);iterate 5 rfl)|((with_reducible apply jq);iterate 5 rfl)|((with_reducible apply jl);(with_reducible first|exact u28|exact u29);rfl));refine jT (by first|(simp only [j0];rfl)|rfl) ?_)))
 rw [show (((l.map hdV).length : Int) != ((l.map hdV).length : Int)) = false from ne_int _]
 (repeat (first|(with_reducible first|apply jA|apply jC|apply jD|apply jE|apply jF|apply jG|apply jH|apply jI|apply jJ|apply jK|apply jL|apply jM|apply jN|apply jO)|(with_reducible apply SeqQ.id;refine SeqQ.norm (by first|(simp only [j0];rfl)|rfl) ?_)|with_reducible refine jP (by decide) ?_|(with_reducible apply jQ;first|refine jR rfl rfl rfl ?_|refine jS rfl rfl rfl ?_)|((first|((with_reducible first|apply jm|apply jn|apply jb|apply ju);repeat rfl)|((with_reducible apply jy);iterate 3 rfl)|((with_reducible apply jz);iterate 3 rfl)|((with_reducible apply jp);iterate 5 rfl)|((with_reducible apply jq);iterate 5 rfl)|((with_reducible apply jl);(with_reducible first|exact u28|exact u29);rfl));refine jT (by first|(simp only [j0];rfl)|rfl) ?_)))
 refine Wc.inv (fun m st => ∃ i : Nat, m = l.length - i ∧ i ≤ l.length ∧ ∃ d : Nat → AV, st.regs = (.sl (l.map hdV) tl :: .sl (l.map hdV) tl' :: d 2 :: d 3 :: .v (.bool false) :: i64v i :: d 6 :: d 7 :: d 8 :: d 9 :: d 10 :: d 11 :: d 12 :: d 13 :: d 14 :: d 15 :: d 16 :: d 17 :: d 18 :: d 19 :: d 20 :: d 21 :: d 22 :: d 23 :: d 24 :: d 25 :: [])) l.length ?_ ?_
 ·exact ⟨0, by omega, by omega, dead_of rfl⟩
 ·rintro m regs own H1 ⟨i, rfl, hi, d, rfl⟩
  (repeat (first|(with_reducible first|apply jA|apply jC|apply jD|apply jE|apply jF|apply jG|apply jH|apply jI|apply jJ|apply jK|apply jL|apply jM|apply jN|apply jO)|(with_reducible apply SeqQ.id;refine SeqQ.norm (by first|(simp only [j0];rfl)|rfl) ?_)|with_reducible refine jP (by decide) ?_|(with_reducible apply jQ;first|refine jR rfl rfl rfl ?_|refine jS rfl rfl rfl ?_)|((first|((with_reducible first|apply jm|apply jn|apply jb|apply ju);repeat rfl)|((with_reducible apply jy);iterate 3 rfl)|((with_reducible apply jz);iterate 3 rfl)|((with_reducible apply jp);iterate 5 rfl)|((with_reducible apply jq);iterate 5 rfl)|((with_reducible apply jl);(with_reducible first|exact u28|exact u29);rfl));refine jT (by first|(simp only [j0];rfl)|rfl) ?_)))
  by_cases hlt : i < l.length
  ·have hget : (l.map hdV)[i]? = some (hdV l[i]) := by simp [List.getElem?_eq_getElem hlt]
   rw [show decide ((i : Int) < (((l.map hdV).length : Nat) : Int)) = true by simp; omega]
   (repeat (first|(with_reducible first|apply jA|apply jC|apply jD|apply jE|apply jF|apply jG|apply jH|apply jI|apply jJ|apply jK|apply jL|apply jM|apply jN|apply jO)|(with_reducible apply SeqQ.id;refine SeqQ.norm (by first|(simp only [j0];rfl)|rfl) ?_)|with_reducible refine jP (by decide) ?_|(with_reducible apply jQ;first|refine jR rfl rfl rfl ?_|refine jS rfl rfl rfl ?_)|((first|((with_reducible first|apply jm|apply jn|apply jb|apply ju);repeat rfl)|((with_reducible apply jy);iterate 3 rfl)|((with_reducible apply jz);iterate 3 rfl)|((with_reducible apply jp);iterate 5 rfl)|((with_reducible apply jq);iterate 5 rfl)|((with_reducible apply jl);(with_reducible first|exact u28|exact u29);rfl));refine jT (by first|(simp only [j0];rfl)|rfl) ?_)))
   refine Wc.drawnX rfl [] [] (by kernel_rfl) ?_
   (refine WdX.val rfl (.inl rfl) rfl rfl rfl (op_move rfl rfl) rfl ?_; refine WdX.norm (by first | (simp only [setAt]; rfl) | rfl) ?_)
   (refine WdX.val rfl (.inl rfl) rfl rfl rfl (op_move rfl rfl) rfl ?_; refine WdX.norm (by first | (simp only [setAt]; rfl) | rfl) ?_)
   refine WdX.val rfl (.inl rfl) rfl rfl rfl (op_indexAddr_sl (sz := 1) (j := i) (el := hdV l[i]) rfl rfl u29 sz52 rfl rfl rfl hget rfl) rfl ?_
   refine WdX.norm (by first | (simp only [setAt]; rfl) | rfl) ?_
   refine WdX.val rfl (.inl rfl) rfl rfl rfl (op_load_rp rfl rfl (tv52 _ _)) rfl ?_
   refine WdX.norm (by first | (simp only [setAt]; rfl) | rfl) ?_
   (refine WdX.val rfl (.inl rfl) rfl rfl rfl (op_move rfl rfl) rfl ?_; refine WdX.norm (by first | (simp only [setAt]; rfl) | rfl) ?_)
   (refine WdX.val rfl (.inl rfl) rfl rfl rfl (op_move rfl rfl) rfl ?_; refine WdX.norm (by first | (simp only [setAt]; rfl) | rfl) ?_)
   refine WdX.val rfl (.inl rfl) rfl rfl rfl (op_indexAddr_sl (sz := 1) (j := i) (el := hdV l[i]) rfl rfl u29 sz52 rfl rfl rfl hget rfl) rfl ?_
   refine WdX.norm (by first | (simp only [setAt]; rfl) | rfl) ?_
   refine WdX.val rfl (.inl rfl) rfl rfl rfl (op_load_rp rfl rfl (tv52 _ _)) rfl ?_
   refine WdX.norm (by first | (simp only [setAt]; rfl) | rfl) ?_
   refine WdX.val rfl (.inl rfl) rfl rfl rfl (op_binv rfl rfl rfl (pair_ne x _ _ l[i])) rfl ?_
   refine WdX.norm (by first | (simp only [setAt]; rfl) | rfl) ?_
   refine WdX.nil ?_
   (repeat (first|(with_reducible first|apply jA|apply jC|apply jD|apply jE|apply jF|apply jG|apply jH|apply jI|apply jJ|apply jK|apply jL|apply jM|apply jN|apply jO)|(with_reducible apply SeqQ.id;refine SeqQ.norm (by first|(simp only [j0];rfl)|rfl) ?_)|with_reducible refine jP (by decide) ?_|(with_reducible apply jQ;first|refine jR rfl rfl rfl ?_|refine jS rfl rfl rfl ?_)|((first|((with_reducible first|apply jm|apply jn|apply jb|apply ju);repeat rfl)|((with_reducible apply jy);iterate 3 rfl)|((with_reducible apply jz);iterate 3 rfl)|((with_reducible apply jp);iterate 5 rfl)|((with_reducible apply jq);iterate 5 rfl)|((with_reducible apply jl);(with_reducible first|exact u28|exact u29);rfl));refine jT (by first|(simp only [j0];rfl)|rfl) ?_)))
   rw [wrap1 (by omega)]
   (repeat (first|(with_reducible first|apply jA|apply jC|apply jD|apply jE|apply jF|apply jG|apply jH|apply jI|apply jJ|apply jK|apply jL|apply jM|apply jN|apply jO)|(with_reducible apply SeqQ.id;refine SeqQ.norm (by first|(simp only [j0];rfl)|rfl) ?_)|with_reducible refine jP (by decide) ?_|(with_reducible apply jQ;first|refine jR rfl rfl rfl ?_|refine jS rfl rfl rfl ?_)|((first|((with_reducible first|apply jm|apply jn|apply jb|apply ju);repeat rfl)|((with_reducible apply jy);iterate 3 rfl)|((with_reducible apply jz);iterate 3 rfl)|((with_reducible apply jp);iterate 5 rfl)|((with_reducible apply jq);iterate 5 rfl)|((with_reducible apply jl);(with_reducible first|exact u28|exact u29);rfl));refine jT (by first|(simp only [j0];rfl)|rfl) ?_)))
   exact LoopQ.normal (l.length - (i + 1)) (by omega) ⟨i + 1, rfl, by omega, dead_of rfl⟩
  ·rw [show decide ((i : Int) < (((l.map hdV).length : Nat) : Int)) = false by simp; omega]
   (repeat (first|(with_reducible first|apply jA|apply jC|apply jD|apply jE|apply jF|apply jG|apply jH|apply jI|apply jJ|apply jK|apply jL|apply jM|apply jN|apply jO)|(with_reducible apply SeqQ.id;refine SeqQ.norm (by first|(simp only [j0];rfl)|rfl) ?_)|with_reducible refine jP (by decide) ?_|(with_reducible apply jQ;first|refine jR rfl rfl rfl ?_|refine jS rfl rfl rfl ?_)|((first|((with_reducible first|apply jm|apply jn|apply jb|apply ju);repeat rfl)|((with_reducible apply jy);iterate 3 rfl)|((with_reducible apply jz);iterate 3 rfl)|((with_reducible apply jp);iterate 5 rfl)|((with_reducible apply jq);iterate 5 rfl)|((with_reducible apply jl);(with_reducible first|exact u28|exact u29);rfl));refine jT (by first|(simp only [j0];rfl)|rfl) ?_)))
   exact EndQ.ret rfl ⟨_, rfl, rfl, rfl, rfl⟩
theorem ld31 (a b c d e : AV) : (takeVar (Kq x).P 9 ([a, b, c, d, e].drop 0) = some a ∧ takeVar (Kq x).P 28 ([a, b, c, d, e].drop 1) = some b) ∧ takeVar (Kq x).P 29 ([a, b, c, d, e].drop 2) = some c ∧ takeVar (Kq x).P 29 ([a, b, c, d, e].drop 3) = some d ∧ takeVar (Kq x).P 9 ([a, b, c, d, e].drop 4) = some e := ⟨⟨take_one ag9 sz9, take_one ag28 sz28⟩, take_one ag29 sz29, take_one ag29 sz29, take_one ag9 sz9⟩
def callT (f : First) (hs : List Hd) (ta tb tc : Tail) (bd : Bs) : AV := .agg [.str f.method, .sl (f.path.map AV.str) ta, .sl (f.query.map hdV) tb, .sl (hs.map hdV) tc, .str bd]
set_option maxHeartbeats 4000000 in
theorem sameW_tells (f : First) (hs : List Hd) (ta tb tc ta' tb' tc' : Tail) (bd : Bs) (ha : ta.un = ta) (hb : tb.un = tb) (hc : tc.un = tc) (ha' : ta'.un = ta') (hb' : tb'.un = tb') (hc' : tc'.un = tc') (h1 : f.path.length < 4294967281) (h2 : f.query.length < 4294967281) (h3 : hs.length < 4294967281) (H : List AB) : Tells (Kq x) 9 [callT f hs ta tb tc bd, callT f hs ta' tb' tc' bd] H fun r H' => H' = H ∧ r = .v (.bool true) := by
 refine Tells.vals (c := _) Tryz.func9 rfl (args' := [callT f hs ta tb tc bd, callT f hs ta' tb' tc' bd]) (m := 57) rfl rfl rfl rfl rfl ?_
 (repeat (first|(with_reducible first|apply jA|apply jC|apply jD|apply jE|apply jF|apply jG|apply jH|apply jI|apply jJ|apply jK|apply jL|apply jM|apply jN|apply jO)|(with_reducible apply SeqQ.id;refine SeqQ.norm (by first|(simp only [j0];rfl)|rfl) ?_)|with_reducible refine jP (by decide) ?_|(with_reducible apply jQ;first|refine jR rfl rfl rfl ?_|refine jS rfl rfl rfl ?_)|((first|((with_reducible first|apply jm|apply jn|apply jb|apply ju);repeat rfl)|((with_reducible apply jy);iterate 3 rfl)|((with_reducible apply jz);iterate 3 rfl)|((with_reducible apply jp);iterate 5 rfl)|((with_reducible apply jq);iterate 5 rfl)|((with_reducible apply jl);(with_reducible first|exact u28|exact u29);rfl));refine jT (by first|(simp only [j0];rfl)|rfl) ?_)))
 refine Wo.doVal rfl rfl (op_box rfl rfl rfl) ?_
 refine Wo.doVal rfl rfl (op_box rfl rfl rfl) ?_
 (repeat (first|(with_reducible first|apply jA|apply jC|apply jD|apply jE|apply jF|apply jG|apply jH|apply jI|apply jJ|apply jK|apply jL|apply jM|apply jN|apply jO)|(with_reducible apply SeqQ.id;refine SeqQ.norm (by first|(simp only [j0];rfl)|rfl) ?_)|with_reducible refine jP (by decide) ?_|(with_reducible apply jQ;first|refine jR rfl rfl rfl ?_|refine jS rfl rfl rfl ?_)|((first|((with_reducible first|apply jm|apply jn|apply jb|apply ju);repeat rfl)|((with_reducible apply jy);iterate 3 rfl)|((with_reducible apply jz);iterate 3 rfl)|((with_reducible apply jp);iterate 5 rfl)|((with_reducible apply jq);iterate 5 rfl)|((with_reducible apply jl);(with_reducible first|exact u28|exact u29);rfl));refine jT (by first|(simp only [j0];rfl)|rfl) ?_)))
 have e0 : nth ([] ++ [AB.cells (31, true) (callT f hs ta tb tc bd).unown.cells] ++ [AB.cells (31, true) (callT f hs ta' tb' tc' bd).unown.cells]) 0 = some (.cells (31, true) [.str f.method, .sl (f.path.map AV.str) ta, .sl (f.query.map hdV) tb, .sl (hs.map hdV) tc, .str bd]) := rfl
 have e1 : nth ([] ++ [AB.cells (31, true) (callT f hs ta tb tc bd).unown.cells] ++ [AB.cells (31, true) (callT f hs ta' tb' tc' bd).unown.cells]) 1 = some (.cells (31, true) [.str f.method, .sl (f.path.map AV.str) ta', .sl (f.query.map hdV) tb', .sl (hs.map hdV) tc', .str bd]) := rfl
 generalize ([] ++ [AB.cells (31, true) (callT f hs ta tb tc bd).unown.cells] ++ [AB.cells (31, true) (callT f hs ta' tb' tc' bd).unown.cells]) = H0 at *
 refine Wo.doVal rfl rfl (op_fieldAddr rfl rfl (fb31 0).1.1) ?_
 refine Wo.doVal rfl rfl (op_load_ptr rfl rfl e0 (ld31 _ _ _ _ _).1.1) ?_
 refine Wo.doVal rfl rfl (op_fieldAddr rfl rfl (fb31 1).1.1) ?_
 refine Wo.doVal rfl rfl (op_load_ptr rfl rfl e1 (ld31 _ _ _ _ _).1.1) ?_
 refine Wo.doVal rfl rfl (op_bin_str (r := .v (.bool (!(f.method == f.method)))) rfl rfl rfl rfl) ?_
 rw [ne_str]
 (repeat (first|(with_reducible first|apply jA|apply jC|apply jD|apply jE|apply jF|apply jG|apply jH|apply jI|apply jJ|apply jK|apply jL|apply jM|apply jN|apply jO)|(with_reducible apply SeqQ.id;refine SeqQ.norm (by first|(simp only [j0];rfl)|rfl) ?_)|with_reducible refine jP (by decide) ?_|(with_reducible apply jQ;first|refine jR rfl rfl rfl ?_|refine jS rfl rfl rfl ?_)|((first|((with_reducible first|apply jm|apply jn|apply jb|apply ju);repeat rfl)|((with_reducible apply jy);iterate 3 rfl)|((with_reducible apply jz);iterate 3 rfl)|((with_reducible apply jp);iterate 5 rfl)|((with_reducible apply jq);iterate 5 rfl)|((with_reducible apply jl);(with_reducible first|exact u28|exact u29);rfl));refine jT (by first|(simp only [j0];rfl)|rfl) ?_)))
 refine Wo.doVal rfl rfl (op_fieldAddr rfl rfl (fb31 0).2.2.2) ?_
 refine Wo.yes rfl rfl rfl rfl ?_
 refine Wo.doVal rfl rfl (op_load_ptr rfl rfl e0 (ld31 _ _ _ _ _).2.2.2) ?_
 refine Wo.yes rfl rfl rfl rfl ?_
 refine Wo.doVal rfl rfl (op_fieldAddr rfl rfl (fb31 1).2.2.2) ?_
 refine Wo.yes rfl rfl rfl rfl ?_
 refine Wo.doVal rfl rfl (op_load_ptr rfl rfl e1 (ld31 _ _ _ _ _).2.2.2) ?_
 refine Wo.yes rfl rfl rfl rfl ?_
 refine Wo.doVal rfl rfl (op_bin_str (r := .v (.bool (!(bd == bd)))) rfl rfl rfl rfl) ?_
 rw [ne_str]
 (repeat (first|(with_reducible first|apply jA|apply jC|apply jD|apply jE|apply jF|apply jG|apply jH|apply jI|apply jJ|apply jK|apply jL|apply jM|apply jN|apply jO)|(with_reducible apply SeqQ.id;refine SeqQ.norm (by first|(simp only [j0];rfl)|rfl) ?_)|with_reducible refine jP (by decide) ?_|(with_reducible apply jQ;first|refine jR rfl rfl rfl ?_|refine jS rfl rfl rfl ?_)|((first|((with_reducible first|apply jm|apply jn|apply jb|apply ju);repeat rfl)|((with_reducible apply jy);iterate 3 rfl)|((with_reducible apply jz);iterate 3 rfl)|((with_reducible apply jp);iterate 5 rfl)|((with_reducible apply jq);iterate 5 rfl)|((with_reducible apply jl);(with_reducible first|exact u28|exact u29);rfl));refine jT (by first|(simp only [j0];rfl)|rfl) ?_)))
 refine Wo.doVal rfl rfl (op_fieldAddr rfl rfl (fb31 0).1.2) ?_
 refine Wo.yes rfl rfl rfl rfl ?_
 refine Wo.doVal rfl rfl (op_load_ptr rfl rfl e0 (ld31 _ _ _ _ _).1.2) ?_
 rw [unown_sl, ha]
 (repeat (first|(with_reducible first|apply jA|apply jC|apply jD|apply jE|apply jF|apply jG|apply jH|apply jI|apply jJ|apply jK|apply jL|apply jM|apply jN|apply jO)|(with_reducible apply SeqQ.id;refine SeqQ.norm (by first|(simp only [j0];rfl)|rfl) ?_)|with_reducible refine jP (by decide) ?_|(with_reducible apply jQ;first|refine jR rfl rfl rfl ?_|refine jS rfl rfl rfl ?_)|((first|((with_reducible first|apply jm|apply jn|apply jb|apply ju);repeat rfl)|((with_reducible apply jy);iterate 3 rfl)|((with_reducible apply jz);iterate 3 rfl)|((with_reducible apply jp);iterate 5 rfl)|((with_reducible apply jq);iterate 5 rfl)|((with_reducible apply jl);(with_reducible first|exact u28|exact u29);rfl));refine jT (by first|(simp only [j0];rfl)|rfl) ?_)))
 refine Wo.doVal rfl rfl (op_fieldAddr rfl rfl (fb31 1).1.2) ?_
 refine Wo.yes rfl rfl rfl rfl ?_
 refine Wo.doVal rfl rfl (op_load_ptr rfl rfl e1 (ld31 _ _ _ _ _).1.2) ?_
 rw [unown_sl, ha']
 (repeat (first|(with_reducible first|apply jA|apply jC|apply jD|apply jE|apply jF|apply jG|apply jH|apply jI|apply jJ|apply jK|apply jL|apply jM|apply jN|apply jO)|(with_reducible apply SeqQ.id;refine SeqQ.norm (by first|(simp only [j0];rfl)|rfl) ?_)|with_reducible refine jP (by decide) ?_|(with_reducible apply jQ;first|refine jR rfl rfl rfl ?_|refine jS rfl rfl rfl ?_)|((first|((with_reducible first|apply jm|apply jn|apply jb|apply ju);repeat rfl)|((with_reducible apply jy);iterate 3 rfl)|((with_reducible apply jz);iterate 3 rfl)|((with_reducible apply jp);iterate 5 rfl)|((with_reducible apply jq);iterate 5 rfl)|((with_reducible apply jl);(with_reducible first|exact u28|exact u29);rfl));refine jT (by first|(simp only [j0];rfl)|rfl) ?_)))
 rw [show (((f.path.map AV.str).length : Int) != ((f.path.map AV.str).length : Int)) = false from ne_int _]
 (repeat (first|(with_reducible first|apply jA|apply jC|apply jD|apply jE|apply jF|apply jG|apply jH|apply jI|apply jJ|apply jK|apply jL|apply jM|apply jN|apply jO)|(with_reducible apply SeqQ.id;refine SeqQ.norm (by first|(simp only [j0];rfl)|rfl) ?_)|with_reducible refine jP (by decide) ?_|(with_reducible apply jQ;first|refine jR rfl rfl rfl ?_|refine jS rfl rfl rfl ?_)|((first|((with_reducible first|apply jm|apply jn|apply jb|apply ju);repeat rfl)|((with_reducible apply jy);iterate 3 rfl)|((with_reducible apply jz);iterate 3 rfl)|((with_reducible apply jp);iterate 5 rfl)|((with_reducible apply jq);iterate 5 rfl)|((with_reducible apply jl);(with_reducible first|exact u28|exact u29);rfl));refine jT (by first|(simp only [j0];rfl)|rfl) ?_)))
 refine Wc.inv (fun m st => ∃ i : Nat, m = f.path.length - i ∧ i ≤ f.path.length ∧ st.H = H0 ∧ ∃ d : Nat → AV, st.regs = (d 0 :: d 1 :: .ptr 0 0 :: .ptr 1 0 :: .v (.bool false) :: i64v i :: d 6 :: d 7 :: d 8 :: d 9 :: d 10 :: d 11 :: d 12 :: d 13 :: d 14 :: d 15 :: d 16 :: d 17 :: d 18 :: d 19 :: d 20 :: d 21 :: d 22 :: d 23 :: d 24 :: d 25 :: d 26 :: d 27 :: d 28 :: d 29 :: d 30 :: d 31 :: d 32 :: d 33 :: d 34 :: d 35 :: d 36 :: d 37 :: d 38 :: d 39 :: d 40 :: d 41 :: d 42 :: d 43 :: d 44 :: d 45 :: d 46 :: d 47 :: d 48 :: d 49 :: d 50 :: d 51 :: d 52 :: d 53 :: d 54 :: d 55 :: d 56 :: d 57 :: d 58 :: [])) f.path.length ?_ ?_
 ·exact ⟨0, by omega, by omega, rfl, dead_of rfl⟩
 ·rintro m regs own H1 ⟨i, rfl, hi, rfl, d, rfl⟩
  (repeat (first|(with_reducible first|apply jA|apply jC|apply jD|apply jE|apply jF|apply jG|apply jH|apply jI|apply jJ|apply jK|apply jL|apply jM|apply jN|apply jO)|(with_reducible apply SeqQ.id;refine SeqQ.norm (by first|(simp only [j0];rfl)|rfl) ?_)|with_reducible refine jP (by decide) ?_|(with_reducible apply jQ;first|refine jR rfl rfl rfl ?_|refine jS rfl rfl rfl ?_)|((first|((with_reducible first|apply jm|apply jn|apply jb|apply ju);repeat rfl)|((with_reducible apply jy);iterate 3 rfl)|((with_reducible apply jz);iterate 3 rfl)|((with_reducible apply jp);iterate 5 rfl)|((with_reducible apply jq);iterate 5 rfl)|((with_reducible apply jl);(with_reducible first|exact u28|exact u29);rfl));refine jT (by first|(simp only [j0];rfl)|rfl) ?_)))
  refine Wo.doVal rfl rfl (op_fieldAddr rfl rfl (fb31 0).1.2) ?_
  refine Wo.doVal rfl rfl (op_load_ptr rfl rfl e0 (ld31 _ _ _ _ _).1.2) ?_
  rw [unown_sl, ha]
  (repeat (first|(with_reducible first|apply jA|apply jC|apply jD|apply jE|apply jF|apply jG|apply jH|apply jI|apply jJ|apply jK|apply jL|apply jM|apply jN|apply jO)|(with_reducible apply SeqQ.id;refine SeqQ.norm (by first|(simp only [j0];rfl)|rfl) ?_)|with_reducible refine jP (by decide) ?_|(with_reducible apply jQ;first|refine jR rfl rfl rfl ?_|refine jS rfl rfl rfl ?_)|((first|((with_reducible first|apply jm|apply jn|apply jb|apply ju);repeat rfl)|((with_reducible apply jy);iterate 3 rfl)|((with_reducible apply jz);iterate 3 rfl)|((with_reducible apply jp);iterate 5 rfl)|((with_reducible apply jq);iterate 5 rfl)|((with_reducible apply jl);(with_reducible first|exact u28|exact u29);rfl));refine jT (by first|(simp only [j0];rfl)|rfl) ?_)))
  by_cases hlt : i < f.path.length
  ·have hget : (f.path.map AV.str)[i]? = some (.str f.path[i]) := by simp [List.getElem?_eq_getElem hlt]
   rw [show decide ((i : Int) < (((f.path.map AV.str).length : Nat) : Int)) = true by simp; omega]
   (repeat (first|(with_reducible first|apply jA|apply jC|apply jD|apply jE|apply jF|apply jG|apply jH|apply jI|apply jJ|apply jK|apply jL|apply jM|apply jN|apply jO)|(with_reducible apply SeqQ.id;refine SeqQ.norm (by first|(simp only [j0];rfl)|rfl) ?_)|with_reducible refine jP (by decide) ?_|(with_reducible apply jQ;first|refine jR rfl rfl rfl ?_|refine jS rfl rfl rfl ?_)|((first|((with_reducible first|apply jm|apply jn|apply jb|apply ju);repeat rfl)|((with_reducible apply jy);iterate 3 rfl)|((with_reducible apply jz);iterate 3 rfl)|((with_reducible apply jp);iterate 5 rfl)|((with_reducible apply jq);iterate 5 rfl)|((with_reducible apply jl);(with_reducible first|exact u28|exact u29);rfl));refine jT (by first|(simp only [j0];rfl)|rfl) ?_)))
   refine Wc.drawnX rfl [] [] (by kernel_rfl) ?_
   refine WdX.val rfl (.inl rfl) rfl rfl rfl (op_fieldAddr rfl rfl (fb31 0).1.2) rfl ?_
   refine WdX.norm (by first | (simp only [setAt]; rfl) | rfl) ?_
   refine WdX.val rfl (.inl rfl) rfl rfl rfl (op_load_ptr rfl rfl e0 (ld31 _ _ _ _ _).1.2) rfl ?_
   rw [unown_sl, ha]
   refine WdX.norm (by first | (simp only [setAt]; rfl) | rfl) ?_
   (refine WdX.val rfl (.inl rfl) rfl rfl rfl (op_move rfl rfl) rfl ?_; refine WdX.norm (by first | (simp only [setAt]; rfl) | rfl) ?_)
   refine WdX.val rfl (.inl rfl) rfl rfl rfl (op_indexAddr_sl (sz := 0) (j := i) (el := .str f.path[i]) rfl rfl u28 sz9 rfl rfl rfl hget rfl) rfl ?_
   refine WdX.norm (by first | (simp only [setAt]; rfl) | rfl) ?_
   refine WdX.val rfl (.inl rfl) rfl rfl rfl (op_load_rp rfl rfl (take_one ag9 sz9)) rfl ?_
   refine WdX.norm (by first | (simp only [setAt]; rfl) | rfl) ?_
   refine WdX.val rfl (.inl rfl) rfl rfl rfl (op_fieldAddr rfl rfl (fb31 1).1.2) rfl ?_
   refine WdX.norm (by first | (simp only [setAt]; rfl) | rfl) ?_
   refine WdX.val rfl (.inl rfl) rfl rfl rfl (op_load_ptr rfl rfl e1 (ld31 _ _ _ _ _).1.2) rfl ?_
   rw [unown_sl, ha']
   refine WdX.norm (by first | (simp only [setAt]; rfl) | rfl) ?_
   (refine WdX.val rfl (.inl rfl) rfl rfl rfl (op_move rfl rfl) rfl ?_; refine WdX.norm (by first | (simp only [setAt]; rfl) | rfl) ?_)
   refine WdX.val rfl (.inl rfl) rfl rfl rfl (op_indexAddr_sl (sz := 0) (j := i) (el := .str f.path[i]) rfl rfl u28 sz9 rfl rfl rfl hget rfl) rfl ?_
   refine WdX.norm (by first | (simp only [setAt]; rfl) | rfl) ?_
   refine WdX.val rfl (.inl rfl) rfl rfl rfl (op_load_rp rfl rfl (take_one ag9 sz9)) rfl ?_
   refine WdX.norm (by first | (simp only [setAt]; rfl) | rfl) ?_
   refine WdX.val rfl (.inl rfl) rfl rfl rfl (op_bin_str (r := .v (.bool (!(f.path[i] == f.path[i])))) rfl rfl rfl rfl) rfl ?_
   rw [ne_str]
   refine WdX.norm (by first | (simp only [setAt]; rfl) | rfl) ?_
   refine WdX.nil ?_
   (repeat (first|(with_reducible first|apply jA|apply jC|apply jD|apply jE|apply jF|apply jG|apply jH|apply jI|apply jJ|apply jK|apply jL|apply jM|apply jN|apply jO)|(with_reducible apply SeqQ.id;refine SeqQ.norm (by first|(simp only [j0];rfl)|rfl) ?_)|with_reducible refine jP (by decide) ?_|(with_reducible apply jQ;first|refine jR rfl rfl rfl ?_|refine jS rfl rfl rfl ?_)|((first|((with_reducible first|apply jm|apply jn|apply jb|apply ju);repeat rfl)|((with_reducible apply jy);iterate 3 rfl)|((with_reducible apply jz);iterate 3 rfl)|((with_reducible apply jp);iterate 5 rfl)|((with_reducible apply jq);iterate 5 rfl)|((with_reducible apply jl);(with_reducible first|exact u28|exact u29);rfl));refine jT (by first|(simp only [j0];rfl)|rfl) ?_)))
   rw [wrap1 (by omega)]
   (repeat (first|(with_reducible first|apply jA|apply jC|apply jD|apply jE|apply jF|apply jG|apply jH|apply jI|apply jJ|apply jK|apply jL|apply jM|apply jN|apply jO)|(with_reducible apply SeqQ.id;refine SeqQ.norm (by first|(simp only [j0];rfl)|rfl) ?_)|with_reducible refine jP (by decide) ?_|(with_reducible apply jQ;first|refine jR rfl rfl rfl ?_|refine jS rfl rfl rfl ?_)|((first|((with_reducible first|apply jm|apply jn|apply jb|apply ju);repeat rfl)|((with_reducible apply jy);iterate 3 rfl)|((with_reducible apply jz);iterate 3 rfl)|((with_reducible apply jp);iterate 5 rfl)|((with_reducible apply jq);iterate 5 rfl)|((with_reducible apply jl);(with_reducible first|exact u28|exact u29);rfl));refine jT (by first|(simp only [j0];rfl)|rfl) ?_)))
   exact LoopQ.normal (f.path.length - (i + 1)) (by omega) ⟨i + 1, rfl, by omega, rfl, dead_of rfl⟩
  ·rw [show decide ((i : Int) < (((f.path.map AV.str).length : Nat) : Int)) = false by simp; omega]
   (repeat (first|(with_reducible first|apply jA|apply jC|apply jD|apply jE|apply jF|apply jG|apply jH|apply jI|apply jJ|apply jK|apply jL|apply jM|apply jN|apply jO)|(with_reducible apply SeqQ.id;refine SeqQ.norm (by first|(simp only [j0];rfl)|rfl) ?_)|with_reducible refine jP (by decide) ?_|(with_reducible apply jQ;first|refine jR rfl rfl rfl ?_|refine jS rfl rfl rfl ?_)|((first|((with_reducible first|apply jm|apply jn|apply jb|apply ju);repeat rfl)|((with_reducible apply jy);iterate 3 rfl)|((with_reducible apply jz);iterate 3 rfl)|((with_reducible apply jp);iterate 5 rfl)|((with_reducible apply jq);iterate 5 rfl)|((with_reducible apply jl);(with_reducible first|exact u28|exact u29);rfl));refine jT (by first|(simp only [j0];rfl)|rfl) ?_)))
   refine Wo.doVal rfl rfl (op_fieldAddr rfl rfl (fb31 0).2.1) ?_
   refine Wo.doVal rfl rfl (op_load_ptr rfl rfl e0 (ld31 _ _ _ _ _).2.1) ?_
   rw [unown_sl, hb]
   refine Wo.doVal rfl rfl (op_fieldAddr rfl rfl (fb31 1).2.1) ?_
   refine Wo.doVal rfl rfl (op_load_ptr rfl rfl e1 (ld31 _ _ _ _ _).2.1) ?_
   rw [unown_sl, hb']
   refine Wo.doCall rfl rfl (op_call (args := [.sl (f.query.map hdV) tb, .sl (f.query.map hdV) tb']) rfl rfl) ?_
   simp only [List.map_cons, List.map_nil, unown_sl, hb, hb']
   refine (pairs_tells f.query tb tb' hb hb' h2 _).mono ?_
   rintro r1 H2 ⟨rfl, rfl⟩
   (repeat (first|(with_reducible first|apply jA|apply jC|apply jD|apply jE|apply jF|apply jG|apply jH|apply jI|apply jJ|apply jK|apply jL|apply jM|apply jN|apply jO)|(with_reducible apply SeqQ.id;refine SeqQ.norm (by first|(simp only [j0];rfl)|rfl) ?_)|with_reducible refine jP (by decide) ?_|(with_reducible apply jQ;first|refine jR rfl rfl rfl ?_|refine jS rfl rfl rfl ?_)|((first|((with_reducible first|apply jm|apply jn|apply jb|apply ju);repeat rfl)|((with_reducible apply jy);iterate 3 rfl)|((with_reducible apply jz);iterate 3 rfl)|((with_reducible apply jp);iterate 5 rfl)|((with_reducible apply jq);iterate 5 rfl)|((with_reducible apply jl);(with_reducible first|exact u28|exact u29);rfl));refine jT (by first|(simp only [j0];rfl)|rfl) ?_)))
   refine Wo.doVal rfl rfl (op_fieldAddr rfl rfl (fb31 0).2.2.1) ?_
   refine Wo.yes rfl rfl rfl rfl ?_
   refine Wo.doVal rfl rfl (op_load_ptr rfl rfl e0 (ld31 _ _ _ _ _).2.2.1) ?_
   rw [unown_sl, hc]
   (repeat (first|(with_reducible first|apply jA|apply jC|apply jD|apply jE|apply jF|apply jG|apply jH|apply jI|apply jJ|apply jK|apply jL|apply jM|apply jN|apply jO)|(with_reducible apply SeqQ.id;refine SeqQ.norm (by first|(simp only [j0];rfl)|rfl) ?_)|with_reducible refine jP (by decide) ?_|(with_reducible apply jQ;first|refine jR rfl rfl rfl ?_|refine jS rfl rfl rfl ?_)|((first|((with_reducible first|apply jm|apply jn|apply jb|apply ju);repeat rfl)|((with_reducible apply jy);iterate 3 rfl)|((with_reducible apply jz);iterate 3 rfl)|((with_reducible apply jp);iterate 5 rfl)|((with_reducible apply jq);iterate 5 rfl)|((with_reducible apply jl);(with_reducible first|exact u28|exact u29);rfl));refine jT (by first|(simp only [j0];rfl)|rfl) ?_)))
   refine Wo.doVal rfl rfl (op_fieldAddr rfl rfl (fb31 1).2.2.1) ?_
   refine Wo.yes rfl rfl rfl rfl ?_
   refine Wo.doVal rfl rfl (op_load_ptr rfl rfl e1 (ld31 _ _ _ _ _).2.2.1) ?_
   rw [unown_sl, hc']
   refine Wo.yes rfl rfl rfl rfl ?_
   refine Wo.doCall rfl rfl (op_call (args := [.sl (hs.map hdV) tc, .sl (hs.map hdV) tc']) rfl rfl) ?_
   simp only [List.map_cons, List.map_nil, unown_sl, hc, hc']
   refine (pairs_tells hs tc tc' hc hc' h3 _).mono ?_
   rintro r1 H2 ⟨rfl, rfl⟩
   (repeat (first|(with_reducible first|apply jA|apply jC|apply jD|apply jE|apply jF|apply jG|apply jH|apply jI|apply jJ|apply jK|apply jL|apply jM|apply jN|apply jO)|(with_reducible apply SeqQ.id;refine SeqQ.norm (by first|(simp only [j0];rfl)|rfl) ?_)|with_reducible refine jP (by decide) ?_|(with_reducible apply jQ;first|refine jR rfl rfl rfl ?_|refine jS rfl rfl rfl ?_)|((first|((with_reducible first|apply jm|apply jn|apply jb|apply ju);repeat rfl)|((with_reducible apply jy);iterate 3 rfl)|((with_reducible apply jz);iterate 3 rfl)|((with_reducible apply jp);iterate 5 rfl)|((with_reducible apply jq);iterate 5 rfl)|((with_reducible apply jl);(with_reducible first|exact u28|exact u29);rfl));refine jT (by first|(simp only [j0];rfl)|rfl) ?_)))
   exact EndQ.ret rfl ⟨.v (.bool true), rfl, rfl, trivial, rfl⟩
end
end Go.Proofs.Hc
end
