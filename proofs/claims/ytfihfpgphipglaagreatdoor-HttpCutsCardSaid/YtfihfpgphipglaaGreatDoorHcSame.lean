/- The law's same and samePairs, at a call and itself. -/
import Derived.Test.YtfihfpgphipglaaGreatDoorHcEq
set_option linter.unusedVariables false
set_option linter.unusedSimpArgs false
set_option linter.unusedSectionVars false
namespace Go.Proofs.Hc
open Go.Tm
set_option maxRecDepth 100000
section
variable {x : Value}
theorem closed_hds (l : List Hd) : AV.closedL (l.map hdV) = true := closed_hd l
theorem ne_str (s : Bs) : (!(s == s)) = false := by simp
theorem ne_int (n : Int) : (n != n) = false := by simp
set_option maxHeartbeats 1500000 in
theorem pairs_tells (l : List Hd) (tl : Tail) (htl : tl.un = tl) (hl : l.length < 4294967281) (H : List AB) : Tells (Kq x) 22 [.sl (l.map hdV) tl, .sl (l.map hdV) tl] H fun r H' => H' = H ∧ r = .v (.bool true) := by
 refine Tells.vals (c := _) Tryz.func22 rfl (args' := [.sl (l.map hdV) tl, .sl (l.map hdV) tl]) (m := 24) (by simp only [List.map, unown_sl, htl]) rfl rfl rfl rfl ?_
 (repeat (first|(with_reducible first|apply jA|apply jC|apply jD|apply jE|apply jF|apply jG|apply jH|apply jI|apply jJ|apply jK|apply jL|apply jM|apply jN|apply jO)|(with_reducible apply SeqQ.id;refine SeqQ.norm (by first|(simp only [j0];rfl)|rfl) ?_)|with_reducible refine jP (by decide) ?_|(with_reducible apply jQ;first|refine jR rfl rfl rfl ?_|refine jS rfl rfl rfl ?_)|((first|((with_reducible first|apply jm|apply jn|apply jb|apply ju);repeat rfl)|((with_reducible apply jy);rfl;rfl;rfl)|((with_reducible apply jz);rfl;rfl;rfl)|((with_reducible apply jv);rfl)|((with_reducible apply jp);rfl;rfl;rfl;rfl;rfl)|((with_reducible apply jq);rfl;rfl;rfl;rfl;rfl)|((with_reducible apply jl);(with_reducible first|exact u28|exact u29);rfl));refine jT (by first|(simp only [j0];rfl)|rfl) ?_)))
 rw [show (((l.map hdV).length : Int) != ((l.map hdV).length : Int)) = false from ne_int _]
 (repeat (first|(with_reducible first|apply jA|apply jC|apply jD|apply jE|apply jF|apply jG|apply jH|apply jI|apply jJ|apply jK|apply jL|apply jM|apply jN|apply jO)|(with_reducible apply SeqQ.id;refine SeqQ.norm (by first|(simp only [j0];rfl)|rfl) ?_)|with_reducible refine jP (by decide) ?_|(with_reducible apply jQ;first|refine jR rfl rfl rfl ?_|refine jS rfl rfl rfl ?_)|((first|((with_reducible first|apply jm|apply jn|apply jb|apply ju);repeat rfl)|((with_reducible apply jy);rfl;rfl;rfl)|((with_reducible apply jz);rfl;rfl;rfl)|((with_reducible apply jv);rfl)|((with_reducible apply jp);rfl;rfl;rfl;rfl;rfl)|((with_reducible apply jq);rfl;rfl;rfl;rfl;rfl)|((with_reducible apply jl);(with_reducible first|exact u28|exact u29);rfl));refine jT (by first|(simp only [j0];rfl)|rfl) ?_)))
 refine Wc.inv (fun m st => ∃ i : Nat, m = l.length - i ∧ i ≤ l.length ∧ ∃ d : Nat → AV, st.regs = (.sl (l.map hdV) tl :: .sl (l.map hdV) tl :: d 2 :: d 3 :: .v (.bool false) :: i64v i :: d 6 :: d 7 :: d 8 :: d 9 :: d 10 :: d 11 :: d 12 :: d 13 :: d 14 :: d 15 :: d 16 :: d 17 :: d 18 :: d 19 :: d 20 :: d 21 :: d 22 :: d 23 :: d 24 :: d 25 :: [])) l.length ?_ ?_
 ·exact ⟨0, by omega, by omega, dead_of rfl⟩
 ·rintro m regs own H1 ⟨i, rfl, hi, d, rfl⟩
  (repeat (first|(with_reducible first|apply jA|apply jC|apply jD|apply jE|apply jF|apply jG|apply jH|apply jI|apply jJ|apply jK|apply jL|apply jM|apply jN|apply jO)|(with_reducible apply SeqQ.id;refine SeqQ.norm (by first|(simp only [j0];rfl)|rfl) ?_)|with_reducible refine jP (by decide) ?_|(with_reducible apply jQ;first|refine jR rfl rfl rfl ?_|refine jS rfl rfl rfl ?_)|((first|((with_reducible first|apply jm|apply jn|apply jb|apply ju);repeat rfl)|((with_reducible apply jy);rfl;rfl;rfl)|((with_reducible apply jz);rfl;rfl;rfl)|((with_reducible apply jv);rfl)|((with_reducible apply jp);rfl;rfl;rfl;rfl;rfl)|((with_reducible apply jq);rfl;rfl;rfl;rfl;rfl)|((with_reducible apply jl);(with_reducible first|exact u28|exact u29);rfl));refine jT (by first|(simp only [j0];rfl)|rfl) ?_)))
  by_cases hlt : i < l.length
  ·have hget : (l.map hdV)[i]? = some (hdV l[i]) := by simp [List.getElem?_eq_getElem hlt]
   rw [show decide ((i : Int) < (((l.map hdV).length : Nat) : Int)) = true by simp; omega]
   (repeat (first|(with_reducible first|apply jA|apply jC|apply jD|apply jE|apply jF|apply jG|apply jH|apply jI|apply jJ|apply jK|apply jL|apply jM|apply jN|apply jO)|(with_reducible apply SeqQ.id;refine SeqQ.norm (by first|(simp only [j0];rfl)|rfl) ?_)|with_reducible refine jP (by decide) ?_|(with_reducible apply jQ;first|refine jR rfl rfl rfl ?_|refine jS rfl rfl rfl ?_)|((first|((with_reducible first|apply jm|apply jn|apply jb|apply ju);repeat rfl)|((with_reducible apply jy);rfl;rfl;rfl)|((with_reducible apply jz);rfl;rfl;rfl)|((with_reducible apply jv);rfl)|((with_reducible apply jp);rfl;rfl;rfl;rfl;rfl)|((with_reducible apply jq);rfl;rfl;rfl;rfl;rfl)|((with_reducible apply jl);(with_reducible first|exact u28|exact u29);rfl));refine jT (by first|(simp only [j0];rfl)|rfl) ?_)))
   refine Wc.drawnX rfl [] [] (by kernel_rfl) ?_
   (refine WdX.val rfl (.inl rfl) rfl rfl rfl (op_move rfl rfl) rfl ?_; refine WdX.norm (by first | (simp only [setAt]; rfl) | rfl) ?_)
   (refine WdX.val rfl (.inl rfl) rfl rfl rfl (op_move rfl rfl) rfl ?_; refine WdX.norm (by first | (simp only [setAt]; rfl) | rfl) ?_)
   refine WdX.val rfl (.inl rfl) rfl rfl rfl (op_indexAddr_sl (sz := 1) (j := i) (el := hdV l[i]) rfl rfl u29 sz52 rfl rfl rfl hget rfl) rfl ?_
   refine WdX.norm (by first | (simp only [setAt]; rfl) | rfl) ?_
   refine WdX.val rfl (.inl rfl) rfl rfl rfl (op_load_rp rfl rfl (tv52 _ _)) rfl ?_
   refine WdX.norm (by first | (simp only [setAt]; rfl) | rfl) ?_
   (refine WdX.val rfl (.inl rfl) rfl rfl rfl (op_move rfl rfl) rfl ?_; refine WdX.norm (by first | (simp only [setAt]; rfl) | rfl) ?_)
   (refine WdX.val rfl (.inl rfl) rfl rfl rfl (op_move rfl rfl) rfl ?_; refine WdX.norm (by first | (simp only [setAt]; rfl) | rfl) ?_)
   refine WdX.val rfl (.inl rfl) rfl rfl rfl (op_indexAddr_sl (sz := 1) (j := i) (el := hdV l[i]) rfl rfl u29 sz52 rfl rfl rfl hget rfl) rfl ?_
   refine WdX.norm (by first | (simp only [setAt]; rfl) | rfl) ?_
   refine WdX.val rfl (.inl rfl) rfl rfl rfl (op_load_rp rfl rfl (tv52 _ _)) rfl ?_
   refine WdX.norm (by first | (simp only [setAt]; rfl) | rfl) ?_
   refine WdX.val rfl (.inl rfl) rfl rfl rfl (op_binv rfl rfl rfl (pair_ne x _ _ l[i])) rfl ?_
   refine WdX.norm (by first | (simp only [setAt]; rfl) | rfl) ?_
   refine WdX.nil ?_
   (repeat (first|(with_reducible first|apply jA|apply jC|apply jD|apply jE|apply jF|apply jG|apply jH|apply jI|apply jJ|apply jK|apply jL|apply jM|apply jN|apply jO)|(with_reducible apply SeqQ.id;refine SeqQ.norm (by first|(simp only [j0];rfl)|rfl) ?_)|with_reducible refine jP (by decide) ?_|(with_reducible apply jQ;first|refine jR rfl rfl rfl ?_|refine jS rfl rfl rfl ?_)|((first|((with_reducible first|apply jm|apply jn|apply jb|apply ju);repeat rfl)|((with_reducible apply jy);rfl;rfl;rfl)|((with_reducible apply jz);rfl;rfl;rfl)|((with_reducible apply jv);rfl)|((with_reducible apply jp);rfl;rfl;rfl;rfl;rfl)|((with_reducible apply jq);rfl;rfl;rfl;rfl;rfl)|((with_reducible apply jl);(with_reducible first|exact u28|exact u29);rfl));refine jT (by first|(simp only [j0];rfl)|rfl) ?_)))
   rw [wrap1 (by omega)]
   (repeat (first|(with_reducible first|apply jA|apply jC|apply jD|apply jE|apply jF|apply jG|apply jH|apply jI|apply jJ|apply jK|apply jL|apply jM|apply jN|apply jO)|(with_reducible apply SeqQ.id;refine SeqQ.norm (by first|(simp only [j0];rfl)|rfl) ?_)|with_reducible refine jP (by decide) ?_|(with_reducible apply jQ;first|refine jR rfl rfl rfl ?_|refine jS rfl rfl rfl ?_)|((first|((with_reducible first|apply jm|apply jn|apply jb|apply ju);repeat rfl)|((with_reducible apply jy);rfl;rfl;rfl)|((with_reducible apply jz);rfl;rfl;rfl)|((with_reducible apply jv);rfl)|((with_reducible apply jp);rfl;rfl;rfl;rfl;rfl)|((with_reducible apply jq);rfl;rfl;rfl;rfl;rfl)|((with_reducible apply jl);(with_reducible first|exact u28|exact u29);rfl));refine jT (by first|(simp only [j0];rfl)|rfl) ?_)))
   exact LoopQ.normal (l.length - (i + 1)) (by omega) ⟨i + 1, rfl, by omega, dead_of rfl⟩
  ·rw [show decide ((i : Int) < (((l.map hdV).length : Nat) : Int)) = false by simp; omega]
   (repeat (first|(with_reducible first|apply jA|apply jC|apply jD|apply jE|apply jF|apply jG|apply jH|apply jI|apply jJ|apply jK|apply jL|apply jM|apply jN|apply jO)|(with_reducible apply SeqQ.id;refine SeqQ.norm (by first|(simp only [j0];rfl)|rfl) ?_)|with_reducible refine jP (by decide) ?_|(with_reducible apply jQ;first|refine jR rfl rfl rfl ?_|refine jS rfl rfl rfl ?_)|((first|((with_reducible first|apply jm|apply jn|apply jb|apply ju);repeat rfl)|((with_reducible apply jy);rfl;rfl;rfl)|((with_reducible apply jz);rfl;rfl;rfl)|((with_reducible apply jv);rfl)|((with_reducible apply jp);rfl;rfl;rfl;rfl;rfl)|((with_reducible apply jq);rfl;rfl;rfl;rfl;rfl)|((with_reducible apply jl);(with_reducible first|exact u28|exact u29);rfl));refine jT (by first|(simp only [j0];rfl)|rfl) ?_)))
   exact EndQ.ret rfl ⟨_, rfl, rfl, rfl, rfl⟩
theorem ld31 (a b c d e : AV) : (takeVar (Kq x).P 9 ([a, b, c, d, e].drop 0) = some a ∧ takeVar (Kq x).P 28 ([a, b, c, d, e].drop 1) = some b) ∧ takeVar (Kq x).P 29 ([a, b, c, d, e].drop 2) = some c ∧ takeVar (Kq x).P 29 ([a, b, c, d, e].drop 3) = some d ∧ takeVar (Kq x).P 9 ([a, b, c, d, e].drop 4) = some e := ⟨⟨take_one ag9 sz9, take_one ag28 sz28⟩, take_one ag29 sz29, take_one ag29 sz29, take_one ag9 sz9⟩
set_option maxHeartbeats 4000000 in
theorem same_tells (f : First) (hs : List Hd) (tl : Tail) (bd : Bs) (htl : tl.un = tl) (h1 : f.path.length < 4294967281) (h2 : f.query.length < 4294967281) (h3 : hs.length < 4294967281) (H : List AB) : Tells (Kq x) 9 [callV f hs tl bd, callV f hs tl bd] H fun r H' => H' = H ∧ r = .v (.bool true) := by
 refine Tells.vals (c := _) Tryz.func9 rfl (args' := [callV f hs tl bd, callV f hs tl bd]) (m := 57) rfl rfl rfl rfl rfl ?_
 (repeat (first|(with_reducible first|apply jA|apply jC|apply jD|apply jE|apply jF|apply jG|apply jH|apply jI|apply jJ|apply jK|apply jL|apply jM|apply jN|apply jO)|(with_reducible apply SeqQ.id;refine SeqQ.norm (by first|(simp only [j0];rfl)|rfl) ?_)|with_reducible refine jP (by decide) ?_|(with_reducible apply jQ;first|refine jR rfl rfl rfl ?_|refine jS rfl rfl rfl ?_)|((first|((with_reducible first|apply jm|apply jn|apply jb|apply ju);repeat rfl)|((with_reducible apply jy);rfl;rfl;rfl)|((with_reducible apply jz);rfl;rfl;rfl)|((with_reducible apply jv);rfl)|((with_reducible apply jp);rfl;rfl;rfl;rfl;rfl)|((with_reducible apply jq);rfl;rfl;rfl;rfl;rfl)|((with_reducible apply jl);(with_reducible first|exact u28|exact u29);rfl));refine jT (by first|(simp only [j0];rfl)|rfl) ?_)))
 refine Wo.doVal rfl rfl (op_box rfl rfl rfl) ?_
 refine Wo.doVal rfl rfl (op_box rfl rfl rfl) ?_
 (repeat (first|(with_reducible first|apply jA|apply jC|apply jD|apply jE|apply jF|apply jG|apply jH|apply jI|apply jJ|apply jK|apply jL|apply jM|apply jN|apply jO)|(with_reducible apply SeqQ.id;refine SeqQ.norm (by first|(simp only [j0];rfl)|rfl) ?_)|with_reducible refine jP (by decide) ?_|(with_reducible apply jQ;first|refine jR rfl rfl rfl ?_|refine jS rfl rfl rfl ?_)|((first|((with_reducible first|apply jm|apply jn|apply jb|apply ju);repeat rfl)|((with_reducible apply jy);rfl;rfl;rfl)|((with_reducible apply jz);rfl;rfl;rfl)|((with_reducible apply jv);rfl)|((with_reducible apply jp);rfl;rfl;rfl;rfl;rfl)|((with_reducible apply jq);rfl;rfl;rfl;rfl;rfl)|((with_reducible apply jl);(with_reducible first|exact u28|exact u29);rfl));refine jT (by first|(simp only [j0];rfl)|rfl) ?_)))
 have e0 : nth ([] ++ [AB.cells (31, true) (callV f hs tl bd).unown.cells] ++ [AB.cells (31, true) (callV f hs tl bd).unown.cells]) 0 = some (.cells (31, true) (callCells f hs tl bd)) := rfl
 have e1 : nth ([] ++ [AB.cells (31, true) (callV f hs tl bd).unown.cells] ++ [AB.cells (31, true) (callV f hs tl bd).unown.cells]) 1 = some (.cells (31, true) (callCells f hs tl bd)) := rfl
 generalize ([] ++ [AB.cells (31, true) (callV f hs tl bd).unown.cells] ++ [AB.cells (31, true) (callV f hs tl bd).unown.cells]) = H0 at *
 unfold callCells at e0 e1
 refine Wo.doVal rfl rfl (op_fieldAddr rfl rfl (fb31 0).1.1) ?_
 refine Wo.doVal rfl rfl (op_load_ptr rfl rfl e0 (ld31 _ _ _ _ _).1.1) ?_
 refine Wo.doVal rfl rfl (op_fieldAddr rfl rfl (fb31 1).1.1) ?_
 refine Wo.doVal rfl rfl (op_load_ptr rfl rfl e1 (ld31 _ _ _ _ _).1.1) ?_
 refine Wo.doVal rfl rfl (op_bin_str (r := .v (.bool (!(f.method == f.method)))) rfl rfl rfl rfl) ?_
 rw [ne_str]
 (repeat (first|(with_reducible first|apply jA|apply jC|apply jD|apply jE|apply jF|apply jG|apply jH|apply jI|apply jJ|apply jK|apply jL|apply jM|apply jN|apply jO)|(with_reducible apply SeqQ.id;refine SeqQ.norm (by first|(simp only [j0];rfl)|rfl) ?_)|with_reducible refine jP (by decide) ?_|(with_reducible apply jQ;first|refine jR rfl rfl rfl ?_|refine jS rfl rfl rfl ?_)|((first|((with_reducible first|apply jm|apply jn|apply jb|apply ju);repeat rfl)|((with_reducible apply jy);rfl;rfl;rfl)|((with_reducible apply jz);rfl;rfl;rfl)|((with_reducible apply jv);rfl)|((with_reducible apply jp);rfl;rfl;rfl;rfl;rfl)|((with_reducible apply jq);rfl;rfl;rfl;rfl;rfl)|((with_reducible apply jl);(with_reducible first|exact u28|exact u29);rfl));refine jT (by first|(simp only [j0];rfl)|rfl) ?_)))
 refine Wo.doVal rfl rfl (op_fieldAddr rfl rfl (fb31 0).2.2.2) ?_
 refine Wo.yes rfl rfl rfl rfl ?_
 refine Wo.doVal rfl rfl (op_load_ptr rfl rfl e0 (ld31 _ _ _ _ _).2.2.2) ?_
 refine Wo.yes rfl rfl rfl rfl ?_
 refine Wo.doVal rfl rfl (op_fieldAddr rfl rfl (fb31 1).2.2.2) ?_
 refine Wo.yes rfl rfl rfl rfl ?_
 refine Wo.doVal rfl rfl (op_load_ptr rfl rfl e1 (ld31 _ _ _ _ _).2.2.2) ?_
 refine Wo.yes rfl rfl rfl rfl ?_
 refine Wo.doVal rfl rfl (op_bin_str (r := .v (.bool (!(bd == bd)))) rfl rfl rfl rfl) ?_
 rw [ne_str]
 (repeat (first|(with_reducible first|apply jA|apply jC|apply jD|apply jE|apply jF|apply jG|apply jH|apply jI|apply jJ|apply jK|apply jL|apply jM|apply jN|apply jO)|(with_reducible apply SeqQ.id;refine SeqQ.norm (by first|(simp only [j0];rfl)|rfl) ?_)|with_reducible refine jP (by decide) ?_|(with_reducible apply jQ;first|refine jR rfl rfl rfl ?_|refine jS rfl rfl rfl ?_)|((first|((with_reducible first|apply jm|apply jn|apply jb|apply ju);repeat rfl)|((with_reducible apply jy);rfl;rfl;rfl)|((with_reducible apply jz);rfl;rfl;rfl)|((with_reducible apply jv);rfl)|((with_reducible apply jp);rfl;rfl;rfl;rfl;rfl)|((with_reducible apply jq);rfl;rfl;rfl;rfl;rfl)|((with_reducible apply jl);(with_reducible first|exact u28|exact u29);rfl));refine jT (by first|(simp only [j0];rfl)|rfl) ?_)))
 refine Wo.doVal rfl rfl (op_fieldAddr rfl rfl (fb31 0).1.2) ?_
 refine Wo.yes rfl rfl rfl rfl ?_
 refine Wo.doVal rfl rfl (op_load_ptr rfl rfl e0 (ld31 _ _ _ _ _).1.2) ?_
 rw [unown_sl, outTl_un]
 (repeat (first|(with_reducible first|apply jA|apply jC|apply jD|apply jE|apply jF|apply jG|apply jH|apply jI|apply jJ|apply jK|apply jL|apply jM|apply jN|apply jO)|(with_reducible apply SeqQ.id;refine SeqQ.norm (by first|(simp only [j0];rfl)|rfl) ?_)|with_reducible refine jP (by decide) ?_|(with_reducible apply jQ;first|refine jR rfl rfl rfl ?_|refine jS rfl rfl rfl ?_)|((first|((with_reducible first|apply jm|apply jn|apply jb|apply ju);repeat rfl)|((with_reducible apply jy);rfl;rfl;rfl)|((with_reducible apply jz);rfl;rfl;rfl)|((with_reducible apply jv);rfl)|((with_reducible apply jp);rfl;rfl;rfl;rfl;rfl)|((with_reducible apply jq);rfl;rfl;rfl;rfl;rfl)|((with_reducible apply jl);(with_reducible first|exact u28|exact u29);rfl));refine jT (by first|(simp only [j0];rfl)|rfl) ?_)))
 refine Wo.doVal rfl rfl (op_fieldAddr rfl rfl (fb31 1).1.2) ?_
 refine Wo.yes rfl rfl rfl rfl ?_
 refine Wo.doVal rfl rfl (op_load_ptr rfl rfl e1 (ld31 _ _ _ _ _).1.2) ?_
 rw [unown_sl, outTl_un]
 (repeat (first|(with_reducible first|apply jA|apply jC|apply jD|apply jE|apply jF|apply jG|apply jH|apply jI|apply jJ|apply jK|apply jL|apply jM|apply jN|apply jO)|(with_reducible apply SeqQ.id;refine SeqQ.norm (by first|(simp only [j0];rfl)|rfl) ?_)|with_reducible refine jP (by decide) ?_|(with_reducible apply jQ;first|refine jR rfl rfl rfl ?_|refine jS rfl rfl rfl ?_)|((first|((with_reducible first|apply jm|apply jn|apply jb|apply ju);repeat rfl)|((with_reducible apply jy);rfl;rfl;rfl)|((with_reducible apply jz);rfl;rfl;rfl)|((with_reducible apply jv);rfl)|((with_reducible apply jp);rfl;rfl;rfl;rfl;rfl)|((with_reducible apply jq);rfl;rfl;rfl;rfl;rfl)|((with_reducible apply jl);(with_reducible first|exact u28|exact u29);rfl));refine jT (by first|(simp only [j0];rfl)|rfl) ?_)))
 rw [show (((f.path.map AV.str).length : Int) != ((f.path.map AV.str).length : Int)) = false from ne_int _]
 (repeat (first|(with_reducible first|apply jA|apply jC|apply jD|apply jE|apply jF|apply jG|apply jH|apply jI|apply jJ|apply jK|apply jL|apply jM|apply jN|apply jO)|(with_reducible apply SeqQ.id;refine SeqQ.norm (by first|(simp only [j0];rfl)|rfl) ?_)|with_reducible refine jP (by decide) ?_|(with_reducible apply jQ;first|refine jR rfl rfl rfl ?_|refine jS rfl rfl rfl ?_)|((first|((with_reducible first|apply jm|apply jn|apply jb|apply ju);repeat rfl)|((with_reducible apply jy);rfl;rfl;rfl)|((with_reducible apply jz);rfl;rfl;rfl)|((with_reducible apply jv);rfl)|((with_reducible apply jp);rfl;rfl;rfl;rfl;rfl)|((with_reducible apply jq);rfl;rfl;rfl;rfl;rfl)|((with_reducible apply jl);(with_reducible first|exact u28|exact u29);rfl));refine jT (by first|(simp only [j0];rfl)|rfl) ?_)))
 refine Wc.inv (fun m st => ∃ i : Nat, m = f.path.length - i ∧ i ≤ f.path.length ∧ st.H = H0 ∧ ∃ d : Nat → AV, st.regs = (d 0 :: d 1 :: .ptr 0 0 :: .ptr 1 0 :: .v (.bool false) :: i64v i :: d 6 :: d 7 :: d 8 :: d 9 :: d 10 :: d 11 :: d 12 :: d 13 :: d 14 :: d 15 :: d 16 :: d 17 :: d 18 :: d 19 :: d 20 :: d 21 :: d 22 :: d 23 :: d 24 :: d 25 :: d 26 :: d 27 :: d 28 :: d 29 :: d 30 :: d 31 :: d 32 :: d 33 :: d 34 :: d 35 :: d 36 :: d 37 :: d 38 :: d 39 :: d 40 :: d 41 :: d 42 :: d 43 :: d 44 :: d 45 :: d 46 :: d 47 :: d 48 :: d 49 :: d 50 :: d 51 :: d 52 :: d 53 :: d 54 :: d 55 :: d 56 :: d 57 :: d 58 :: [])) f.path.length ?_ ?_
 ·exact ⟨0, by omega, by omega, rfl, dead_of rfl⟩
 ·rintro m regs own H1 ⟨i, rfl, hi, rfl, d, rfl⟩
  (repeat (first|(with_reducible first|apply jA|apply jC|apply jD|apply jE|apply jF|apply jG|apply jH|apply jI|apply jJ|apply jK|apply jL|apply jM|apply jN|apply jO)|(with_reducible apply SeqQ.id;refine SeqQ.norm (by first|(simp only [j0];rfl)|rfl) ?_)|with_reducible refine jP (by decide) ?_|(with_reducible apply jQ;first|refine jR rfl rfl rfl ?_|refine jS rfl rfl rfl ?_)|((first|((with_reducible first|apply jm|apply jn|apply jb|apply ju);repeat rfl)|((with_reducible apply jy);rfl;rfl;rfl)|((with_reducible apply jz);rfl;rfl;rfl)|((with_reducible apply jv);rfl)|((with_reducible apply jp);rfl;rfl;rfl;rfl;rfl)|((with_reducible apply jq);rfl;rfl;rfl;rfl;rfl)|((with_reducible apply jl);(with_reducible first|exact u28|exact u29);rfl));refine jT (by first|(simp only [j0];rfl)|rfl) ?_)))
  refine Wo.doVal rfl rfl (op_fieldAddr rfl rfl (fb31 0).1.2) ?_
  refine Wo.doVal rfl rfl (op_load_ptr rfl rfl e0 (ld31 _ _ _ _ _).1.2) ?_
  rw [unown_sl, outTl_un]
  (repeat (first|(with_reducible first|apply jA|apply jC|apply jD|apply jE|apply jF|apply jG|apply jH|apply jI|apply jJ|apply jK|apply jL|apply jM|apply jN|apply jO)|(with_reducible apply SeqQ.id;refine SeqQ.norm (by first|(simp only [j0];rfl)|rfl) ?_)|with_reducible refine jP (by decide) ?_|(with_reducible apply jQ;first|refine jR rfl rfl rfl ?_|refine jS rfl rfl rfl ?_)|((first|((with_reducible first|apply jm|apply jn|apply jb|apply ju);repeat rfl)|((with_reducible apply jy);rfl;rfl;rfl)|((with_reducible apply jz);rfl;rfl;rfl)|((with_reducible apply jv);rfl)|((with_reducible apply jp);rfl;rfl;rfl;rfl;rfl)|((with_reducible apply jq);rfl;rfl;rfl;rfl;rfl)|((with_reducible apply jl);(with_reducible first|exact u28|exact u29);rfl));refine jT (by first|(simp only [j0];rfl)|rfl) ?_)))
  by_cases hlt : i < f.path.length
  ·have hget : (f.path.map AV.str)[i]? = some (.str f.path[i]) := by simp [List.getElem?_eq_getElem hlt]
   rw [show decide ((i : Int) < (((f.path.map AV.str).length : Nat) : Int)) = true by simp; omega]
   (repeat (first|(with_reducible first|apply jA|apply jC|apply jD|apply jE|apply jF|apply jG|apply jH|apply jI|apply jJ|apply jK|apply jL|apply jM|apply jN|apply jO)|(with_reducible apply SeqQ.id;refine SeqQ.norm (by first|(simp only [j0];rfl)|rfl) ?_)|with_reducible refine jP (by decide) ?_|(with_reducible apply jQ;first|refine jR rfl rfl rfl ?_|refine jS rfl rfl rfl ?_)|((first|((with_reducible first|apply jm|apply jn|apply jb|apply ju);repeat rfl)|((with_reducible apply jy);rfl;rfl;rfl)|((with_reducible apply jz);rfl;rfl;rfl)|((with_reducible apply jv);rfl)|((with_reducible apply jp);rfl;rfl;rfl;rfl;rfl)|((with_reducible apply jq);rfl;rfl;rfl;rfl;rfl)|((with_reducible apply jl);(with_reducible first|exact u28|exact u29);rfl));refine jT (by first|(simp only [j0];rfl)|rfl) ?_)))
   refine Wc.drawnX rfl [] [] (by kernel_rfl) ?_
   refine WdX.val rfl (.inl rfl) rfl rfl rfl (op_fieldAddr rfl rfl (fb31 0).1.2) rfl ?_
   refine WdX.norm (by first | (simp only [setAt]; rfl) | rfl) ?_
   refine WdX.val rfl (.inl rfl) rfl rfl rfl (op_load_ptr rfl rfl e0 (ld31 _ _ _ _ _).1.2) rfl ?_
   rw [unown_sl, outTl_un]
   refine WdX.norm (by first | (simp only [setAt]; rfl) | rfl) ?_
   (refine WdX.val rfl (.inl rfl) rfl rfl rfl (op_move rfl rfl) rfl ?_; refine WdX.norm (by first | (simp only [setAt]; rfl) | rfl) ?_)
   refine WdX.val rfl (.inl rfl) rfl rfl rfl (op_indexAddr_sl (sz := 0) (j := i) (el := .str f.path[i]) rfl rfl u28 sz9 rfl rfl rfl hget rfl) rfl ?_
   refine WdX.norm (by first | (simp only [setAt]; rfl) | rfl) ?_
   refine WdX.val rfl (.inl rfl) rfl rfl rfl (op_load_rp rfl rfl (take_one ag9 sz9)) rfl ?_
   refine WdX.norm (by first | (simp only [setAt]; rfl) | rfl) ?_
   refine WdX.val rfl (.inl rfl) rfl rfl rfl (op_fieldAddr rfl rfl (fb31 1).1.2) rfl ?_
   refine WdX.norm (by first | (simp only [setAt]; rfl) | rfl) ?_
   refine WdX.val rfl (.inl rfl) rfl rfl rfl (op_load_ptr rfl rfl e1 (ld31 _ _ _ _ _).1.2) rfl ?_
   rw [unown_sl, outTl_un]
   refine WdX.norm (by first | (simp only [setAt]; rfl) | rfl) ?_
   (refine WdX.val rfl (.inl rfl) rfl rfl rfl (op_move rfl rfl) rfl ?_; refine WdX.norm (by first | (simp only [setAt]; rfl) | rfl) ?_)
   refine WdX.val rfl (.inl rfl) rfl rfl rfl (op_indexAddr_sl (sz := 0) (j := i) (el := .str f.path[i]) rfl rfl u28 sz9 rfl rfl rfl hget rfl) rfl ?_
   refine WdX.norm (by first | (simp only [setAt]; rfl) | rfl) ?_
   refine WdX.val rfl (.inl rfl) rfl rfl rfl (op_load_rp rfl rfl (take_one ag9 sz9)) rfl ?_
   refine WdX.norm (by first | (simp only [setAt]; rfl) | rfl) ?_
   refine WdX.val rfl (.inl rfl) rfl rfl rfl (op_bin_str (r := .v (.bool (!(f.path[i] == f.path[i])))) rfl rfl rfl rfl) rfl ?_
   rw [ne_str]
   refine WdX.norm (by first | (simp only [setAt]; rfl) | rfl) ?_
   refine WdX.nil ?_
   (repeat (first|(with_reducible first|apply jA|apply jC|apply jD|apply jE|apply jF|apply jG|apply jH|apply jI|apply jJ|apply jK|apply jL|apply jM|apply jN|apply jO)|(with_reducible apply SeqQ.id;refine SeqQ.norm (by first|(simp only [j0];rfl)|rfl) ?_)|with_reducible refine jP (by decide) ?_|(with_reducible apply jQ;first|refine jR rfl rfl rfl ?_|refine jS rfl rfl rfl ?_)|((first|((with_reducible first|apply jm|apply jn|apply jb|apply ju);repeat rfl)|((with_reducible apply jy);rfl;rfl;rfl)|((with_reducible apply jz);rfl;rfl;rfl)|((with_reducible apply jv);rfl)|((with_reducible apply jp);rfl;rfl;rfl;rfl;rfl)|((with_reducible apply jq);rfl;rfl;rfl;rfl;rfl)|((with_reducible apply jl);(with_reducible first|exact u28|exact u29);rfl));refine jT (by first|(simp only [j0];rfl)|rfl) ?_)))
   rw [wrap1 (by omega)]
   (repeat (first|(with_reducible first|apply jA|apply jC|apply jD|apply jE|apply jF|apply jG|apply jH|apply jI|apply jJ|apply jK|apply jL|apply jM|apply jN|apply jO)|(with_reducible apply SeqQ.id;refine SeqQ.norm (by first|(simp only [j0];rfl)|rfl) ?_)|with_reducible refine jP (by decide) ?_|(with_reducible apply jQ;first|refine jR rfl rfl rfl ?_|refine jS rfl rfl rfl ?_)|((first|((with_reducible first|apply jm|apply jn|apply jb|apply ju);repeat rfl)|((with_reducible apply jy);rfl;rfl;rfl)|((with_reducible apply jz);rfl;rfl;rfl)|((with_reducible apply jv);rfl)|((with_reducible apply jp);rfl;rfl;rfl;rfl;rfl)|((with_reducible apply jq);rfl;rfl;rfl;rfl;rfl)|((with_reducible apply jl);(with_reducible first|exact u28|exact u29);rfl));refine jT (by first|(simp only [j0];rfl)|rfl) ?_)))
   exact LoopQ.normal (f.path.length - (i + 1)) (by omega) ⟨i + 1, rfl, by omega, rfl, dead_of rfl⟩
  ·rw [show decide ((i : Int) < (((f.path.map AV.str).length : Nat) : Int)) = false by simp; omega]
   (repeat (first|(with_reducible first|apply jA|apply jC|apply jD|apply jE|apply jF|apply jG|apply jH|apply jI|apply jJ|apply jK|apply jL|apply jM|apply jN|apply jO)|(with_reducible apply SeqQ.id;refine SeqQ.norm (by first|(simp only [j0];rfl)|rfl) ?_)|with_reducible refine jP (by decide) ?_|(with_reducible apply jQ;first|refine jR rfl rfl rfl ?_|refine jS rfl rfl rfl ?_)|((first|((with_reducible first|apply jm|apply jn|apply jb|apply ju);repeat rfl)|((with_reducible apply jy);rfl;rfl;rfl)|((with_reducible apply jz);rfl;rfl;rfl)|((with_reducible apply jv);rfl)|((with_reducible apply jp);rfl;rfl;rfl;rfl;rfl)|((with_reducible apply jq);rfl;rfl;rfl;rfl;rfl)|((with_reducible apply jl);(with_reducible first|exact u28|exact u29);rfl));refine jT (by first|(simp only [j0];rfl)|rfl) ?_)))
   refine Wo.doVal rfl rfl (op_fieldAddr rfl rfl (fb31 0).2.1) ?_
   refine Wo.doVal rfl rfl (op_load_ptr rfl rfl e0 (ld31 _ _ _ _ _).2.1) ?_
   rw [unown_sl, outTl_un]
   refine Wo.doVal rfl rfl (op_fieldAddr rfl rfl (fb31 1).2.1) ?_
   refine Wo.doVal rfl rfl (op_load_ptr rfl rfl e1 (ld31 _ _ _ _ _).2.1) ?_
   rw [unown_sl, outTl_un]
   refine Wo.doCall rfl rfl (op_call (args := [.sl (f.query.map hdV) (outTl f.query), .sl (f.query.map hdV) (outTl f.query)]) rfl rfl) ?_
   simp only [List.map_cons, List.map_nil, unown_sl, outTl_un]
   refine (pairs_tells f.query (outTl f.query) (outTl_un _) h2 _).mono ?_
   rintro r1 H2 ⟨rfl, rfl⟩
   (repeat (first|(with_reducible first|apply jA|apply jC|apply jD|apply jE|apply jF|apply jG|apply jH|apply jI|apply jJ|apply jK|apply jL|apply jM|apply jN|apply jO)|(with_reducible apply SeqQ.id;refine SeqQ.norm (by first|(simp only [j0];rfl)|rfl) ?_)|with_reducible refine jP (by decide) ?_|(with_reducible apply jQ;first|refine jR rfl rfl rfl ?_|refine jS rfl rfl rfl ?_)|((first|((with_reducible first|apply jm|apply jn|apply jb|apply ju);repeat rfl)|((with_reducible apply jy);rfl;rfl;rfl)|((with_reducible apply jz);rfl;rfl;rfl)|((with_reducible apply jv);rfl)|((with_reducible apply jp);rfl;rfl;rfl;rfl;rfl)|((with_reducible apply jq);rfl;rfl;rfl;rfl;rfl)|((with_reducible apply jl);(with_reducible first|exact u28|exact u29);rfl));refine jT (by first|(simp only [j0];rfl)|rfl) ?_)))
   refine Wo.doVal rfl rfl (op_fieldAddr rfl rfl (fb31 0).2.2.1) ?_
   refine Wo.yes rfl rfl rfl rfl ?_
   refine Wo.doVal rfl rfl (op_load_ptr rfl rfl e0 (ld31 _ _ _ _ _).2.2.1) ?_
   rw [unown_sl, htl]
   (repeat (first|(with_reducible first|apply jA|apply jC|apply jD|apply jE|apply jF|apply jG|apply jH|apply jI|apply jJ|apply jK|apply jL|apply jM|apply jN|apply jO)|(with_reducible apply SeqQ.id;refine SeqQ.norm (by first|(simp only [j0];rfl)|rfl) ?_)|with_reducible refine jP (by decide) ?_|(with_reducible apply jQ;first|refine jR rfl rfl rfl ?_|refine jS rfl rfl rfl ?_)|((first|((with_reducible first|apply jm|apply jn|apply jb|apply ju);repeat rfl)|((with_reducible apply jy);rfl;rfl;rfl)|((with_reducible apply jz);rfl;rfl;rfl)|((with_reducible apply jv);rfl)|((with_reducible apply jp);rfl;rfl;rfl;rfl;rfl)|((with_reducible apply jq);rfl;rfl;rfl;rfl;rfl)|((with_reducible apply jl);(with_reducible first|exact u28|exact u29);rfl));refine jT (by first|(simp only [j0];rfl)|rfl) ?_)))
   refine Wo.doVal rfl rfl (op_fieldAddr rfl rfl (fb31 1).2.2.1) ?_
   refine Wo.yes rfl rfl rfl rfl ?_
   refine Wo.doVal rfl rfl (op_load_ptr rfl rfl e1 (ld31 _ _ _ _ _).2.2.1) ?_
   rw [unown_sl, htl]
   refine Wo.yes rfl rfl rfl rfl ?_
   refine Wo.doCall rfl rfl (op_call (args := [.sl (hs.map hdV) tl, .sl (hs.map hdV) tl]) rfl rfl) ?_
   simp only [List.map_cons, List.map_nil, unown_sl, htl]
   refine (pairs_tells hs tl htl h3 _).mono ?_
   rintro r1 H2 ⟨rfl, rfl⟩
   (repeat (first|(with_reducible first|apply jA|apply jC|apply jD|apply jE|apply jF|apply jG|apply jH|apply jI|apply jJ|apply jK|apply jL|apply jM|apply jN|apply jO)|(with_reducible apply SeqQ.id;refine SeqQ.norm (by first|(simp only [j0];rfl)|rfl) ?_)|with_reducible refine jP (by decide) ?_|(with_reducible apply jQ;first|refine jR rfl rfl rfl ?_|refine jS rfl rfl rfl ?_)|((first|((with_reducible first|apply jm|apply jn|apply jb|apply ju);repeat rfl)|((with_reducible apply jy);rfl;rfl;rfl)|((with_reducible apply jz);rfl;rfl;rfl)|((with_reducible apply jv);rfl)|((with_reducible apply jp);rfl;rfl;rfl;rfl;rfl)|((with_reducible apply jq);rfl;rfl;rfl;rfl;rfl)|((with_reducible apply jl);(with_reducible first|exact u28|exact u29);rfl));refine jT (by first|(simp only [j0];rfl)|rfl) ?_)))
   exact EndQ.ret rfl ⟨.v (.bool true), rfl, rfl, trivial, rfl⟩
end
end Go.Proofs.Hc
