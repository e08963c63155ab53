/- HttpBodies: the law's body; Next of a broken stream; Waits. -/
import Derived.Test.YtfihfpgphipglaaGreatDoorHcBackP
set_option linter.unusedVariables false
set_option linter.unusedSimpArgs false
set_option linter.unusedSectionVars false
namespace Go.Proofs.Hc
open Go.Tm
set_option maxRecDepth 100000
def putF : First := ⟨[80, 85, 84], [[120]], []⟩
def getF : First := ⟨[71, 69, 84], [[]], []⟩
def getText : Bs := [71, 69, 84, 32, 47, 32, 72, 84, 84, 80, 47, 49, 46, 49, 13, 10, 13, 10]
theorem put_ok : FOk putF := ⟨by decide, by decide, by decide, by decide⟩
theorem get_ok : FOk getF := ⟨by decide, by decide, by decide, by decide⟩
theorem put_line : (lineText putF).length = 6 := by decide
theorem get_next : nextP getText = .got ⟨getF, [], []⟩ [] := by
 have e0 : getText = (lineText getF ++ 32 :: version) ++ (crlf ++ crlf) := by decide
 have hidx : Lib.index ((lineText getF ++ 32 :: version) ++ (crlf ++ crlf)) crlf = ((lineText getF ++ 32 :: version).length : Int) := idx_clean (t := crlf) (c := 13) rfl (by decide) (by decide)
 have hl : (lineText getF ++ 32 :: version).length = 14 := by decide
 rw [e0]
 unfold nextP
 rw [hidx, if_neg (by omega), if_neg (by omega), Int.toNat_natCast, List.take_left, first_line get_ok]
 simp only
 have e2 : ((lineText getF ++ 32 :: version) ++ (crlf ++ crlf)).drop ((lineText getF ++ 32 :: version).length + 2) = crlf := by
  rw [hl]; decide
 rw [e2]
 unfold headP
 rw [if_pos (by decide)]
 unfold bodyP
 rw [List.take_zero, heads_nil]
 rfl
section
variable {x : Value}
theorem rem3 (p q : Operand) (a b : Int) (h : b ≠ 0) : pureRun (Kq x).P (do eqGuard .rem 3 p q (.int .i64 a) (.int .i64 b); binOp .rem 3 (.int .i64 a) (.int .i64 b)) = some (.int .i64 (a.tmod b)) := by
 show pureRun (Kq x).P (Op.intDiv .rem .i64 a b) = _
 unfold Op.intDiv
 simp [h]
 rfl
theorem bld38z : aBuild (Kq x) 38 [] = some (.agg [.str [], i64v 0]) := by kernel_rfl
theorem bldPut (b : Bs) : aBuild (Kq x) 31 [(0, .str [80, 85, 84]), (1, .sl [.str [120]] .full), (4, .str b)] = some (callW putF .full .nil b) := by kernel_rfl
theorem one28x (own : Nat → Nat) (H : List AB) (s : Bs) : aBuildSlice (Kq x) false own H 28 1 [(0, .str s)] = some (.val (.sl [.str s] .full) own H) := by kernel_rfl
set_option maxHeartbeats 2000000 in
theorem broken_tells (H : List AB) (b : Nat) (buf : Bs) (s : Nat) (hs0 : s ≠ 0) (hs : Strm H b buf s) : Tells (Kq x) 13 [.ptr b 0] H fun r H' => r = .tup [.agg zero31, i64v s] ∧ Strm H' b buf s ∧ Keeps b H H' := by
 refine Tells.mem (c := _) Tryz.func13 rfl (args' := [.ptr b 0]) (m := 156) rfl rfl rfl rfl rfl ?_
 have hbl := nth_lt' hs
 (repeat (first|(with_reducible first|apply jA|apply jC|apply jD|apply jE|apply jF|apply jG|apply jH|apply jI|apply jJ|apply jK|apply jL|apply jM|apply jN|apply jO)|(with_reducible apply SeqQ.id;refine SeqQ.norm (by first|(simp only [j0];rfl)|rfl) ?_)|with_reducible refine jP (by decide) ?_|(with_reducible apply jQ;first|refine jR rfl rfl rfl ?_|refine jS rfl rfl rfl ?_)|((first|((with_reducible first|apply jm|apply jn|apply jb|apply ju);repeat rfl)|((with_reducible apply jy);iterate 3 rfl)|((with_reducible apply jz);iterate 3 rfl)|((with_reducible apply jp);iterate 5 rfl)|((with_reducible apply jq);iterate 5 rfl)|((with_reducible apply jk);exact u9;rfl));refine jT (by first|(simp only [j0];rfl)|rfl) ?_)))
 refine Wo.doVal rfl rfl (op_alloc rfl z31 rfl) ?_
 have hs1 : Strm (H ++ [zB]) b buf s := nth_app_left hs
 have hp1 : nth (H ++ [zB]) H.length = some (.cells (31, true) zero31) := nth_app_new _ _
 have hk1 := (Keeps.refl b H).app [zB]
 generalize H ++ [zB] = H1 at *
 (repeat (first|(with_reducible first|apply jA|apply jC|apply jD|apply jE|apply jF|apply jG|apply jH|apply jI|apply jJ|apply jK|apply jL|apply jM|apply jN|apply jO)|(with_reducible apply SeqQ.id;refine SeqQ.norm (by first|(simp only [j0];rfl)|rfl) ?_)|with_reducible refine jP (by decide) ?_|(with_reducible apply jQ;first|refine jR rfl rfl rfl ?_|refine jS rfl rfl rfl ?_)|((first|((with_reducible first|apply jm|apply jn|apply jb|apply ju);repeat rfl)|((with_reducible apply jy);iterate 3 rfl)|((with_reducible apply jz);iterate 3 rfl)|((with_reducible apply jp);iterate 5 rfl)|((with_reducible apply jq);iterate 5 rfl)|((with_reducible apply jk);exact u9;rfl));refine jT (by first|(simp only [j0];rfl)|rfl) ?_)))
 refine Wo.doVal rfl rfl (op_binv rfl rfl rfl (nil34 b _ _)) ?_
 (repeat (first|(with_reducible first|apply jA|apply jC|apply jD|apply jE|apply jF|apply jG|apply jH|apply jI|apply jJ|apply jK|apply jL|apply jM|apply jN|apply jO)|(with_reducible apply SeqQ.id;refine SeqQ.norm (by first|(simp only [j0];rfl)|rfl) ?_)|with_reducible refine jP (by decide) ?_|(with_reducible apply jQ;first|refine jR rfl rfl rfl ?_|refine jS rfl rfl rfl ?_)|((first|((with_reducible first|apply jm|apply jn|apply jb|apply ju);repeat rfl)|((with_reducible apply jy);iterate 3 rfl)|((with_reducible apply jz);iterate 3 rfl)|((with_reducible apply jp);iterate 5 rfl)|((with_reducible apply jq);iterate 5 rfl)|((with_reducible apply jk);exact u9;rfl));refine jT (by first|(simp only [j0];rfl)|rfl) ?_)))
 refine Wo.doVal rfl rfl (op_nilCheck rfl rfl) ?_
 refine Wo.doVal rfl rfl (op_fieldAddr rfl rfl (fb38 b).2) ?_
 refine Wo.doVal rfl rfl (op_load_ptr (v := i64v s) rfl rfl hs1 (ld38_1 _ _)) ?_
 (repeat (first|(with_reducible first|apply jA|apply jC|apply jD|apply jE|apply jF|apply jG|apply jH|apply jI|apply jJ|apply jK|apply jL|apply jM|apply jN|apply jO)|(with_reducible apply SeqQ.id;refine SeqQ.norm (by first|(simp only [j0];rfl)|rfl) ?_)|with_reducible refine jP (by decide) ?_|(with_reducible apply jQ;first|refine jR rfl rfl rfl ?_|refine jS rfl rfl rfl ?_)|((first|((with_reducible first|apply jm|apply jn|apply jb|apply ju);repeat rfl)|((with_reducible apply jy);iterate 3 rfl)|((with_reducible apply jz);iterate 3 rfl)|((with_reducible apply jp);iterate 5 rfl)|((with_reducible apply jq);iterate 5 rfl)|((with_reducible apply jk);exact u9;rfl));refine jT (by first|(simp only [j0];rfl)|rfl) ?_)))
 rw [show ((s : Int) != 0) = true by simp; omega]
 (repeat (first|(with_reducible first|apply jA|apply jC|apply jD|apply jE|apply jF|apply jG|apply jH|apply jI|apply jJ|apply jK|apply jL|apply jM|apply jN|apply jO)|(with_reducible apply SeqQ.id;refine SeqQ.norm (by first|(simp only [j0];rfl)|rfl) ?_)|with_reducible refine jP (by decide) ?_|(with_reducible apply jQ;first|refine jR rfl rfl rfl ?_|refine jS rfl rfl rfl ?_)|((first|((with_reducible first|apply jm|apply jn|apply jb|apply ju);repeat rfl)|((with_reducible apply jy);iterate 3 rfl)|((with_reducible apply jz);iterate 3 rfl)|((with_reducible apply jp);iterate 5 rfl)|((with_reducible apply jq);iterate 5 rfl)|((with_reducible apply jk);exact u9;rfl));refine jT (by first|(simp only [j0];rfl)|rfl) ?_)))
 refine Wc.drawnX rfl [4] [5] (by kernel_rfl) ?_
 refine WdX.val rfl (.inl rfl) rfl rfl rfl (op_build rfl rfl bld31z) rfl ?_
 refine WdX.norm (by first | (simp only [j0]; rfl) | rfl) ?_
 (refine WdX.val rfl (.inl rfl) rfl rfl rfl (op_move rfl rfl) rfl ?_; refine WdX.norm (by first | (simp only [j0]; rfl) | rfl) ?_)
 refine WdX.val rfl (.inl rfl) rfl rfl rfl (op_nilCheck rfl rfl) rfl ?_
 refine WdX.norm (by first | (simp only [j0]; rfl) | rfl) ?_
 refine WdX.val rfl (.inl rfl) rfl rfl rfl (op_fieldAddr rfl rfl (fb38 b).2) rfl ?_
 refine WdX.norm (by first | (simp only [j0]; rfl) | rfl) ?_
 refine WdX.read rfl (.inl rfl) rfl rfl rfl (op_load_ptr (v := i64v s) rfl rfl hs1 (ld38_1 _ _)) rfl (fun p hp => by cases hp) ?_
 refine WdX.norm (by first | (simp only [j0]; rfl) | rfl) ?_
 have hs2 : Strm (setAt H1 H.length (.cells (31, true) zero31)) b buf s := by unfold Strm; rw [nth_set_other (by omega)]; exact hs1
 have hsm : Go.Tm.same (i64v s) (i64v s) = true := by simp [Go.Tm.same]
 refine WdX.skip rfl (.inl rfl) rfl rfl rfl (op_store rfl rfl rfl (st31 hp1 bld31_all)) (fun r hr => by
  obtain rfl := List.mem_singleton.1 hr
  exact ⟨_, _, op_load_ptr (v := i64v s) rfl rfl hs1 (ld38_1 _ _), hsm⟩) (fun r hr => by
  obtain rfl := List.mem_singleton.1 hr
  exact ⟨_, _, op_load_ptr (v := i64v s) rfl rfl hs2 (ld38_1 _ _), hsm⟩) ?_
 refine WdX.val rfl (.inl rfl) rfl rfl rfl (op_assign rfl rfl) rfl ?_
 refine WdX.norm (by first | (simp only [j0]; rfl) | rfl) ?_
 refine WdX.nil ?_
 (repeat (first|(with_reducible first|apply jA|apply jC|apply jD|apply jE|apply jF|apply jG|apply jH|apply jI|apply jJ|apply jK|apply jL|apply jM|apply jN|apply jO)|(with_reducible apply SeqQ.id;refine SeqQ.norm (by first|(simp only [j0];rfl)|rfl) ?_)|with_reducible refine jP (by decide) ?_|(with_reducible apply jQ;first|refine jR rfl rfl rfl ?_|refine jS rfl rfl rfl ?_)|((first|((with_reducible first|apply jm|apply jn|apply jb|apply ju);repeat rfl)|((with_reducible apply jy);iterate 3 rfl)|((with_reducible apply jz);iterate 3 rfl)|((with_reducible apply jp);iterate 5 rfl)|((with_reducible apply jq);iterate 5 rfl)|((with_reducible apply jk);exact u9;rfl));refine jT (by first|(simp only [j0];rfl)|rfl) ?_)))
 exact EndQ.ret (resC rfl (nth_set_same hp1) rfl) ⟨rfl, hs2, hk1.setNew (Nat.le_refl _) _⟩
set_option maxHeartbeats 1000000 in
theorem waits_tells (H : List AB) (b : Nat) (buf : Bs) (st : Int) (hs : Strm H b buf st) : Tells (Kq x) 15 [.ptr b 0] H fun r H' => r = i64v buf.length ∧ H' = H := by
 refine Tells.mem (c := _) Tryz.func15 rfl (args' := [.ptr b 0]) (m := 10) rfl rfl rfl rfl rfl ?_
 (repeat (first|(with_reducible first|apply jA|apply jC|apply jD|apply jE|apply jF|apply jG|apply jH|apply jI|apply jJ|apply jK|apply jL|apply jM|apply jN|apply jO)|(with_reducible apply SeqQ.id;refine SeqQ.norm (by first|(simp only [j0];rfl)|rfl) ?_)|with_reducible refine jP (by decide) ?_|(with_reducible apply jQ;first|refine jR rfl rfl rfl ?_|refine jS rfl rfl rfl ?_)|((first|((with_reducible first|apply jm|apply jn|apply jb|apply ju);repeat rfl)|((with_reducible apply jy);iterate 3 rfl)|((with_reducible apply jz);iterate 3 rfl)|((with_reducible apply jp);iterate 5 rfl)|((with_reducible apply jq);iterate 5 rfl)|((with_reducible apply jk);exact u9;rfl));refine jT (by first|(simp only [j0];rfl)|rfl) ?_)))
 refine Wo.doVal rfl rfl (op_binv rfl rfl rfl (nil34 b _ _)) ?_
 (repeat (first|(with_reducible first|apply jA|apply jC|apply jD|apply jE|apply jF|apply jG|apply jH|apply jI|apply jJ|apply jK|apply jL|apply jM|apply jN|apply jO)|(with_reducible apply SeqQ.id;refine SeqQ.norm (by first|(simp only [j0];rfl)|rfl) ?_)|with_reducible refine jP (by decide) ?_|(with_reducible apply jQ;first|refine jR rfl rfl rfl ?_|refine jS rfl rfl rfl ?_)|((first|((with_reducible first|apply jm|apply jn|apply jb|apply ju);repeat rfl)|((with_reducible apply jy);iterate 3 rfl)|((with_reducible apply jz);iterate 3 rfl)|((with_reducible apply jp);iterate 5 rfl)|((with_reducible apply jq);iterate 5 rfl)|((with_reducible apply jk);exact u9;rfl));refine jT (by first|(simp only [j0];rfl)|rfl) ?_)))
 refine Wo.doVal rfl rfl (op_nilCheck rfl rfl) ?_
 refine Wo.doVal rfl rfl (op_fieldAddr rfl rfl (fb38 b).1) ?_
 refine Wo.doVal rfl rfl (op_fieldAddr rfl rfl (fb36 b)) ?_
 refine Wo.doVal rfl rfl (op_load_ptr (v := .str buf) rfl rfl hs (ld38_0 _ _)) ?_
 (repeat (first|(with_reducible first|apply jA|apply jC|apply jD|apply jE|apply jF|apply jG|apply jH|apply jI|apply jJ|apply jK|apply jL|apply jM|apply jN|apply jO)|(with_reducible apply SeqQ.id;refine SeqQ.norm (by first|(simp only [j0];rfl)|rfl) ?_)|with_reducible refine jP (by decide) ?_|(with_reducible apply jQ;first|refine jR rfl rfl rfl ?_|refine jS rfl rfl rfl ?_)|((first|((with_reducible first|apply jm|apply jn|apply jb|apply ju);repeat rfl)|((with_reducible apply jy);iterate 3 rfl)|((with_reducible apply jz);iterate 3 rfl)|((with_reducible apply jp);iterate 5 rfl)|((with_reducible apply jq);iterate 5 rfl)|((with_reducible apply jk);exact u9;rfl));refine jT (by first|(simp only [j0];rfl)|rfl) ?_)))
 exact EndQ.ret rfl ⟨rfl, rfl⟩
theorem next_got {H : List AB} {b : Nat} {buf rest : Bs} {c : Req} (hn : nextP buf = .got c rest) (hl : buf.length ≤ 65536) (hs : Strm H b buf 0) : Tells (Kq x) 13 [.ptr b 0] H fun r H' => Keeps b H H' ∧ r = .tup [callV c.toFirst c.headers (outTl c.headers) c.body, i64v 0] ∧ Strm H' b rest 0 :=
 (next_tells H b buf hl hs).mono fun r H' h => by unfold NextSays at h; rw [hn] at h; exact h
theorem next_broke {H : List AB} {b : Nat} {buf : Bs} {s : Nat} (hn : nextP buf = .broke s) (hl : buf.length ≤ 65536) (hs : Strm H b buf 0) : Tells (Kq x) 13 [.ptr b 0] H fun r H' => Keeps b H H' ∧ r = .tup [.agg zero31, i64v (s : Nat)] ∧ Strm H' b [] (s : Nat) :=
 (next_tells H b buf hl hs).mono fun r H' h => by unfold NextSays at h; rw [hn] at h; exact h
set_option maxHeartbeats 8000000 in
theorem bodies_tells (body : Bs) (hb : body.length < 2 ^ 62) (size : Int) (H : List AB) : Tells (Kq x) 5 [.str body, i64v size] H fun r H' => r = .v (.bool true) ∧ H' = H := by
 refine Tells.vals (c := _) Tryz.func5 rfl (args' := [.str body, i64v size]) (m := 104) rfl rfl rfl rfl rfl ?_
 (repeat (first|(with_reducible first|apply jA|apply jC|apply jD|apply jE|apply jF|apply jG|apply jH|apply jI|apply jJ|apply jK|apply jL|apply jM|apply jN|apply jO)|(with_reducible apply SeqQ.id;refine SeqQ.norm (by first|(simp only [j0];rfl)|rfl) ?_)|with_reducible refine jP (by decide) ?_|(with_reducible apply jQ;first|refine jR rfl rfl rfl ?_|refine jS rfl rfl rfl ?_)|((first|((with_reducible first|apply jm|apply jn|apply jb|apply ju);repeat rfl)|((with_reducible apply jy);iterate 3 rfl)|((with_reducible apply jz);iterate 3 rfl)|((with_reducible apply jp);iterate 5 rfl)|((with_reducible apply jq);iterate 5 rfl)|((with_reducible apply jk);exact u9;rfl));refine jT (by first|(simp only [j0];rfl)|rfl) ?_)))
 refine Wo.doCall rfl rfl (op_call (args := []) rfl rfl) (Tells.libv (g := toldTrue) (r := .v (.bool true)) rfl rfl ?_)
 (repeat (first|(with_reducible first|apply jA|apply jC|apply jD|apply jE|apply jF|apply jG|apply jH|apply jI|apply jJ|apply jK|apply jL|apply jM|apply jN|apply jO)|(with_reducible apply SeqQ.id;refine SeqQ.norm (by first|(simp only [j0];rfl)|rfl) ?_)|with_reducible refine jP (by decide) ?_|(with_reducible apply jQ;first|refine jR rfl rfl rfl ?_|refine jS rfl rfl rfl ?_)|((first|((with_reducible first|apply jm|apply jn|apply jb|apply ju);repeat rfl)|((with_reducible apply jy);iterate 3 rfl)|((with_reducible apply jz);iterate 3 rfl)|((with_reducible apply jp);iterate 5 rfl)|((with_reducible apply jq);iterate 5 rfl)|((with_reducible apply jk);exact u9;rfl));refine jT (by first|(simp only [j0];rfl)|rfl) ?_)))
 refine Wc.mid (fun st => ∃ n : Nat, n ≤ 31000 ∧ ∃ d : Nat → AV, st.regs = (.str body :: d 1 :: d 2 :: d 3 :: .v (.bool false) :: .v (.bool true) :: i64v n :: d 7 :: d 8 :: d 9 :: d 10 :: d 11 :: d 12 :: d 13 :: d 14 :: d 15 :: d 16 :: d 17 :: d 18 :: d 19 :: d 20 :: d 21 :: d 22 :: d 23 :: d 24 :: d 25 :: d 26 :: d 27 :: d 28 :: d 29 :: d 30 :: d 31 :: d 32 :: d 33 :: d 34 :: d 35 :: d 36 :: d 37 :: d 38 :: d 39 :: d 40 :: d 41 :: d 42 :: d 43 :: d 44 :: d 45 :: d 46 :: d 47 :: d 48 :: d 49 :: d 50 :: d 51 :: d 52 :: d 53 :: d 54 :: d 55 :: d 56 :: d 57 :: d 58 :: d 59 :: d 60 :: d 61 :: d 62 :: d 63 :: d 64 :: d 65 :: d 66 :: d 67 :: d 68 :: d 69 :: d 70 :: d 71 :: d 72 :: d 73 :: d 74 :: d 75 :: d 76 :: d 77 :: d 78 :: d 79 :: d 80 :: d 81 :: d 82 :: d 83 :: d 84 :: d 85 :: d 86 :: d 87 :: d 88 :: d 89 :: d 90 :: d 91 :: d 92 :: d 93 :: d 94 :: d 95 :: d 96 :: d 97 :: d 98 :: d 99 :: d 100 :: d 101 :: d 102 :: d 103 :: d 104 :: d 105 :: [])) ?_ ?_
 ·have h1 : (size.tmod 31001).natAbs ≤ 31000 := by
   have := Int.natAbs_tmod size 31001
   have h2 := Nat.mod_lt size.natAbs (show (31001 : Int).natAbs > 0 by decide)
   rw [this]
   have : (31001 : Int).natAbs = 31001 := rfl
   omega
  by_cases h0 : size.tmod 31001 < 0
  ·refine Wc.condT rfl rfl (by simp [h0]) ?_
   (repeat (first|(with_reducible first|apply jA|apply jC|apply jD|apply jE|apply jF|apply jG|apply jH|apply jI|apply jJ|apply jK|apply jL|apply jM|apply jN|apply jO)|(with_reducible apply SeqQ.id;refine SeqQ.norm (by first|(simp only [j0];rfl)|rfl) ?_)|with_reducible refine jP (by decide) ?_|(with_reducible apply jQ;first|refine jR rfl rfl rfl ?_|refine jS rfl rfl rfl ?_)|((first|((with_reducible first|apply jm|apply jn|apply jb|apply ju);repeat rfl)|((with_reducible apply jy);iterate 3 rfl)|((with_reducible apply jz);iterate 3 rfl)|((with_reducible apply jp);iterate 5 rfl)|((with_reducible apply jq);iterate 5 rfl)|((with_reducible apply jk);exact u9;rfl));refine jT (by first|(simp only [j0];rfl)|rfl) ?_)))
   refine ⟨rfl, (size.tmod 31001).natAbs, h1, ?_⟩
   rw [show IntKind.i64.wrap (0 - size.tmod 31001) = ((size.tmod 31001).natAbs : Int) by rw [IntKind.wrap_i64]; omega]
   exact dead_of rfl
  ·refine Wc.condF rfl rfl (by simp; omega) ?_
   (repeat (first|(with_reducible first|apply jA|apply jC|apply jD|apply jE|apply jF|apply jG|apply jH|apply jI|apply jJ|apply jK|apply jL|apply jM|apply jN|apply jO)|(with_reducible apply SeqQ.id;refine SeqQ.norm (by first|(simp only [j0];rfl)|rfl) ?_)|with_reducible refine jP (by decide) ?_|(with_reducible apply jQ;first|refine jR rfl rfl rfl ?_|refine jS rfl rfl rfl ?_)|((first|((with_reducible first|apply jm|apply jn|apply jb|apply ju);repeat rfl)|((with_reducible apply jy);iterate 3 rfl)|((with_reducible apply jz);iterate 3 rfl)|((with_reducible apply jp);iterate 5 rfl)|((with_reducible apply jq);iterate 5 rfl)|((with_reducible apply jk);exact u9;rfl));refine jT (by first|(simp only [j0];rfl)|rfl) ?_)))
   refine ⟨rfl, (size.tmod 31001).natAbs, h1, ?_⟩
   rw [show size.tmod 31001 = ((size.tmod 31001).natAbs : Int) by omega]
   exact dead_of rfl
 ·rintro R own H1 ⟨n, hn, d, rfl⟩
  (repeat (first|(with_reducible first|apply jA|apply jC|apply jD|apply jE|apply jF|apply jG|apply jH|apply jI|apply jJ|apply jK|apply jL|apply jM|apply jN|apply jO)|(with_reducible apply SeqQ.id;refine SeqQ.norm (by first|(simp only [j0];rfl)|rfl) ?_)|with_reducible refine jP (by decide) ?_|(with_reducible apply jQ;first|refine jR rfl rfl rfl ?_|refine jS rfl rfl rfl ?_)|((first|((with_reducible first|apply jm|apply jn|apply jb|apply ju);repeat rfl)|((with_reducible apply jy);iterate 3 rfl)|((with_reducible apply jz);iterate 3 rfl)|((with_reducible apply jp);iterate 5 rfl)|((with_reducible apply jq);iterate 5 rfl)|((with_reducible apply jk);exact u9;rfl));refine jT (by first|(simp only [j0];rfl)|rfl) ?_)))
  refine Wc.inv (fun m st => ∃ t : Bs, m = n - t.length ∧ t.length < 2 ^ 62 ∧ ∃ d : Nat → AV, st.regs = (.str t :: d 1 :: d 2 :: d 3 :: .v (.bool false) :: .v (.bool true) :: i64v n :: d 7 :: d 8 :: d 9 :: d 10 :: d 11 :: d 12 :: d 13 :: d 14 :: d 15 :: d 16 :: d 17 :: d 18 :: d 19 :: d 20 :: d 21 :: d 22 :: d 23 :: d 24 :: d 25 :: d 26 :: d 27 :: d 28 :: d 29 :: d 30 :: d 31 :: d 32 :: d 33 :: d 34 :: d 35 :: d 36 :: d 37 :: d 38 :: d 39 :: d 40 :: d 41 :: d 42 :: d 43 :: d 44 :: d 45 :: d 46 :: d 47 :: d 48 :: d 49 :: d 50 :: d 51 :: d 52 :: d 53 :: d 54 :: d 55 :: d 56 :: d 57 :: d 58 :: d 59 :: d 60 :: d 61 :: d 62 :: d 63 :: d 64 :: d 65 :: d 66 :: d 67 :: d 68 :: d 69 :: d 70 :: d 71 :: d 72 :: d 73 :: d 74 :: d 75 :: d 76 :: d 77 :: d 78 :: d 79 :: d 80 :: d 81 :: d 82 :: d 83 :: d 84 :: d 85 :: d 86 :: d 87 :: d 88 :: d 89 :: d 90 :: d 91 :: d 92 :: d 93 :: d 94 :: d 95 :: d 96 :: d 97 :: d 98 :: d 99 :: d 100 :: d 101 :: d 102 :: d 103 :: d 104 :: d 105 :: [])) (n - body.length) ?_ ?_
  ·exact ⟨body, rfl, hb, dead_of rfl⟩
  ·rintro m regs own2 H2 ⟨t, rfl, htl, d, rfl⟩
   (repeat (first|(with_reducible first|apply jA|apply jC|apply jD|apply jE|apply jF|apply jG|apply jH|apply jI|apply jJ|apply jK|apply jL|apply jM|apply jN|apply jO)|(with_reducible apply SeqQ.id;refine SeqQ.norm (by first|(simp only [j0];rfl)|rfl) ?_)|with_reducible refine jP (by decide) ?_|(with_reducible apply jQ;first|refine jR rfl rfl rfl ?_|refine jS rfl rfl rfl ?_)|((first|((with_reducible first|apply jm|apply jn|apply jb|apply ju);repeat rfl)|((with_reducible apply jy);iterate 3 rfl)|((with_reducible apply jz);iterate 3 rfl)|((with_reducible apply jp);iterate 5 rfl)|((with_reducible apply jq);iterate 5 rfl)|((with_reducible apply jk);exact u9;rfl));refine jT (by first|(simp only [j0];rfl)|rfl) ?_)))
   refine Wo.mid (fun st => st.H = H2 ∧ ∃ d : Nat → AV, st.regs = (.str t :: d 1 :: d 2 :: d 3 :: .v (.bool false) :: .v (.bool true) :: i64v n :: d 7 :: d 8 :: d 9 :: d 10 :: d 11 :: d 12 :: d 13 :: d 14 :: d 15 :: d 16 :: d 17 :: d 18 :: d 19 :: d 20 :: d 21 :: d 22 :: d 23 :: d 24 :: d 25 :: d 26 :: d 27 :: d 28 :: .v (.bool (decide (t.length < n) && decide (0 < t.length))) :: d 30 :: d 31 :: d 32 :: d 33 :: d 34 :: d 35 :: d 36 :: d 37 :: d 38 :: d 39 :: d 40 :: d 41 :: d 42 :: d 43 :: d 44 :: d 45 :: d 46 :: d 47 :: d 48 :: d 49 :: d 50 :: d 51 :: d 52 :: d 53 :: d 54 :: d 55 :: d 56 :: d 57 :: d 58 :: d 59 :: d 60 :: d 61 :: d 62 :: d 63 :: d 64 :: d 65 :: d 66 :: d 67 :: d 68 :: d 69 :: d 70 :: d 71 :: d 72 :: d 73 :: d 74 :: d 75 :: d 76 :: d 77 :: d 78 :: d 79 :: d 80 :: d 81 :: d 82 :: d 83 :: d 84 :: d 85 :: d 86 :: d 87 :: d 88 :: d 89 :: d 90 :: d 91 :: d 92 :: d 93 :: d 94 :: d 95 :: d 96 :: d 97 :: d 98 :: d 99 :: d 100 :: d 101 :: d 102 :: d 103 :: d 104 :: d 105 :: [])) ?_ ?_
   ·by_cases hlt : t.length < n
    ·rw [decide_eq_true hlt, show decide ((t.length : Int) < (n : Int)) = true by simp; omega]
     (repeat (first|(with_reducible first|apply jA|apply jC|apply jD|apply jE|apply jF|apply jG|apply jH|apply jI|apply jJ|apply jK|apply jL|apply jM|apply jN|apply jO)|(with_reducible apply SeqQ.id;refine SeqQ.norm (by first|(simp only [j0];rfl)|rfl) ?_)|with_reducible refine jP (by decide) ?_|(with_reducible apply jQ;first|refine jR rfl rfl rfl ?_|refine jS rfl rfl rfl ?_)|((first|((with_reducible first|apply jm|apply jn|apply jb|apply ju);repeat rfl)|((with_reducible apply jy);iterate 3 rfl)|((with_reducible apply jz);iterate 3 rfl)|((with_reducible apply jp);iterate 5 rfl)|((with_reducible apply jq);iterate 5 rfl)|((with_reducible apply jk);exact u9;rfl));refine jT (by first|(simp only [j0];rfl)|rfl) ?_)))
     by_cases h0 : 0 < t.length
     ·rw [decide_eq_true h0, show decide ((t.length : Int) > 0) = true from decide_eq_true (by omega)]
      (repeat (first|(with_reducible first|apply jA|apply jC|apply jD|apply jE|apply jF|apply jG|apply jH|apply jI|apply jJ|apply jK|apply jL|apply jM|apply jN|apply jO)|(with_reducible apply SeqQ.id;refine SeqQ.norm (by first|(simp only [j0];rfl)|rfl) ?_)|with_reducible refine jP (by decide) ?_|(with_reducible apply jQ;first|refine jR rfl rfl rfl ?_|refine jS rfl rfl rfl ?_)|((first|((with_reducible first|apply jm|apply jn|apply jb|apply ju);repeat rfl)|((with_reducible apply jy);iterate 3 rfl)|((with_reducible apply jz);iterate 3 rfl)|((with_reducible apply jp);iterate 5 rfl)|((with_reducible apply jq);iterate 5 rfl)|((with_reducible apply jk);exact u9;rfl));refine jT (by first|(simp only [j0];rfl)|rfl) ?_)))
      exact ⟨rfl, rfl, dead_of rfl⟩
     ·rw [decide_eq_false h0, show decide ((t.length : Int) > 0) = false from decide_eq_false (by omega)]
      (repeat (first|(with_reducible first|apply jA|apply jC|apply jD|apply jE|apply jF|apply jG|apply jH|apply jI|apply jJ|apply jK|apply jL|apply jM|apply jN|apply jO)|(with_reducible apply SeqQ.id;refine SeqQ.norm (by first|(simp only [j0];rfl)|rfl) ?_)|with_reducible refine jP (by decide) ?_|(with_reducible apply jQ;first|refine jR rfl rfl rfl ?_|refine jS rfl rfl rfl ?_)|((first|((with_reducible first|apply jm|apply jn|apply jb|apply ju);repeat rfl)|((with_reducible apply jy);iterate 3 rfl)|((with_reducible apply jz);iterate 3 rfl)|((with_reducible apply jp);iterate 5 rfl)|((with_reducible apply jq);iterate 5 rfl)|((with_reducible apply jk);exact u9;rfl));refine jT (by first|(simp only [j0];rfl)|rfl) ?_)))
      exact ⟨rfl, rfl, dead_of rfl⟩
    ·rw [decide_eq_false hlt, show decide ((t.length : Int) < (n : Int)) = false by simp; omega]
     (repeat (first|(with_reducible first|apply jA|apply jC|apply jD|apply jE|apply jF|apply jG|apply jH|apply jI|apply jJ|apply jK|apply jL|apply jM|apply jN|apply jO)|(with_reducible apply SeqQ.id;refine SeqQ.norm (by first|(simp only [j0];rfl)|rfl) ?_)|with_reducible refine jP (by decide) ?_|(with_reducible apply jQ;first|refine jR rfl rfl rfl ?_|refine jS rfl rfl rfl ?_)|((first|((with_reducible first|apply jm|apply jn|apply jb|apply ju);repeat rfl)|((with_reducible apply jy);iterate 3 rfl)|((with_reducible apply jz);iterate 3 rfl)|((with_reducible apply jp);iterate 5 rfl)|((with_reducible apply jq);iterate 5 rfl)|((with_reducible apply jk);exact u9;rfl));refine jT (by first|(simp only [j0];rfl)|rfl) ?_)))
     exact ⟨rfl, rfl, dead_of rfl⟩
   ·rintro R own3 H3 ⟨rfl, d, rfl⟩
    cases hc : (decide (t.length < n) && decide (0 < t.length)) with
    | true =>
     rw [Bool.and_eq_true, decide_eq_true_eq, decide_eq_true_eq] at hc
     (repeat (first|(with_reducible first|apply jA|apply jC|apply jD|apply jE|apply jF|apply jG|apply jH|apply jI|apply jJ|apply jK|apply jL|apply jM|apply jN|apply jO)|(with_reducible apply SeqQ.id;refine SeqQ.norm (by first|(simp only [j0];rfl)|rfl) ?_)|with_reducible refine jP (by decide) ?_|(with_reducible apply jQ;first|refine jR rfl rfl rfl ?_|refine jS rfl rfl rfl ?_)|((first|((with_reducible first|apply jm|apply jn|apply jb|apply ju);repeat rfl)|((with_reducible apply jy);iterate 3 rfl)|((with_reducible apply jz);iterate 3 rfl)|((with_reducible apply jp);iterate 5 rfl)|((with_reducible apply jq);iterate 5 rfl)|((with_reducible apply jk);exact u9;rfl));refine jT (by first|(simp only [j0];rfl)|rfl) ?_)))
     refine Wo.doVal rfl rfl (op_add_str rfl rfl rfl rfl (by omega)) ?_
     (repeat (first|(with_reducible first|apply jA|apply jC|apply jD|apply jE|apply jF|apply jG|apply jH|apply jI|apply jJ|apply jK|apply jL|apply jM|apply jN|apply jO)|(with_reducible apply SeqQ.id;refine SeqQ.norm (by first|(simp only [j0];rfl)|rfl) ?_)|with_reducible refine jP (by decide) ?_|(with_reducible apply jQ;first|refine jR rfl rfl rfl ?_|refine jS rfl rfl rfl ?_)|((first|((with_reducible first|apply jm|apply jn|apply jb|apply ju);repeat rfl)|((with_reducible apply jy);iterate 3 rfl)|((with_reducible apply jz);iterate 3 rfl)|((with_reducible apply jp);iterate 5 rfl)|((with_reducible apply jq);iterate 5 rfl)|((with_reducible apply jk);exact u9;rfl));refine jT (by first|(simp only [j0];rfl)|rfl) ?_)))
     exact LoopQ.normal (n - (t ++ t).length) (by simp only [List.length_append]; omega) ⟨t ++ t, rfl, by simp only [List.length_append]; omega, dead_of rfl⟩
    | false =>
     (repeat (first|(with_reducible first|apply jA|apply jC|apply jD|apply jE|apply jF|apply jG|apply jH|apply jI|apply jJ|apply jK|apply jL|apply jM|apply jN|apply jO)|(with_reducible apply SeqQ.id;refine SeqQ.norm (by first|(simp only [j0];rfl)|rfl) ?_)|with_reducible refine jP (by decide) ?_|(with_reducible apply jQ;first|refine jR rfl rfl rfl ?_|refine jS rfl rfl rfl ?_)|((first|((with_reducible first|apply jm|apply jn|apply jb|apply ju);repeat rfl)|((with_reducible apply jy);iterate 3 rfl)|((with_reducible apply jz);iterate 3 rfl)|((with_reducible apply jp);iterate 5 rfl)|((with_reducible apply jq);iterate 5 rfl)|((with_reducible apply jk);exact u9;rfl));refine jT (by first|(simp only [j0];rfl)|rfl) ?_)))
     refine Wc.mid (fun st => ∃ B : Bs, B.length ≤ 31000 ∧ st.H = H3 ∧ ∃ d : Nat → AV, st.regs = (.str B :: d 1 :: d 2 :: d 3 :: .v (.bool false) :: .v (.bool true) :: d 6 :: d 7 :: d 8 :: d 9 :: d 10 :: d 11 :: d 12 :: d 13 :: d 14 :: d 15 :: d 16 :: d 17 :: d 18 :: d 19 :: d 20 :: d 21 :: d 22 :: d 23 :: d 24 :: d 25 :: d 26 :: d 27 :: d 28 :: d 29 :: d 30 :: d 31 :: d 32 :: d 33 :: d 34 :: d 35 :: d 36 :: d 37 :: d 38 :: d 39 :: d 40 :: d 41 :: d 42 :: d 43 :: d 44 :: d 45 :: d 46 :: d 47 :: d 48 :: d 49 :: d 50 :: d 51 :: d 52 :: d 53 :: d 54 :: d 55 :: d 56 :: d 57 :: d 58 :: d 59 :: d 60 :: d 61 :: d 62 :: d 63 :: d 64 :: d 65 :: d 66 :: d 67 :: d 68 :: d 69 :: d 70 :: d 71 :: d 72 :: d 73 :: d 74 :: d 75 :: d 76 :: d 77 :: d 78 :: d 79 :: d 80 :: d 81 :: d 82 :: d 83 :: d 84 :: d 85 :: d 86 :: d 87 :: d 88 :: d 89 :: d 90 :: d 91 :: d 92 :: d 93 :: d 94 :: d 95 :: d 96 :: d 97 :: d 98 :: d 99 :: d 100 :: d 101 :: d 102 :: d 103 :: d 104 :: d 105 :: [])) ?_ ?_
     ·by_cases hgt : t.length > n
      ·refine Wc.condT rfl rfl (by simp; omega) ?_
       (repeat (first|(with_reducible first|apply jA|apply jC|apply jD|apply jE|apply jF|apply jG|apply jH|apply jI|apply jJ|apply jK|apply jL|apply jM|apply jN|apply jO)|(with_reducible apply SeqQ.id;refine SeqQ.norm (by first|(simp only [j0];rfl)|rfl) ?_)|with_reducible refine jP (by decide) ?_|(with_reducible apply jQ;first|refine jR rfl rfl rfl ?_|refine jS rfl rfl rfl ?_)|((first|((with_reducible first|apply jm|apply jn|apply jb|apply ju);repeat rfl)|((with_reducible apply jy);iterate 3 rfl)|((with_reducible apply jz);iterate 3 rfl)|((with_reducible apply jp);iterate 5 rfl)|((with_reducible apply jq);iterate 5 rfl)|((with_reducible apply jk);exact u9;rfl));refine jT (by first|(simp only [j0];rfl)|rfl) ?_)))
       refine Wo.doVal rfl rfl (op_slice_str_hi (b := n) rfl rfl u9 rfl rfl rfl (by omega)) ?_
       (repeat (first|(with_reducible first|apply jA|apply jC|apply jD|apply jE|apply jF|apply jG|apply jH|apply jI|apply jJ|apply jK|apply jL|apply jM|apply jN|apply jO)|(with_reducible apply SeqQ.id;refine SeqQ.norm (by first|(simp only [j0];rfl)|rfl) ?_)|with_reducible refine jP (by decide) ?_|(with_reducible apply jQ;first|refine jR rfl rfl rfl ?_|refine jS rfl rfl rfl ?_)|((first|((with_reducible first|apply jm|apply jn|apply jb|apply ju);repeat rfl)|((with_reducible apply jy);iterate 3 rfl)|((with_reducible apply jz);iterate 3 rfl)|((with_reducible apply jp);iterate 5 rfl)|((with_reducible apply jq);iterate 5 rfl)|((with_reducible apply jk);exact u9;rfl));refine jT (by first|(simp only [j0];rfl)|rfl) ?_)))
       exact ⟨rfl, t.take n, by simp only [List.length_take]; omega, rfl, dead_of rfl⟩
      ·refine Wc.condF rfl rfl (by simp; omega) ?_
       (repeat (first|(with_reducible first|apply jA|apply jC|apply jD|apply jE|apply jF|apply jG|apply jH|apply jI|apply jJ|apply jK|apply jL|apply jM|apply jN|apply jO)|(with_reducible apply SeqQ.id;refine SeqQ.norm (by first|(simp only [j0];rfl)|rfl) ?_)|with_reducible refine jP (by decide) ?_|(with_reducible apply jQ;first|refine jR rfl rfl rfl ?_|refine jS rfl rfl rfl ?_)|((first|((with_reducible first|apply jm|apply jn|apply jb|apply ju);repeat rfl)|((with_reducible apply jy);iterate 3 rfl)|((with_reducible apply jz);iterate 3 rfl)|((with_reducible apply jp);iterate 5 rfl)|((with_reducible apply jq);iterate 5 rfl)|((with_reducible apply jk);exact u9;rfl));refine jT (by first|(simp only [j0];rfl)|rfl) ?_)))
       exact ⟨rfl, t, by omega, rfl, dead_of rfl⟩
     ·rintro R own4 H4 ⟨B, hB, rfl, d, rfl⟩
      have htp : (textP putF B).length ≤ B.length + 60 := by
       have hnd := nd_bound 4 B.length (by omega)
       unfold textP
       simp only [List.length_append, put_line, Lib.decDigits_length]
       simp only [verText, clText, crlf2, List.length_cons, List.length_nil]
       omega
      (repeat (first|(with_reducible first|apply jA|apply jC|apply jD|apply jE|apply jF|apply jG|apply jH|apply jI|apply jJ|apply jK|apply jL|apply jM|apply jN|apply jO)|(with_reducible apply SeqQ.id;refine SeqQ.norm (by first|(simp only [j0];rfl)|rfl) ?_)|with_reducible refine jP (by decide) ?_|(with_reducible apply jQ;first|refine jR rfl rfl rfl ?_|refine jS rfl rfl rfl ?_)|((first|((with_reducible first|apply jm|apply jn|apply jb|apply ju);repeat rfl)|((with_reducible apply jy);iterate 3 rfl)|((with_reducible apply jz);iterate 3 rfl)|((with_reducible apply jp);iterate 5 rfl)|((with_reducible apply jq);iterate 5 rfl)|((with_reducible apply jk);exact u9;rfl));refine jT (by first|(simp only [j0];rfl)|rfl) ?_)))
      refine Wo.doVal rfl rfl (op_build rfl rfl bld38z) ?_
      refine Wo.doVal rfl rfl (op_box rfl rfl rfl) ?_
      have hst : Strm (H4 ++ [.cells (38, true) (AV.agg [.str [], i64v 0]).unown.unown.cells]) H4.length [] 0 := nth_app_new _ _
      generalize H4 ++ [AB.cells (38, true) (AV.agg [.str [], i64v 0]).unown.unown.cells] = H5 at *
      generalize H4.length = sb at *
      (repeat (first|(with_reducible first|apply jA|apply jC|apply jD|apply jE|apply jF|apply jG|apply jH|apply jI|apply jJ|apply jK|apply jL|apply jM|apply jN|apply jO)|(with_reducible apply SeqQ.id;refine SeqQ.norm (by first|(simp only [j0];rfl)|rfl) ?_)|with_reducible refine jP (by decide) ?_|(with_reducible apply jQ;first|refine jR rfl rfl rfl ?_|refine jS rfl rfl rfl ?_)|((first|((with_reducible first|apply jm|apply jn|apply jb|apply ju);repeat rfl)|((with_reducible apply jy);iterate 3 rfl)|((with_reducible apply jz);iterate 3 rfl)|((with_reducible apply jp);iterate 5 rfl)|((with_reducible apply jq);iterate 5 rfl)|((with_reducible apply jk);exact u9;rfl));refine jT (by first|(simp only [j0];rfl)|rfl) ?_)))
      refine Wo.doVal rfl rfl (op_buildSlice (qs := [(0, .str [120])]) rfl rfl rfl (one28x _ _ _)) ?_
      (repeat (first|(with_reducible first|apply jA|apply jC|apply jD|apply jE|apply jF|apply jG|apply jH|apply jI|apply jJ|apply jK|apply jL|apply jM|apply jN|apply jO)|(with_reducible apply SeqQ.id;refine SeqQ.norm (by first|(simp only [j0];rfl)|rfl) ?_)|with_reducible refine jP (by decide) ?_|(with_reducible apply jQ;first|refine jR rfl rfl rfl ?_|refine jS rfl rfl rfl ?_)|((first|((with_reducible first|apply jm|apply jn|apply jb|apply ju);repeat rfl)|((with_reducible apply jy);iterate 3 rfl)|((with_reducible apply jz);iterate 3 rfl)|((with_reducible apply jp);iterate 5 rfl)|((with_reducible apply jq);iterate 5 rfl)|((with_reducible apply jk);exact u9;rfl));refine jT (by first|(simp only [j0];rfl)|rfl) ?_)))
      refine Wo.doVal rfl rfl (op_build (qs := [(0, .str [80, 85, 84]), (1, .sl [.str [120]] .full), (4, .str B)]) rfl rfl (bldPut _)) ?_
      refine Wo.doCall rfl rfl (op_call (args := [callW putF .full .nil B]) rfl rfl) ((text_tells putF .full .nil B rfl rfl (by decide) (by decide) (by decide) (by decide) (by omega) _).mono ?_)
      rintro r1 H6 ⟨rfl, rfl⟩
      refine Wo.doVal rfl rfl (op_add_str (b := getText) rfl rfl rfl rfl (by simp only [getText, List.length_cons, List.length_nil]; omega)) ?_
      have hfl : (textP putF B ++ getText).length ≤ 65536 := by simp only [List.length_append, getText, List.length_cons, List.length_nil]; omega
      have hnx := next_text put_ok (by rw [put_line]; omega) B getText (by omega)
      refine Wo.doCall rfl rfl (op_call (args := [.ptr sb 0, .str (textP putF B ++ getText)]) rfl rfl) ((feed_tells _ sb [] (textP putF B ++ getText) (by simpa using hfl) hst).mono ?_)
      rintro r1 H7 ⟨rfl, hst7, _⟩
      rw [List.nil_append] at hst7
      (repeat (first|(with_reducible first|apply jA|apply jC|apply jD|apply jE|apply jF|apply jG|apply jH|apply jI|apply jJ|apply jK|apply jL|apply jM|apply jN|apply jO)|(with_reducible apply SeqQ.id;refine SeqQ.norm (by first|(simp only [j0];rfl)|rfl) ?_)|with_reducible refine jP (by decide) ?_|(with_reducible apply jQ;first|refine jR rfl rfl rfl ?_|refine jS rfl rfl rfl ?_)|((first|((with_reducible first|apply jm|apply jn|apply jb|apply ju);repeat rfl)|((with_reducible apply jy);iterate 3 rfl)|((with_reducible apply jz);iterate 3 rfl)|((with_reducible apply jp);iterate 5 rfl)|((with_reducible apply jq);iterate 5 rfl)|((with_reducible apply jk);exact u9;rfl));refine jT (by first|(simp only [j0];rfl)|rfl) ?_)))
      by_cases hbig : B.length > 30000
      ·rw [if_pos hbig] at hnx
       refine Wo.doCall rfl rfl (op_call (args := [.ptr sb 0]) rfl rfl) ((next_broke hnx hfl hst7).mono ?_)
       rintro r1 H8 ⟨hk8, rfl, hst8⟩
       (repeat (first|(with_reducible first|apply jA|apply jC|apply jD|apply jE|apply jF|apply jG|apply jH|apply jI|apply jJ|apply jK|apply jL|apply jM|apply jN|apply jO)|(with_reducible apply SeqQ.id;refine SeqQ.norm (by first|(simp only [j0];rfl)|rfl) ?_)|with_reducible refine jP (by decide) ?_|(with_reducible apply jQ;first|refine jR rfl rfl rfl ?_|refine jS rfl rfl rfl ?_)|((first|((with_reducible first|apply jm|apply jn|apply jb|apply ju);repeat rfl)|((with_reducible apply jy);iterate 3 rfl)|((with_reducible apply jz);iterate 3 rfl)|((with_reducible apply jp);iterate 5 rfl)|((with_reducible apply jq);iterate 5 rfl)|((with_reducible apply jk);exact u9;rfl));refine jT (by first|(simp only [j0];rfl)|rfl) ?_)))
       refine Wo.doVal rfl rfl (op_extract rfl rfl rfl) ?_
       refine Wo.doVal rfl rfl (op_extract rfl rfl rfl) ?_
       refine Wo.doVal rfl rfl (op_alloc rfl z31 rfl) ?_
       refine Wo.doSkip rfl rfl (op_store rfl rfl rfl (st31 (nth_app_new _ _) bld31_all)) ?_
       have hst9 := new_keeps (c := zB) (c' := zC) sb _ hst8
       generalize setAt (H8 ++ [zB]) H8.length (zC) = H9 at *
       (repeat (first|(with_reducible first|apply jA|apply jC|apply jD|apply jE|apply jF|apply jG|apply jH|apply jI|apply jJ|apply jK|apply jL|apply jM|apply jN|apply jO)|(with_reducible apply SeqQ.id;refine SeqQ.norm (by first|(simp only [j0];rfl)|rfl) ?_)|with_reducible refine jP (by decide) ?_|(with_reducible apply jQ;first|refine jR rfl rfl rfl ?_|refine jS rfl rfl rfl ?_)|((first|((with_reducible first|apply jm|apply jn|apply jb|apply ju);repeat rfl)|((with_reducible apply jy);iterate 3 rfl)|((with_reducible apply jz);iterate 3 rfl)|((with_reducible apply jp);iterate 5 rfl)|((with_reducible apply jq);iterate 5 rfl)|((with_reducible apply jk);exact u9;rfl));refine jT (by first|(simp only [j0];rfl)|rfl) ?_)))
       rw [show decide ((B.length : Int) > 30000) = true from decide_eq_true (by omega)]
       (repeat (first|(with_reducible first|apply jA|apply jC|apply jD|apply jE|apply jF|apply jG|apply jH|apply jI|apply jJ|apply jK|apply jL|apply jM|apply jN|apply jO)|(with_reducible apply SeqQ.id;refine SeqQ.norm (by first|(simp only [j0];rfl)|rfl) ?_)|with_reducible refine jP (by decide) ?_|(with_reducible apply jQ;first|refine jR rfl rfl rfl ?_|refine jS rfl rfl rfl ?_)|((first|((with_reducible first|apply jm|apply jn|apply jb|apply ju);repeat rfl)|((with_reducible apply jy);iterate 3 rfl)|((with_reducible apply jz);iterate 3 rfl)|((with_reducible apply jp);iterate 5 rfl)|((with_reducible apply jq);iterate 5 rfl)|((with_reducible apply jk);exact u9;rfl));refine jT (by first|(simp only [j0];rfl)|rfl) ?_)))
       refine Wo.doCall rfl rfl (op_call (args := [.ptr sb 0]) rfl rfl) ((broken_tells H9 sb [] 413 (by decide) hst9).mono ?_)
       rintro r1 H10 ⟨rfl, hst10, _⟩
       (repeat (first|(with_reducible first|apply jA|apply jC|apply jD|apply jE|apply jF|apply jG|apply jH|apply jI|apply jJ|apply jK|apply jL|apply jM|apply jN|apply jO)|(with_reducible apply SeqQ.id;refine SeqQ.norm (by first|(simp only [j0];rfl)|rfl) ?_)|with_reducible refine jP (by decide) ?_|(with_reducible apply jQ;first|refine jR rfl rfl rfl ?_|refine jS rfl rfl rfl ?_)|((first|((with_reducible first|apply jm|apply jn|apply jb|apply ju);repeat rfl)|((with_reducible apply jy);iterate 3 rfl)|((with_reducible apply jz);iterate 3 rfl)|((with_reducible apply jp);iterate 5 rfl)|((with_reducible apply jq);iterate 5 rfl)|((with_reducible apply jk);exact u9;rfl));refine jT (by first|(simp only [j0];rfl)|rfl) ?_)))
       refine Wo.doVal rfl rfl (op_extract rfl rfl rfl) ?_
       refine Wo.doVal rfl rfl (op_extract rfl rfl rfl) ?_
       refine Wo.doVal rfl rfl (op_alloc rfl z31 rfl) ?_
       refine Wo.doSkip rfl rfl (op_store rfl rfl rfl (st31 (nth_app_new _ _) bld31_all)) ?_
       have hst11 := new_keeps (c := zB) (c' := zC) sb _ hst10
       generalize setAt (H10 ++ [zB]) H10.length (zC) = H11 at *
       (repeat (first|(with_reducible first|apply jA|apply jC|apply jD|apply jE|apply jF|apply jG|apply jH|apply jI|apply jJ|apply jK|apply jL|apply jM|apply jN|apply jO)|(with_reducible apply SeqQ.id;refine SeqQ.norm (by first|(simp only [j0];rfl)|rfl) ?_)|with_reducible refine jP (by decide) ?_|(with_reducible apply jQ;first|refine jR rfl rfl rfl ?_|refine jS rfl rfl rfl ?_)|((first|((with_reducible first|apply jm|apply jn|apply jb|apply ju);repeat rfl)|((with_reducible apply jy);iterate 3 rfl)|((with_reducible apply jz);iterate 3 rfl)|((with_reducible apply jp);iterate 5 rfl)|((with_reducible apply jq);iterate 5 rfl)|((with_reducible apply jk);exact u9;rfl));refine jT (by first|(simp only [j0];rfl)|rfl) ?_)))
       refine Wo.doCall rfl rfl (op_call (args := [.ptr sb 0]) rfl rfl) ((waits_tells H11 sb [] _ hst11).mono ?_)
       rintro r1 H12 ⟨rfl, rfl⟩
       (repeat (first|(with_reducible first|apply jA|apply jC|apply jD|apply jE|apply jF|apply jG|apply jH|apply jI|apply jJ|apply jK|apply jL|apply jM|apply jN|apply jO)|(with_reducible apply SeqQ.id;refine SeqQ.norm (by first|(simp only [j0];rfl)|rfl) ?_)|with_reducible refine jP (by decide) ?_|(with_reducible apply jQ;first|refine jR rfl rfl rfl ?_|refine jS rfl rfl rfl ?_)|((first|((with_reducible first|apply jm|apply jn|apply jb|apply ju);repeat rfl)|((with_reducible apply jy);iterate 3 rfl)|((with_reducible apply jz);iterate 3 rfl)|((with_reducible apply jp);iterate 5 rfl)|((with_reducible apply jq);iterate 5 rfl)|((with_reducible apply jk);exact u9;rfl));refine jT (by first|(simp only [j0];rfl)|rfl) ?_)))
       exact EndQ.ret rfl ⟨_, rfl, rfl, rfl, rfl⟩
      ·rw [if_neg hbig] at hnx
       refine Wo.doCall rfl rfl (op_call (args := [.ptr sb 0]) rfl rfl) ((next_got hnx hfl hst7).mono ?_)
       rintro r1 H8 ⟨hk8, rfl, hst8⟩
       (repeat (first|(with_reducible first|apply jA|apply jC|apply jD|apply jE|apply jF|apply jG|apply jH|apply jI|apply jJ|apply jK|apply jL|apply jM|apply jN|apply jO)|(with_reducible apply SeqQ.id;refine SeqQ.norm (by first|(simp only [j0];rfl)|rfl) ?_)|with_reducible refine jP (by decide) ?_|(with_reducible apply jQ;first|refine jR rfl rfl rfl ?_|refine jS rfl rfl rfl ?_)|((first|((with_reducible first|apply jm|apply jn|apply jb|apply ju);repeat rfl)|((with_reducible apply jy);iterate 3 rfl)|((with_reducible apply jz);iterate 3 rfl)|((with_reducible apply jp);iterate 5 rfl)|((with_reducible apply jq);iterate 5 rfl)|((with_reducible apply jk);exact u9;rfl));refine jT (by first|(simp only [j0];rfl)|rfl) ?_)))
       refine Wo.doVal rfl rfl (op_extract rfl rfl rfl) ?_
       refine Wo.doVal rfl rfl (op_extract rfl rfl rfl) ?_
       refine Wo.doVal rfl rfl (op_alloc rfl z31 rfl) ?_
       refine Wo.doSkip rfl rfl (op_store rfl rfl rfl (st31 (nth_app_new _ _) (call_all putF [(clen, Lib.decDigits B.length)] (outTl [(clen, Lib.decDigits B.length)]) B))) ?_
       have hpb : H8.length ≠ sb := by have := nth_lt' hst8; omega
       have hst9 := new_keeps (c := zB) (c' := AB.cells (31, true) (callCells putF [(clen, Lib.decDigits B.length)] (outTl [(clen, Lib.decDigits B.length)]) B)) sb _ hst8
       have hq9 := nth_set_same (b := AB.cells (31, true) (callCells putF [(clen, Lib.decDigits B.length)] (outTl [(clen, Lib.decDigits B.length)]) B)) (nth_app_new H8 zB)
       unfold callCells at hst9 hq9
       generalize setAt (H8 ++ [zB]) H8.length (AB.cells (31, true) [.str putF.method, .sl (putF.path.map AV.str) (outTl putF.path), .sl (putF.query.map hdV) (outTl putF.query), .sl ([(clen, Lib.decDigits B.length)].map hdV) (outTl [(clen, Lib.decDigits B.length)]), .str B]) = H9 at *
       generalize H8.length = pb at *
       (repeat (first|(with_reducible first|apply jA|apply jC|apply jD|apply jE|apply jF|apply jG|apply jH|apply jI|apply jJ|apply jK|apply jL|apply jM|apply jN|apply jO)|(with_reducible apply SeqQ.id;refine SeqQ.norm (by first|(simp only [j0];rfl)|rfl) ?_)|with_reducible refine jP (by decide) ?_|(with_reducible apply jQ;first|refine jR rfl rfl rfl ?_|refine jS rfl rfl rfl ?_)|((first|((with_reducible first|apply jm|apply jn|apply jb|apply ju);repeat rfl)|((with_reducible apply jy);iterate 3 rfl)|((with_reducible apply jz);iterate 3 rfl)|((with_reducible apply jp);iterate 5 rfl)|((with_reducible apply jq);iterate 5 rfl)|((with_reducible apply jk);exact u9;rfl));refine jT (by first|(simp only [j0];rfl)|rfl) ?_)))
       rw [show decide ((B.length : Int) > 30000) = false from decide_eq_false (by omega)]
       (repeat (first|(with_reducible first|apply jA|apply jC|apply jD|apply jE|apply jF|apply jG|apply jH|apply jI|apply jJ|apply jK|apply jL|apply jM|apply jN|apply jO)|(with_reducible apply SeqQ.id;refine SeqQ.norm (by first|(simp only [j0];rfl)|rfl) ?_)|with_reducible refine jP (by decide) ?_|(with_reducible apply jQ;first|refine jR rfl rfl rfl ?_|refine jS rfl rfl rfl ?_)|((first|((with_reducible first|apply jm|apply jn|apply jb|apply ju);repeat rfl)|((with_reducible apply jy);iterate 3 rfl)|((with_reducible apply jz);iterate 3 rfl)|((with_reducible apply jp);iterate 5 rfl)|((with_reducible apply jq);iterate 5 rfl)|((with_reducible apply jk);exact u9;rfl));refine jT (by first|(simp only [j0];rfl)|rfl) ?_)))
       refine Wo.doCall rfl rfl (op_call (args := [.ptr sb 0]) rfl rfl) ((next_got get_next (by decide) hst9).mono ?_)
       rintro r1 H10 ⟨hk10, rfl, hst10⟩
       have hq10 := hk10 _ _ hpb hq9
       (repeat (first|(with_reducible first|apply jA|apply jC|apply jD|apply jE|apply jF|apply jG|apply jH|apply jI|apply jJ|apply jK|apply jL|apply jM|apply jN|apply jO)|(with_reducible apply SeqQ.id;refine SeqQ.norm (by first|(simp only [j0];rfl)|rfl) ?_)|with_reducible refine jP (by decide) ?_|(with_reducible apply jQ;first|refine jR rfl rfl rfl ?_|refine jS rfl rfl rfl ?_)|((first|((with_reducible first|apply jm|apply jn|apply jb|apply ju);repeat rfl)|((with_reducible apply jy);iterate 3 rfl)|((with_reducible apply jz);iterate 3 rfl)|((with_reducible apply jp);iterate 5 rfl)|((with_reducible apply jq);iterate 5 rfl)|((with_reducible apply jk);exact u9;rfl));refine jT (by first|(simp only [j0];rfl)|rfl) ?_)))
       refine Wo.doVal rfl rfl (op_extract rfl rfl rfl) ?_
       refine Wo.doVal rfl rfl (op_extract rfl rfl rfl) ?_
       refine Wo.doVal rfl rfl (op_alloc rfl z31 rfl) ?_
       refine Wo.doSkip rfl rfl (op_store rfl rfl rfl (st31 (nth_app_new _ _) (call_all getF [] (outTl ([] : List Hd)) []))) ?_
       have hq11 := new_keeps (c := zB) (c' := AB.cells (31, true) (callCells getF [] (outTl ([] : List Hd)) [])) pb _ hq10
       have hq12 := nth_set_same (b := AB.cells (31, true) (callCells getF [] (outTl ([] : List Hd)) [])) (nth_app_new H10 zB)
       unfold callCells at hq11 hq12
       generalize setAt (H10 ++ [zB]) H10.length (AB.cells (31, true) [.str getF.method, .sl (getF.path.map AV.str) (outTl getF.path), .sl (getF.query.map hdV) (outTl getF.query), .sl (([] : List Hd).map hdV) (outTl ([] : List Hd)), .str []]) = H11 at *
       generalize H10.length = qb at *
       (repeat (first|(with_reducible first|apply jA|apply jC|apply jD|apply jE|apply jF|apply jG|apply jH|apply jI|apply jJ|apply jK|apply jL|apply jM|apply jN|apply jO)|(with_reducible apply SeqQ.id;refine SeqQ.norm (by first|(simp only [j0];rfl)|rfl) ?_)|with_reducible refine jP (by decide) ?_|(with_reducible apply jQ;first|refine jR rfl rfl rfl ?_|refine jS rfl rfl rfl ?_)|((first|((with_reducible first|apply jm|apply jn|apply jb|apply ju);repeat rfl)|((with_reducible apply jy);iterate 3 rfl)|((with_reducible apply jz);iterate 3 rfl)|((with_reducible apply jp);iterate 5 rfl)|((with_reducible apply jq);iterate 5 rfl)|((with_reducible apply jk);exact u9;rfl));refine jT (by first|(simp only [j0];rfl)|rfl) ?_)))
       refine Wo.doVal rfl rfl (op_fieldAddr rfl rfl (fb31 pb).2.2.2) ?_
       refine Wo.yes rfl rfl rfl rfl ?_
       refine Wo.doVal rfl rfl (op_load_ptr rfl rfl hq11 (ld31 _ _ _ _ _).2.2.2) ?_
       (repeat (first|(with_reducible first|apply jA|apply jC|apply jD|apply jE|apply jF|apply jG|apply jH|apply jI|apply jJ|apply jK|apply jL|apply jM|apply jN|apply jO)|(with_reducible apply SeqQ.id;refine SeqQ.norm (by first|(simp only [j0];rfl)|rfl) ?_)|with_reducible refine jP (by decide) ?_|(with_reducible apply jQ;first|refine jR rfl rfl rfl ?_|refine jS rfl rfl rfl ?_)|((first|((with_reducible first|apply jm|apply jn|apply jb|apply ju);repeat rfl)|((with_reducible apply jy);iterate 3 rfl)|((with_reducible apply jz);iterate 3 rfl)|((with_reducible apply jp);iterate 5 rfl)|((with_reducible apply jq);iterate 5 rfl)|((with_reducible apply jk);exact u9;rfl));refine jT (by first|(simp only [j0];rfl)|rfl) ?_)))
       refine Wo.doVal rfl rfl (op_bin_str (r := .v (.bool (B == B))) rfl rfl rfl rfl) ?_
       rw [show (B == B) = true by simp]
       (repeat (first|(with_reducible first|apply jA|apply jC|apply jD|apply jE|apply jF|apply jG|apply jH|apply jI|apply jJ|apply jK|apply jL|apply jM|apply jN|apply jO)|(with_reducible apply SeqQ.id;refine SeqQ.norm (by first|(simp only [j0];rfl)|rfl) ?_)|with_reducible refine jP (by decide) ?_|(with_reducible apply jQ;first|refine jR rfl rfl rfl ?_|refine jS rfl rfl rfl ?_)|((first|((with_reducible first|apply jm|apply jn|apply jb|apply ju);repeat rfl)|((with_reducible apply jy);iterate 3 rfl)|((with_reducible apply jz);iterate 3 rfl)|((with_reducible apply jp);iterate 5 rfl)|((with_reducible apply jq);iterate 5 rfl)|((with_reducible apply jk);exact u9;rfl));refine jT (by first|(simp only [j0];rfl)|rfl) ?_)))
       refine Wo.doVal rfl rfl (op_fieldAddr rfl rfl (fb31 qb).1.1) ?_
       refine Wo.yes rfl rfl rfl rfl ?_
       refine Wo.doVal rfl rfl (op_load_ptr rfl rfl hq12 (ld31 _ _ _ _ _).1.1) ?_
       refine Wo.yes rfl rfl rfl rfl ?_
       refine Wo.doVal rfl rfl (op_bin_str (r := .v (.bool true)) rfl rfl rfl rfl) ?_
       (repeat (first|(with_reducible first|apply jA|apply jC|apply jD|apply jE|apply jF|apply jG|apply jH|apply jI|apply jJ|apply jK|apply jL|apply jM|apply jN|apply jO)|(with_reducible apply SeqQ.id;refine SeqQ.norm (by first|(simp only [j0];rfl)|rfl) ?_)|with_reducible refine jP (by decide) ?_|(with_reducible apply jQ;first|refine jR rfl rfl rfl ?_|refine jS rfl rfl rfl ?_)|((first|((with_reducible first|apply jm|apply jn|apply jb|apply ju);repeat rfl)|((with_reducible apply jy);iterate 3 rfl)|((with_reducible apply jz);iterate 3 rfl)|((with_reducible apply jp);iterate 5 rfl)|((with_reducible apply jq);iterate 5 rfl)|((with_reducible apply jk);exact u9;rfl));refine jT (by first|(simp only [j0];rfl)|rfl) ?_)))
       refine Wo.doVal rfl rfl (op_fieldAddr rfl rfl (fb31 qb).2.2.2) ?_
       refine Wo.yes rfl rfl rfl rfl ?_
       refine Wo.doVal rfl rfl (op_load_ptr rfl rfl hq12 (ld31 _ _ _ _ _).2.2.2) ?_
       refine Wo.yes rfl rfl rfl rfl ?_
       refine Wo.doVal rfl rfl (op_bin_str (r := .v (.bool true)) rfl rfl rfl rfl) ?_
       (repeat (first|(with_reducible first|apply jA|apply jC|apply jD|apply jE|apply jF|apply jG|apply jH|apply jI|apply jJ|apply jK|apply jL|apply jM|apply jN|apply jO)|(with_reducible apply SeqQ.id;refine SeqQ.norm (by first|(simp only [j0];rfl)|rfl) ?_)|with_reducible refine jP (by decide) ?_|(with_reducible apply jQ;first|refine jR rfl rfl rfl ?_|refine jS rfl rfl rfl ?_)|((first|((with_reducible first|apply jm|apply jn|apply jb|apply ju);repeat rfl)|((with_reducible apply jy);iterate 3 rfl)|((with_reducible apply jz);iterate 3 rfl)|((with_reducible apply jp);iterate 5 rfl)|((with_reducible apply jq);iterate 5 rfl)|((with_reducible apply jk);exact u9;rfl));refine jT (by first|(simp only [j0];rfl)|rfl) ?_)))
       exact EndQ.ret rfl ⟨_, rfl, rfl, rfl, rfl⟩
end
end Go.Proofs.Hc
