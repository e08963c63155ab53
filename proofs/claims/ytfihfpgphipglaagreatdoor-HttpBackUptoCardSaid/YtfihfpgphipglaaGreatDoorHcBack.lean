/- HttpBack: the law's body. -/
import Derived.Test.YtfihfpgphipglaaGreatDoorHcRight
set_option linter.unusedVariables false
set_option linter.unusedSimpArgs false
set_option linter.unusedSectionVars false
namespace Go.Proofs.Hc
open Go.Tm
set_option maxRecDepth 100000
theorem pathText_len : ∀ l : List Bs, (pathText l).length ≤ l.length + 3 * psum l
 | [] => by simp [pathText, psum]
 | p :: r => by
  have := pathText_len r
  have := enc_len p
  simp only [pathText, psum, List.length_cons, List.length_append]
  omega
theorem qText_len : ∀ (b : Bool) (l : List Hd), (qText b l).length ≤ 2 * l.length + 3 * qsum l
 | b, [] => by simp [qText, qsum]
 | b, h :: r => by
  have := qText_len false r
  have := enc_len h.1
  have := enc_len h.2
  simp only [qText, qsum, List.length_cons, List.length_append]
  omega
theorem psum_mem : ∀ {l : List Bs} {p : Bs}, p ∈ l → p.length ≤ psum l
 | q :: r, p, h => by
  rcases List.mem_cons.1 h with h | h
  ·subst h; simp only [psum]; omega
  ·have := psum_mem h; simp only [psum]; omega
theorem qsum_mem : ∀ {l : List Hd} {p : Hd}, p ∈ l → p.1.length + p.2.length ≤ qsum l
 | q :: r, p, h => by
  rcases List.mem_cons.1 h with h | h
  ·subst h; simp only [qsum]; omega
  ·have := qsum_mem h; simp only [qsum]; omega
theorem right_line {f : First} {bd : Bs} (h : RightP f bd) : (lineText f).length ≤ 2039 := by
 obtain ⟨⟨h1, h2, h3, h4⟩, h5, h6, h7, h8⟩ := h
 have := pathText_len f.path
 have := qText_len true f.query
 unfold lineText
 simp only [List.length_append, List.length_cons]
 omega
section
variable {x : Value}
theorem bld38z : aBuild (Kq x) 38 [] = some (.agg [.str [], i64v 0]) := by kernel_rfl
theorem find_run (d : Bs) : callF (Kq x) 40 14 [.sl [hdV (clen, d)] .unk, .str clen] [] = some (.tup [.str d, .v (.bool true)], []) := by kernel_rfl
set_option maxHeartbeats 1000000 in
theorem waits_tells (H : List AB) (b : Nat) (buf : Bs) (st : Int) (hs : Strm H b buf st) : Tells (Kq x) 15 [.ptr b 0] H fun r H' => r = i64v buf.length ∧ H' = H := by
 refine Tells.mem (c := _) Tryz.func15 rfl (args' := [.ptr b 0]) (m := 10) rfl rfl rfl rfl rfl ?_
 (repeat (first|(with_reducible first|apply jA|apply jC|apply jD|apply jE|apply jF|apply jG|apply jH|apply jI|apply jJ|apply jK|apply jL|apply jM|apply jN|apply jO)|(with_reducible apply SeqQ.id;refine SeqQ.norm (by first|(simp only [j0];rfl)|rfl) ?_)|with_reducible refine jP (by decide) ?_|(with_reducible apply jQ;first|refine jR rfl rfl rfl ?_|refine jS rfl rfl rfl ?_)|((first|((with_reducible first|apply jm|apply jn|apply jb|apply ju);repeat rfl)|((with_reducible apply jy);iterate 3 rfl)|((with_reducible apply jz);iterate 3 rfl)|((with_reducible apply jp);iterate 5 rfl)|((with_reducible apply jq);iterate 5 rfl)|((with_reducible apply jk);exact u9;rfl));refine jT (by first|(simp only [j0];rfl)|rfl) ?_)))
 refine Wo.doVal rfl rfl (op_binv rfl rfl rfl (nil34 b _ _)) ?_
 (repeat (first|(with_reducible first|apply jA|apply jC|apply jD|apply jE|apply jF|apply jG|apply jH|apply jI|apply jJ|apply jK|apply jL|apply jM|apply jN|apply jO)|(with_reducible apply SeqQ.id;refine SeqQ.norm (by first|(simp only [j0];rfl)|rfl) ?_)|with_reducible refine jP (by decide) ?_|(with_reducible apply jQ;first|refine jR rfl rfl rfl ?_|refine jS rfl rfl rfl ?_)|((first|((with_reducible first|apply jm|apply jn|apply jb|apply ju);repeat rfl)|((with_reducible apply jy);iterate 3 rfl)|((with_reducible apply jz);iterate 3 rfl)|((with_reducible apply jp);iterate 5 rfl)|((with_reducible apply jq);iterate 5 rfl)|((with_reducible apply jk);exact u9;rfl));refine jT (by first|(simp only [j0];rfl)|rfl) ?_)))
 refine Wo.doVal rfl rfl (op_nilCheck rfl rfl) ?_
 refine Wo.doVal rfl rfl (op_fieldAddr rfl rfl (fb38 b).1) ?_
 refine Wo.doVal rfl rfl (op_fieldAddr rfl rfl (fb36 b)) ?_
 refine Wo.doVal rfl rfl (op_load_ptr (v := .str buf) rfl rfl hs (ld38_0 _ _)) ?_
 (repeat (first|(with_reducible first|apply jA|apply jC|apply jD|apply jE|apply jF|apply jG|apply jH|apply jI|apply jJ|apply jK|apply jL|apply jM|apply jN|apply jO)|(with_reducible apply SeqQ.id;refine SeqQ.norm (by first|(simp only [j0];rfl)|rfl) ?_)|with_reducible refine jP (by decide) ?_|(with_reducible apply jQ;first|refine jR rfl rfl rfl ?_|refine jS rfl rfl rfl ?_)|((first|((with_reducible first|apply jm|apply jn|apply jb|apply ju);repeat rfl)|((with_reducible apply jy);iterate 3 rfl)|((with_reducible apply jz);iterate 3 rfl)|((with_reducible apply jp);iterate 5 rfl)|((with_reducible apply jq);iterate 5 rfl)|((with_reducible apply jk);exact u9;rfl));refine jT (by first|(simp only [j0];rfl)|rfl) ?_)))
 exact EndQ.ret rfl ⟨rfl, rfl⟩
theorem next_got {H : List AB} {b : Nat} {buf rest : Bs} {c : Req} (hn : nextP buf = .got c rest) (hl : buf.length ≤ 65536) (hs : Strm H b buf 0) : Tells (Kq x) 13 [.ptr b 0] H fun r H' => Keeps b H H' ∧ r = .tup [callV c.toFirst c.headers (outTl c.headers) c.body, i64v 0] ∧ Strm H' b rest 0 :=
 (next_tells H b buf hl hs).mono fun r H' h => by unfold NextSays at h; rw [hn] at h; exact h
set_option maxHeartbeats 8000000 in
theorem back_tells (f : First) (hs : List Hd) (ta tb tc : Tail) (bd : Bs) (ha : ta.un = ta) (hb : tb.un = tb) (hm : f.method.length < 4294967281) (hsz : psum f.path + qsum f.query < 4611686018427387904) (H : List AB) : Tells (Kq x) 4 [callT f hs ta tb tc bd] H fun r H' => r = .v (.bool true) ∧ H' = H := by
 refine Tells.vals (c := _) Tryz.func4 rfl (args' := [callT f hs ta tb tc bd]) (m := 58) rfl rfl rfl rfl rfl ?_
 (repeat (first|(with_reducible first|apply jA|apply jC|apply jD|apply jE|apply jF|apply jG|apply jH|apply jI|apply jJ|apply jK|apply jL|apply jM|apply jN|apply jO)|(with_reducible apply SeqQ.id;refine SeqQ.norm (by first|(simp only [j0];rfl)|rfl) ?_)|with_reducible refine jP (by decide) ?_|(with_reducible apply jQ;first|refine jR rfl rfl rfl ?_|refine jS rfl rfl rfl ?_)|((first|((with_reducible first|apply jm|apply jn|apply jb|apply ju);repeat rfl)|((with_reducible apply jy);iterate 3 rfl)|((with_reducible apply jz);iterate 3 rfl)|((with_reducible apply jp);iterate 5 rfl)|((with_reducible apply jq);iterate 5 rfl)|((with_reducible apply jk);exact u9;rfl));refine jT (by first|(simp only [j0];rfl)|rfl) ?_)))
 refine Wo.doVal rfl rfl (op_box rfl rfl rfl) ?_
 (repeat (first|(with_reducible first|apply jA|apply jC|apply jD|apply jE|apply jF|apply jG|apply jH|apply jI|apply jJ|apply jK|apply jL|apply jM|apply jN|apply jO)|(with_reducible apply SeqQ.id;refine SeqQ.norm (by first|(simp only [j0];rfl)|rfl) ?_)|with_reducible refine jP (by decide) ?_|(with_reducible apply jQ;first|refine jR rfl rfl rfl ?_|refine jS rfl rfl rfl ?_)|((first|((with_reducible first|apply jm|apply jn|apply jb|apply ju);repeat rfl)|((with_reducible apply jy);iterate 3 rfl)|((with_reducible apply jz);iterate 3 rfl)|((with_reducible apply jp);iterate 5 rfl)|((with_reducible apply jq);iterate 5 rfl)|((with_reducible apply jk);exact u9;rfl));refine jT (by first|(simp only [j0];rfl)|rfl) ?_)))
 have e0 : nth ([] ++ [AB.cells (31, true) (callT f hs ta tb tc bd).unown.cells]) 0 = some (.cells (31, true) [.str f.method, .sl (f.path.map AV.str) ta, .sl (f.query.map hdV) tb, .sl (hs.map hdV) tc, .str bd]) := rfl
 generalize ([] ++ [AB.cells (31, true) (callT f hs ta tb tc bd).unown.cells]) = H0 at *
 refine Wo.doCall rfl rfl (op_call (args := []) rfl rfl) (Tells.libv (g := toldTrue) (r := .v (.bool true)) rfl rfl ?_)
 (repeat (first|(with_reducible first|apply jA|apply jC|apply jD|apply jE|apply jF|apply jG|apply jH|apply jI|apply jJ|apply jK|apply jL|apply jM|apply jN|apply jO)|(with_reducible apply SeqQ.id;refine SeqQ.norm (by first|(simp only [j0];rfl)|rfl) ?_)|with_reducible refine jP (by decide) ?_|(with_reducible apply jQ;first|refine jR rfl rfl rfl ?_|refine jS rfl rfl rfl ?_)|((first|((with_reducible first|apply jm|apply jn|apply jb|apply ju);repeat rfl)|((with_reducible apply jy);iterate 3 rfl)|((with_reducible apply jz);iterate 3 rfl)|((with_reducible apply jp);iterate 5 rfl)|((with_reducible apply jq);iterate 5 rfl)|((with_reducible apply jk);exact u9;rfl));refine jT (by first|(simp only [j0];rfl)|rfl) ?_)))
 refine Wo.doVal rfl rfl (op_fieldAddr rfl rfl (fb31 0).2.2.1) ?_
 refine Wo.doSkip rfl rfl (op_store rfl rfl rfl (st31_3 e0 [] .nil rfl)) ?_
 have e1 := nth_set_same (b := AB.cells (31, true) [.str f.method, .sl (f.path.map AV.str) ta, .sl (f.query.map hdV) tb, .sl (([] : List Hd).map hdV) .nil, .str bd]) e0
 generalize setAt H0 0 (AB.cells (31, true) [.str f.method, .sl (f.path.map AV.str) ta, .sl (f.query.map hdV) tb, .sl (([] : List Hd).map hdV) .nil, .str bd]) = H1 at *
 (repeat (first|(with_reducible first|apply jA|apply jC|apply jD|apply jE|apply jF|apply jG|apply jH|apply jI|apply jJ|apply jK|apply jL|apply jM|apply jN|apply jO)|(with_reducible apply SeqQ.id;refine SeqQ.norm (by first|(simp only [j0];rfl)|rfl) ?_)|with_reducible refine jP (by decide) ?_|(with_reducible apply jQ;first|refine jR rfl rfl rfl ?_|refine jS rfl rfl rfl ?_)|((first|((with_reducible first|apply jm|apply jn|apply jb|apply ju);repeat rfl)|((with_reducible apply jy);iterate 3 rfl)|((with_reducible apply jz);iterate 3 rfl)|((with_reducible apply jp);iterate 5 rfl)|((with_reducible apply jq);iterate 5 rfl)|((with_reducible apply jk);exact u9;rfl));refine jT (by first|(simp only [j0];rfl)|rfl) ?_)))
 refine Wo.doVal rfl rfl (op_load_ptr rfl rfl e1 (tv31 _ _ _ _ _)) ?_
 refine Wo.doCall rfl rfl (op_call (args := [callW f ta tb bd]) rfl rfl) ((right_tells f ta tb bd ha hb hm hsz H1).mono ?_)
 rintro r1 H2 ⟨rfl, ok, rfl, hok⟩
 (repeat (first|(with_reducible first|apply jA|apply jC|apply jD|apply jE|apply jF|apply jG|apply jH|apply jI|apply jJ|apply jK|apply jL|apply jM|apply jN|apply jO)|(with_reducible apply SeqQ.id;refine SeqQ.norm (by first|(simp only [j0];rfl)|rfl) ?_)|with_reducible refine jP (by decide) ?_|(with_reducible apply jQ;first|refine jR rfl rfl rfl ?_|refine jS rfl rfl rfl ?_)|((first|((with_reducible first|apply jm|apply jn|apply jb|apply ju);repeat rfl)|((with_reducible apply jy);iterate 3 rfl)|((with_reducible apply jz);iterate 3 rfl)|((with_reducible apply jp);iterate 5 rfl)|((with_reducible apply jq);iterate 5 rfl)|((with_reducible apply jk);exact u9;rfl));refine jT (by first|(simp only [j0];rfl)|rfl) ?_)))
 cases ok with
 | false =>
  (repeat (first|(with_reducible first|apply jA|apply jC|apply jD|apply jE|apply jF|apply jG|apply jH|apply jI|apply jJ|apply jK|apply jL|apply jM|apply jN|apply jO)|(with_reducible apply SeqQ.id;refine SeqQ.norm (by first|(simp only [j0];rfl)|rfl) ?_)|with_reducible refine jP (by decide) ?_|(with_reducible apply jQ;first|refine jR rfl rfl rfl ?_|refine jS rfl rfl rfl ?_)|((first|((with_reducible first|apply jm|apply jn|apply jb|apply ju);repeat rfl)|((with_reducible apply jy);iterate 3 rfl)|((with_reducible apply jz);iterate 3 rfl)|((with_reducible apply jp);iterate 5 rfl)|((with_reducible apply jq);iterate 5 rfl)|((with_reducible apply jk);exact u9;rfl));refine jT (by first|(simp only [j0];rfl)|rfl) ?_)))
  exact EndQ.ret rfl ⟨_, rfl, rfl, rfl, rfl⟩
 | true =>
  have hr := hok rfl
  have hln := right_line hr
  obtain ⟨hf, g1, g2, g3, g4⟩ := hr
  (repeat (first|(with_reducible first|apply jA|apply jC|apply jD|apply jE|apply jF|apply jG|apply jH|apply jI|apply jJ|apply jK|apply jL|apply jM|apply jN|apply jO)|(with_reducible apply SeqQ.id;refine SeqQ.norm (by first|(simp only [j0];rfl)|rfl) ?_)|with_reducible refine jP (by decide) ?_|(with_reducible apply jQ;first|refine jR rfl rfl rfl ?_|refine jS rfl rfl rfl ?_)|((first|((with_reducible first|apply jm|apply jn|apply jb|apply ju);repeat rfl)|((with_reducible apply jy);iterate 3 rfl)|((with_reducible apply jz);iterate 3 rfl)|((with_reducible apply jp);iterate 5 rfl)|((with_reducible apply jq);iterate 5 rfl)|((with_reducible apply jk);exact u9;rfl));refine jT (by first|(simp only [j0];rfl)|rfl) ?_)))
  refine Wo.doVal rfl rfl (op_build rfl rfl bld38z) ?_
  refine Wo.doVal rfl rfl (op_box rfl rfl rfl) ?_
  have hsb : 0 ≠ H2.length := by have := nth_lt' e1; omega
  have e3 := nth_app_left (m := [AB.cells (38, true) (AV.agg [.str [], i64v 0]).unown.unown.cells]) e1
  have hst : Strm (H2 ++ [.cells (38, true) (AV.agg [.str [], i64v 0]).unown.unown.cells]) H2.length [] 0 := nth_app_new _ _
  generalize H2 ++ [AB.cells (38, true) (AV.agg [.str [], i64v 0]).unown.unown.cells] = H3 at *
  generalize H2.length = sb at *
  (repeat (first|(with_reducible first|apply jA|apply jC|apply jD|apply jE|apply jF|apply jG|apply jH|apply jI|apply jJ|apply jK|apply jL|apply jM|apply jN|apply jO)|(with_reducible apply SeqQ.id;refine SeqQ.norm (by first|(simp only [j0];rfl)|rfl) ?_)|with_reducible refine jP (by decide) ?_|(with_reducible apply jQ;first|refine jR rfl rfl rfl ?_|refine jS rfl rfl rfl ?_)|((first|((with_reducible first|apply jm|apply jn|apply jb|apply ju);repeat rfl)|((with_reducible apply jy);iterate 3 rfl)|((with_reducible apply jz);iterate 3 rfl)|((with_reducible apply jp);iterate 5 rfl)|((with_reducible apply jq);iterate 5 rfl)|((with_reducible apply jk);exact u9;rfl));refine jT (by first|(simp only [j0];rfl)|rfl) ?_)))
  refine Wo.doVal rfl rfl (op_load_ptr rfl rfl e3 (tv31 _ _ _ _ _)) ?_
  have hnd := nd_bound 5 bd.length (by omega)
  have htp : (textP f bd).length ≤ 30000 := by
   unfold textP
   simp only [List.length_append, Lib.decDigits_length]
   simp only [verText, clText, crlf2, List.length_cons, List.length_nil]
   omega
  refine Wo.doCall rfl rfl (op_call (args := [callW f ta tb bd]) rfl rfl) ((text_tells f ta tb bd ha hb (by omega) (by omega) (fun p hp => by have := psum_mem hp; omega) (fun p hp => by have := qsum_mem hp; omega) (by omega) _).mono ?_)
  rintro r1 H4 ⟨rfl, rfl⟩
  have hnx := next_text hf hln bd [] (by omega)
  rw [if_neg (by omega), List.append_nil] at hnx
  refine Wo.doCall rfl rfl (op_call (args := [.ptr sb 0, .str (textP f bd)]) rfl rfl) ((feed_tells _ sb [] (textP f bd) (by simp only [List.length_nil]; omega) hst).mono ?_)
  rintro r1 H5 ⟨rfl, hst5, hk5⟩
  rw [List.nil_append] at hst5
  have e5 := hk5 _ _ hsb e3
  (repeat (first|(with_reducible first|apply jA|apply jC|apply jD|apply jE|apply jF|apply jG|apply jH|apply jI|apply jJ|apply jK|apply jL|apply jM|apply jN|apply jO)|(with_reducible apply SeqQ.id;refine SeqQ.norm (by first|(simp only [j0];rfl)|rfl) ?_)|with_reducible refine jP (by decide) ?_|(with_reducible apply jQ;first|refine jR rfl rfl rfl ?_|refine jS rfl rfl rfl ?_)|((first|((with_reducible first|apply jm|apply jn|apply jb|apply ju);repeat rfl)|((with_reducible apply jy);iterate 3 rfl)|((with_reducible apply jz);iterate 3 rfl)|((with_reducible apply jp);iterate 5 rfl)|((with_reducible apply jq);iterate 5 rfl)|((with_reducible apply jk);exact u9;rfl));refine jT (by first|(simp only [j0];rfl)|rfl) ?_)))
  refine Wo.doCall rfl rfl (op_call (args := [.ptr sb 0]) rfl rfl) ((next_got hnx (by omega) hst5).mono ?_)
  rintro r1 H6 ⟨hk6, rfl, hst6⟩
  have e6 := hk6 _ _ hsb e5
  (repeat (first|(with_reducible first|apply jA|apply jC|apply jD|apply jE|apply jF|apply jG|apply jH|apply jI|apply jJ|apply jK|apply jL|apply jM|apply jN|apply jO)|(with_reducible apply SeqQ.id;refine SeqQ.norm (by first|(simp only [j0];rfl)|rfl) ?_)|with_reducible refine jP (by decide) ?_|(with_reducible apply jQ;first|refine jR rfl rfl rfl ?_|refine jS rfl rfl rfl ?_)|((first|((with_reducible first|apply jm|apply jn|apply jb|apply ju);repeat rfl)|((with_reducible apply jy);iterate 3 rfl)|((with_reducible apply jz);iterate 3 rfl)|((with_reducible apply jp);iterate 5 rfl)|((with_reducible apply jq);iterate 5 rfl)|((with_reducible apply jk);exact u9;rfl));refine jT (by first|(simp only [j0];rfl)|rfl) ?_)))
  refine Wo.doVal rfl rfl (op_extract rfl rfl rfl) ?_
  refine Wo.doVal rfl rfl (op_extract rfl rfl rfl) ?_
  refine Wo.doVal rfl rfl (op_alloc rfl z31 rfl) ?_
  refine Wo.doSkip rfl rfl (op_store rfl rfl rfl (st31 (nth_app_new _ _) (call_all f [(clen, Lib.decDigits bd.length)] (outTl [(clen, Lib.decDigits bd.length)]) bd))) ?_
  have hst7 := new_keeps (c := zB) (c' := AB.cells (31, true) (callCells f [(clen, Lib.decDigits bd.length)] (outTl [(clen, Lib.decDigits bd.length)]) bd)) sb _ hst6
  have e7 := new_keeps (c := zB) (c' := AB.cells (31, true) (callCells f [(clen, Lib.decDigits bd.length)] (outTl [(clen, Lib.decDigits bd.length)]) bd)) 0 _ e6
  have q7 := nth_set_same (b := AB.cells (31, true) (callCells f [(clen, Lib.decDigits bd.length)] (outTl [(clen, Lib.decDigits bd.length)]) bd)) (nth_app_new H6 zB)
  have hp0 : 0 ≠ H6.length := by have := nth_lt' e6; omega
  have hps : sb ≠ H6.length := by have := nth_lt' hst6; omega
  unfold callCells at hst7 e7 q7
  generalize setAt (H6 ++ [zB]) H6.length (AB.cells (31, true) [.str f.method, .sl (f.path.map AV.str) (outTl f.path), .sl (f.query.map hdV) (outTl f.query), .sl ([(clen, Lib.decDigits bd.length)].map hdV) (outTl [(clen, Lib.decDigits bd.length)]), .str bd]) = H7 at *
  generalize H6.length = pb at *
  (repeat (first|(with_reducible first|apply jA|apply jC|apply jD|apply jE|apply jF|apply jG|apply jH|apply jI|apply jJ|apply jK|apply jL|apply jM|apply jN|apply jO)|(with_reducible apply SeqQ.id;refine SeqQ.norm (by first|(simp only [j0];rfl)|rfl) ?_)|with_reducible refine jP (by decide) ?_|(with_reducible apply jQ;first|refine jR rfl rfl rfl ?_|refine jS rfl rfl rfl ?_)|((first|((with_reducible first|apply jm|apply jn|apply jb|apply ju);repeat rfl)|((with_reducible apply jy);iterate 3 rfl)|((with_reducible apply jz);iterate 3 rfl)|((with_reducible apply jp);iterate 5 rfl)|((with_reducible apply jq);iterate 5 rfl)|((with_reducible apply jk);exact u9;rfl));refine jT (by first|(simp only [j0];rfl)|rfl) ?_)))
  refine Wo.doVal rfl rfl (op_fieldAddr rfl rfl (fb31 pb).2.2.1) ?_
  refine Wo.doVal rfl rfl (op_load_ptr rfl rfl q7 (ld31 _ _ _ _ _).2.2.1) ?_
  obtain ⟨dd, hdd⟩ : ∃ dd, dd = Lib.decDigits bd.length := ⟨_, rfl⟩
  have hdn : dd ≠ [] := by rw [hdd]; exact digits_ne _
  rw [← hdd] at *
  refine Wo.doCall rfl rfl (op_call (args := [.sl [hdV (clen, dd)] .unk, .str clen]) rfl rfl) ((Tells.runv rfl rfl rfl rfl rfl (find_run dd)).mono ?_)
  rintro r1 H8 ⟨rfl, rfl⟩
  (repeat (first|(with_reducible first|apply jA|apply jC|apply jD|apply jE|apply jF|apply jG|apply jH|apply jI|apply jJ|apply jK|apply jL|apply jM|apply jN|apply jO)|(with_reducible apply SeqQ.id;refine SeqQ.norm (by first|(simp only [j0];rfl)|rfl) ?_)|with_reducible refine jP (by decide) ?_|(with_reducible apply jQ;first|refine jR rfl rfl rfl ?_|refine jS rfl rfl rfl ?_)|((first|((with_reducible first|apply jm|apply jn|apply jb|apply ju);repeat rfl)|((with_reducible apply jy);iterate 3 rfl)|((with_reducible apply jz);iterate 3 rfl)|((with_reducible apply jp);iterate 5 rfl)|((with_reducible apply jq);iterate 5 rfl)|((with_reducible apply jk);exact u9;rfl));refine jT (by first|(simp only [j0];rfl)|rfl) ?_)))
  refine Wo.doVal rfl rfl (op_extract rfl rfl rfl) ?_
  refine Wo.doVal rfl rfl (op_extract rfl rfl rfl) ?_
  (repeat (first|(with_reducible first|apply jA|apply jC|apply jD|apply jE|apply jF|apply jG|apply jH|apply jI|apply jJ|apply jK|apply jL|apply jM|apply jN|apply jO)|(with_reducible apply SeqQ.id;refine SeqQ.norm (by first|(simp only [j0];rfl)|rfl) ?_)|with_reducible refine jP (by decide) ?_|(with_reducible apply jQ;first|refine jR rfl rfl rfl ?_|refine jS rfl rfl rfl ?_)|((first|((with_reducible first|apply jm|apply jn|apply jb|apply ju);repeat rfl)|((with_reducible apply jy);iterate 3 rfl)|((with_reducible apply jz);iterate 3 rfl)|((with_reducible apply jp);iterate 5 rfl)|((with_reducible apply jq);iterate 5 rfl)|((with_reducible apply jk);exact u9;rfl));refine jT (by first|(simp only [j0];rfl)|rfl) ?_)))
  refine Wo.doVal rfl rfl (op_fieldAddr rfl rfl (fb31 pb).2.2.1) ?_
  refine Wo.doSkip rfl rfl (op_store rfl rfl rfl (st31_3 q7 [] .nil rfl)) ?_
  have q9 := nth_set_same (b := AB.cells (31, true) [.str f.method, .sl (f.path.map AV.str) (outTl f.path), .sl (f.query.map hdV) (outTl f.query), .sl (([] : List Hd).map hdV) .nil, .str bd]) q7
  have e9 := (nth_set_other (b := AB.cells (31, true) [.str f.method, .sl (f.path.map AV.str) (outTl f.path), .sl (f.query.map hdV) (outTl f.query), .sl (([] : List Hd).map hdV) .nil, .str bd]) hp0.symm).trans e7
  have hst9 := (nth_set_other (b := AB.cells (31, true) [.str f.method, .sl (f.path.map AV.str) (outTl f.path), .sl (f.query.map hdV) (outTl f.query), .sl (([] : List Hd).map hdV) .nil, .str bd]) hps.symm).trans hst7
  generalize setAt H8 pb (AB.cells (31, true) [.str f.method, .sl (f.path.map AV.str) (outTl f.path), .sl (f.query.map hdV) (outTl f.query), .sl (([] : List Hd).map hdV) .nil, .str bd]) = H9 at *
  (repeat (first|(with_reducible first|apply jA|apply jC|apply jD|apply jE|apply jF|apply jG|apply jH|apply jI|apply jJ|apply jK|apply jL|apply jM|apply jN|apply jO)|(with_reducible apply SeqQ.id;refine SeqQ.norm (by first|(simp only [j0];rfl)|rfl) ?_)|with_reducible refine jP (by decide) ?_|(with_reducible apply jQ;first|refine jR rfl rfl rfl ?_|refine jS rfl rfl rfl ?_)|((first|((with_reducible first|apply jm|apply jn|apply jb|apply ju);repeat rfl)|((with_reducible apply jy);iterate 3 rfl)|((with_reducible apply jz);iterate 3 rfl)|((with_reducible apply jp);iterate 5 rfl)|((with_reducible apply jq);iterate 5 rfl)|((with_reducible apply jk);exact u9;rfl));refine jT (by first|(simp only [j0];rfl)|rfl) ?_)))
  refine Wo.doVal rfl rfl (op_load_ptr rfl rfl e9 (tv31 _ _ _ _ _)) ?_
  refine Wo.doVal rfl rfl (op_load_ptr rfl rfl q9 (tv31 _ _ _ _ _)) ?_
  refine Wo.doCall rfl rfl (op_call (args := [callT f [] ta tb .nil bd, callT f [] (outTl f.path) (outTl f.query) .nil bd]) rfl rfl) ((sameW_tells f [] ta tb .nil (outTl f.path) (outTl f.query) .nil bd ha hb rfl (outTl_un _) (outTl_un _) rfl (by omega) (by omega) (by simp) _).mono ?_)
  rintro r1 H10 ⟨rfl, rfl⟩
  (repeat (first|(with_reducible first|apply jA|apply jC|apply jD|apply jE|apply jF|apply jG|apply jH|apply jI|apply jJ|apply jK|apply jL|apply jM|apply jN|apply jO)|(with_reducible apply SeqQ.id;refine SeqQ.norm (by first|(simp only [j0];rfl)|rfl) ?_)|with_reducible refine jP (by decide) ?_|(with_reducible apply jQ;first|refine jR rfl rfl rfl ?_|refine jS rfl rfl rfl ?_)|((first|((with_reducible first|apply jm|apply jn|apply jb|apply ju);repeat rfl)|((with_reducible apply jy);iterate 3 rfl)|((with_reducible apply jz);iterate 3 rfl)|((with_reducible apply jp);iterate 5 rfl)|((with_reducible apply jq);iterate 5 rfl)|((with_reducible apply jk);exact u9;rfl));refine jT (by first|(simp only [j0];rfl)|rfl) ?_)))
  refine Wo.doVal rfl rfl (op_bin_str (r := .v (.bool (!(dd == [])))) rfl rfl rfl rfl) ?_
  rw [show (!(dd == [])) = true by cases dd <;> simp_all]
  (repeat (first|(with_reducible first|apply jA|apply jC|apply jD|apply jE|apply jF|apply jG|apply jH|apply jI|apply jJ|apply jK|apply jL|apply jM|apply jN|apply jO)|(with_reducible apply SeqQ.id;refine SeqQ.norm (by first|(simp only [j0];rfl)|rfl) ?_)|with_reducible refine jP (by decide) ?_|(with_reducible apply jQ;first|refine jR rfl rfl rfl ?_|refine jS rfl rfl rfl ?_)|((first|((with_reducible first|apply jm|apply jn|apply jb|apply ju);repeat rfl)|((with_reducible apply jy);iterate 3 rfl)|((with_reducible apply jz);iterate 3 rfl)|((with_reducible apply jp);iterate 5 rfl)|((with_reducible apply jq);iterate 5 rfl)|((with_reducible apply jk);exact u9;rfl));refine jT (by first|(simp only [j0];rfl)|rfl) ?_)))
  refine Wo.doCall rfl rfl (op_call (args := [.ptr sb 0]) rfl rfl) ((waits_tells H10 sb [] 0 hst9).mono ?_)
  rintro r1 H11 ⟨rfl, rfl⟩
  (repeat (first|(with_reducible first|apply jA|apply jC|apply jD|apply jE|apply jF|apply jG|apply jH|apply jI|apply jJ|apply jK|apply jL|apply jM|apply jN|apply jO)|(with_reducible apply SeqQ.id;refine SeqQ.norm (by first|(simp only [j0];rfl)|rfl) ?_)|with_reducible refine jP (by decide) ?_|(with_reducible apply jQ;first|refine jR rfl rfl rfl ?_|refine jS rfl rfl rfl ?_)|((first|((with_reducible first|apply jm|apply jn|apply jb|apply ju);repeat rfl)|((with_reducible apply jy);iterate 3 rfl)|((with_reducible apply jz);iterate 3 rfl)|((with_reducible apply jp);iterate 5 rfl)|((with_reducible apply jq);iterate 5 rfl)|((with_reducible apply jk);exact u9;rfl));refine jT (by first|(simp only [j0];rfl)|rfl) ?_)))
  exact EndQ.ret rfl ⟨_, rfl, rfl, rfl, rfl⟩
end
end Go.Proofs.Hc
