/- A stream's parts: breaks, drop, put, Feed. -/
import Derived.Test.YtfihfpgphipglaaGreatDoorHcFirst2
set_option linter.unusedVariables false
set_option linter.unusedSimpArgs false
set_option linter.unusedSectionVars false
namespace Go.Tm
def MidQ (P : St → Prop) (Q : AX → St → Prop) : AX → St → Prop
 | .normal, s => P s
 | e, s => Q e s
theorem MidQ.ret {P : St → Prop} {Q : AX → St → Prop} {s : St} (h : Q .ret s) : MidQ P Q .ret s := h
theorem MidQ.exit {P : St → Prop} {Q : AX → St → Prop} {s : St} {i : Nat} (h : Q (.exit i) s) : MidQ P Q (.exit i) s := h
theorem MidQ.normal {P : St → Prop} {Q : AX → St → Prop} {s : St} (h : P s) : MidQ P Q .normal s := h
theorem Wc.midR {K : Cfg} {f : FuncId} {R : List AV} {own : Nat → Nat} {H : List AB} {c b : Code} {Q : AX → St → Prop} (P : St → Prop) (h : Wc K f c R own H (MidQ P (SeqQ K f b Q))) (hn : ∀ R own H, P ⟨R, own, H⟩ → SeqQ K f b Q .normal ⟨R, own, H⟩) : Wc K f c R own H (SeqQ K f b Q) :=
 W.mono h fun x hx => by
  obtain ⟨e, R, own, H⟩ := x
  cases e with
  | normal => exact hn R own H hx
  | exit i => exact hx
  | ret => exact hx
end Go.Tm
namespace Go.Proofs.Hc
open Go.Tm
set_option maxRecDepth 100000
abbrev zB : AB := .cells (31, true) (AV.agg [.str [], .sl [] .nil, .sl [] .nil, .sl [] .nil, .str []]).cells
section
variable {x : Value}
theorem u34 : (Kq x).P.underlying 34 = some (.pointer 38) := Tryz.underlying34
theorem sz3 : tSize (Kq x).P 3 = some 1 := by kernel_rfl
theorem ag3 : tAgg (Kq x).P 3 = some false := by kernel_rfl
theorem fb38 (b : Nat) : aFieldAddr (Kq x) 38 (.ptr b 0) 0 = some (.ptr b 0) ∧ aFieldAddr (Kq x) 38 (.ptr b 0) 1 = some (.ptr b 1) := by constructor <;> kernel_rfl
theorem fb36 (b : Nat) : aFieldAddr (Kq x) 36 (.ptr b 0) 0 = some (.ptr b 0) := by kernel_rfl
theorem nil34 (b : Nat) (p q : Operand) : aBinOp (Kq x) .eql 34 p q (.ptr b 0) (.v (.pointer none)) [] = some (.v (.bool false), [], []) := by
 simp only [aBinOp, aNilEq, u34]; rfl
theorem bld31z : aBuild (Kq x) 31 [] = some (.agg zero31) := by kernel_rfl
def Strm (H : List AB) (b : Nat) (buf : Bs) (st : Int) : Prop := nth H b = some (.cells (38, true) [.str buf, i64v st])
theorem st38_0 {H : List AB} {b : Nat} {buf : Bs} {st : Int} (h : Strm H b buf st) (a : Bs) : aStore (Kq x) H 9 (.ptr b 0) (.str a) = some (setAt H b (.cells (38, true) [.str a, i64v st])) := by
 unfold Strm at h
 simp only [aStore, sz9, h]
 rw [if_pos ⟨rfl, by simp, rfl⟩]; rfl
theorem st38_1 {H : List AB} {b : Nat} {buf : Bs} {st : Int} (h : Strm H b buf st) (a : Int) : aStore (Kq x) H 3 (.ptr b 1) (i64v a) = some (setAt H b (.cells (38, true) [.str buf, i64v a])) := by
 unfold Strm at h
 simp only [aStore, sz3, h]
 rw [if_pos ⟨rfl, by simp, rfl⟩]; rfl
theorem ld38_0 (buf : Bs) (st : Int) : takeVar (Kq x).P 9 ([AV.str buf, i64v st].drop 0) = some (.str buf) := take_one ag9 sz9
theorem ld38_1 (buf : Bs) (st : Int) : takeVar (Kq x).P 3 ([AV.str buf, i64v st].drop 1) = some (i64v st) := take_one ag3 sz3
theorem resC {H : List AB} {regs : List AV} {p q b : Nat} {a1 a2 a3 a4 a5 v : AV} (h2 : nth regs p = some (.ptr b 0)) (hb : nth H b = some (.cells (31, true) [a1, a2, a3, a4, a5])) (h3 : nth regs q = some v) : aResults (Kq x) H regs [.cell p 31, .tmp q] = some (.tup [.agg [a1, a2, a3, a4, a5], v]) := by
 have h := tv31 (x := x) a1 a2 a3 a4 a5
 simp only [aResults, mapO, aResult, h2, h3, aLoad, deref, hb, List.drop_zero, h]
 rfl
def Keeps (b : Nat) (H H' : List AB) : Prop := ∀ k A, k ≠ b → nth H k = some A → nth H' k = some A
theorem Keeps.refl (b : Nat) (H : List AB) : Keeps b H H := fun _ _ _ h => h
theorem Keeps.trans {b : Nat} {H H1 H2 : List AB} (h : Keeps b H H1) (k : Keeps b H1 H2) : Keeps b H H2 := fun i A hi q => k i A hi (h i A hi q)
theorem Keeps.app {b : Nat} {H H1 : List AB} (h : Keeps b H H1) (l : List AB) : Keeps b H (H1 ++ l) := fun i A hi q => nth_app_left (h i A hi q)
theorem Keeps.set {b : Nat} {H H1 : List AB} (h : Keeps b H H1) (A : AB) : Keeps b H (setAt H1 b A) := fun i B hi q => by rw [nth_set_other (Ne.symm hi)]; exact h i B hi q
theorem Keeps.setNew {b k : Nat} {H H1 : List AB} (h : Keeps b H H1) (hk : H.length ≤ k) (A : AB) : Keeps b H (setAt H1 k A) := fun i B hi q => by rw [nth_set_other (by have := nth_lt' q; omega)]; exact h i B hi q
set_option maxHeartbeats 1000000 in
theorem breaks_tells (H : List AB) (b : Nat) (buf : Bs) (st : Int) (s : Int) (hs : Strm H b buf st) : Tells (Kq x) 26 [.ptr b 0, i64v s] H fun r H' => r = .tup [.agg zero31, i64v s] ∧ Strm H' b [] s ∧ Keeps b H H' := by
 refine Tells.mem (c := _) Tryz.func26 rfl (args' := [.ptr b 0, i64v s]) (m := 14) rfl rfl rfl rfl rfl ?_
 have hbl := nth_lt' hs
 (repeat (first|(with_reducible first|apply jA|apply jC|apply jD|apply jE|apply jF|apply jG|apply jH|apply jI|apply jJ|apply jK|apply jL|apply jM|apply jN|apply jO)|(with_reducible apply SeqQ.id;refine SeqQ.norm (by first|(simp only [j0];rfl)|rfl) ?_)|with_reducible refine jP (by decide) ?_|(with_reducible apply jQ;first|refine jR rfl rfl rfl ?_|refine jS rfl rfl rfl ?_)|((first|((with_reducible first|apply jm|apply jn|apply jb|apply ju);repeat rfl)|((with_reducible apply jy);iterate 3 rfl)|((with_reducible apply jz);iterate 3 rfl)|((with_reducible apply jp);iterate 5 rfl)|((with_reducible apply jq);iterate 5 rfl)|((with_reducible apply jk);exact u9;rfl));refine jT (by first|(simp only [j0];rfl)|rfl) ?_)))
 refine Wo.doVal rfl rfl (op_alloc rfl z31 rfl) ?_
 have hs1 : Strm (H ++ [zB]) b buf st := nth_app_left hs
 have hp1 : nth (H ++ [zB]) H.length = some (.cells (31, true) zero31) := nth_app_new _ _
 have hk1 := (Keeps.refl b H).app [zB]
 generalize H ++ [zB] = H1 at *
 (repeat (first|(with_reducible first|apply jA|apply jC|apply jD|apply jE|apply jF|apply jG|apply jH|apply jI|apply jJ|apply jK|apply jL|apply jM|apply jN|apply jO)|(with_reducible apply SeqQ.id;refine SeqQ.norm (by first|(simp only [j0];rfl)|rfl) ?_)|with_reducible refine jP (by decide) ?_|(with_reducible apply jQ;first|refine jR rfl rfl rfl ?_|refine jS rfl rfl rfl ?_)|((first|((with_reducible first|apply jm|apply jn|apply jb|apply ju);repeat rfl)|((with_reducible apply jy);iterate 3 rfl)|((with_reducible apply jz);iterate 3 rfl)|((with_reducible apply jp);iterate 5 rfl)|((with_reducible apply jq);iterate 5 rfl)|((with_reducible apply jk);exact u9;rfl));refine jT (by first|(simp only [j0];rfl)|rfl) ?_)))
 refine Wo.doVal rfl rfl (op_nilCheck rfl rfl) ?_
 refine Wo.doVal rfl rfl (op_fieldAddr rfl rfl (fb38 b).2) ?_
 refine Wo.doSkip rfl rfl (op_store rfl rfl rfl (st38_1 hs1 s)) ?_
 have hs2 : Strm (setAt H1 b (.cells (38, true) [.str buf, i64v s])) b buf s := nth_set_same hs1
 have hp2 : nth (setAt H1 b (.cells (38, true) [.str buf, i64v s])) H.length = some (.cells (31, true) zero31) := by rw [nth_set_other (by omega)]; exact hp1
 have hk2 := hk1.set (.cells (38, true) [.str buf, i64v s])
 generalize setAt H1 b (.cells (38, true) [.str buf, i64v s]) = H2 at *
 refine Wo.doVal rfl rfl (op_nilCheck rfl rfl) ?_
 refine Wo.doVal rfl rfl (op_fieldAddr rfl rfl (fb38 b).1) ?_
 refine Wo.doVal rfl rfl (op_fieldAddr rfl rfl (fb36 b)) ?_
 refine Wo.doSkip rfl rfl (op_store rfl rfl rfl (st38_0 hs2 [])) ?_
 have hs3 : Strm (setAt H2 b (.cells (38, true) [.str [], i64v s])) b [] s := nth_set_same hs2
 have hp3 : nth (setAt H2 b (.cells (38, true) [.str [], i64v s])) H.length = some (.cells (31, true) zero31) := by rw [nth_set_other (by omega)]; exact hp2
 have hk3 := hk2.set (.cells (38, true) [.str [], i64v s])
 generalize setAt H2 b (.cells (38, true) [.str [], i64v s]) = H3 at *
 (repeat (first|(with_reducible first|apply jA|apply jC|apply jD|apply jE|apply jF|apply jG|apply jH|apply jI|apply jJ|apply jK|apply jL|apply jM|apply jN|apply jO)|(with_reducible apply SeqQ.id;refine SeqQ.norm (by first|(simp only [j0];rfl)|rfl) ?_)|with_reducible refine jP (by decide) ?_|(with_reducible apply jQ;first|refine jR rfl rfl rfl ?_|refine jS rfl rfl rfl ?_)|((first|((with_reducible first|apply jm|apply jn|apply jb|apply ju);repeat rfl)|((with_reducible apply jy);iterate 3 rfl)|((with_reducible apply jz);iterate 3 rfl)|((with_reducible apply jp);iterate 5 rfl)|((with_reducible apply jq);iterate 5 rfl)|((with_reducible apply jk);exact u9;rfl));refine jT (by first|(simp only [j0];rfl)|rfl) ?_)))
 refine Wo.doVal rfl rfl (op_build rfl rfl bld31z) ?_
 (repeat (first|(with_reducible first|apply jA|apply jC|apply jD|apply jE|apply jF|apply jG|apply jH|apply jI|apply jJ|apply jK|apply jL|apply jM|apply jN|apply jO)|(with_reducible apply SeqQ.id;refine SeqQ.norm (by first|(simp only [j0];rfl)|rfl) ?_)|with_reducible refine jP (by decide) ?_|(with_reducible apply jQ;first|refine jR rfl rfl rfl ?_|refine jS rfl rfl rfl ?_)|((first|((with_reducible first|apply jm|apply jn|apply jb|apply ju);repeat rfl)|((with_reducible apply jy);iterate 3 rfl)|((with_reducible apply jz);iterate 3 rfl)|((with_reducible apply jp);iterate 5 rfl)|((with_reducible apply jq);iterate 5 rfl)|((with_reducible apply jk);exact u9;rfl));refine jT (by first|(simp only [j0];rfl)|rfl) ?_)))
 refine Wo.doSkip rfl rfl (op_store rfl rfl rfl (st31 hp3 rfl)) ?_
 (repeat (first|(with_reducible first|apply jA|apply jC|apply jD|apply jE|apply jF|apply jG|apply jH|apply jI|apply jJ|apply jK|apply jL|apply jM|apply jN|apply jO)|(with_reducible apply SeqQ.id;refine SeqQ.norm (by first|(simp only [j0];rfl)|rfl) ?_)|with_reducible refine jP (by decide) ?_|(with_reducible apply jQ;first|refine jR rfl rfl rfl ?_|refine jS rfl rfl rfl ?_)|((first|((with_reducible first|apply jm|apply jn|apply jb|apply ju);repeat rfl)|((with_reducible apply jy);iterate 3 rfl)|((with_reducible apply jz);iterate 3 rfl)|((with_reducible apply jp);iterate 5 rfl)|((with_reducible apply jq);iterate 5 rfl)|((with_reducible apply jk);exact u9;rfl));refine jT (by first|(simp only [j0];rfl)|rfl) ?_)))
 refine EndQ.ret (resC rfl (nth_set_same hp3) rfl) ⟨rfl, ?_, hk3.setNew (Nat.le_refl _) _⟩
 unfold Strm
 rw [nth_set_other (by omega)]
 exact hs3
set_option maxHeartbeats 1000000 in
theorem drop_tells (H : List AB) (b : Nat) (buf : Bs) (st : Int) (n : Nat) (hn : n ≤ buf.length) (hs : Strm H b buf st) : Tells (Kq x) 30 [.ptr b 0, i64v n] H fun r H' => Strm H' b (buf.drop n) st ∧ Keeps b H H' := by
 refine Tells.mem (c := _) Tryz.func30 rfl (args' := [.ptr b 0, i64v n]) (m := 11) rfl rfl rfl rfl rfl ?_
 (repeat (first|(with_reducible first|apply jA|apply jC|apply jD|apply jE|apply jF|apply jG|apply jH|apply jI|apply jJ|apply jK|apply jL|apply jM|apply jN|apply jO)|(with_reducible apply SeqQ.id;refine SeqQ.norm (by first|(simp only [j0];rfl)|rfl) ?_)|with_reducible refine jP (by decide) ?_|(with_reducible apply jQ;first|refine jR rfl rfl rfl ?_|refine jS rfl rfl rfl ?_)|((first|((with_reducible first|apply jm|apply jn|apply jb|apply ju);repeat rfl)|((with_reducible apply jy);iterate 3 rfl)|((with_reducible apply jz);iterate 3 rfl)|((with_reducible apply jp);iterate 5 rfl)|((with_reducible apply jq);iterate 5 rfl)|((with_reducible apply jk);exact u9;rfl));refine jT (by first|(simp only [j0];rfl)|rfl) ?_)))
 refine Wo.doVal rfl rfl (op_nilCheck rfl rfl) ?_
 refine Wo.doVal rfl rfl (op_fieldAddr rfl rfl (fb36 b)) ?_
 refine Wo.doVal rfl rfl (op_load_ptr (v := .str buf) rfl rfl hs (ld38_0 _ _)) ?_
 (repeat (first|(with_reducible first|apply jA|apply jC|apply jD|apply jE|apply jF|apply jG|apply jH|apply jI|apply jJ|apply jK|apply jL|apply jM|apply jN|apply jO)|(with_reducible apply SeqQ.id;refine SeqQ.norm (by first|(simp only [j0];rfl)|rfl) ?_)|with_reducible refine jP (by decide) ?_|(with_reducible apply jQ;first|refine jR rfl rfl rfl ?_|refine jS rfl rfl rfl ?_)|((first|((with_reducible first|apply jm|apply jn|apply jb|apply ju);repeat rfl)|((with_reducible apply jy);iterate 3 rfl)|((with_reducible apply jz);iterate 3 rfl)|((with_reducible apply jp);iterate 5 rfl)|((with_reducible apply jq);iterate 5 rfl)|((with_reducible apply jk);exact u9;rfl));refine jT (by first|(simp only [j0];rfl)|rfl) ?_)))
 refine Wo.doVal rfl rfl (op_slice_str_lo (a := n) rfl rfl u9 rfl rfl rfl hn) ?_
 refine Wo.doVal rfl rfl (op_nilCheck rfl rfl) ?_
 refine Wo.doVal rfl rfl (op_fieldAddr rfl rfl (fb36 b)) ?_
 refine Wo.doSkip rfl rfl (op_store rfl rfl rfl (st38_0 hs _)) ?_
 (repeat (first|(with_reducible first|apply jA|apply jC|apply jD|apply jE|apply jF|apply jG|apply jH|apply jI|apply jJ|apply jK|apply jL|apply jM|apply jN|apply jO)|(with_reducible apply SeqQ.id;refine SeqQ.norm (by first|(simp only [j0];rfl)|rfl) ?_)|with_reducible refine jP (by decide) ?_|(with_reducible apply jQ;first|refine jR rfl rfl rfl ?_|refine jS rfl rfl rfl ?_)|((first|((with_reducible first|apply jm|apply jn|apply jb|apply ju);repeat rfl)|((with_reducible apply jy);iterate 3 rfl)|((with_reducible apply jz);iterate 3 rfl)|((with_reducible apply jp);iterate 5 rfl)|((with_reducible apply jq);iterate 5 rfl)|((with_reducible apply jk);exact u9;rfl));refine jT (by first|(simp only [j0];rfl)|rfl) ?_)))
 exact EndQ.normal rfl ⟨nth_set_same hs, (Keeps.refl b H).set _⟩
set_option maxHeartbeats 1000000 in
theorem put_tells (H : List AB) (b : Nat) (buf s : Bs) (st : Int) (hl : buf.length + s.length ≤ 9223372036854775807) (hs : Strm H b buf st) : Tells (Kq x) 23 [.ptr b 0, .str s] H fun r H' => Strm H' b (buf ++ s) st ∧ Keeps b H H' := by
 refine Tells.mem (c := _) Tryz.func23 rfl (args' := [.ptr b 0, .str s]) (m := 10) rfl rfl rfl rfl rfl ?_
 (repeat (first|(with_reducible first|apply jA|apply jC|apply jD|apply jE|apply jF|apply jG|apply jH|apply jI|apply jJ|apply jK|apply jL|apply jM|apply jN|apply jO)|(with_reducible apply SeqQ.id;refine SeqQ.norm (by first|(simp only [j0];rfl)|rfl) ?_)|with_reducible refine jP (by decide) ?_|(with_reducible apply jQ;first|refine jR rfl rfl rfl ?_|refine jS rfl rfl rfl ?_)|((first|((with_reducible first|apply jm|apply jn|apply jb|apply ju);repeat rfl)|((with_reducible apply jy);iterate 3 rfl)|((with_reducible apply jz);iterate 3 rfl)|((with_reducible apply jp);iterate 5 rfl)|((with_reducible apply jq);iterate 5 rfl)|((with_reducible apply jk);exact u9;rfl));refine jT (by first|(simp only [j0];rfl)|rfl) ?_)))
 refine Wo.doVal rfl rfl (op_nilCheck rfl rfl) ?_
 refine Wo.doVal rfl rfl (op_fieldAddr rfl rfl (fb36 b)) ?_
 refine Wo.doVal rfl rfl (op_load_ptr (v := .str buf) rfl rfl hs (ld38_0 _ _)) ?_
 (repeat (first|(with_reducible first|apply jA|apply jC|apply jD|apply jE|apply jF|apply jG|apply jH|apply jI|apply jJ|apply jK|apply jL|apply jM|apply jN|apply jO)|(with_reducible apply SeqQ.id;refine SeqQ.norm (by first|(simp only [j0];rfl)|rfl) ?_)|with_reducible refine jP (by decide) ?_|(with_reducible apply jQ;first|refine jR rfl rfl rfl ?_|refine jS rfl rfl rfl ?_)|((first|((with_reducible first|apply jm|apply jn|apply jb|apply ju);repeat rfl)|((with_reducible apply jy);iterate 3 rfl)|((with_reducible apply jz);iterate 3 rfl)|((with_reducible apply jp);iterate 5 rfl)|((with_reducible apply jq);iterate 5 rfl)|((with_reducible apply jk);exact u9;rfl));refine jT (by first|(simp only [j0];rfl)|rfl) ?_)))
 refine Wo.doVal rfl rfl (op_add_str rfl rfl rfl rfl hl) ?_
 refine Wo.doVal rfl rfl (op_nilCheck rfl rfl) ?_
 refine Wo.doVal rfl rfl (op_fieldAddr rfl rfl (fb36 b)) ?_
 refine Wo.doSkip rfl rfl (op_store rfl rfl rfl (st38_0 hs _)) ?_
 (repeat (first|(with_reducible first|apply jA|apply jC|apply jD|apply jE|apply jF|apply jG|apply jH|apply jI|apply jJ|apply jK|apply jL|apply jM|apply jN|apply jO)|(with_reducible apply SeqQ.id;refine SeqQ.norm (by first|(simp only [j0];rfl)|rfl) ?_)|with_reducible refine jP (by decide) ?_|(with_reducible apply jQ;first|refine jR rfl rfl rfl ?_|refine jS rfl rfl rfl ?_)|((first|((with_reducible first|apply jm|apply jn|apply jb|apply ju);repeat rfl)|((with_reducible apply jy);iterate 3 rfl)|((with_reducible apply jz);iterate 3 rfl)|((with_reducible apply jp);iterate 5 rfl)|((with_reducible apply jq);iterate 5 rfl)|((with_reducible apply jk);exact u9;rfl));refine jT (by first|(simp only [j0];rfl)|rfl) ?_)))
 exact EndQ.normal rfl ⟨nth_set_same hs, (Keeps.refl b H).set _⟩
theorem wsub {a b : Nat} (h : a < 4294967296) (h2 : b ≤ a) : IntKind.i64.wrap ((a : Int) - (b : Int)) = ((a - b : Nat) : Int) := by rw [IntKind.wrap_i64]; omega
set_option maxHeartbeats 1000000 in
theorem feed_tells (H : List AB) (b : Nat) (buf s : Bs) (hl : buf.length + s.length ≤ 65536) (hs : Strm H b buf 0) : Tells (Kq x) 11 [.ptr b 0, .str s] H fun r H' => r = i64v s.length ∧ Strm H' b (buf ++ s) 0 ∧ Keeps b H H' := by
 refine Tells.mem (c := _) Tryz.func11 rfl (args' := [.ptr b 0, .str s]) (m := 31) rfl rfl rfl rfl rfl ?_
 (repeat (first|(with_reducible first|apply jA|apply jC|apply jD|apply jE|apply jF|apply jG|apply jH|apply jI|apply jJ|apply jK|apply jL|apply jM|apply jN|apply jO)|(with_reducible apply SeqQ.id;refine SeqQ.norm (by first|(simp only [j0];rfl)|rfl) ?_)|with_reducible refine jP (by decide) ?_|(with_reducible apply jQ;first|refine jR rfl rfl rfl ?_|refine jS rfl rfl rfl ?_)|((first|((with_reducible first|apply jm|apply jn|apply jb|apply ju);repeat rfl)|((with_reducible apply jy);iterate 3 rfl)|((with_reducible apply jz);iterate 3 rfl)|((with_reducible apply jp);iterate 5 rfl)|((with_reducible apply jq);iterate 5 rfl)|((with_reducible apply jk);exact u9;rfl));refine jT (by first|(simp only [j0];rfl)|rfl) ?_)))
 refine Wo.doVal rfl rfl (op_binv rfl rfl rfl (nil34 b _ _)) ?_
 (repeat (first|(with_reducible first|apply jA|apply jC|apply jD|apply jE|apply jF|apply jG|apply jH|apply jI|apply jJ|apply jK|apply jL|apply jM|apply jN|apply jO)|(with_reducible apply SeqQ.id;refine SeqQ.norm (by first|(simp only [j0];rfl)|rfl) ?_)|with_reducible refine jP (by decide) ?_|(with_reducible apply jQ;first|refine jR rfl rfl rfl ?_|refine jS rfl rfl rfl ?_)|((first|((with_reducible first|apply jm|apply jn|apply jb|apply ju);repeat rfl)|((with_reducible apply jy);iterate 3 rfl)|((with_reducible apply jz);iterate 3 rfl)|((with_reducible apply jp);iterate 5 rfl)|((with_reducible apply jq);iterate 5 rfl)|((with_reducible apply jk);exact u9;rfl));refine jT (by first|(simp only [j0];rfl)|rfl) ?_)))
 refine Wo.doVal rfl rfl (op_nilCheck rfl rfl) ?_
 refine Wo.yes rfl rfl rfl rfl ?_
 refine Wo.doVal rfl rfl (op_fieldAddr rfl rfl (fb38 b).2) ?_
 refine Wo.yes rfl rfl rfl rfl ?_
 refine Wo.doVal rfl rfl (op_load_ptr (v := i64v 0) rfl rfl hs (ld38_1 _ _)) ?_
 (repeat (first|(with_reducible first|apply jA|apply jC|apply jD|apply jE|apply jF|apply jG|apply jH|apply jI|apply jJ|apply jK|apply jL|apply jM|apply jN|apply jO)|(with_reducible apply SeqQ.id;refine SeqQ.norm (by first|(simp only [j0];rfl)|rfl) ?_)|with_reducible refine jP (by decide) ?_|(with_reducible apply jQ;first|refine jR rfl rfl rfl ?_|refine jS rfl rfl rfl ?_)|((first|((with_reducible first|apply jm|apply jn|apply jb|apply ju);repeat rfl)|((with_reducible apply jy);iterate 3 rfl)|((with_reducible apply jz);iterate 3 rfl)|((with_reducible apply jp);iterate 5 rfl)|((with_reducible apply jq);iterate 5 rfl)|((with_reducible apply jk);exact u9;rfl));refine jT (by first|(simp only [j0];rfl)|rfl) ?_)))
 refine Wo.doVal rfl rfl (op_nilCheck rfl rfl) ?_
 refine Wo.doVal rfl rfl (op_fieldAddr rfl rfl (fb38 b).1) ?_
 refine Wo.doVal rfl rfl (op_fieldAddr rfl rfl (fb36 b)) ?_
 refine Wo.doVal rfl rfl (op_load_ptr (v := .str buf) rfl rfl hs (ld38_0 _ _)) ?_
 (repeat (first|(with_reducible first|apply jA|apply jC|apply jD|apply jE|apply jF|apply jG|apply jH|apply jI|apply jJ|apply jK|apply jL|apply jM|apply jN|apply jO)|(with_reducible apply SeqQ.id;refine SeqQ.norm (by first|(simp only [j0];rfl)|rfl) ?_)|with_reducible refine jP (by decide) ?_|(with_reducible apply jQ;first|refine jR rfl rfl rfl ?_|refine jS rfl rfl rfl ?_)|((first|((with_reducible first|apply jm|apply jn|apply jb|apply ju);repeat rfl)|((with_reducible apply jy);iterate 3 rfl)|((with_reducible apply jz);iterate 3 rfl)|((with_reducible apply jp);iterate 5 rfl)|((with_reducible apply jq);iterate 5 rfl)|((with_reducible apply jk);exact u9;rfl));refine jT (by first|(simp only [j0];rfl)|rfl) ?_)))
 rw [show IntKind.i64.wrap ((65536 : Int) - (buf.length : Int)) = ((65536 - buf.length : Nat) : Int) from wsub (a := 65536) (by omega) (by omega)]
 refine Wo.doVal rfl rfl (op_min2 rfl rfl rfl rfl) ?_
 rw [if_neg (show ¬ ((65536 - buf.length : Nat) : Int) < ((s.length : Nat) : Int) by omega)]
 (repeat (first|(with_reducible first|apply jA|apply jC|apply jD|apply jE|apply jF|apply jG|apply jH|apply jI|apply jJ|apply jK|apply jL|apply jM|apply jN|apply jO)|(with_reducible apply SeqQ.id;refine SeqQ.norm (by first|(simp only [j0];rfl)|rfl) ?_)|with_reducible refine jP (by decide) ?_|(with_reducible apply jQ;first|refine jR rfl rfl rfl ?_|refine jS rfl rfl rfl ?_)|((first|((with_reducible first|apply jm|apply jn|apply jb|apply ju);repeat rfl)|((with_reducible apply jy);iterate 3 rfl)|((with_reducible apply jz);iterate 3 rfl)|((with_reducible apply jp);iterate 5 rfl)|((with_reducible apply jq);iterate 5 rfl)|((with_reducible apply jk);exact u9;rfl));refine jT (by first|(simp only [j0];rfl)|rfl) ?_)))
 refine Wc.drawnX rfl [] [6] (by kernel_rfl) ?_
 (refine WdX.val rfl (.inl rfl) rfl rfl rfl (op_move rfl rfl) rfl ?_; refine WdX.norm (by first | (simp only [setAt]; rfl) | rfl) ?_)
 refine WdX.val rfl (.inl rfl) rfl rfl rfl (op_nilCheck rfl rfl) rfl ?_
 refine WdX.norm (by first | (simp only [setAt]; rfl) | rfl) ?_
 refine WdX.val rfl (.inl rfl) rfl rfl rfl (op_fieldAddr rfl rfl (fb38 b).1) rfl ?_
 refine WdX.norm (by first | (simp only [setAt]; rfl) | rfl) ?_
 (refine WdX.val rfl (.inl rfl) rfl rfl rfl (op_move rfl rfl) rfl ?_; refine WdX.norm (by first | (simp only [setAt]; rfl) | rfl) ?_)
 (refine WdX.val rfl (.inl rfl) rfl rfl rfl (op_move rfl rfl) rfl ?_; refine WdX.norm (by first | (simp only [setAt]; rfl) | rfl) ?_)
 refine WdX.val rfl (.inl rfl) rfl rfl rfl (op_slice_str_hi (b := s.length) rfl rfl u9 rfl rfl rfl (Nat.le_refl _)) rfl ?_
 rw [List.take_length]
 refine WdX.norm (by first | (simp only [setAt]; rfl) | rfl) ?_
 refine WdX.call rfl (.inl rfl) rfl rfl rfl (op_call (args := [.ptr b 0, .str s]) rfl rfl) (fun r hr => by cases hr) ((put_tells H b buf s 0 (by omega) hs).mono ?_)
 rintro r1 H1 ⟨h1, h2⟩
 refine ⟨fun r hr => (by cases hr), ?_⟩
 refine WdX.nil ?_
 (repeat (first|(with_reducible first|apply jA|apply jC|apply jD|apply jE|apply jF|apply jG|apply jH|apply jI|apply jJ|apply jK|apply jL|apply jM|apply jN|apply jO)|(with_reducible apply SeqQ.id;refine SeqQ.norm (by first|(simp only [j0];rfl)|rfl) ?_)|with_reducible refine jP (by decide) ?_|(with_reducible apply jQ;first|refine jR rfl rfl rfl ?_|refine jS rfl rfl rfl ?_)|((first|((with_reducible first|apply jm|apply jn|apply jb|apply ju);repeat rfl)|((with_reducible apply jy);iterate 3 rfl)|((with_reducible apply jz);iterate 3 rfl)|((with_reducible apply jp);iterate 5 rfl)|((with_reducible apply jq);iterate 5 rfl)|((with_reducible apply jk);exact u9;rfl));refine jT (by first|(simp only [j0];rfl)|rfl) ?_)))
 exact EndQ.ret rfl ⟨rfl, h1, h2⟩
end
end Go.Proofs.Hc
