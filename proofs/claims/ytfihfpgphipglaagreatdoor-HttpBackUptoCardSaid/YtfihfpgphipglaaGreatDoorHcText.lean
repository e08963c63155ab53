/- The reference's Text: a call without headers as a request's bytes. -/
import Derived.Test.YtfihfpgphipglaaGreatDoorHcC
import Derived.Test.YtfihfpgphipglaaGreatDoorHcItoa
set_option linter.unusedVariables false
set_option linter.unusedSimpArgs false
set_option linter.unusedSectionVars false
namespace Go.Proofs.Hc
open Go.Tm
set_option maxRecDepth 100000
def pathText : List Bs → Bs
 | [] => []
 | p :: r => 47 :: (enc p ++ pathText r)
def qText : Bool → List Hd → Bs
 | _, [] => []
 | first, h :: r => (if first then 63 else 38) :: (enc h.1 ++ 61 :: (enc h.2 ++ qText false r))
def verText : Bs := [32, 72, 84, 84, 80, 47, 49, 46, 49, 13, 10]
def clText : Bs := [99, 111, 110, 116, 101, 110, 116, 45, 108, 101, 110, 103, 116, 104, 58, 32]
def lineText (f : First) : Bs := f.method ++ 32 :: (pathText f.path ++ qText true f.query)
def textP (f : First) (bd : Bs) : Bs := lineText f ++ (verText ++ (clText ++ (Lib.decDigits bd.length ++ (crlf2 ++ bd))))
theorem enc_said {s : Bs} (h : s.length < 4294967281) : toldEnc [.str s] = some (.str (enc s)) := if_pos h
theorem pathText_get {l : List Bs} {i : Nat} (h : i < l.length) : pathText (l.drop i) = 47 :: (enc l[i] ++ pathText (l.drop (i + 1))) := by
 rw [List.drop_eq_getElem_cons h]; rfl
theorem qText_get {l : List Hd} {i : Nat} (h : i < l.length) (b : Bool) : qText b (l.drop i) = (if b then 63 else 38) :: (enc l[i].1 ++ 61 :: (enc l[i].2 ++ qText false (l.drop (i + 1)))) := by
 rw [List.drop_eq_getElem_cons h]; rfl
section
variable {x : Value}
theorem frp52 (a b : AV) : aFieldAddr (Kq x) 52 (.rp [a, b]) 0 = some (.rp [a, b]) ∧ aFieldAddr (Kq x) 52 (.rp [a, b]) 1 = some (.rp [b]) := by constructor <;> kernel_rfl
def callW (f : First) (t1 t2 : Tail) (bd : Bs) : AV := .agg [.str f.method, .sl (f.path.map AV.str) t1, .sl (f.query.map hdV) t2, .sl [] .nil, .str bd]
set_option maxHeartbeats 8000000 in
theorem text_tells (f : First) (t1 t2 : Tail) (bd : Bs) (h1 : t1.un = t1) (h2 : t2.un = t2) (hp : f.path.length < 4294967281) (hq : f.query.length < 4294967281) (hpl : ∀ p ∈ f.path, p.length < 4294967281) (hql : ∀ p ∈ f.query, p.1.length < 4294967281 ∧ p.2.length < 4294967281) (hl : (textP f bd).length < 1000000000000000000) (H : List AB) : Tells (Kq x) 12 [callW f t1 t2 bd] H fun r H' => H' = H ∧ r = .str (textP f bd) := by
 refine Tells.vals (c := _) Tryz.func12 rfl (args' := [callW f t1 t2 bd]) (m := 92) rfl rfl rfl rfl rfl ?_
 have htl : (lineText f).length + bd.length ≤ (textP f bd).length := by unfold textP; simp only [List.length_append]; omega
 (repeat (first|(with_reducible first|apply jA|apply jC|apply jD|apply jE|apply jF|apply jG|apply jH|apply jI|apply jJ|apply jK|apply jL|apply jM|apply jN|apply jO)|(with_reducible apply SeqQ.id;refine SeqQ.norm (by first|(simp only [j0];rfl)|rfl) ?_)|with_reducible refine jP (by decide) ?_|(with_reducible apply jQ;first|refine jR rfl rfl rfl ?_|refine jS rfl rfl rfl ?_)|((first|((with_reducible first|apply jm|apply jn|apply jb|apply ju);repeat rfl)|((with_reducible apply jy);iterate 3 rfl)|((with_reducible apply jz);iterate 3 rfl)|((with_reducible apply jp);iterate 5 rfl)|((with_reducible apply jq);iterate 5 rfl)|((with_reducible apply jk);exact u9;rfl)|((with_reducible apply jl);(with_reducible first|exact u28|exact u29);rfl));refine jT (by first|(simp only [j0];rfl)|rfl) ?_)))
 refine Wo.doVal rfl rfl (op_box rfl rfl rfl) ?_
 (repeat (first|(with_reducible first|apply jA|apply jC|apply jD|apply jE|apply jF|apply jG|apply jH|apply jI|apply jJ|apply jK|apply jL|apply jM|apply jN|apply jO)|(with_reducible apply SeqQ.id;refine SeqQ.norm (by first|(simp only [j0];rfl)|rfl) ?_)|with_reducible refine jP (by decide) ?_|(with_reducible apply jQ;first|refine jR rfl rfl rfl ?_|refine jS rfl rfl rfl ?_)|((first|((with_reducible first|apply jm|apply jn|apply jb|apply ju);repeat rfl)|((with_reducible apply jy);iterate 3 rfl)|((with_reducible apply jz);iterate 3 rfl)|((with_reducible apply jp);iterate 5 rfl)|((with_reducible apply jq);iterate 5 rfl)|((with_reducible apply jk);exact u9;rfl)|((with_reducible apply jl);(with_reducible first|exact u28|exact u29);rfl));refine jT (by first|(simp only [j0];rfl)|rfl) ?_)))
 have e0 : nth ([] ++ [AB.cells (31, true) (callW f t1 t2 bd).unown.cells]) 0 = some (.cells (31, true) [.str f.method, .sl (f.path.map AV.str) t1, .sl (f.query.map hdV) t2, .sl [] .nil, .str bd]) := rfl
 generalize ([] ++ [AB.cells (31, true) (callW f t1 t2 bd).unown.cells]) = H0 at *
 refine Wo.doVal rfl rfl (op_fieldAddr rfl rfl (fb31 0).1.1) ?_
 refine Wo.doVal rfl rfl (op_load_ptr rfl rfl e0 (ld31 _ _ _ _ _).1.1) ?_
 have hml : f.method.length + 1 ≤ (lineText f).length := by unfold lineText; simp only [List.length_append, List.length_cons]; omega
 refine Wo.doVal rfl rfl (op_add_str rfl rfl rfl rfl (by simp only [List.length_cons, List.length_nil]; omega)) ?_
 (repeat (first|(with_reducible first|apply jA|apply jC|apply jD|apply jE|apply jF|apply jG|apply jH|apply jI|apply jJ|apply jK|apply jL|apply jM|apply jN|apply jO)|(with_reducible apply SeqQ.id;refine SeqQ.norm (by first|(simp only [j0];rfl)|rfl) ?_)|with_reducible refine jP (by decide) ?_|(with_reducible apply jQ;first|refine jR rfl rfl rfl ?_|refine jS rfl rfl rfl ?_)|((first|((with_reducible first|apply jm|apply jn|apply jb|apply ju);repeat rfl)|((with_reducible apply jy);iterate 3 rfl)|((with_reducible apply jz);iterate 3 rfl)|((with_reducible apply jp);iterate 5 rfl)|((with_reducible apply jq);iterate 5 rfl)|((with_reducible apply jk);exact u9;rfl)|((with_reducible apply jl);(with_reducible first|exact u28|exact u29);rfl));refine jT (by first|(simp only [j0];rfl)|rfl) ?_)))
 refine Wc.inv (fun m st => ∃ (i : Nat) (t : Bs), m = f.path.length - i ∧ i ≤ f.path.length ∧ t ++ (pathText (f.path.drop i) ++ qText true f.query) = lineText f ∧ st.H = H0 ∧ ∃ d : Nat → AV, st.regs = (d 0 :: .ptr 0 0 :: .str [] :: .str t :: i64v i :: d 5 :: d 6 :: d 7 :: d 8 :: d 9 :: d 10 :: d 11 :: d 12 :: d 13 :: d 14 :: d 15 :: d 16 :: d 17 :: d 18 :: d 19 :: d 20 :: d 21 :: d 22 :: d 23 :: d 24 :: d 25 :: d 26 :: d 27 :: d 28 :: d 29 :: d 30 :: d 31 :: d 32 :: d 33 :: d 34 :: d 35 :: d 36 :: d 37 :: d 38 :: d 39 :: d 40 :: d 41 :: d 42 :: d 43 :: d 44 :: d 45 :: d 46 :: d 47 :: d 48 :: d 49 :: d 50 :: d 51 :: d 52 :: d 53 :: d 54 :: d 55 :: d 56 :: d 57 :: d 58 :: d 59 :: d 60 :: d 61 :: d 62 :: d 63 :: d 64 :: d 65 :: d 66 :: d 67 :: d 68 :: d 69 :: d 70 :: d 71 :: d 72 :: d 73 :: d 74 :: d 75 :: d 76 :: d 77 :: d 78 :: d 79 :: d 80 :: d 81 :: d 82 :: d 83 :: d 84 :: d 85 :: d 86 :: d 87 :: d 88 :: d 89 :: d 90 :: d 91 :: d 92 :: [])) f.path.length ?_ ?_
 ·refine ⟨0, f.method ++ [32], by omega, by omega, ?_, rfl, dead_of rfl⟩
  unfold lineText; simp
 ·rintro m regs own H1 ⟨i, t, rfl, hi, ht, rfl, d, rfl⟩
  have htlen : t.length ≤ (lineText f).length := by rw [← ht]; simp only [List.length_append]; omega
  (repeat (first|(with_reducible first|apply jA|apply jC|apply jD|apply jE|apply jF|apply jG|apply jH|apply jI|apply jJ|apply jK|apply jL|apply jM|apply jN|apply jO)|(with_reducible apply SeqQ.id;refine SeqQ.norm (by first|(simp only [j0];rfl)|rfl) ?_)|with_reducible refine jP (by decide) ?_|(with_reducible apply jQ;first|refine jR rfl rfl rfl ?_|refine jS rfl rfl rfl ?_)|((first|((with_reducible first|apply jm|apply jn|apply jb|apply ju);repeat rfl)|((with_reducible apply jy);iterate 3 rfl)|((with_reducible apply jz);iterate 3 rfl)|((with_reducible apply jp);iterate 5 rfl)|((with_reducible apply jq);iterate 5 rfl)|((with_reducible apply jk);exact u9;rfl)|((with_reducible apply jl);(with_reducible first|exact u28|exact u29);rfl));refine jT (by first|(simp only [j0];rfl)|rfl) ?_)))
  refine Wo.doVal rfl rfl (op_fieldAddr rfl rfl (fb31 0).1.2) ?_
  refine Wo.doVal rfl rfl (op_load_ptr rfl rfl e0 (ld31 _ _ _ _ _).1.2) ?_
  rw [unown_sl, h1]
  (repeat (first|(with_reducible first|apply jA|apply jC|apply jD|apply jE|apply jF|apply jG|apply jH|apply jI|apply jJ|apply jK|apply jL|apply jM|apply jN|apply jO)|(with_reducible apply SeqQ.id;refine SeqQ.norm (by first|(simp only [j0];rfl)|rfl) ?_)|with_reducible refine jP (by decide) ?_|(with_reducible apply jQ;first|refine jR rfl rfl rfl ?_|refine jS rfl rfl rfl ?_)|((first|((with_reducible first|apply jm|apply jn|apply jb|apply ju);repeat rfl)|((with_reducible apply jy);iterate 3 rfl)|((with_reducible apply jz);iterate 3 rfl)|((with_reducible apply jp);iterate 5 rfl)|((with_reducible apply jq);iterate 5 rfl)|((with_reducible apply jk);exact u9;rfl)|((with_reducible apply jl);(with_reducible first|exact u28|exact u29);rfl));refine jT (by first|(simp only [j0];rfl)|rfl) ?_)))
  by_cases hlt : i < f.path.length
  ·have hget : (f.path.map AV.str)[i]? = some (.str f.path[i]) := by simp [List.getElem?_eq_getElem hlt]
   have hple := hpl _ (List.getElem_mem hlt)
   rw [pathText_get hlt] at ht
   have htl2 : t.length + 1 + (enc f.path[i]).length ≤ (lineText f).length := by rw [← ht]; simp only [List.length_append, List.length_cons]; omega
   rw [show decide ((i : Int) < (((f.path.map AV.str).length : Nat) : Int)) = true by simp; omega]
   (repeat (first|(with_reducible first|apply jA|apply jC|apply jD|apply jE|apply jF|apply jG|apply jH|apply jI|apply jJ|apply jK|apply jL|apply jM|apply jN|apply jO)|(with_reducible apply SeqQ.id;refine SeqQ.norm (by first|(simp only [j0];rfl)|rfl) ?_)|with_reducible refine jP (by decide) ?_|(with_reducible apply jQ;first|refine jR rfl rfl rfl ?_|refine jS rfl rfl rfl ?_)|((first|((with_reducible first|apply jm|apply jn|apply jb|apply ju);repeat rfl)|((with_reducible apply jy);iterate 3 rfl)|((with_reducible apply jz);iterate 3 rfl)|((with_reducible apply jp);iterate 5 rfl)|((with_reducible apply jq);iterate 5 rfl)|((with_reducible apply jk);exact u9;rfl)|((with_reducible apply jl);(with_reducible first|exact u28|exact u29);rfl));refine jT (by first|(simp only [j0];rfl)|rfl) ?_)))
   refine Wo.doVal rfl rfl (op_add_str rfl rfl rfl rfl (by simp only [List.length_cons, List.length_nil]; omega)) ?_
   refine Wo.doVal rfl rfl (op_fieldAddr rfl rfl (fb31 0).1.2) ?_
   refine Wo.doVal rfl rfl (op_load_ptr rfl rfl e0 (ld31 _ _ _ _ _).1.2) ?_
   rw [unown_sl, h1]
   (repeat (first|(with_reducible first|apply jA|apply jC|apply jD|apply jE|apply jF|apply jG|apply jH|apply jI|apply jJ|apply jK|apply jL|apply jM|apply jN|apply jO)|(with_reducible apply SeqQ.id;refine SeqQ.norm (by first|(simp only [j0];rfl)|rfl) ?_)|with_reducible refine jP (by decide) ?_|(with_reducible apply jQ;first|refine jR rfl rfl rfl ?_|refine jS rfl rfl rfl ?_)|((first|((with_reducible first|apply jm|apply jn|apply jb|apply ju);repeat rfl)|((with_reducible apply jy);iterate 3 rfl)|((with_reducible apply jz);iterate 3 rfl)|((with_reducible apply jp);iterate 5 rfl)|((with_reducible apply jq);iterate 5 rfl)|((with_reducible apply jk);exact u9;rfl)|((with_reducible apply jl);(with_reducible first|exact u28|exact u29);rfl));refine jT (by first|(simp only [j0];rfl)|rfl) ?_)))
   refine Wo.doVal rfl rfl (op_indexAddr_sl (sz := 0) (j := i) (el := .str f.path[i]) rfl rfl u28 sz9 rfl rfl rfl hget rfl) ?_
   refine Wo.doVal rfl rfl (op_load_rp rfl rfl (take_one ag9 sz9)) ?_
   refine Wo.doCall rfl rfl (op_call (args := [.str f.path[i]]) rfl rfl) (Tells.libv (g := toldEnc) rfl (enc_said hple) ?_)
   (repeat (first|(with_reducible first|apply jA|apply jC|apply jD|apply jE|apply jF|apply jG|apply jH|apply jI|apply jJ|apply jK|apply jL|apply jM|apply jN|apply jO)|(with_reducible apply SeqQ.id;refine SeqQ.norm (by first|(simp only [j0];rfl)|rfl) ?_)|with_reducible refine jP (by decide) ?_|(with_reducible apply jQ;first|refine jR rfl rfl rfl ?_|refine jS rfl rfl rfl ?_)|((first|((with_reducible first|apply jm|apply jn|apply jb|apply ju);repeat rfl)|((with_reducible apply jy);iterate 3 rfl)|((with_reducible apply jz);iterate 3 rfl)|((with_reducible apply jp);iterate 5 rfl)|((with_reducible apply jq);iterate 5 rfl)|((with_reducible apply jk);exact u9;rfl)|((with_reducible apply jl);(with_reducible first|exact u28|exact u29);rfl));refine jT (by first|(simp only [j0];rfl)|rfl) ?_)))
   refine Wo.doVal rfl rfl (op_add_str rfl rfl rfl rfl (by simp only [List.length_append, List.length_cons, List.length_nil]; omega)) ?_
   (repeat (first|(with_reducible first|apply jA|apply jC|apply jD|apply jE|apply jF|apply jG|apply jH|apply jI|apply jJ|apply jK|apply jL|apply jM|apply jN|apply jO)|(with_reducible apply SeqQ.id;refine SeqQ.norm (by first|(simp only [j0];rfl)|rfl) ?_)|with_reducible refine jP (by decide) ?_|(with_reducible apply jQ;first|refine jR rfl rfl rfl ?_|refine jS rfl rfl rfl ?_)|((first|((with_reducible first|apply jm|apply jn|apply jb|apply ju);repeat rfl)|((with_reducible apply jy);iterate 3 rfl)|((with_reducible apply jz);iterate 3 rfl)|((with_reducible apply jp);iterate 5 rfl)|((with_reducible apply jq);iterate 5 rfl)|((with_reducible apply jk);exact u9;rfl)|((with_reducible apply jl);(with_reducible first|exact u28|exact u29);rfl));refine jT (by first|(simp only [j0];rfl)|rfl) ?_)))
   rw [wrap1 (by omega)]
   (repeat (first|(with_reducible first|apply jA|apply jC|apply jD|apply jE|apply jF|apply jG|apply jH|apply jI|apply jJ|apply jK|apply jL|apply jM|apply jN|apply jO)|(with_reducible apply SeqQ.id;refine SeqQ.norm (by first|(simp only [j0];rfl)|rfl) ?_)|with_reducible refine jP (by decide) ?_|(with_reducible apply jQ;first|refine jR rfl rfl rfl ?_|refine jS rfl rfl rfl ?_)|((first|((with_reducible first|apply jm|apply jn|apply jb|apply ju);repeat rfl)|((with_reducible apply jy);iterate 3 rfl)|((with_reducible apply jz);iterate 3 rfl)|((with_reducible apply jp);iterate 5 rfl)|((with_reducible apply jq);iterate 5 rfl)|((with_reducible apply jk);exact u9;rfl)|((with_reducible apply jl);(with_reducible first|exact u28|exact u29);rfl));refine jT (by first|(simp only [j0];rfl)|rfl) ?_)))
   refine LoopQ.normal (f.path.length - (i + 1)) (by omega) ⟨i + 1, t ++ [47] ++ enc f.path[i], rfl, by omega, ?_, rfl, dead_of rfl⟩
   rw [← ht]; simp
  ·obtain rfl : i = f.path.length := by omega
   rw [List.drop_length] at ht
   have ht : t ++ qText true f.query = lineText f := ht
   rw [show decide (((f.path.length : Nat) : Int) < (((f.path.map AV.str).length : Nat) : Int)) = false by simp]
   (repeat (first|(with_reducible first|apply jA|apply jC|apply jD|apply jE|apply jF|apply jG|apply jH|apply jI|apply jJ|apply jK|apply jL|apply jM|apply jN|apply jO)|(with_reducible apply SeqQ.id;refine SeqQ.norm (by first|(simp only [j0];rfl)|rfl) ?_)|with_reducible refine jP (by decide) ?_|(with_reducible apply jQ;first|refine jR rfl rfl rfl ?_|refine jS rfl rfl rfl ?_)|((first|((with_reducible first|apply jm|apply jn|apply jb|apply ju);repeat rfl)|((with_reducible apply jy);iterate 3 rfl)|((with_reducible apply jz);iterate 3 rfl)|((with_reducible apply jp);iterate 5 rfl)|((with_reducible apply jq);iterate 5 rfl)|((with_reducible apply jk);exact u9;rfl)|((with_reducible apply jl);(with_reducible first|exact u28|exact u29);rfl));refine jT (by first|(simp only [j0];rfl)|rfl) ?_)))
   refine Wc.inv (fun m st => ∃ (i : Nat) (t : Bs), m = f.query.length - i ∧ i ≤ f.query.length ∧ t ++ qText (i == 0) (f.query.drop i) = lineText f ∧ st.H = H1 ∧ ∃ d : Nat → AV, st.regs = (d 0 :: .ptr 0 0 :: .str [] :: .str t :: d 4 :: i64v i :: d 6 :: d 7 :: d 8 :: d 9 :: d 10 :: d 11 :: d 12 :: d 13 :: d 14 :: d 15 :: d 16 :: d 17 :: d 18 :: d 19 :: d 20 :: d 21 :: d 22 :: d 23 :: d 24 :: d 25 :: d 26 :: d 27 :: d 28 :: d 29 :: d 30 :: d 31 :: d 32 :: d 33 :: d 34 :: d 35 :: d 36 :: d 37 :: d 38 :: d 39 :: d 40 :: d 41 :: d 42 :: d 43 :: d 44 :: d 45 :: d 46 :: d 47 :: d 48 :: d 49 :: d 50 :: d 51 :: d 52 :: d 53 :: d 54 :: d 55 :: d 56 :: d 57 :: d 58 :: d 59 :: d 60 :: d 61 :: d 62 :: d 63 :: d 64 :: d 65 :: d 66 :: d 67 :: d 68 :: d 69 :: d 70 :: d 71 :: d 72 :: d 73 :: d 74 :: d 75 :: d 76 :: d 77 :: d 78 :: d 79 :: d 80 :: d 81 :: d 82 :: d 83 :: d 84 :: d 85 :: d 86 :: d 87 :: d 88 :: d 89 :: d 90 :: d 91 :: d 92 :: [])) f.query.length ?_ ?_
   ·exact ⟨0, t, by omega, by omega, ht, rfl, dead_of rfl⟩
   ·rintro m regs own2 H2 ⟨i, t, rfl, hi2, ht, rfl, d, rfl⟩
    have htlen : t.length ≤ (lineText f).length := by rw [← ht]; simp only [List.length_append]; omega
    (repeat (first|(with_reducible first|apply jA|apply jC|apply jD|apply jE|apply jF|apply jG|apply jH|apply jI|apply jJ|apply jK|apply jL|apply jM|apply jN|apply jO)|(with_reducible apply SeqQ.id;refine SeqQ.norm (by first|(simp only [j0];rfl)|rfl) ?_)|with_reducible refine jP (by decide) ?_|(with_reducible apply jQ;first|refine jR rfl rfl rfl ?_|refine jS rfl rfl rfl ?_)|((first|((with_reducible first|apply jm|apply jn|apply jb|apply ju);repeat rfl)|((with_reducible apply jy);iterate 3 rfl)|((with_reducible apply jz);iterate 3 rfl)|((with_reducible apply jp);iterate 5 rfl)|((with_reducible apply jq);iterate 5 rfl)|((with_reducible apply jk);exact u9;rfl)|((with_reducible apply jl);(with_reducible first|exact u28|exact u29);rfl));refine jT (by first|(simp only [j0];rfl)|rfl) ?_)))
    refine Wo.doVal rfl rfl (op_fieldAddr rfl rfl (fb31 0).2.1) ?_
    refine Wo.doVal rfl rfl (op_load_ptr rfl rfl e0 (ld31 _ _ _ _ _).2.1) ?_
    rw [unown_sl, h2]
    (repeat (first|(with_reducible first|apply jA|apply jC|apply jD|apply jE|apply jF|apply jG|apply jH|apply jI|apply jJ|apply jK|apply jL|apply jM|apply jN|apply jO)|(with_reducible apply SeqQ.id;refine SeqQ.norm (by first|(simp only [j0];rfl)|rfl) ?_)|with_reducible refine jP (by decide) ?_|(with_reducible apply jQ;first|refine jR rfl rfl rfl ?_|refine jS rfl rfl rfl ?_)|((first|((with_reducible first|apply jm|apply jn|apply jb|apply ju);repeat rfl)|((with_reducible apply jy);iterate 3 rfl)|((with_reducible apply jz);iterate 3 rfl)|((with_reducible apply jp);iterate 5 rfl)|((with_reducible apply jq);iterate 5 rfl)|((with_reducible apply jk);exact u9;rfl)|((with_reducible apply jl);(with_reducible first|exact u28|exact u29);rfl));refine jT (by first|(simp only [j0];rfl)|rfl) ?_)))
    by_cases hlt2 : i < f.query.length
    ·have hget : (f.query.map hdV)[i]? = some (hdV f.query[i]) := by simp [List.getElem?_eq_getElem hlt2]
     have hqle := hql _ (List.getElem_mem hlt2)
     rw [qText_get hlt2] at ht
     have htl2 : t.length + 1 + (enc f.query[i].1).length + 1 + (enc f.query[i].2).length ≤ (lineText f).length := by rw [← ht]; simp only [List.length_append, List.length_cons]; omega
     rw [show decide ((i : Int) < (((f.query.map hdV).length : Nat) : Int)) = true by simp; omega]
     (repeat (first|(with_reducible first|apply jA|apply jC|apply jD|apply jE|apply jF|apply jG|apply jH|apply jI|apply jJ|apply jK|apply jL|apply jM|apply jN|apply jO)|(with_reducible apply SeqQ.id;refine SeqQ.norm (by first|(simp only [j0];rfl)|rfl) ?_)|with_reducible refine jP (by decide) ?_|(with_reducible apply jQ;first|refine jR rfl rfl rfl ?_|refine jS rfl rfl rfl ?_)|((first|((with_reducible first|apply jm|apply jn|apply jb|apply ju);repeat rfl)|((with_reducible apply jy);iterate 3 rfl)|((with_reducible apply jz);iterate 3 rfl)|((with_reducible apply jp);iterate 5 rfl)|((with_reducible apply jq);iterate 5 rfl)|((with_reducible apply jk);exact u9;rfl)|((with_reducible apply jl);(with_reducible first|exact u28|exact u29);rfl));refine jT (by first|(simp only [j0];rfl)|rfl) ?_)))
     refine Wc.mid (fun st => st.H = H2 ∧ ∃ d : Nat → AV, st.regs = (d 0 :: .ptr 0 0 :: .str [] :: .str t :: d 4 :: i64v i :: .str [if (i == 0) = true then 63 else 38] :: d 7 :: d 8 :: d 9 :: d 10 :: d 11 :: d 12 :: d 13 :: d 14 :: d 15 :: d 16 :: d 17 :: d 18 :: d 19 :: d 20 :: d 21 :: d 22 :: d 23 :: d 24 :: d 25 :: d 26 :: d 27 :: d 28 :: d 29 :: d 30 :: d 31 :: d 32 :: d 33 :: d 34 :: d 35 :: d 36 :: d 37 :: d 38 :: d 39 :: d 40 :: d 41 :: d 42 :: d 43 :: d 44 :: d 45 :: d 46 :: d 47 :: d 48 :: d 49 :: d 50 :: d 51 :: d 52 :: d 53 :: d 54 :: d 55 :: d 56 :: d 57 :: d 58 :: d 59 :: d 60 :: d 61 :: d 62 :: d 63 :: d 64 :: d 65 :: d 66 :: d 67 :: d 68 :: d 69 :: d 70 :: d 71 :: d 72 :: d 73 :: d 74 :: d 75 :: d 76 :: d 77 :: d 78 :: d 79 :: d 80 :: d 81 :: d 82 :: d 83 :: d 84 :: d 85 :: d 86 :: d 87 :: d 88 :: d 89 :: d 90 :: d 91 :: d 92 :: [])) ?_ ?_
     ·cases hi0 : (i == 0) with
      | true =>
       obtain rfl : i = 0 := by simpa using hi0
       refine Wc.condT rfl rfl rfl ?_
       (repeat (first|(with_reducible first|apply jA|apply jC|apply jD|apply jE|apply jF|apply jG|apply jH|apply jI|apply jJ|apply jK|apply jL|apply jM|apply jN|apply jO)|(with_reducible apply SeqQ.id;refine SeqQ.norm (by first|(simp only [j0];rfl)|rfl) ?_)|with_reducible refine jP (by decide) ?_|(with_reducible apply jQ;first|refine jR rfl rfl rfl ?_|refine jS rfl rfl rfl ?_)|((first|((with_reducible first|apply jm|apply jn|apply jb|apply ju);repeat rfl)|((with_reducible apply jy);iterate 3 rfl)|((with_reducible apply jz);iterate 3 rfl)|((with_reducible apply jp);iterate 5 rfl)|((with_reducible apply jq);iterate 5 rfl)|((with_reducible apply jk);exact u9;rfl)|((with_reducible apply jl);(with_reducible first|exact u28|exact u29);rfl));refine jT (by first|(simp only [j0];rfl)|rfl) ?_)))
       exact ⟨rfl, rfl, dead_of rfl⟩
      | false =>
       refine Wc.condF rfl rfl (by have h0 : i ≠ 0 := (by simpa using hi0); simp; omega) ?_
       (repeat (first|(with_reducible first|apply jA|apply jC|apply jD|apply jE|apply jF|apply jG|apply jH|apply jI|apply jJ|apply jK|apply jL|apply jM|apply jN|apply jO)|(with_reducible apply SeqQ.id;refine SeqQ.norm (by first|(simp only [j0];rfl)|rfl) ?_)|with_reducible refine jP (by decide) ?_|(with_reducible apply jQ;first|refine jR rfl rfl rfl ?_|refine jS rfl rfl rfl ?_)|((first|((with_reducible first|apply jm|apply jn|apply jb|apply ju);repeat rfl)|((with_reducible apply jy);iterate 3 rfl)|((with_reducible apply jz);iterate 3 rfl)|((with_reducible apply jp);iterate 5 rfl)|((with_reducible apply jq);iterate 5 rfl)|((with_reducible apply jk);exact u9;rfl)|((with_reducible apply jl);(with_reducible first|exact u28|exact u29);rfl));refine jT (by first|(simp only [j0];rfl)|rfl) ?_)))
       exact ⟨rfl, rfl, dead_of rfl⟩
     ·rintro R own3 H3 ⟨rfl, d, rfl⟩
      generalize (if (i == 0) = true then 63 else 38 : UInt8) = mk at *
      (repeat (first|(with_reducible first|apply jA|apply jC|apply jD|apply jE|apply jF|apply jG|apply jH|apply jI|apply jJ|apply jK|apply jL|apply jM|apply jN|apply jO)|(with_reducible apply SeqQ.id;refine SeqQ.norm (by first|(simp only [j0];rfl)|rfl) ?_)|with_reducible refine jP (by decide) ?_|(with_reducible apply jQ;first|refine jR rfl rfl rfl ?_|refine jS rfl rfl rfl ?_)|((first|((with_reducible first|apply jm|apply jn|apply jb|apply ju);repeat rfl)|((with_reducible apply jy);iterate 3 rfl)|((with_reducible apply jz);iterate 3 rfl)|((with_reducible apply jp);iterate 5 rfl)|((with_reducible apply jq);iterate 5 rfl)|((with_reducible apply jk);exact u9;rfl)|((with_reducible apply jl);(with_reducible first|exact u28|exact u29);rfl));refine jT (by first|(simp only [j0];rfl)|rfl) ?_)))
      refine Wc.drawnX rfl [] [] (by kernel_rfl) ?_
      (refine WdX.val rfl (.inl rfl) rfl rfl rfl (op_move rfl rfl) rfl ?_; refine WdX.norm (by first | (simp only [j0]; rfl) | rfl) ?_)
      (refine WdX.val rfl (.inl rfl) rfl rfl rfl (op_move rfl rfl) rfl ?_; refine WdX.norm (by first | (simp only [j0]; rfl) | rfl) ?_)
      refine WdX.val rfl (.inl rfl) rfl rfl rfl (op_add_str rfl rfl rfl rfl (by simp only [List.length_cons, List.length_nil]; omega)) rfl ?_
      refine WdX.norm (by first | (simp only [j0]; rfl) | rfl) ?_
      refine WdX.val rfl (.inl rfl) rfl rfl rfl (op_fieldAddr rfl rfl (fb31 0).2.1) rfl ?_
      refine WdX.norm (by first | (simp only [j0]; rfl) | rfl) ?_
      refine WdX.val rfl (.inl rfl) rfl rfl rfl (op_load_ptr rfl rfl e0 (ld31 _ _ _ _ _).2.1) rfl ?_
      rw [unown_sl, h2]
      refine WdX.norm (by first | (simp only [j0]; rfl) | rfl) ?_
      (refine WdX.val rfl (.inl rfl) rfl rfl rfl (op_move rfl rfl) rfl ?_; refine WdX.norm (by first | (simp only [j0]; rfl) | rfl) ?_)
      refine WdX.val rfl (.inl rfl) rfl rfl rfl (op_indexAddr_sl (sz := 1) (j := i) (el := hdV f.query[i]) rfl rfl u29 sz52 rfl rfl rfl hget rfl) rfl ?_
      refine WdX.norm (by first | (simp only [j0]; rfl) | rfl) ?_
      refine WdX.val rfl (.inl rfl) rfl rfl rfl (op_fieldAddr rfl rfl (frp52 _ _).1) rfl ?_
      refine WdX.norm (by first | (simp only [j0]; rfl) | rfl) ?_
      refine WdX.val rfl (.inl rfl) rfl rfl rfl (op_load_rp rfl rfl (take_one ag9 sz9)) rfl ?_
      refine WdX.norm (by first | (simp only [j0]; rfl) | rfl) ?_
      refine WdX.pure rfl (.inl rfl) rfl rfl rfl (op_call (args := [.str f.query[i].1]) rfl rfl) rfl (Tells.libv (g := toldEnc) rfl (enc_said hqle.1) ?_)
      refine WdX.norm (by first | (simp only [j0]; rfl) | rfl) ?_
      refine WdX.val rfl (.inl rfl) rfl rfl rfl (op_add_str rfl rfl rfl rfl (by simp only [List.length_append, List.length_cons, List.length_nil]; omega)) rfl ?_
      refine WdX.norm (by first | (simp only [j0]; rfl) | rfl) ?_
      refine WdX.val rfl (.inl rfl) rfl rfl rfl (op_add_str rfl rfl rfl rfl (by simp only [List.length_append, List.length_cons, List.length_nil]; omega)) rfl ?_
      refine WdX.norm (by first | (simp only [j0]; rfl) | rfl) ?_
      refine WdX.val rfl (.inl rfl) rfl rfl rfl (op_fieldAddr rfl rfl (fb31 0).2.1) rfl ?_
      refine WdX.norm (by first | (simp only [j0]; rfl) | rfl) ?_
      refine WdX.val rfl (.inl rfl) rfl rfl rfl (op_load_ptr rfl rfl e0 (ld31 _ _ _ _ _).2.1) rfl ?_
      rw [unown_sl, h2]
      refine WdX.norm (by first | (simp only [j0]; rfl) | rfl) ?_
      (refine WdX.val rfl (.inl rfl) rfl rfl rfl (op_move rfl rfl) rfl ?_; refine WdX.norm (by first | (simp only [j0]; rfl) | rfl) ?_)
      refine WdX.val rfl (.inl rfl) rfl rfl rfl (op_indexAddr_sl (sz := 1) (j := i) (el := hdV f.query[i]) rfl rfl u29 sz52 rfl rfl rfl hget rfl) rfl ?_
      refine WdX.norm (by first | (simp only [j0]; rfl) | rfl) ?_
      refine WdX.val rfl (.inl rfl) rfl rfl rfl (op_fieldAddr rfl rfl (frp52 _ _).2) rfl ?_
      refine WdX.norm (by first | (simp only [j0]; rfl) | rfl) ?_
      refine WdX.val rfl (.inl rfl) rfl rfl rfl (op_load_rp rfl rfl (take_one ag9 sz9)) rfl ?_
      refine WdX.norm (by first | (simp only [j0]; rfl) | rfl) ?_
      refine WdX.pure rfl (.inl rfl) rfl rfl rfl (op_call (args := [.str f.query[i].2]) rfl rfl) rfl (Tells.libv (g := toldEnc) rfl (enc_said hqle.2) ?_)
      refine WdX.norm (by first | (simp only [j0]; rfl) | rfl) ?_
      refine WdX.val rfl (.inl rfl) rfl rfl rfl (op_add_str rfl rfl rfl rfl (by simp only [List.length_append, List.length_cons, List.length_nil]; omega)) rfl ?_
      refine WdX.norm (by first | (simp only [j0]; rfl) | rfl) ?_
      refine WdX.val rfl (.inl rfl) rfl rfl rfl (op_assign rfl rfl) rfl ?_
      refine WdX.norm (by first | (simp only [j0]; rfl) | rfl) ?_
      refine WdX.nil ?_
      (repeat (first|(with_reducible first|apply jA|apply jC|apply jD|apply jE|apply jF|apply jG|apply jH|apply jI|apply jJ|apply jK|apply jL|apply jM|apply jN|apply jO)|(with_reducible apply SeqQ.id;refine SeqQ.norm (by first|(simp only [j0];rfl)|rfl) ?_)|with_reducible refine jP (by decide) ?_|(with_reducible apply jQ;first|refine jR rfl rfl rfl ?_|refine jS rfl rfl rfl ?_)|((first|((with_reducible first|apply jm|apply jn|apply jb|apply ju);repeat rfl)|((with_reducible apply jy);iterate 3 rfl)|((with_reducible apply jz);iterate 3 rfl)|((with_reducible apply jp);iterate 5 rfl)|((with_reducible apply jq);iterate 5 rfl)|((with_reducible apply jk);exact u9;rfl)|((with_reducible apply jl);(with_reducible first|exact u28|exact u29);rfl));refine jT (by first|(simp only [j0];rfl)|rfl) ?_)))
      rw [wrap1 (by omega)]
      (repeat (first|(with_reducible first|apply jA|apply jC|apply jD|apply jE|apply jF|apply jG|apply jH|apply jI|apply jJ|apply jK|apply jL|apply jM|apply jN|apply jO)|(with_reducible apply SeqQ.id;refine SeqQ.norm (by first|(simp only [j0];rfl)|rfl) ?_)|with_reducible refine jP (by decide) ?_|(with_reducible apply jQ;first|refine jR rfl rfl rfl ?_|refine jS rfl rfl rfl ?_)|((first|((with_reducible first|apply jm|apply jn|apply jb|apply ju);repeat rfl)|((with_reducible apply jy);iterate 3 rfl)|((with_reducible apply jz);iterate 3 rfl)|((with_reducible apply jp);iterate 5 rfl)|((with_reducible apply jq);iterate 5 rfl)|((with_reducible apply jk);exact u9;rfl)|((with_reducible apply jl);(with_reducible first|exact u28|exact u29);rfl));refine jT (by first|(simp only [j0];rfl)|rfl) ?_)))
      refine LoopQ.normal (f.query.length - (i + 1)) (by omega) ⟨i + 1, t ++ [mk] ++ enc f.query[i].1 ++ [61] ++ enc f.query[i].2, rfl, by omega, ?_, rfl, dead_of rfl⟩
      rw [← ht, show (i + 1 == 0) = false by simp]; simp
    ·obtain rfl : i = f.query.length := by omega
     rw [List.drop_length] at ht
     have ht : t = lineText f := by rw [← ht]; simp [qText]
     subst ht
     rw [show decide (((f.query.length : Nat) : Int) < (((f.query.map hdV).length : Nat) : Int)) = false by simp]
     (repeat (first|(with_reducible first|apply jA|apply jC|apply jD|apply jE|apply jF|apply jG|apply jH|apply jI|apply jJ|apply jK|apply jL|apply jM|apply jN|apply jO)|(with_reducible apply SeqQ.id;refine SeqQ.norm (by first|(simp only [j0];rfl)|rfl) ?_)|with_reducible refine jP (by decide) ?_|(with_reducible apply jQ;first|refine jR rfl rfl rfl ?_|refine jS rfl rfl rfl ?_)|((first|((with_reducible first|apply jm|apply jn|apply jb|apply ju);repeat rfl)|((with_reducible apply jy);iterate 3 rfl)|((with_reducible apply jz);iterate 3 rfl)|((with_reducible apply jp);iterate 5 rfl)|((with_reducible apply jq);iterate 5 rfl)|((with_reducible apply jk);exact u9;rfl)|((with_reducible apply jl);(with_reducible first|exact u28|exact u29);rfl));refine jT (by first|(simp only [j0];rfl)|rfl) ?_)))
     have hvl : (lineText f ++ verText).length ≤ (textP f bd).length := by unfold textP; simp only [List.length_append]; omega
     refine Wo.doVal rfl rfl (op_add_str (b := verText) rfl rfl rfl rfl (by simp only [List.length_append] at hvl; omega)) ?_
     (repeat (first|(with_reducible first|apply jA|apply jC|apply jD|apply jE|apply jF|apply jG|apply jH|apply jI|apply jJ|apply jK|apply jL|apply jM|apply jN|apply jO)|(with_reducible apply SeqQ.id;refine SeqQ.norm (by first|(simp only [j0];rfl)|rfl) ?_)|with_reducible refine jP (by decide) ?_|(with_reducible apply jQ;first|refine jR rfl rfl rfl ?_|refine jS rfl rfl rfl ?_)|((first|((with_reducible first|apply jm|apply jn|apply jb|apply ju);repeat rfl)|((with_reducible apply jy);iterate 3 rfl)|((with_reducible apply jz);iterate 3 rfl)|((with_reducible apply jp);iterate 5 rfl)|((with_reducible apply jq);iterate 5 rfl)|((with_reducible apply jk);exact u9;rfl)|((with_reducible apply jl);(with_reducible first|exact u28|exact u29);rfl));refine jT (by first|(simp only [j0];rfl)|rfl) ?_)))
     refine Wc.inv (fun m st => st.H = H2 ∧ ∃ d : Nat → AV, st.regs = (d 0 :: .ptr 0 0 :: .str [] :: .str (lineText f ++ verText) :: d 4 :: d 5 :: d 6 :: i64v 0 :: d 8 :: d 9 :: d 10 :: d 11 :: d 12 :: d 13 :: d 14 :: d 15 :: d 16 :: d 17 :: d 18 :: d 19 :: d 20 :: d 21 :: d 22 :: d 23 :: d 24 :: d 25 :: d 26 :: d 27 :: d 28 :: d 29 :: d 30 :: d 31 :: d 32 :: d 33 :: d 34 :: d 35 :: d 36 :: d 37 :: d 38 :: d 39 :: d 40 :: d 41 :: d 42 :: d 43 :: d 44 :: d 45 :: d 46 :: d 47 :: d 48 :: d 49 :: d 50 :: d 51 :: d 52 :: d 53 :: d 54 :: d 55 :: d 56 :: d 57 :: d 58 :: d 59 :: d 60 :: d 61 :: d 62 :: d 63 :: d 64 :: d 65 :: d 66 :: d 67 :: d 68 :: d 69 :: d 70 :: d 71 :: d 72 :: d 73 :: d 74 :: d 75 :: d 76 :: d 77 :: d 78 :: d 79 :: d 80 :: d 81 :: d 82 :: d 83 :: d 84 :: d 85 :: d 86 :: d 87 :: d 88 :: d 89 :: d 90 :: d 91 :: d 92 :: [])) 0 ?_ ?_
     ·exact ⟨rfl, dead_of rfl⟩
     ·rintro m regs own3 H3 ⟨rfl, d, rfl⟩
      (repeat (first|(with_reducible first|apply jA|apply jC|apply jD|apply jE|apply jF|apply jG|apply jH|apply jI|apply jJ|apply jK|apply jL|apply jM|apply jN|apply jO)|(with_reducible apply SeqQ.id;refine SeqQ.norm (by first|(simp only [j0];rfl)|rfl) ?_)|with_reducible refine jP (by decide) ?_|(with_reducible apply jQ;first|refine jR rfl rfl rfl ?_|refine jS rfl rfl rfl ?_)|((first|((with_reducible first|apply jm|apply jn|apply jb|apply ju);repeat rfl)|((with_reducible apply jy);iterate 3 rfl)|((with_reducible apply jz);iterate 3 rfl)|((with_reducible apply jp);iterate 5 rfl)|((with_reducible apply jq);iterate 5 rfl)|((with_reducible apply jk);exact u9;rfl)|((with_reducible apply jl);(with_reducible first|exact u28|exact u29);rfl));refine jT (by first|(simp only [j0];rfl)|rfl) ?_)))
      refine Wo.doVal rfl rfl (op_fieldAddr rfl rfl (fb31 0).2.2.1) ?_
      refine Wo.doVal rfl rfl (op_load_ptr rfl rfl e0 (ld31 _ _ _ _ _).2.2.1) ?_
      (repeat (first|(with_reducible first|apply jA|apply jC|apply jD|apply jE|apply jF|apply jG|apply jH|apply jI|apply jJ|apply jK|apply jL|apply jM|apply jN|apply jO)|(with_reducible apply SeqQ.id;refine SeqQ.norm (by first|(simp only [j0];rfl)|rfl) ?_)|with_reducible refine jP (by decide) ?_|(with_reducible apply jQ;first|refine jR rfl rfl rfl ?_|refine jS rfl rfl rfl ?_)|((first|((with_reducible first|apply jm|apply jn|apply jb|apply ju);repeat rfl)|((with_reducible apply jy);iterate 3 rfl)|((with_reducible apply jz);iterate 3 rfl)|((with_reducible apply jp);iterate 5 rfl)|((with_reducible apply jq);iterate 5 rfl)|((with_reducible apply jk);exact u9;rfl)|((with_reducible apply jl);(with_reducible first|exact u28|exact u29);rfl));refine jT (by first|(simp only [j0];rfl)|rfl) ?_)))
      have hbl : bd.length < 1000000000000000000 := by omega
      have e1 : (lineText f ++ verText ++ clText).length ≤ (textP f bd).length := by unfold textP; simp only [List.length_append]; omega
      have e2 : (lineText f ++ verText ++ clText ++ Lib.decDigits bd.length).length ≤ (textP f bd).length := by unfold textP; simp only [List.length_append]; omega
      have e3 : (lineText f ++ verText ++ clText ++ Lib.decDigits bd.length ++ crlf2).length ≤ (textP f bd).length := by unfold textP; simp only [List.length_append]; omega
      have e4 : (lineText f ++ verText ++ clText ++ Lib.decDigits bd.length ++ crlf2 ++ bd).length ≤ (textP f bd).length := by unfold textP; simp only [List.length_append]; omega
      refine Wc.drawnX rfl [] [] (by kernel_rfl) ?_
      (refine WdX.val rfl (.inl rfl) rfl rfl rfl (op_move rfl rfl) rfl ?_; refine WdX.norm (by first | (simp only [j0]; rfl) | rfl) ?_)
      refine WdX.val rfl (.inl rfl) rfl rfl rfl (op_add_str (b := clText) rfl rfl rfl rfl (by rw [List.length_append] at e1; omega)) rfl ?_
      refine WdX.norm (by first | (simp only [j0]; rfl) | rfl) ?_
      refine WdX.val rfl (.inl rfl) rfl rfl rfl (op_fieldAddr rfl rfl (fb31 0).2.2.2) rfl ?_
      refine WdX.norm (by first | (simp only [j0]; rfl) | rfl) ?_
      refine WdX.val rfl (.inl rfl) rfl rfl rfl (op_load_ptr rfl rfl e0 (ld31 _ _ _ _ _).2.2.2) rfl ?_
      refine WdX.norm (by first | (simp only [j0]; rfl) | rfl) ?_
      refine WdX.val rfl (.inl rfl) rfl rfl rfl (op_len_str rfl rfl u9 rfl) rfl ?_
      refine WdX.norm (by first | (simp only [j0]; rfl) | rfl) ?_
      refine WdX.pure rfl (.inl rfl) rfl rfl rfl (op_call (args := [i64v bd.length]) rfl rfl) rfl ((itoa_tells bd.length hbl _).mono ?_)
      rintro r1 H4 ⟨rfl, rfl⟩
      refine WdX.norm (by first | (simp only [j0]; rfl) | rfl) ?_
      refine WdX.val rfl (.inl rfl) rfl rfl rfl (op_add_str rfl rfl rfl rfl (by rw [List.length_append] at e2; omega)) rfl ?_
      refine WdX.norm (by first | (simp only [j0]; rfl) | rfl) ?_
      refine WdX.val rfl (.inl rfl) rfl rfl rfl (op_add_str (b := crlf2) rfl rfl rfl rfl (by rw [List.length_append] at e3; omega)) rfl ?_
      refine WdX.norm (by first | (simp only [j0]; rfl) | rfl) ?_
      refine WdX.val rfl (.inl rfl) rfl rfl rfl (op_fieldAddr rfl rfl (fb31 0).2.2.2) rfl ?_
      refine WdX.norm (by first | (simp only [j0]; rfl) | rfl) ?_
      refine WdX.val rfl (.inl rfl) rfl rfl rfl (op_load_ptr rfl rfl e0 (ld31 _ _ _ _ _).2.2.2) rfl ?_
      refine WdX.norm (by first | (simp only [j0]; rfl) | rfl) ?_
      refine WdX.val rfl (.inl rfl) rfl rfl rfl (op_add_str rfl rfl rfl rfl (by rw [List.length_append] at e4; omega)) rfl ?_
      refine WdX.norm (by first | (simp only [j0]; rfl) | rfl) ?_
      refine WdX.val rfl (.inl rfl) rfl rfl rfl (op_assign rfl rfl) rfl ?_
      refine WdX.norm (by first | (simp only [j0]; rfl) | rfl) ?_
      refine WdX.nil ?_
      (repeat (first|(with_reducible first|apply jA|apply jC|apply jD|apply jE|apply jF|apply jG|apply jH|apply jI|apply jJ|apply jK|apply jL|apply jM|apply jN|apply jO)|(with_reducible apply SeqQ.id;refine SeqQ.norm (by first|(simp only [j0];rfl)|rfl) ?_)|with_reducible refine jP (by decide) ?_|(with_reducible apply jQ;first|refine jR rfl rfl rfl ?_|refine jS rfl rfl rfl ?_)|((first|((with_reducible first|apply jm|apply jn|apply jb|apply ju);repeat rfl)|((with_reducible apply jy);iterate 3 rfl)|((with_reducible apply jz);iterate 3 rfl)|((with_reducible apply jp);iterate 5 rfl)|((with_reducible apply jq);iterate 5 rfl)|((with_reducible apply jk);exact u9;rfl)|((with_reducible apply jl);(with_reducible first|exact u28|exact u29);rfl));refine jT (by first|(simp only [j0];rfl)|rfl) ?_)))
      refine EndQ.ret rfl ⟨_, rfl, rfl, rfl, ?_⟩
      unfold textP
      simp only [List.append_assoc]
end
end Go.Proofs.Hc
