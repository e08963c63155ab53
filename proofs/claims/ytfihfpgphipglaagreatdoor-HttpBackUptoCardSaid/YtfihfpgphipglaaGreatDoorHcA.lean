/- HcAll, HcHead, joined. -/
import Derived.Test.YtfihfpgphipglaaGreatDoorHcCfg
import Derived.Test.YtfihfpgphipglaaGreatDoorHcPlain
set_option linter.unusedVariables false
set_option linter.unusedSimpArgs false
set_option linter.unusedSectionVars false
section
namespace Go.Proofs.Hc
open Go.Tm
set_option maxRecDepth 100000
section
variable {x : Value}
theorem u9 : (Kq x).P.underlying 9 = some .string := Tryz.underlying9
theorem u5 : (Kq x).P.underlying 5 = some (.int .u8) := Tryz.underlying5
theorem u3 : (Kq x).P.underlying 3 = some (.int .i64) := Tryz.underlying3
theorem u28 : (Kq x).P.underlying 28 = some (.slice 9) := Tryz.underlying28
theorem u29 : (Kq x).P.underlying 29 = some (.slice 52) := Tryz.underlying29
def ByteFn (x : Value) (g : FuncId) (p : Nat → Bool) : Prop := ∀ (c : UInt8) (H : List AB), Tells (Kq x) g [u8v c] H fun r H' => H' = H ∧ r = .v (.bool (p c.toNat))
theorem cap_runs (x : Value) : ((List.range 256).all fun c => isBool (capB c) (callF (Kq x) 10 43 ([] ++ [.v (.int .u8 c)]) [])) = true := by kernel_rfl
theorem seen_runs (x : Value) : ((List.range 256).all fun c => isBool (seenB c) (callF (Kq x) 10 44 ([] ++ [.v (.int .u8 c)]) [])) = true := by kernel_rfl
theorem name_runs (x : Value) : ((List.range 256).all fun c => isBool (nameB c) (callF (Kq x) 10 61 ([] ++ [.v (.int .u8 c)]) [])) = true := by kernel_rfl
theorem value_runs (x : Value) : ((List.range 256).all fun c => isBool (valueB c) (callF (Kq x) 10 62 ([] ++ [.v (.int .u8 c)]) [])) = true := by kernel_rfl
theorem dig_runs (x : Value) : ((List.range 256).all fun c => isBool (digit c) (callF (Kq x) 10 38 ([] ++ [.v (.int .u8 c)]) [])) = true := by kernel_rfl
theorem cap_fn : ByteFn x 43 capB := fun c H => byte_tells rfl rfl rfl rfl rfl rfl (cap_runs x) (fun _ _ h => isBool_of h) c H
theorem seen_fn : ByteFn x 44 seenB := fun c H => byte_tells rfl rfl rfl rfl rfl rfl (seen_runs x) (fun _ _ h => isBool_of h) c H
theorem name_fn : ByteFn x 61 nameB := fun c H => byte_tells rfl rfl rfl rfl rfl rfl (name_runs x) (fun _ _ h => isBool_of h) c H
theorem value_fn : ByteFn x 62 valueB := fun c H => byte_tells rfl rfl rfl rfl rfl rfl (value_runs x) (fun _ _ h => isBool_of h) c H
theorem dig_fn : ByteFn x 38 digit := fun c H => byte_tells rfl rfl rfl rfl rfl rfl (dig_runs x) (fun _ _ h => isBool_of h) c H
theorem wrap1 {i : Nat} (h : i < 4294967281) : IntKind.i64.wrap ((i : Int) + 1) = ((i + 1 : Nat) : Int) := by rw [IntKind.wrap_i64]; omega
theorem allB_take {p : Nat → Bool} {s : Bs} {i : Nat} (hi : i < s.length) (h : allB p (s.take i) = true) (hp : p s[i].toNat = true) : allB p (s.take (i + 1)) = true := by
 unfold allB at *
 rw [List.take_add_one, List.all_append, h, List.getElem?_eq_getElem hi]
 simp [hp]
theorem allB_not {p : Nat → Bool} {s : Bs} {i : Nat} (hi : i < s.length) (hp : p s[i].toNat = false) : allB p s = false := by
 unfold allB
 rw [List.all_eq_false]
 exact ⟨s[i], List.getElem_mem hi, by simp [hp]⟩
set_option maxHeartbeats 1500000 in
theorem all_tells {g : FuncId} {p : Nat → Bool} (hg : ByteFn x g p) (s : Bs) (hs : s.length < 4294967281) (H : List AB) : Tells (Kq x) 45 [.str s, .func (.func g) [] []] H fun r H' => H' = H ∧ r = .v (.bool (allB p s)) := by
 refine Tells.vals (c := _) Tryz.func45 rfl (args' := [.str s, .func (.func g) [] []]) (m := 16) rfl rfl rfl rfl rfl ?_
 (repeat (first|(with_reducible first|apply jA|apply jC|apply jD|apply jE|apply jF|apply jG|apply jH|apply jI|apply jJ|apply jK|apply jL|apply jM|apply jN|apply jO)|(with_reducible apply SeqQ.id;refine SeqQ.norm (by first|(simp only [j0];rfl)|rfl) ?_)|with_reducible refine jP (by decide) ?_|(with_reducible apply jQ;first|refine jR rfl rfl rfl ?_|refine jS rfl rfl rfl ?_)|((first|((with_reducible first|apply jm|apply jn|apply jb|apply ju);repeat rfl)|((with_reducible apply jy);iterate 3 rfl)|((with_reducible apply jz);iterate 3 rfl)|((with_reducible apply jp);iterate 5 rfl)|((with_reducible apply jq);iterate 5 rfl)|((with_reducible apply jk);exact u9;rfl));refine jT (by first|(simp only [j0];rfl)|rfl) ?_)))
 refine Wc.inv (fun m st => ∃ i : Nat, m = s.length - i ∧ i ≤ s.length ∧ allB p (s.take i) = true ∧ ∃ d : Nat → AV, st.regs = (.str s :: .func (.func g) [] [] :: d 2 :: d 3 :: .v (.bool false) :: d 5 :: d 6 :: i64v s.length :: i64v i :: d 9 :: d 10 :: d 11 :: d 12 :: d 13 :: d 14 :: d 15 :: d 16 :: d 17 :: [])) s.length ?_ ?_
 ·exact ⟨0, by omega, by omega, by simp [allB], dead_of rfl⟩
 ·rintro m regs own H1 ⟨i, rfl, hi, hal, d, rfl⟩
  (repeat (first|(with_reducible first|apply jA|apply jC|apply jD|apply jE|apply jF|apply jG|apply jH|apply jI|apply jJ|apply jK|apply jL|apply jM|apply jN|apply jO)|(with_reducible apply SeqQ.id;refine SeqQ.norm (by first|(simp only [j0];rfl)|rfl) ?_)|with_reducible refine jP (by decide) ?_|(with_reducible apply jQ;first|refine jR rfl rfl rfl ?_|refine jS rfl rfl rfl ?_)|((first|((with_reducible first|apply jm|apply jn|apply jb|apply ju);repeat rfl)|((with_reducible apply jy);iterate 3 rfl)|((with_reducible apply jz);iterate 3 rfl)|((with_reducible apply jp);iterate 5 rfl)|((with_reducible apply jq);iterate 5 rfl)|((with_reducible apply jk);exact u9;rfl));refine jT (by first|(simp only [j0];rfl)|rfl) ?_)))
  by_cases hlt : i < s.length
  ·rw [show decide ((i : Int) < (s.length : Int)) = true by simp; omega]
   (repeat (first|(with_reducible first|apply jA|apply jC|apply jD|apply jE|apply jF|apply jG|apply jH|apply jI|apply jJ|apply jK|apply jL|apply jM|apply jN|apply jO)|(with_reducible apply SeqQ.id;refine SeqQ.norm (by first|(simp only [j0];rfl)|rfl) ?_)|with_reducible refine jP (by decide) ?_|(with_reducible apply jQ;first|refine jR rfl rfl rfl ?_|refine jS rfl rfl rfl ?_)|((first|((with_reducible first|apply jm|apply jn|apply jb|apply ju);repeat rfl)|((with_reducible apply jy);iterate 3 rfl)|((with_reducible apply jz);iterate 3 rfl)|((with_reducible apply jp);iterate 5 rfl)|((with_reducible apply jq);iterate 5 rfl)|((with_reducible apply jk);exact u9;rfl));refine jT (by first|(simp only [j0];rfl)|rfl) ?_)))
   refine Wo.doVal rfl rfl (op_index_str (j := i) rfl rfl u9 rfl rfl rfl hlt) ?_
   refine Wo.doCall rfl rfl (op_callv (args := [u8v s[i]]) rfl rfl rfl) ((hg s[i] _).mono ?_)
   rintro r1 H2 ⟨rfl, rfl⟩
   by_cases hp : p s[i].toNat = true
   ·rw [hp]
    (repeat (first|(with_reducible first|apply jA|apply jC|apply jD|apply jE|apply jF|apply jG|apply jH|apply jI|apply jJ|apply jK|apply jL|apply jM|apply jN|apply jO)|(with_reducible apply SeqQ.id;refine SeqQ.norm (by first|(simp only [j0];rfl)|rfl) ?_)|with_reducible refine jP (by decide) ?_|(with_reducible apply jQ;first|refine jR rfl rfl rfl ?_|refine jS rfl rfl rfl ?_)|((first|((with_reducible first|apply jm|apply jn|apply jb|apply ju);repeat rfl)|((with_reducible apply jy);iterate 3 rfl)|((with_reducible apply jz);iterate 3 rfl)|((with_reducible apply jp);iterate 5 rfl)|((with_reducible apply jq);iterate 5 rfl)|((with_reducible apply jk);exact u9;rfl));refine jT (by first|(simp only [j0];rfl)|rfl) ?_)))
    rw [wrap1 (by omega)]
    (repeat (first|(with_reducible first|apply jA|apply jC|apply jD|apply jE|apply jF|apply jG|apply jH|apply jI|apply jJ|apply jK|apply jL|apply jM|apply jN|apply jO)|(with_reducible apply SeqQ.id;refine SeqQ.norm (by first|(simp only [j0];rfl)|rfl) ?_)|with_reducible refine jP (by decide) ?_|(with_reducible apply jQ;first|refine jR rfl rfl rfl ?_|refine jS rfl rfl rfl ?_)|((first|((with_reducible first|apply jm|apply jn|apply jb|apply ju);repeat rfl)|((with_reducible apply jy);iterate 3 rfl)|((with_reducible apply jz);iterate 3 rfl)|((with_reducible apply jp);iterate 5 rfl)|((with_reducible apply jq);iterate 5 rfl)|((with_reducible apply jk);exact u9;rfl));refine jT (by first|(simp only [j0];rfl)|rfl) ?_)))
    refine LoopQ.normal (s.length - (i + 1)) (by omega) ⟨i + 1, rfl, by omega, allB_take hlt hal hp, dead_of rfl⟩
   ·rw [Bool.not_eq_true] at hp
    rw [hp]
    (repeat (first|(with_reducible first|apply jA|apply jC|apply jD|apply jE|apply jF|apply jG|apply jH|apply jI|apply jJ|apply jK|apply jL|apply jM|apply jN|apply jO)|(with_reducible apply SeqQ.id;refine SeqQ.norm (by first|(simp only [j0];rfl)|rfl) ?_)|with_reducible refine jP (by decide) ?_|(with_reducible apply jQ;first|refine jR rfl rfl rfl ?_|refine jS rfl rfl rfl ?_)|((first|((with_reducible first|apply jm|apply jn|apply jb|apply ju);repeat rfl)|((with_reducible apply jy);iterate 3 rfl)|((with_reducible apply jz);iterate 3 rfl)|((with_reducible apply jp);iterate 5 rfl)|((with_reducible apply jq);iterate 5 rfl)|((with_reducible apply jk);exact u9;rfl));refine jT (by first|(simp only [j0];rfl)|rfl) ?_)))
    refine EndQ.ret rfl ⟨_, rfl, rfl, rfl, ?_⟩
    rw [allB_not hlt hp]
  ·rw [show decide ((i : Int) < (s.length : Int)) = false by simp; omega]
   (repeat (first|(with_reducible first|apply jA|apply jC|apply jD|apply jE|apply jF|apply jG|apply jH|apply jI|apply jJ|apply jK|apply jL|apply jM|apply jN|apply jO)|(with_reducible apply SeqQ.id;refine SeqQ.norm (by first|(simp only [j0];rfl)|rfl) ?_)|with_reducible refine jP (by decide) ?_|(with_reducible apply jQ;first|refine jR rfl rfl rfl ?_|refine jS rfl rfl rfl ?_)|((first|((with_reducible first|apply jm|apply jn|apply jb|apply ju);repeat rfl)|((with_reducible apply jy);iterate 3 rfl)|((with_reducible apply jz);iterate 3 rfl)|((with_reducible apply jp);iterate 5 rfl)|((with_reducible apply jq);iterate 5 rfl)|((with_reducible apply jk);exact u9;rfl));refine jT (by first|(simp only [j0];rfl)|rfl) ?_)))
   refine EndQ.ret rfl ⟨_, rfl, rfl, rfl, ?_⟩
   rw [List.take_of_length_le (by omega)] at hal
   rw [hal]
end
end Go.Proofs.Hc
end
section
namespace Go.Proofs.Hc
open Go.Tm
set_option maxRecDepth 100000
theorem cut_said {s t k v : Bs} {b : Bool} (h : s.length < 4294967281) (hc : Lib.cut s t = (k, v, b)) : toldCut [.str s, .str t] = some (.tup [.str k, .str v, .v (.bool b)]) := by
 show (if s.length < 4294967281 then _ else none) = _
 rw [if_pos h, hc]
theorem cut_len (s t : Bs) : (Lib.cut s t).1.length ≤ s.length ∧ (Lib.cut s t).2.1.length ≤ s.length := by
 unfold Lib.cut
 split
 ·simp only [List.length_take, List.length_drop]; omega
 ·simp
theorem name_ascii : ∀ c : Nat, c < 256 → nameB c = true → c < 128 := by
 have h : ((List.range 256).all fun c => !nameB c || decide (c < 128)) = true := by kernel_rfl
 intro c hc hn
 have := all_byte h hc
 rw [hn] at this
 simpa using this
theorem lower_said {k : Bs} (h : k.length < 4294967281) (ha : allB nameB k = true) : toldLower [.str k] = some (.str (Lib.toLowerA k)) := by
 have hc : k.length ≤ 140737488355328 ∧ (k.all fun b => decide (b.toNat < 128)) = true := by
  refine ⟨by omega, ?_⟩
  unfold allB at ha
  rw [List.all_eq_true] at ha ⊢
  intro c hc
  exact decide_eq_true (name_ascii c.toNat c.toNat_lt (ha c hc))
 exact if_pos hc
theorem trim_said {v : Bs} (h : v.length < 4294967281) : toldTrim [.str v, .str [32, 9]] = some (.str (Lib.trimS v [32, 9])) := by
 show (if v.length ≤ 9223372036854775807 ∧ _ < _ ∧ _ = true then _ else none) = _
 rw [if_pos ⟨by omega, by decide, by decide⟩]
section
variable {x : Value}
theorem z52 : tZero (Kq x).P 52 = some (.agg [.str [], .str []]) := by kernel_rfl
theorem sz52 : tSize (Kq x).P 52 = some 2 := by kernel_rfl
theorem sz9 : tSize (Kq x).P 9 = some 1 := by kernel_rfl
theorem ag9 : tAgg (Kq x).P 9 = some false := by kernel_rfl
theorem bld52 (a b : Bs) : aBuild (Kq x) 52 [(0, .str a), (1, .str b)] = some (.agg [.str a, .str b]) := by kernel_rfl
theorem bld52z : aBuild (Kq x) 52 [] = some (.agg [.str [], .str []]) := by kernel_rfl
theorem st52 {H : List AB} {b : Nat} {p q a c : AV} (h : nth H b = some (.cells (52, true) [p, q])) (ha : a.cells = [a] ∧ a.one = true ∧ a.unown = a) (hc : c.cells = [c] ∧ c.one = true ∧ c.unown = c) : aStore (Kq x) H 52 (.ptr b 0) (.agg [a, c]) = some (setAt H b (.cells (52, true) [a, c])) := by
 simp only [aStore, sz52, h]
 rw [if_pos ⟨rfl, by simp, by simp [AV.cells, allOne, ha.2.1, hc.2.1]⟩]
 rfl
theorem str_plain (a : Bs) : (AV.str a).cells = [AV.str a] ∧ (AV.str a).one = true ∧ (AV.str a).unown = AV.str a := ⟨rfl, rfl, rfl⟩
def hdrV (s : Bs) : AV := match headerP s with
 | some h => .tup [.agg [.str h.1, .str h.2], .v (.bool true)]
 | none => .tup [.agg [.str [], .str []], .v (.bool false)]
set_option maxHeartbeats 4000000 in
theorem header_tells (s : Bs) (hs : s.length < 4294967281) (H : List AB) : Tells (Kq x) 49 [.str s] H fun r H' => H' = H ∧ r = hdrV s := by
 obtain ⟨k, v, b, hc⟩ : ∃ k v b, Lib.cut s [58] = (k, v, b) := ⟨_, _, _, rfl⟩
 have hl := cut_len s [58]
 rw [hc] at hl
 have hbad : headerBad s = (!b || (k == [] || (decide (k.length > 64) || (!allB nameB k || !allB valueB v)))) := by unfold headerBad; rw [hc]
 have hlk : k.length < 4294967281 := by have := hl.1; simp only at this; omega
 have hlv : v.length < 4294967281 := by have := hl.2; simp only at this; omega
 refine Tells.vals (c := _) Tryz.func49 rfl (args' := [.str s]) (m := 43) rfl rfl rfl rfl rfl ?_
 (repeat (first|(with_reducible first|apply jA|apply jC|apply jD|apply jE|apply jF|apply jG|apply jH|apply jI|apply jJ|apply jK|apply jL|apply jM|apply jN|apply jO)|(with_reducible apply SeqQ.id;refine SeqQ.norm (by first|(simp only [j0];rfl)|rfl) ?_)|with_reducible refine jP (by decide) ?_|(with_reducible apply jQ;first|refine jR rfl rfl rfl ?_|refine jS rfl rfl rfl ?_)|((first|((with_reducible first|apply jm|apply jn|apply jb|apply ju);repeat rfl)|((with_reducible apply jy);iterate 3 rfl)|((with_reducible apply jz);iterate 3 rfl)|((with_reducible apply jp);iterate 5 rfl)|((with_reducible apply jq);iterate 5 rfl)|((with_reducible apply jk);exact u9;rfl));refine jT (by first|(simp only [j0];rfl)|rfl) ?_)))
 refine Wo.doVal rfl rfl (op_alloc rfl z52 rfl) ?_
 (repeat (first|(with_reducible first|apply jA|apply jC|apply jD|apply jE|apply jF|apply jG|apply jH|apply jI|apply jJ|apply jK|apply jL|apply jM|apply jN|apply jO)|(with_reducible apply SeqQ.id;refine SeqQ.norm (by first|(simp only [j0];rfl)|rfl) ?_)|with_reducible refine jP (by decide) ?_|(with_reducible apply jQ;first|refine jR rfl rfl rfl ?_|refine jS rfl rfl rfl ?_)|((first|((with_reducible first|apply jm|apply jn|apply jb|apply ju);repeat rfl)|((with_reducible apply jy);iterate 3 rfl)|((with_reducible apply jz);iterate 3 rfl)|((with_reducible apply jp);iterate 5 rfl)|((with_reducible apply jq);iterate 5 rfl)|((with_reducible apply jk);exact u9;rfl));refine jT (by first|(simp only [j0];rfl)|rfl) ?_)))
 refine Wo.doCall rfl rfl (op_call (args := [.str s, .str [58]]) rfl rfl) (Tells.libv (g := toldCut) rfl (cut_said hs hc) ?_)
 (repeat (first|(with_reducible first|apply jA|apply jC|apply jD|apply jE|apply jF|apply jG|apply jH|apply jI|apply jJ|apply jK|apply jL|apply jM|apply jN|apply jO)|(with_reducible apply SeqQ.id;refine SeqQ.norm (by first|(simp only [j0];rfl)|rfl) ?_)|with_reducible refine jP (by decide) ?_|(with_reducible apply jQ;first|refine jR rfl rfl rfl ?_|refine jS rfl rfl rfl ?_)|((first|((with_reducible first|apply jm|apply jn|apply jb|apply ju);repeat rfl)|((with_reducible apply jy);iterate 3 rfl)|((with_reducible apply jz);iterate 3 rfl)|((with_reducible apply jp);iterate 5 rfl)|((with_reducible apply jq);iterate 5 rfl)|((with_reducible apply jk);exact u9;rfl));refine jT (by first|(simp only [j0];rfl)|rfl) ?_)))
 refine Wo.doVal rfl rfl (op_extract rfl rfl rfl) ?_
 refine Wo.doVal rfl rfl (op_extract rfl rfl rfl) ?_
 refine Wo.doVal rfl rfl (op_extract rfl rfl rfl) ?_
 (repeat (first|(with_reducible first|apply jA|apply jC|apply jD|apply jE|apply jF|apply jG|apply jH|apply jI|apply jJ|apply jK|apply jL|apply jM|apply jN|apply jO)|(with_reducible apply SeqQ.id;refine SeqQ.norm (by first|(simp only [j0];rfl)|rfl) ?_)|with_reducible refine jP (by decide) ?_|(with_reducible apply jQ;first|refine jR rfl rfl rfl ?_|refine jS rfl rfl rfl ?_)|((first|((with_reducible first|apply jm|apply jn|apply jb|apply ju);repeat rfl)|((with_reducible apply jy);iterate 3 rfl)|((with_reducible apply jz);iterate 3 rfl)|((with_reducible apply jp);iterate 5 rfl)|((with_reducible apply jq);iterate 5 rfl)|((with_reducible apply jk);exact u9;rfl));refine jT (by first|(simp only [j0];rfl)|rfl) ?_)))
 refine Wo.mid (fun st => st.H = [.cells (52, true) [.str [], .str []]] ∧ ∃ d : Nat → AV, st.regs = (d 0 :: d 1 :: .ptr 0 0 :: d 3 :: .str k :: .str v :: d 6 :: d 7 :: d 8 :: d 9 :: d 10 :: d 11 :: d 12 :: d 13 :: d 14 :: d 15 :: d 16 :: d 17 :: d 18 :: d 19 :: d 20 :: d 21 :: d 22 :: d 23 :: d 24 :: d 25 :: d 26 :: d 27 :: d 28 :: d 29 :: d 30 :: d 31 :: d 32 :: d 33 :: d 34 :: d 35 :: d 36 :: .v (.bool (headerBad s)) :: d 38 :: d 39 :: d 40 :: d 41 :: d 42 :: d 43 :: [])) ?_ ?_
 ·rw [hbad]
  cases b with
  | false =>
   (repeat (first|(with_reducible first|apply jA|apply jC|apply jD|apply jE|apply jF|apply jG|apply jH|apply jI|apply jJ|apply jK|apply jL|apply jM|apply jN|apply jO)|(with_reducible apply SeqQ.id;refine SeqQ.norm (by first|(simp only [j0];rfl)|rfl) ?_)|with_reducible refine jP (by decide) ?_|(with_reducible apply jQ;first|refine jR rfl rfl rfl ?_|refine jS rfl rfl rfl ?_)|((first|((with_reducible first|apply jm|apply jn|apply jb|apply ju);repeat rfl)|((with_reducible apply jy);iterate 3 rfl)|((with_reducible apply jz);iterate 3 rfl)|((with_reducible apply jp);iterate 5 rfl)|((with_reducible apply jq);iterate 5 rfl)|((with_reducible apply jk);exact u9;rfl));refine jT (by first|(simp only [j0];rfl)|rfl) ?_)))
   exact ⟨rfl, rfl, dead_of rfl⟩
  | true =>
   (repeat (first|(with_reducible first|apply jA|apply jC|apply jD|apply jE|apply jF|apply jG|apply jH|apply jI|apply jJ|apply jK|apply jL|apply jM|apply jN|apply jO)|(with_reducible apply SeqQ.id;refine SeqQ.norm (by first|(simp only [j0];rfl)|rfl) ?_)|with_reducible refine jP (by decide) ?_|(with_reducible apply jQ;first|refine jR rfl rfl rfl ?_|refine jS rfl rfl rfl ?_)|((first|((with_reducible first|apply jm|apply jn|apply jb|apply ju);repeat rfl)|((with_reducible apply jy);iterate 3 rfl)|((with_reducible apply jz);iterate 3 rfl)|((with_reducible apply jp);iterate 5 rfl)|((with_reducible apply jq);iterate 5 rfl)|((with_reducible apply jk);exact u9;rfl));refine jT (by first|(simp only [j0];rfl)|rfl) ?_)))
   refine Wo.doVal rfl rfl (op_bin_str (r := .v (.bool (k == []))) rfl rfl rfl rfl) ?_
   (repeat (first|(with_reducible first|apply jA|apply jC|apply jD|apply jE|apply jF|apply jG|apply jH|apply jI|apply jJ|apply jK|apply jL|apply jM|apply jN|apply jO)|(with_reducible apply SeqQ.id;refine SeqQ.norm (by first|(simp only [j0];rfl)|rfl) ?_)|with_reducible refine jP (by decide) ?_|(with_reducible apply jQ;first|refine jR rfl rfl rfl ?_|refine jS rfl rfl rfl ?_)|((first|((with_reducible first|apply jm|apply jn|apply jb|apply ju);repeat rfl)|((with_reducible apply jy);iterate 3 rfl)|((with_reducible apply jz);iterate 3 rfl)|((with_reducible apply jp);iterate 5 rfl)|((with_reducible apply jq);iterate 5 rfl)|((with_reducible apply jk);exact u9;rfl));refine jT (by first|(simp only [j0];rfl)|rfl) ?_)))
   cases hk : (k == ([] : Bs)) with
   | true =>
    (repeat (first|(with_reducible first|apply jA|apply jC|apply jD|apply jE|apply jF|apply jG|apply jH|apply jI|apply jJ|apply jK|apply jL|apply jM|apply jN|apply jO)|(with_reducible apply SeqQ.id;refine SeqQ.norm (by first|(simp only [j0];rfl)|rfl) ?_)|with_reducible refine jP (by decide) ?_|(with_reducible apply jQ;first|refine jR rfl rfl rfl ?_|refine jS rfl rfl rfl ?_)|((first|((with_reducible first|apply jm|apply jn|apply jb|apply ju);repeat rfl)|((with_reducible apply jy);iterate 3 rfl)|((with_reducible apply jz);iterate 3 rfl)|((with_reducible apply jp);iterate 5 rfl)|((with_reducible apply jq);iterate 5 rfl)|((with_reducible apply jk);exact u9;rfl));refine jT (by first|(simp only [j0];rfl)|rfl) ?_)))
    exact ⟨rfl, rfl, dead_of rfl⟩
   | false =>
    (repeat (first|(with_reducible first|apply jA|apply jC|apply jD|apply jE|apply jF|apply jG|apply jH|apply jI|apply jJ|apply jK|apply jL|apply jM|apply jN|apply jO)|(with_reducible apply SeqQ.id;refine SeqQ.norm (by first|(simp only [j0];rfl)|rfl) ?_)|with_reducible refine jP (by decide) ?_|(with_reducible apply jQ;first|refine jR rfl rfl rfl ?_|refine jS rfl rfl rfl ?_)|((first|((with_reducible first|apply jm|apply jn|apply jb|apply ju);repeat rfl)|((with_reducible apply jy);iterate 3 rfl)|((with_reducible apply jz);iterate 3 rfl)|((with_reducible apply jp);iterate 5 rfl)|((with_reducible apply jq);iterate 5 rfl)|((with_reducible apply jk);exact u9;rfl));refine jT (by first|(simp only [j0];rfl)|rfl) ?_)))
    by_cases h64 : k.length > 64
    ·rw [decide_eq_true h64, show decide ((k.length : Int) > 64) = true by simp; omega]
     (repeat (first|(with_reducible first|apply jA|apply jC|apply jD|apply jE|apply jF|apply jG|apply jH|apply jI|apply jJ|apply jK|apply jL|apply jM|apply jN|apply jO)|(with_reducible apply SeqQ.id;refine SeqQ.norm (by first|(simp only [j0];rfl)|rfl) ?_)|with_reducible refine jP (by decide) ?_|(with_reducible apply jQ;first|refine jR rfl rfl rfl ?_|refine jS rfl rfl rfl ?_)|((first|((with_reducible first|apply jm|apply jn|apply jb|apply ju);repeat rfl)|((with_reducible apply jy);iterate 3 rfl)|((with_reducible apply jz);iterate 3 rfl)|((with_reducible apply jp);iterate 5 rfl)|((with_reducible apply jq);iterate 5 rfl)|((with_reducible apply jk);exact u9;rfl));refine jT (by first|(simp only [j0];rfl)|rfl) ?_)))
     exact ⟨rfl, rfl, dead_of rfl⟩
    ·rw [decide_eq_false h64, show decide ((k.length : Int) > 64) = false by simp; omega]
     (repeat (first|(with_reducible first|apply jA|apply jC|apply jD|apply jE|apply jF|apply jG|apply jH|apply jI|apply jJ|apply jK|apply jL|apply jM|apply jN|apply jO)|(with_reducible apply SeqQ.id;refine SeqQ.norm (by first|(simp only [j0];rfl)|rfl) ?_)|with_reducible refine jP (by decide) ?_|(with_reducible apply jQ;first|refine jR rfl rfl rfl ?_|refine jS rfl rfl rfl ?_)|((first|((with_reducible first|apply jm|apply jn|apply jb|apply ju);repeat rfl)|((with_reducible apply jy);iterate 3 rfl)|((with_reducible apply jz);iterate 3 rfl)|((with_reducible apply jp);iterate 5 rfl)|((with_reducible apply jq);iterate 5 rfl)|((with_reducible apply jk);exact u9;rfl));refine jT (by first|(simp only [j0];rfl)|rfl) ?_)))
     refine Wo.doCall rfl rfl (op_call (args := [.str k, .func (.func 61) [] []]) rfl rfl) ((all_tells name_fn k hlk _).mono ?_)
     rintro r1 H1 ⟨rfl, rfl⟩
     cases hn : allB nameB k with
     | false =>
      (repeat (first|(with_reducible first|apply jA|apply jC|apply jD|apply jE|apply jF|apply jG|apply jH|apply jI|apply jJ|apply jK|apply jL|apply jM|apply jN|apply jO)|(with_reducible apply SeqQ.id;refine SeqQ.norm (by first|(simp only [j0];rfl)|rfl) ?_)|with_reducible refine jP (by decide) ?_|(with_reducible apply jQ;first|refine jR rfl rfl rfl ?_|refine jS rfl rfl rfl ?_)|((first|((with_reducible first|apply jm|apply jn|apply jb|apply ju);repeat rfl)|((with_reducible apply jy);iterate 3 rfl)|((with_reducible apply jz);iterate 3 rfl)|((with_reducible apply jp);iterate 5 rfl)|((with_reducible apply jq);iterate 5 rfl)|((with_reducible apply jk);exact u9;rfl));refine jT (by first|(simp only [j0];rfl)|rfl) ?_)))
      exact ⟨rfl, rfl, dead_of rfl⟩
     | true =>
      (repeat (first|(with_reducible first|apply jA|apply jC|apply jD|apply jE|apply jF|apply jG|apply jH|apply jI|apply jJ|apply jK|apply jL|apply jM|apply jN|apply jO)|(with_reducible apply SeqQ.id;refine SeqQ.norm (by first|(simp only [j0];rfl)|rfl) ?_)|with_reducible refine jP (by decide) ?_|(with_reducible apply jQ;first|refine jR rfl rfl rfl ?_|refine jS rfl rfl rfl ?_)|((first|((with_reducible first|apply jm|apply jn|apply jb|apply ju);repeat rfl)|((with_reducible apply jy);iterate 3 rfl)|((with_reducible apply jz);iterate 3 rfl)|((with_reducible apply jp);iterate 5 rfl)|((with_reducible apply jq);iterate 5 rfl)|((with_reducible apply jk);exact u9;rfl));refine jT (by first|(simp only [j0];rfl)|rfl) ?_)))
      refine Wo.doCall rfl rfl (op_call (args := [.str v, .func (.func 62) [] []]) rfl rfl) ((all_tells value_fn v hlv _).mono ?_)
      rintro r1 H1 ⟨rfl, rfl⟩
      (repeat (first|(with_reducible first|apply jA|apply jC|apply jD|apply jE|apply jF|apply jG|apply jH|apply jI|apply jJ|apply jK|apply jL|apply jM|apply jN|apply jO)|(with_reducible apply SeqQ.id;refine SeqQ.norm (by first|(simp only [j0];rfl)|rfl) ?_)|with_reducible refine jP (by decide) ?_|(with_reducible apply jQ;first|refine jR rfl rfl rfl ?_|refine jS rfl rfl rfl ?_)|((first|((with_reducible first|apply jm|apply jn|apply jb|apply ju);repeat rfl)|((with_reducible apply jy);iterate 3 rfl)|((with_reducible apply jz);iterate 3 rfl)|((with_reducible apply jp);iterate 5 rfl)|((with_reducible apply jq);iterate 5 rfl)|((with_reducible apply jk);exact u9;rfl));refine jT (by first|(simp only [j0];rfl)|rfl) ?_)))
      exact ⟨rfl, rfl, dead_of rfl⟩
 ·rintro R own H1 ⟨rfl, d, rfl⟩
  cases hb : headerBad s with
  | true =>
   (repeat (first|(with_reducible first|apply jA|apply jC|apply jD|apply jE|apply jF|apply jG|apply jH|apply jI|apply jJ|apply jK|apply jL|apply jM|apply jN|apply jO)|(with_reducible apply SeqQ.id;refine SeqQ.norm (by first|(simp only [j0];rfl)|rfl) ?_)|with_reducible refine jP (by decide) ?_|(with_reducible apply jQ;first|refine jR rfl rfl rfl ?_|refine jS rfl rfl rfl ?_)|((first|((with_reducible first|apply jm|apply jn|apply jb|apply ju);repeat rfl)|((with_reducible apply jy);iterate 3 rfl)|((with_reducible apply jz);iterate 3 rfl)|((with_reducible apply jp);iterate 5 rfl)|((with_reducible apply jq);iterate 5 rfl)|((with_reducible apply jk);exact u9;rfl));refine jT (by first|(simp only [j0];rfl)|rfl) ?_)))
   refine Wo.doVal rfl rfl (op_build rfl rfl bld52z) ?_
   refine Wo.doSkip rfl rfl (op_store rfl rfl rfl (st52 rfl (str_plain _) (str_plain _))) ?_
   (repeat (first|(with_reducible first|apply jA|apply jC|apply jD|apply jE|apply jF|apply jG|apply jH|apply jI|apply jJ|apply jK|apply jL|apply jM|apply jN|apply jO)|(with_reducible apply SeqQ.id;refine SeqQ.norm (by first|(simp only [j0];rfl)|rfl) ?_)|with_reducible refine jP (by decide) ?_|(with_reducible apply jQ;first|refine jR rfl rfl rfl ?_|refine jS rfl rfl rfl ?_)|((first|((with_reducible first|apply jm|apply jn|apply jb|apply ju);repeat rfl)|((with_reducible apply jy);iterate 3 rfl)|((with_reducible apply jz);iterate 3 rfl)|((with_reducible apply jp);iterate 5 rfl)|((with_reducible apply jq);iterate 5 rfl)|((with_reducible apply jk);exact u9;rfl));refine jT (by first|(simp only [j0];rfl)|rfl) ?_)))
   refine EndQ.ret (r := .tup [.agg [.str [], .str []], .v (.bool false)]) (by kernel_rfl) ⟨.tup [.agg [.str [], .str []], .v (.bool false)], rfl, rfl, rfl, ?_⟩
   unfold hdrV headerP
   rw [hb]
   rfl
  | false =>
   have hn : allB nameB k = true := by
    rw [hbad] at hb
    simp only [Bool.or_eq_false_iff, Bool.not_eq_false'] at hb
    exact hb.2.2.2.1
   (repeat (first|(with_reducible first|apply jA|apply jC|apply jD|apply jE|apply jF|apply jG|apply jH|apply jI|apply jJ|apply jK|apply jL|apply jM|apply jN|apply jO)|(with_reducible apply SeqQ.id;refine SeqQ.norm (by first|(simp only [j0];rfl)|rfl) ?_)|with_reducible refine jP (by decide) ?_|(with_reducible apply jQ;first|refine jR rfl rfl rfl ?_|refine jS rfl rfl rfl ?_)|((first|((with_reducible first|apply jm|apply jn|apply jb|apply ju);repeat rfl)|((with_reducible apply jy);iterate 3 rfl)|((with_reducible apply jz);iterate 3 rfl)|((with_reducible apply jp);iterate 5 rfl)|((with_reducible apply jq);iterate 5 rfl)|((with_reducible apply jk);exact u9;rfl));refine jT (by first|(simp only [j0];rfl)|rfl) ?_)))
   refine Wo.doCall rfl rfl (op_call (args := [.str k]) rfl rfl) (Tells.libv (g := toldLower) rfl (lower_said hlk hn) ?_)
   (repeat (first|(with_reducible first|apply jA|apply jC|apply jD|apply jE|apply jF|apply jG|apply jH|apply jI|apply jJ|apply jK|apply jL|apply jM|apply jN|apply jO)|(with_reducible apply SeqQ.id;refine SeqQ.norm (by first|(simp only [j0];rfl)|rfl) ?_)|with_reducible refine jP (by decide) ?_|(with_reducible apply jQ;first|refine jR rfl rfl rfl ?_|refine jS rfl rfl rfl ?_)|((first|((with_reducible first|apply jm|apply jn|apply jb|apply ju);repeat rfl)|((with_reducible apply jy);iterate 3 rfl)|((with_reducible apply jz);iterate 3 rfl)|((with_reducible apply jp);iterate 5 rfl)|((with_reducible apply jq);iterate 5 rfl)|((with_reducible apply jk);exact u9;rfl));refine jT (by first|(simp only [j0];rfl)|rfl) ?_)))
   refine Wo.doCall rfl rfl (op_call (args := [.str v, .str [32, 9]]) rfl rfl) (Tells.libv (g := toldTrim) rfl (trim_said hlv) ?_)
   (repeat (first|(with_reducible first|apply jA|apply jC|apply jD|apply jE|apply jF|apply jG|apply jH|apply jI|apply jJ|apply jK|apply jL|apply jM|apply jN|apply jO)|(with_reducible apply SeqQ.id;refine SeqQ.norm (by first|(simp only [j0];rfl)|rfl) ?_)|with_reducible refine jP (by decide) ?_|(with_reducible apply jQ;first|refine jR rfl rfl rfl ?_|refine jS rfl rfl rfl ?_)|((first|((with_reducible first|apply jm|apply jn|apply jb|apply ju);repeat rfl)|((with_reducible apply jy);iterate 3 rfl)|((with_reducible apply jz);iterate 3 rfl)|((with_reducible apply jp);iterate 5 rfl)|((with_reducible apply jq);iterate 5 rfl)|((with_reducible apply jk);exact u9;rfl));refine jT (by first|(simp only [j0];rfl)|rfl) ?_)))
   refine Wo.doVal rfl rfl (op_build rfl rfl (bld52 _ _)) ?_
   refine Wo.doSkip rfl rfl (op_store rfl rfl rfl (st52 rfl (str_plain _) (str_plain _))) ?_
   (repeat (first|(with_reducible first|apply jA|apply jC|apply jD|apply jE|apply jF|apply jG|apply jH|apply jI|apply jJ|apply jK|apply jL|apply jM|apply jN|apply jO)|(with_reducible apply SeqQ.id;refine SeqQ.norm (by first|(simp only [j0];rfl)|rfl) ?_)|with_reducible refine jP (by decide) ?_|(with_reducible apply jQ;first|refine jR rfl rfl rfl ?_|refine jS rfl rfl rfl ?_)|((first|((with_reducible first|apply jm|apply jn|apply jb|apply ju);repeat rfl)|((with_reducible apply jy);iterate 3 rfl)|((with_reducible apply jz);iterate 3 rfl)|((with_reducible apply jp);iterate 5 rfl)|((with_reducible apply jq);iterate 5 rfl)|((with_reducible apply jk);exact u9;rfl));refine jT (by first|(simp only [j0];rfl)|rfl) ?_)))
   refine EndQ.ret (r := .tup [.agg [.str (Lib.toLowerA k), .str (Lib.trimS v [32, 9])], .v (.bool true)]) (by kernel_rfl) ⟨.tup [.agg [.str (Lib.toLowerA k), .str (Lib.trimS v [32, 9])], .v (.bool true)], rfl, rfl, rfl, ?_⟩
   unfold hdrV headerP
   rw [hb, hc]
   rfl
end
end Go.Proofs.Hc
end
