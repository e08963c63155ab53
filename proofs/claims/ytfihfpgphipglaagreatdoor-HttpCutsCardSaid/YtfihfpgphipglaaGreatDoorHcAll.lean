/- The http's closures over one byte, run at each byte; 'all' over a text's bytes. -/
import Derived.Test.YtfihfpgphipglaaGreatDoorHcCfg
import Derived.Test.YtfihfpgphipglaaGreatDoorHcPlain
set_option linter.unusedVariables false
set_option linter.unusedSimpArgs false
set_option linter.unusedSectionVars false
namespace Go.Proofs.Hc
open Go.Tm
set_option maxRecDepth 100000
section
variable {x : Value}
theorem u9 : (Kq x).P.underlying 9 = some .string := Tryz.underlying9
theorem u5 : (Kq x).P.underlying 5 = some (.int .u8) := Tryz.underlying5
theorem u3 : (Kq x).P.underlying 3 = some (.int .i64) := Tryz.underlying3
theorem u28 : (Kq x).P.underlying 28 = some (.slice 9) := Tryz.underlying28
theorem u29 : (Kq x).P.underlying 29 = some (.slice 52) := Tryz.underlying29
theorem u24 : (Kq x).P.underlying 24 = some (.slice 31) := Tryz.underlying24
theorem u22 : (Kq x).P.underlying 22 = some (.slice 3) := Tryz.underlying22
def ByteFn (x : Value) (g : FuncId) (p : Nat → Bool) : Prop := ∀ (c : UInt8) (H : List AB), Tells (Kq x) g [u8v c] H fun r H' => H' = H ∧ r = .v (.bool (p c.toNat))
theorem cap_runs (x : Value) : ((List.range 256).all fun c => isBool (capB c) (callF (Kq x) 10 43 ([] ++ [.v (.int .u8 c)]) [])) = true := by kernel_rfl
theorem seen_runs (x : Value) : ((List.range 256).all fun c => isBool (seenB c) (callF (Kq x) 10 44 ([] ++ [.v (.int .u8 c)]) [])) = true := by kernel_rfl
theorem name_runs (x : Value) : ((List.range 256).all fun c => isBool (nameB c) (callF (Kq x) 10 61 ([] ++ [.v (.int .u8 c)]) [])) = true := by kernel_rfl
theorem value_runs (x : Value) : ((List.range 256).all fun c => isBool (valueB c) (callF (Kq x) 10 62 ([] ++ [.v (.int .u8 c)]) [])) = true := by kernel_rfl
theorem dig_runs (x : Value) : ((List.range 256).all fun c => isBool (digit c) (callF (Kq x) 10 38 ([] ++ [.v (.int .u8 c)]) [])) = true := by kernel_rfl
theorem cap_fn : ByteFn x 43 capB := fun c H => byte_tells rfl rfl rfl rfl rfl rfl (cap_runs x) (fun _ _ h => isBool_of h) c H
theorem seen_fn : ByteFn x 44 seenB := fun c H => byte_tells rfl rfl rfl rfl rfl rfl (seen_runs x) (fun _ _ h => isBool_of h) c H
theorem name_fn : ByteFn x 61 nameB := fun c H => byte_tells rfl rfl rfl rfl rfl rfl (name_runs x) (fun _ _ h => isBool_of h) c H
theorem value_fn : ByteFn x 62 valueB := fun c H => byte_tells rfl rfl rfl rfl rfl rfl (value_runs x) (fun _ _ h => isBool_of h) c H
theorem dig_fn : ByteFn x 38 digit := fun c H => byte_tells rfl rfl rfl rfl rfl rfl (dig_runs x) (fun _ _ h => isBool_of h) c H
theorem wrap1 {i : Nat} (h : i < 4294967281) : IntKind.i64.wrap ((i : Int) + 1) = ((i + 1 : Nat) : Int) := by rw [IntKind.wrap_i64]; omega
theorem allB_take {p : Nat → Bool} {s : Bs} {i : Nat} (hi : i < s.length) (h : allB p (s.take i) = true) (hp : p s[i].toNat = true) : allB p (s.take (i + 1)) = true := by
 unfold allB at *
 rw [List.take_add_one, List.all_append, h, List.getElem?_eq_getElem hi]
 simp [hp]
theorem allB_not {p : Nat → Bool} {s : Bs} {i : Nat} (hi : i < s.length) (hp : p s[i].toNat = false) : allB p s = false := by
 unfold allB
 rw [List.all_eq_false]
 exact ⟨s[i], List.getElem_mem hi, by simp [hp]⟩
set_option maxHeartbeats 1500000 in
theorem all_tells {g : FuncId} {p : Nat → Bool} (hg : ByteFn x g p) (s : Bs) (hs : s.length < 4294967281) (H : List AB) : Tells (Kq x) 45 [.str s, .func (.func g) [] []] H fun r H' => H' = H ∧ r = .v (.bool (allB p s)) := by
 refine Tells.vals (c := _) Tryz.func45 rfl (args' := [.str s, .func (.func g) [] []]) (m := 16) rfl rfl rfl rfl rfl ?_
 (repeat (first|(with_reducible first|apply jA|apply jC|apply jD|apply jE|apply jF|apply jG|apply jH|apply jI|apply jJ|apply jK|apply jL|apply jM|apply jN|apply jO)|(with_reducible apply SeqQ.id;refine SeqQ.norm (by first|(simp only [j0];rfl)|rfl) ?_)|with_reducible refine jP (by decide) ?_|(with_reducible apply jQ;first|refine jR rfl rfl rfl ?_|refine jS rfl rfl rfl ?_)|((first|((with_reducible first|apply jm|apply jn|apply jb|apply ju);repeat rfl)|((with_reducible apply jy);rfl;rfl;rfl)|((with_reducible apply jz);rfl;rfl;rfl)|((with_reducible apply jv);rfl)|((with_reducible apply jp);rfl;rfl;rfl;rfl;rfl)|((with_reducible apply jq);rfl;rfl;rfl;rfl;rfl)|((with_reducible apply jk);exact u9;rfl));refine jT (by first|(simp only [j0];rfl)|rfl) ?_)))
 refine Wc.inv (fun m st => ∃ i : Nat, m = s.length - i ∧ i ≤ s.length ∧ allB p (s.take i) = true ∧ ∃ d : Nat → AV, st.regs = (.str s :: .func (.func g) [] [] :: d 2 :: d 3 :: .v (.bool false) :: d 5 :: d 6 :: i64v s.length :: i64v i :: d 9 :: d 10 :: d 11 :: d 12 :: d 13 :: d 14 :: d 15 :: d 16 :: d 17 :: [])) s.length ?_ ?_
 ·exact ⟨0, by omega, by omega, by simp [allB], dead_of rfl⟩
 ·rintro m regs own H1 ⟨i, rfl, hi, hal, d, rfl⟩
  (repeat (first|(with_reducible first|apply jA|apply jC|apply jD|apply jE|apply jF|apply jG|apply jH|apply jI|apply jJ|apply jK|apply jL|apply jM|apply jN|apply jO)|(with_reducible apply SeqQ.id;refine SeqQ.norm (by first|(simp only [j0];rfl)|rfl) ?_)|with_reducible refine jP (by decide) ?_|(with_reducible apply jQ;first|refine jR rfl rfl rfl ?_|refine jS rfl rfl rfl ?_)|((first|((with_reducible first|apply jm|apply jn|apply jb|apply ju);repeat rfl)|((with_reducible apply jy);rfl;rfl;rfl)|((with_reducible apply jz);rfl;rfl;rfl)|((with_reducible apply jv);rfl)|((with_reducible apply jp);rfl;rfl;rfl;rfl;rfl)|((with_reducible apply jq);rfl;rfl;rfl;rfl;rfl)|((with_reducible apply jk);exact u9;rfl));refine jT (by first|(simp only [j0];rfl)|rfl) ?_)))
  by_cases hlt : i < s.length
  ·rw [show decide ((i : Int) < (s.length : Int)) = true by simp; omega]
   (repeat (first|(with_reducible first|apply jA|apply jC|apply jD|apply jE|apply jF|apply jG|apply jH|apply jI|apply jJ|apply jK|apply jL|apply jM|apply jN|apply jO)|(with_reducible apply SeqQ.id;refine SeqQ.norm (by first|(simp only [j0];rfl)|rfl) ?_)|with_reducible refine jP (by decide) ?_|(with_reducible apply jQ;first|refine jR rfl rfl rfl ?_|refine jS rfl rfl rfl ?_)|((first|((with_reducible first|apply jm|apply jn|apply jb|apply ju);repeat rfl)|((with_reducible apply jy);rfl;rfl;rfl)|((with_reducible apply jz);rfl;rfl;rfl)|((with_reducible apply jv);rfl)|((with_reducible apply jp);rfl;rfl;rfl;rfl;rfl)|((with_reducible apply jq);rfl;rfl;rfl;rfl;rfl)|((with_reducible apply jk);exact u9;rfl));refine jT (by first|(simp only [j0];rfl)|rfl) ?_)))
   refine Wo.doVal rfl rfl (op_index_str (j := i) rfl rfl u9 rfl rfl rfl hlt) ?_
   refine Wo.doCall rfl rfl (op_callv (args := [u8v s[i]]) rfl rfl rfl) ((hg s[i] _).mono ?_)
   rintro r1 H2 ⟨rfl, rfl⟩
   by_cases hp : p s[i].toNat = true
   ·rw [hp]
    (repeat (first|(with_reducible first|apply jA|apply jC|apply jD|apply jE|apply jF|apply jG|apply jH|apply jI|apply jJ|apply jK|apply jL|apply jM|apply jN|apply jO)|(with_reducible apply SeqQ.id;refine SeqQ.norm (by first|(simp only [j0];rfl)|rfl) ?_)|with_reducible refine jP (by decide) ?_|(with_reducible apply jQ;first|refine jR rfl rfl rfl ?_|refine jS rfl rfl rfl ?_)|((first|((with_reducible first|apply jm|apply jn|apply jb|apply ju);repeat rfl)|((with_reducible apply jy);rfl;rfl;rfl)|((with_reducible apply jz);rfl;rfl;rfl)|((with_reducible apply jv);rfl)|((with_reducible apply jp);rfl;rfl;rfl;rfl;rfl)|((with_reducible apply jq);rfl;rfl;rfl;rfl;rfl)|((with_reducible apply jk);exact u9;rfl));refine jT (by first|(simp only [j0];rfl)|rfl) ?_)))
    rw [wrap1 (by omega)]
    (repeat (first|(with_reducible first|apply jA|apply jC|apply jD|apply jE|apply jF|apply jG|apply jH|apply jI|apply jJ|apply jK|apply jL|apply jM|apply jN|apply jO)|(with_reducible apply SeqQ.id;refine SeqQ.norm (by first|(simp only [j0];rfl)|rfl) ?_)|with_reducible refine jP (by decide) ?_|(with_reducible apply jQ;first|refine jR rfl rfl rfl ?_|refine jS rfl rfl rfl ?_)|((first|((with_reducible first|apply jm|apply jn|apply jb|apply ju);repeat rfl)|((with_reducible apply jy);rfl;rfl;rfl)|((with_reducible apply jz);rfl;rfl;rfl)|((with_reducible apply jv);rfl)|((with_reducible apply jp);rfl;rfl;rfl;rfl;rfl)|((with_reducible apply jq);rfl;rfl;rfl;rfl;rfl)|((with_reducible apply jk);exact u9;rfl));refine jT (by first|(simp only [j0];rfl)|rfl) ?_)))
    refine LoopQ.normal (s.length - (i + 1)) (by omega) ⟨i + 1, rfl, by omega, allB_take hlt hal hp, dead_of rfl⟩
   ·rw [Bool.not_eq_true] at hp
    rw [hp]
    (repeat (first|(with_reducible first|apply jA|apply jC|apply jD|apply jE|apply jF|apply jG|apply jH|apply jI|apply jJ|apply jK|apply jL|apply jM|apply jN|apply jO)|(with_reducible apply SeqQ.id;refine SeqQ.norm (by first|(simp only [j0];rfl)|rfl) ?_)|with_reducible refine jP (by decide) ?_|(with_reducible apply jQ;first|refine jR rfl rfl rfl ?_|refine jS rfl rfl rfl ?_)|((first|((with_reducible first|apply jm|apply jn|apply jb|apply ju);repeat rfl)|((with_reducible apply jy);rfl;rfl;rfl)|((with_reducible apply jz);rfl;rfl;rfl)|((with_reducible apply jv);rfl)|((with_reducible apply jp);rfl;rfl;rfl;rfl;rfl)|((with_reducible apply jq);rfl;rfl;rfl;rfl;rfl)|((with_reducible apply jk);exact u9;rfl));refine jT (by first|(simp only [j0];rfl)|rfl) ?_)))
    refine EndQ.ret rfl ⟨_, rfl, rfl, rfl, ?_⟩
    rw [allB_not hlt hp]
  ·rw [show decide ((i : Int) < (s.length : Int)) = false by simp; omega]
   (repeat (first|(with_reducible first|apply jA|apply jC|apply jD|apply jE|apply jF|apply jG|apply jH|apply jI|apply jJ|apply jK|apply jL|apply jM|apply jN|apply jO)|(with_reducible apply SeqQ.id;refine SeqQ.norm (by first|(simp only [j0];rfl)|rfl) ?_)|with_reducible refine jP (by decide) ?_|(with_reducible apply jQ;first|refine jR rfl rfl rfl ?_|refine jS rfl rfl rfl ?_)|((first|((with_reducible first|apply jm|apply jn|apply jb|apply ju);repeat rfl)|((with_reducible apply jy);rfl;rfl;rfl)|((with_reducible apply jz);rfl;rfl;rfl)|((with_reducible apply jv);rfl)|((with_reducible apply jp);rfl;rfl;rfl;rfl;rfl)|((with_reducible apply jq);rfl;rfl;rfl;rfl;rfl)|((with_reducible apply jk);exact u9;rfl));refine jT (by first|(simp only [j0];rfl)|rfl) ?_)))
   refine EndQ.ret rfl ⟨_, rfl, rfl, rfl, ?_⟩
   rw [List.take_of_length_le (by omega)] at hal
   rw [hal]
end
end Go.Proofs.Hc
