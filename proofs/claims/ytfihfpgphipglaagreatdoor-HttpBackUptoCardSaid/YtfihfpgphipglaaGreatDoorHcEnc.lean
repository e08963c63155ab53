/- The reference's Encode. -/
import Derived.Test.YtfihfpgphipglaaGreatDoorHcBase
set_option linter.unusedVariables false
set_option linter.unusedSimpArgs false
set_option linter.unusedSectionVars false
namespace Go.Proofs
open Go.Tm
set_option maxRecDepth 100000
def plainB (c : UInt8) : Bool := letter c.toNat || digit c.toNat || decide (markAt c.toNat ≥ 0)
def hexDig (n : Nat) : UInt8 := byteOf (if n < 10 then 48 + n else 55 + n)
def encB (c : UInt8) : List UInt8 := if plainB c then [c] else [37, hexDig (c.toNat / 16), hexDig (c.toNat % 16)]
def enc (s : List UInt8) : List UInt8 := s.flatMap encB
theorem encB_len (c : UInt8) : (encB c).length ≤ 3 := by unfold encB; split <;> simp
theorem enc_len : ∀ s : List UInt8, (enc s).length ≤ 3 * s.length
 | [] => by simp [enc]
 | c :: r => by
  have := enc_len r
  have := encB_len c
  unfold enc at *
  simp only [List.flatMap_cons, List.length_append, List.length_cons]
  omega
theorem enc_take {s : List UInt8} {i : Nat} (h : i < s.length) : enc (s.take (i + 1)) = enc (s.take i) ++ encB s[i] := by
 unfold enc
 rw [List.take_add_one, List.getElem?_eq_getElem h, List.flatMap_append]
 simp
def isV (n : Nat) : Option Value → Bool
 | some (.int .u8 m) => decide (m = (n : Int))
 | _ => false
theorem isV_of {n : Nat} {r : Option Value} (h : isV n r = true) : r = some (.int .u8 n) := by
 unfold isV at h
 split at h
 ·rw [of_decide_eq_true h]
 ·cases h
def digs : List UInt8 := [48, 49, 50, 51, 52, 53, 54, 55, 56, 57, 65, 66, 67, 68, 69, 70]
section
variable {x : Value}
end
theorem plain_37 {c : UInt8} (h : plainB c = true) : c ≠ 37 := by
 rintro rfl
 exact absurd h (by decide)
theorem hex_dig : ∀ d, d < 16 → hexOf (hexDig d).toNat = d := by decide
theorem dec_enc : ∀ s : List UInt8, dec (enc s) = some s
 | [] => rfl
 | c :: r => by
  have ih := dec_enc r
  have hc := c.toNat_lt
  have e : enc (c :: r) = encB c ++ enc r := by simp [enc]
  rw [e]
  unfold encB
  by_cases hp : plainB c = true
  ·rw [if_pos hp]
   show dec (c :: enc r) = _
   conv => lhs; unfold dec
   rw [if_neg (plain_37 hp), ih]
   rfl
  ·rw [if_neg hp]
   show dec (37 :: hexDig (c.toNat / 16) :: hexDig (c.toNat % 16) :: enc r) = _
   conv => lhs; unfold dec
   have h1 := hex_dig (c.toNat / 16) (by omega)
   have h2 := hex_dig (c.toNat % 16) (by omega)
   rw [if_pos rfl]
   simp only [h1, h2]
   rw [if_neg (by omega), ih, show c.toNat / 16 * 16 + c.toNat % 16 = c.toNat by omega]
   show some (byteOf c.toNat :: r) = _
   rw [show byteOf c.toNat = c from UInt8.ofNat_toNat]
theorem beqT {n : Nat} (k : Nat) (h : n = k) : ((n : Int) == (k : Int)) = true := by subst h; simp
theorem beqF {n : Nat} (k : Nat) (h : n ≠ k) : ((n : Int) == (k : Int)) = false := by
 have : ¬ (n : Int) = (k : Int) := by omega
 simpa using this
def plainI (c : Nat) : Prop := (97 ≤ c ∧ c ≤ 122) ∨ (65 ≤ c ∧ c ≤ 90) ∨ (48 ≤ c ∧ c ≤ 57) ∨ c = 45 ∨ c = 46 ∨ c = 95 ∨ c = 126
instance (c : Nat) : Decidable (plainI c) := by unfold plainI; infer_instance
theorem plain_runs : ((List.range 256).all fun c => (letter c || digit c || decide (markAt c ≥ 0)) == decide (plainI c)) = true := by kernel_rfl
theorem plain_eq (c : UInt8) : plainB c = decide (plainI c.toNat) := eq_of_beq (all_byte plain_runs c.toNat_lt)
section
variable {x : Value}
theorem quo_runs (x : Value) (p q : Operand) : ((List.range 256).all fun c => isV (c / 16) (pureRun (Kp x).P (do eqGuard .quo 5 p q (.int .u8 c) (.int .u8 16); binOp .quo 5 (.int .u8 c) (.int .u8 16)))) = true := by kernel_rfl
theorem rem_runs (x : Value) (p q : Operand) : ((List.range 256).all fun c => isV (c % 16) (pureRun (Kp x).P (do eqGuard .rem 5 p q (.int .u8 c) (.int .u8 16); binOp .rem 5 (.int .u8 c) (.int .u8 16)))) = true := by kernel_rfl
theorem quo_eq (p q : Operand) (c : UInt8) : pureRun (Kp x).P (do eqGuard .quo 5 p q (.int .u8 c.toNat) (.int .u8 16); binOp .quo 5 (.int .u8 c.toNat) (.int .u8 16)) = some (.int .u8 ((c.toNat / 16 : Nat) : Int)) := isV_of (all_byte (quo_runs x p q) c.toNat_lt)
theorem rem_eq (p q : Operand) (c : UInt8) : pureRun (Kp x).P (do eqGuard .rem 5 p q (.int .u8 c.toNat) (.int .u8 16); binOp .rem 5 (.int .u8 c.toNat) (.int .u8 16)) = some (.int .u8 ((c.toNat % 16 : Nat) : Int)) := isV_of (all_byte (rem_runs x p q) c.toNat_lt)
theorem dig_at : ∀ (d : Nat) (h : d < 16), digs[d]'h = hexDig d := by decide
theorem op_index_dig {f : FuncId} {o : Oper} {R : List AV} {own : Nat → Nat} {H : List AB} {y i : Operand} {k : IntKind} {n : Int} {j : Nat} (ho : o.op = .index 9 y i) (hx : evalO (Kp x) R y = some (.str digs)) (hi : evalO (Kp x) R i = some (.v (.int k n))) (hn : n = (j : Int)) (hj : j < 16) : aOp (Kp x) f ⟨R, own, H⟩ o [] = some (.val (u8v (hexDig j)) own H, [], []) := by
 have h := op_index_str (K := Kp x) (f := f) (own := own) (H := H) (s := digs) (j := j) rfl ho u9 hx hi hn hj
 rw [dig_at j hj] at h
 exact h
theorem build_three (own : Nat → Nat) (H : List AB) (a b c : UInt8) : aBuildSlice (Kp x) false own H 67 3 [(0, u8v a), (1, u8v b), (2, u8v c)] = some (.val (.sl [u8v a, u8v b, u8v c] .full) own H) := by kernel_rfl
set_option maxHeartbeats 3000000 in
theorem enc2_tells (s : List UInt8) (hs : s.length < 4294967281) (H : List AB) : Tells (Kp x) 20 [.str s] H fun r H' => H' = H ∧ r = .str (enc s) := by
 refine Tells.vals (c := _) Tryz.func20 rfl (args' := [.str s]) (m := 70) rfl rfl rfl rfl rfl ?_
 (repeat (first|(with_reducible first|apply jA|apply jC|apply jD|apply jE|apply jF|apply jG|apply jH|apply jI|apply jJ|apply jK|apply jL|apply jM|apply jN|apply jO)|(with_reducible apply SeqQ.id;refine SeqQ.norm (by first|(simp only [j0];rfl)|rfl) ?_)|with_reducible refine jP (by decide) ?_|(with_reducible apply jQ;first|refine jR rfl rfl rfl ?_|refine jS rfl rfl rfl ?_)|((first|((with_reducible first|apply jm|apply jn|apply jb|apply ju);repeat rfl)|((with_reducible apply jy);iterate 3 rfl)|((with_reducible apply jz);iterate 3 rfl)|((with_reducible apply jp);iterate 5 rfl)|((with_reducible apply jq);iterate 5 rfl)|((with_reducible apply jk);exact u9;rfl)|((with_reducible apply jl);exact u67;rfl)|((with_reducible apply Wo.conv);(iterate 2 (with_reducible first|exact u3|exact u5|exact u76|exact u84));rfl));refine jT (by first|(simp only [j0];rfl)|rfl) ?_)))
 refine Wc.inv (fun m st => ∃ (i : Nat) (tl : Tail), m = s.length - i ∧ i ≤ s.length ∧ Mine tl st.own ∧ ∃ d : Nat → AV, st.regs = (.str s :: d 1 :: d 2 :: .str digs :: .sl ((enc (s.take i)).map u8v) tl :: i64v i :: d 6 :: d 7 :: d 8 :: d 9 :: d 10 :: d 11 :: d 12 :: d 13 :: d 14 :: d 15 :: d 16 :: d 17 :: d 18 :: d 19 :: d 20 :: d 21 :: d 22 :: d 23 :: d 24 :: d 25 :: d 26 :: d 27 :: d 28 :: d 29 :: d 30 :: d 31 :: d 32 :: d 33 :: d 34 :: d 35 :: d 36 :: d 37 :: d 38 :: d 39 :: d 40 :: d 41 :: d 42 :: d 43 :: d 44 :: d 45 :: d 46 :: d 47 :: d 48 :: d 49 :: d 50 :: d 51 :: d 52 :: d 53 :: d 54 :: d 55 :: d 56 :: d 57 :: d 58 :: d 59 :: d 60 :: d 61 :: d 62 :: d 63 :: d 64 :: d 65 :: d 66 :: d 67 :: d 68 :: d 69 :: d 70 :: [])) s.length ?_ ?_
 ·exact ⟨0, .nil, rfl, by omega, .inl rfl, dead_of rfl⟩
 ·rintro m regs own H1 ⟨i, tl, rfl, hi, hmt, d, rfl⟩
  have hmt : Mine tl own := hmt
  (repeat (first|(with_reducible first|apply jA|apply jC|apply jD|apply jE|apply jF|apply jG|apply jH|apply jI|apply jJ|apply jK|apply jL|apply jM|apply jN|apply jO)|(with_reducible apply SeqQ.id;refine SeqQ.norm (by first|(simp only [j0];rfl)|rfl) ?_)|with_reducible refine jP (by decide) ?_|(with_reducible apply jQ;first|refine jR rfl rfl rfl ?_|refine jS rfl rfl rfl ?_)|((first|((with_reducible first|apply jm|apply jn|apply jb|apply ju);repeat rfl)|((with_reducible apply jy);iterate 3 rfl)|((with_reducible apply jz);iterate 3 rfl)|((with_reducible apply jp);iterate 5 rfl)|((with_reducible apply jq);iterate 5 rfl)|((with_reducible apply jk);exact u9;rfl)|((with_reducible apply jl);exact u67;rfl)|((with_reducible apply Wo.conv);(iterate 2 (with_reducible first|exact u3|exact u5|exact u76|exact u84));rfl));refine jT (by first|(simp only [j0];rfl)|rfl) ?_)))
  refine Wc.cond rfl rfl (fun h => ?_) (fun h => ?_)
  ·have hlt : i < s.length := by have := of_decide_eq_true h; omega
   have hel := enc_len (s.take i)
   have htl : (s.take i).length ≤ s.length := by rw [List.length_take]; omega
   have hstep := enc_take hlt
   (repeat (first|(with_reducible first|apply jA|apply jC|apply jD|apply jE|apply jF|apply jG|apply jH|apply jI|apply jJ|apply jK|apply jL|apply jM|apply jN|apply jO)|(with_reducible apply SeqQ.id;refine SeqQ.norm (by first|(simp only [j0];rfl)|rfl) ?_)|with_reducible refine jP (by decide) ?_|(with_reducible apply jQ;first|refine jR rfl rfl rfl ?_|refine jS rfl rfl rfl ?_)|((first|((with_reducible first|apply jm|apply jn|apply jb|apply ju);repeat rfl)|((with_reducible apply jy);iterate 3 rfl)|((with_reducible apply jz);iterate 3 rfl)|((with_reducible apply jp);iterate 5 rfl)|((with_reducible apply jq);iterate 5 rfl)|((with_reducible apply jk);exact u9;rfl)|((with_reducible apply jl);exact u67;rfl)|((with_reducible apply Wo.conv);(iterate 2 (with_reducible first|exact u3|exact u5|exact u76|exact u84));rfl));refine jT (by first|(simp only [j0];rfl)|rfl) ?_)))
   refine Wo.doVal rfl rfl (op_index_str (j := i) rfl rfl u9 rfl rfl rfl hlt) ?_
   generalize s[i] = c at hstep
   have hc := c.toNat_lt
   refine Wo.norm (by first | (simp only [setAt]; rfl) | rfl) ?_
   refine Wo.mid (fun st => st.H = H1 ∧ st.own = own ∧ ∃ d : Nat → AV, st.regs = (.str s :: d 1 :: d 2 :: .str digs :: .sl ((enc (s.take i)).map u8v) tl :: i64v i :: u8v c :: d 7 :: d 8 :: d 9 :: d 10 :: d 11 :: d 12 :: d 13 :: d 14 :: d 15 :: d 16 :: d 17 :: d 18 :: d 19 :: d 20 :: d 21 :: d 22 :: d 23 :: d 24 :: d 25 :: d 26 :: d 27 :: d 28 :: d 29 :: d 30 :: d 31 :: d 32 :: d 33 :: d 34 :: d 35 :: d 36 :: d 37 :: d 38 :: d 39 :: d 40 :: d 41 :: d 42 :: d 43 :: d 44 :: d 45 :: d 46 :: d 47 :: d 48 :: d 49 :: d 50 :: d 51 :: d 52 :: d 53 :: d 54 :: d 55 :: d 56 :: d 57 :: d 58 :: d 59 :: d 60 :: d 61 :: d 62 :: d 63 :: d 64 :: d 65 :: d 66 :: d 67 :: d 68 :: d 69 :: d 70 :: [])) ?_ ?_
   ·(repeat (first|(with_reducible first|apply jA|apply jC|apply jD|apply jE|apply jF|apply jG|apply jH|apply jI|apply jJ|apply jK|apply jL|apply jM|apply jN|apply jO)|(with_reducible apply SeqQ.id;refine SeqQ.norm (by first|(simp only [j0];rfl)|rfl) ?_)|with_reducible refine jP (by decide) ?_|(with_reducible apply jQ;first|refine jR rfl rfl rfl ?_|refine jS rfl rfl rfl ?_)|((first|((with_reducible first|apply jm|apply jn|apply jb|apply ju);repeat rfl)|((with_reducible apply jy);iterate 3 rfl)|((with_reducible apply jz);iterate 3 rfl)|((with_reducible apply jp);iterate 5 rfl)|((with_reducible apply jq);iterate 5 rfl)|((with_reducible apply jk);exact u9;rfl)|((with_reducible apply jl);exact u67;rfl)|((with_reducible apply Wo.conv);(iterate 2 (with_reducible first|exact u3|exact u5|exact u76|exact u84));rfl));refine jT (by first|(simp only [j0];rfl)|rfl) ?_)))
    refine ⟨rfl, rfl, rfl, ?_⟩
    refine dead_norm (by first | (simp only [setAt]; rfl) | rfl) ?_; exact dead_of rfl
   rintro R4 own4 H4 ⟨rfl, rfl, d4, rfl⟩
   with_reducible refine SeqQ.id ?_
   refine SeqQ.norm rfl ?_
   with_reducible refine Wc.seq ?_
   with_reducible refine Wc.region ?_
   refine Wo.mid (fun st => st.H = H4 ∧ st.own = own4 ∧ ∃ d : Nat → AV, st.regs = (.str s :: d 1 :: d 2 :: .str digs :: .sl ((enc (s.take i)).map u8v) tl :: i64v i :: u8v c :: d 7 :: d 8 :: d 9 :: d 10 :: d 11 :: d 12 :: d 13 :: d 14 :: d 15 :: d 16 :: d 17 :: d 18 :: d 19 :: d 20 :: d 21 :: d 22 :: d 23 :: d 24 :: d 25 :: d 26 :: d 27 :: d 28 :: d 29 :: d 30 :: d 31 :: d 32 :: d 33 :: d 34 :: d 35 :: d 36 :: d 37 :: d 38 :: d 39 :: d 40 :: d 41 :: d 42 :: d 43 :: d 44 :: d 45 :: d 46 :: d 47 :: d 48 :: d 49 :: d 50 :: d 51 :: d 52 :: .v (.bool (plainB c)) :: d 54 :: d 55 :: d 56 :: d 57 :: d 58 :: d 59 :: d 60 :: d 61 :: d 62 :: d 63 :: d 64 :: d 65 :: d 66 :: d 67 :: d 68 :: d 69 :: d 70 :: [])) ?_ ?_
   ·have hr : (0 ≤ c.toNat ∧ c.toNat ≤ 44) ∨ (45 ≤ c.toNat ∧ c.toNat ≤ 45) ∨ (46 ≤ c.toNat ∧ c.toNat ≤ 46) ∨ (47 ≤ c.toNat ∧ c.toNat ≤ 47) ∨ (48 ≤ c.toNat ∧ c.toNat ≤ 57) ∨ (58 ≤ c.toNat ∧ c.toNat ≤ 64) ∨ (65 ≤ c.toNat ∧ c.toNat ≤ 90) ∨ (91 ≤ c.toNat ∧ c.toNat ≤ 94) ∨ (95 ≤ c.toNat ∧ c.toNat ≤ 95) ∨ (96 ≤ c.toNat ∧ c.toNat ≤ 96) ∨ (97 ≤ c.toNat ∧ c.toNat ≤ 122) ∨ (123 ≤ c.toNat ∧ c.toNat ≤ 125) ∨ (126 ≤ c.toNat ∧ c.toNat ≤ 126) ∨ (127 ≤ c.toNat ∧ c.toNat ≤ 255) := by omega
    rcases hr with ⟨r1, r2⟩ | ⟨r1, r2⟩ | ⟨r1, r2⟩ | ⟨r1, r2⟩ | ⟨r1, r2⟩ | ⟨r1, r2⟩ | ⟨r1, r2⟩ | ⟨r1, r2⟩ | ⟨r1, r2⟩ | ⟨r1, r2⟩ | ⟨r1, r2⟩ | ⟨r1, r2⟩ | ⟨r1, r2⟩ | ⟨r1, r2⟩ <;>
     (first
      | (rw [show plainB c = false from (plain_eq c).trans (decide_eq_false (by unfold plainI; omega))])
      | (rw [show plainB c = true from (plain_eq c).trans (decide_eq_true (by unfold plainI; omega))])
      (repeat (first|(with_reducible first|apply jA|apply jC|apply jD|apply jE|apply jF|apply jG|apply jH|apply jI|apply jJ|apply jK|apply jL|apply jM|apply jN|apply jO)|(with_reducible apply SeqQ.id;refine SeqQ.norm (by first|(simp only [j0];rfl)|rfl) ?_)|with_reducible refine jP (by decide) ?_|(with_reducible apply jQ;first|refine jR rfl rfl rfl ?_|refine jS rfl rfl rfl ?_)|((with_reducible first|apply Wo.isMove|apply Wo.isAssign|apply Wo.isBin);(first|((with_reducible first|apply jm|apply jn|apply jb|apply ju);repeat rfl));refine jT (by first|(simp only [j0];rfl)|rfl) ?_)|rw [decide_eq_true (show (c.toNat : Int) ≥ 97 by omega)]|rw [decide_eq_false (show ¬ (c.toNat : Int) ≥ 97 by omega)]|rw [decide_eq_true (show (c.toNat : Int) ≤ 122 by omega)]|rw [decide_eq_false (show ¬ (c.toNat : Int) ≤ 122 by omega)]|rw [decide_eq_true (show (c.toNat : Int) ≥ 65 by omega)]|rw [decide_eq_false (show ¬ (c.toNat : Int) ≥ 65 by omega)]|rw [decide_eq_true (show (c.toNat : Int) ≤ 90 by omega)]|rw [decide_eq_false (show ¬ (c.toNat : Int) ≤ 90 by omega)]|rw [decide_eq_true (show (c.toNat : Int) ≥ 48 by omega)]|rw [decide_eq_false (show ¬ (c.toNat : Int) ≥ 48 by omega)]|rw [decide_eq_true (show (c.toNat : Int) ≤ 57 by omega)]|rw [decide_eq_false (show ¬ (c.toNat : Int) ≤ 57 by omega)]|rw [show ((c.toNat : Int) == 45) = true from beqT 45 (by omega)]|rw [show ((c.toNat : Int) == 45) = false from beqF 45 (by omega)]|rw [show ((c.toNat : Int) == 46) = true from beqT 46 (by omega)]|rw [show ((c.toNat : Int) == 46) = false from beqF 46 (by omega)]|rw [show ((c.toNat : Int) == 95) = true from beqT 95 (by omega)]|rw [show ((c.toNat : Int) == 95) = false from beqF 95 (by omega)]|rw [show ((c.toNat : Int) == 126) = true from beqT 126 (by omega)]|rw [show ((c.toNat : Int) == 126) = false from beqF 126 (by omega)]|((first|((with_reducible first|apply jm|apply jn|apply jb|apply ju);repeat rfl)|((with_reducible apply jy);iterate 3 rfl)|((with_reducible apply jz);iterate 3 rfl)|((with_reducible apply jv);rfl)|((with_reducible apply jp);iterate 5 rfl)|((with_reducible apply jq);iterate 5 rfl)|((with_reducible apply jk);exact u9;rfl)|((with_reducible apply jl);exact u67;rfl)|((with_reducible apply Wo.conv);(iterate 2 (with_reducible first|exact u3|exact u5|exact u76|exact u84));rfl));refine jT (by first|(simp only [j0];rfl)|rfl) ?_)))
      refine ⟨rfl, rfl, rfl, ?_⟩
      refine dead_norm (by first | (simp only [setAt]; rfl) | rfl) ?_; exact dead_of rfl)
   rintro R3 own3 H3 ⟨rfl, rfl, d3, rfl⟩
   (repeat (first|(with_reducible first|apply jA|apply jC|apply jD|apply jE|apply jF|apply jG|apply jH|apply jI|apply jJ|apply jK|apply jL|apply jM|apply jN|apply jO)|(with_reducible apply SeqQ.id;refine SeqQ.norm (by first|(simp only [j0];rfl)|rfl) ?_)|with_reducible refine jP (by decide) ?_|(with_reducible apply jQ;first|refine jR rfl rfl rfl ?_|refine jS rfl rfl rfl ?_)|((first|((with_reducible first|apply jm|apply jn|apply jb|apply ju);repeat rfl)|((with_reducible apply jy);iterate 3 rfl)|((with_reducible apply jz);iterate 3 rfl)|((with_reducible apply jp);iterate 5 rfl)|((with_reducible apply jq);iterate 5 rfl)|((with_reducible apply jk);exact u9;rfl)|((with_reducible apply jl);exact u67;rfl)|((with_reducible apply Wo.conv);(iterate 2 (with_reducible first|exact u3|exact u5|exact u76|exact u84));rfl));refine jT (by first|(simp only [j0];rfl)|rfl) ?_)))
   refine Wc.cond rfl rfl (fun hp => ?_) (fun hp => ?_)
   ·have he : encB c = [c] := by unfold encB; rw [if_pos hp]
    (repeat (first|(with_reducible first|apply jA|apply jC|apply jD|apply jE|apply jF|apply jG|apply jH|apply jI|apply jJ|apply jK|apply jL|apply jM|apply jN|apply jO)|(with_reducible apply SeqQ.id;refine SeqQ.norm (by first|(simp only [j0];rfl)|rfl) ?_)|with_reducible refine jP (by decide) ?_|(with_reducible apply jQ;first|refine jR rfl rfl rfl ?_|refine jS rfl rfl rfl ?_)|((first|((with_reducible first|apply jm|apply jn|apply jb|apply ju);repeat rfl)|((with_reducible apply jy);iterate 3 rfl)|((with_reducible apply jz);iterate 3 rfl)|((with_reducible apply jp);iterate 5 rfl)|((with_reducible apply jq);iterate 5 rfl)|((with_reducible apply jk);exact u9;rfl)|((with_reducible apply jl);exact u67;rfl)|((with_reducible apply Wo.conv);(iterate 2 (with_reducible first|exact u3|exact u5|exact u76|exact u84));rfl));refine jT (by first|(simp only [j0];rfl)|rfl) ?_)))
    refine Wo.doVal rfl rfl (op_buildSlice (qs := [(0, u8v c)]) rfl rfl rfl (build_one u67 sz5 z5 rfl rfl rfl rfl rfl)) ?_
    refine Wo.app_own (bs := enc (s.take i)) (ys := [c]) rfl rfl rfl rfl rfl rfl hmt rfl (by simp) (by simp; omega) (fun own' hown => ?_)
    rw [show enc (s.take i) ++ [c] = enc (s.take (i + 1)) by rw [hstep, he]]
    refine Wo.norm (by first | (simp only [setAt]; rfl) | rfl) ?_
    (repeat (first|(with_reducible first|apply jA|apply jC|apply jD|apply jE|apply jF|apply jG|apply jH|apply jI|apply jJ|apply jK|apply jL|apply jM|apply jN|apply jO)|(with_reducible apply SeqQ.id;refine SeqQ.norm (by first|(simp only [j0];rfl)|rfl) ?_)|with_reducible refine jP (by decide) ?_|(with_reducible apply jQ;first|refine jR rfl rfl rfl ?_|refine jS rfl rfl rfl ?_)|((first|((with_reducible first|apply jm|apply jn|apply jb|apply ju);repeat rfl)|((with_reducible apply jy);iterate 3 rfl)|((with_reducible apply jz);iterate 3 rfl)|((with_reducible apply jp);iterate 5 rfl)|((with_reducible apply jq);iterate 5 rfl)|((with_reducible apply jk);exact u9;rfl)|((with_reducible apply jl);exact u67;rfl)|((with_reducible apply Wo.conv);(iterate 2 (with_reducible first|exact u3|exact u5|exact u76|exact u84));rfl));refine jT (by first|(simp only [j0];rfl)|rfl) ?_)))
    rw [show IntKind.i64.wrap ((i : Int) + 1) = ((i + 1 : Nat) : Int) from wk (k := 1) (by omega)]
    exact LoopQ.normal (s.length - (i + 1)) (by omega) ⟨i + 1, _, rfl, by omega, hown, dead_of rfl⟩
   ·have he : encB c = [37, hexDig (c.toNat / 16), hexDig (c.toNat % 16)] := by unfold encB; rw [if_neg (by rw [hp]; simp)]
    (repeat (first|(with_reducible first|apply jA|apply jC|apply jD|apply jE|apply jF|apply jG|apply jH|apply jI|apply jJ|apply jK|apply jL|apply jM|apply jN|apply jO)|(with_reducible apply SeqQ.id;refine SeqQ.norm (by first|(simp only [j0];rfl)|rfl) ?_)|with_reducible refine jP (by decide) ?_|(with_reducible apply jQ;first|refine jR rfl rfl rfl ?_|refine jS rfl rfl rfl ?_)|((first|((with_reducible first|apply jm|apply jn|apply jb|apply ju);repeat rfl)|((with_reducible apply jy);iterate 3 rfl)|((with_reducible apply jz);iterate 3 rfl)|((with_reducible apply jp);iterate 5 rfl)|((with_reducible apply jq);iterate 5 rfl)|((with_reducible apply jk);exact u9;rfl)|((with_reducible apply jl);exact u67;rfl)|((with_reducible apply Wo.conv);(iterate 2 (with_reducible first|exact u3|exact u5|exact u76|exact u84));rfl));refine jT (by first|(simp only [j0];rfl)|rfl) ?_)))
    refine Wc.drawn rfl (by kernel_rfl) ?_
    ((first | refine Wd.go0 rfl rfl ?_ | refine Wd.go1 rfl rfl rfl rfl ?_); refine Wy.val rfl (op_move rfl rfl) rfl ?_; refine Wd.norm (by first | (simp only [setAt]; rfl) | rfl) ?_)
    ((first | refine Wd.go0 rfl rfl ?_ | refine Wd.go1 rfl rfl rfl rfl ?_); refine Wy.val rfl (op_move rfl rfl) rfl ?_; refine Wd.norm (by first | (simp only [setAt]; rfl) | rfl) ?_)
    ((first | refine Wd.go0 rfl rfl ?_ | refine Wd.go1 rfl rfl rfl rfl ?_); refine Wy.val rfl (op_move rfl rfl) rfl ?_; refine Wd.norm (by first | (simp only [setAt]; rfl) | rfl) ?_)
    ((first | refine Wd.go0 rfl rfl ?_ | refine Wd.go1 rfl rfl rfl rfl ?_); refine Wy.val rfl (op_bin (r := .int .u8 ((c.toNat / 16 : Nat) : Int)) rfl rfl rfl (quo_eq _ _ c) rfl) rfl ?_; refine Wd.norm (by first | (simp only [setAt]; rfl) | rfl) ?_)
    ((first | refine Wd.go0 rfl rfl ?_ | refine Wd.go1 rfl rfl rfl rfl ?_); refine Wy.val rfl (op_index_dig (j := c.toNat / 16) rfl rfl rfl rfl (by omega)) rfl ?_; refine Wd.norm (by first | (simp only [setAt]; rfl) | rfl) ?_)
    ((first | refine Wd.go0 rfl rfl ?_ | refine Wd.go1 rfl rfl rfl rfl ?_); refine Wy.val rfl (op_move rfl rfl) rfl ?_; refine Wd.norm (by first | (simp only [setAt]; rfl) | rfl) ?_)
    ((first | refine Wd.go0 rfl rfl ?_ | refine Wd.go1 rfl rfl rfl rfl ?_); refine Wy.val rfl (op_move rfl rfl) rfl ?_; refine Wd.norm (by first | (simp only [setAt]; rfl) | rfl) ?_)
    ((first | refine Wd.go0 rfl rfl ?_ | refine Wd.go1 rfl rfl rfl rfl ?_); refine Wy.val rfl (op_bin (r := .int .u8 ((c.toNat % 16 : Nat) : Int)) rfl rfl rfl (rem_eq _ _ c) rfl) rfl ?_; refine Wd.norm (by first | (simp only [setAt]; rfl) | rfl) ?_)
    ((first | refine Wd.go0 rfl rfl ?_ | refine Wd.go1 rfl rfl rfl rfl ?_); refine Wy.val rfl (op_index_dig (j := c.toNat % 16) rfl rfl rfl rfl (by omega)) rfl ?_; refine Wd.norm (by first | (simp only [setAt]; rfl) | rfl) ?_)
    ((first | refine Wd.go0 rfl rfl ?_ | refine Wd.go1 rfl rfl rfl rfl ?_); refine Wy.val rfl (op_buildSlice (qs := [(0, u8v 37), (1, u8v (hexDig (c.toNat / 16))), (2, u8v (hexDig (c.toNat % 16)))]) rfl rfl rfl (build_three _ _ _ _ _)) rfl ?_; refine Wd.norm (by first | (simp only [setAt]; rfl) | rfl) ?_)
    refine Wd.go0 rfl rfl ?_
    refine Wy.app_own (bs := enc (s.take i)) (ys := [37, hexDig (c.toNat / 16), hexDig (c.toNat % 16)]) rfl rfl rfl rfl rfl hmt rfl (by simp) (by simp; omega) rfl (fun own' hown => ?_)
    rw [show enc (s.take i) ++ [37, hexDig (c.toNat / 16), hexDig (c.toNat % 16)] = enc (s.take (i + 1)) by rw [hstep, he]]
    refine Wd.norm (by first | (simp only [setAt]; rfl) | rfl) ?_
    ((first | refine Wd.go0 rfl rfl ?_ | refine Wd.go1 rfl rfl rfl rfl ?_); refine Wy.val rfl (op_assign rfl rfl) rfl ?_; refine Wd.norm (by first | (simp only [setAt]; rfl) | rfl) ?_)
    refine Wd.nil ?_
    (repeat (first|(with_reducible first|apply jA|apply jC|apply jD|apply jE|apply jF|apply jG|apply jH|apply jI|apply jJ|apply jK|apply jL|apply jM|apply jN|apply jO)|(with_reducible apply SeqQ.id;refine SeqQ.norm (by first|(simp only [j0];rfl)|rfl) ?_)|with_reducible refine jP (by decide) ?_|(with_reducible apply jQ;first|refine jR rfl rfl rfl ?_|refine jS rfl rfl rfl ?_)|((first|((with_reducible first|apply jm|apply jn|apply jb|apply ju);repeat rfl)|((with_reducible apply jy);iterate 3 rfl)|((with_reducible apply jz);iterate 3 rfl)|((with_reducible apply jp);iterate 5 rfl)|((with_reducible apply jq);iterate 5 rfl)|((with_reducible apply jk);exact u9;rfl)|((with_reducible apply jl);exact u67;rfl)|((with_reducible apply Wo.conv);(iterate 2 (with_reducible first|exact u3|exact u5|exact u76|exact u84));rfl));refine jT (by first|(simp only [j0];rfl)|rfl) ?_)))
    rw [show IntKind.i64.wrap ((i : Int) + 1) = ((i + 1 : Nat) : Int) from wk (k := 1) (by omega)]
    exact LoopQ.normal (s.length - (i + 1)) (by omega) ⟨i + 1, _, rfl, by omega, hown, dead_of rfl⟩
  ·have h2 : i = s.length := by have := of_decide_eq_false h; omega
   (repeat (first|(with_reducible first|apply jA|apply jC|apply jD|apply jE|apply jF|apply jG|apply jH|apply jI|apply jJ|apply jK|apply jL|apply jM|apply jN|apply jO)|(with_reducible apply SeqQ.id;refine SeqQ.norm (by first|(simp only [j0];rfl)|rfl) ?_)|with_reducible refine jP (by decide) ?_|(with_reducible apply jQ;first|refine jR rfl rfl rfl ?_|refine jS rfl rfl rfl ?_)|((first|((with_reducible first|apply jm|apply jn|apply jb|apply ju);repeat rfl)|((with_reducible apply jy);iterate 3 rfl)|((with_reducible apply jz);iterate 3 rfl)|((with_reducible apply jp);iterate 5 rfl)|((with_reducible apply jq);iterate 5 rfl)|((with_reducible apply jk);exact u9;rfl)|((with_reducible apply jl);exact u67;rfl)|((with_reducible apply Wo.conv);(iterate 2 (with_reducible first|exact u3|exact u5|exact u76|exact u84));rfl));refine jT (by first|(simp only [j0];rfl)|rfl) ?_)))
   refine Wo.doVal rfl rfl (op_conv_text rfl u67 u9 u5 rfl) ?_
   (repeat (first|(with_reducible first|apply jA|apply jC|apply jD|apply jE|apply jF|apply jG|apply jH|apply jI|apply jJ|apply jK|apply jL|apply jM|apply jN|apply jO)|(with_reducible apply SeqQ.id;refine SeqQ.norm (by first|(simp only [j0];rfl)|rfl) ?_)|with_reducible refine jP (by decide) ?_|(with_reducible apply jQ;first|refine jR rfl rfl rfl ?_|refine jS rfl rfl rfl ?_)|((first|((with_reducible first|apply jm|apply jn|apply jb|apply ju);repeat rfl)|((with_reducible apply jy);iterate 3 rfl)|((with_reducible apply jz);iterate 3 rfl)|((with_reducible apply jp);iterate 5 rfl)|((with_reducible apply jq);iterate 5 rfl)|((with_reducible apply jk);exact u9;rfl)|((with_reducible apply jl);exact u67;rfl)|((with_reducible apply Wo.conv);(iterate 2 (with_reducible first|exact u3|exact u5|exact u76|exact u84));rfl));refine jT (by first|(simp only [j0];rfl)|rfl) ?_)))
   refine EndQ.ret rfl ⟨_, rfl, rfl, rfl, ?_⟩
   rw [h2, List.take_length]
end
end Go.Proofs
