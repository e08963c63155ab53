/- HpDec, HpOwn, joined. -/
import Derived.Test.YtfihfpgphipglaaGreatDoorHpC
set_option linter.unusedVariables false
set_option linter.unusedSimpArgs false
set_option linter.unusedSectionVars false
section
namespace Go.Proofs
open Go.Tm
set_option maxRecDepth 100000
abbrev byteOf (n : Nat) : UInt8 := UInt8.ofNat n
def dec : List UInt8 → Option (List UInt8)
 | [] => some []
 | c :: r => if c = 37 then match r with
  | a :: b :: t => if hexOf a.toNat = 16 ∨ hexOf b.toNat = 16 then none else (dec t).map (byteOf (hexOf a.toNat * 16 + hexOf b.toNat) :: ·)
  | _ => none
  else (dec r).map (c :: ·)
def decV (s : List UInt8) : AV := match dec s with
 | some l => .tup [.str l, .v (.bool true)]
 | none => .tup [.str [], .v (.bool false)]
theorem dec_no : ∀ {s : List UInt8}, 37 ∉ s → dec s = some s
 | [], _ => rfl
 | c :: r, h => by
  have e : c ≠ 37 := fun q => h (by simp [q])
  unfold dec
  rw [if_neg e, dec_no (s := r) fun q => h (by simp [q])]
  rfl
theorem dec_has : ∀ {s : List UInt8}, 37 ∈ s → dec s = (dec (37 :: post s)).map (pre s ++ ·)
 | [], h => by cases h
 | c :: r, h => by
  by_cases e : c = 37
  ·subst e
   have h1 : pre (37 :: r) = [] := by simp [pre]
   have h2 : post (37 :: r) = r := by simp [post, h1]
   rw [h1, h2]
   cases dec (37 :: r) <;> rfl
  ·have hr : 37 ∈ r := by rcases List.mem_cons.1 h with h | h; exact absurd h.symm e; exact h
   have h1 : pre (c :: r) = c :: pre r := by simp [pre, List.takeWhile_cons, e]
   have h2 : post (c :: r) = post r := by simp [post, h1]
   rw [h1, h2]
   conv => lhs; unfold dec
   rw [if_neg e, dec_has hr]
   cases dec (37 :: post r) <;> rfl
theorem post_len {s : List UInt8} (h : 37 ∈ s) : (pre s).length + (post s).length + 1 = s.length := by
 have := (index_has h).2
 unfold post
 rw [List.length_drop]
 omega
theorem no_sign : ((List.range 256).all fun c => (decide (hexOf c = 16)) || (!((c : Int) == 43) && !((c : Int) == 45))) = true := by kernel_rfl
theorem ne43 {c : UInt8} (h : hexOf c.toNat ≠ 16) : ((c.toNat : Int) == 43) = false := by
 have := all_byte no_sign c.toNat_lt
 simp only [decide_eq_false h, Bool.false_or, Bool.and_eq_true, Bool.not_eq_true'] at this
 exact this.1
theorem ne45 {c : UInt8} (h : hexOf c.toNat ≠ 16) : ((c.toNat : Int) == 45) = false := by
 have := all_byte no_sign c.toNat_lt
 simp only [decide_eq_false h, Bool.false_or, Bool.and_eq_true, Bool.not_eq_true'] at this
 exact this.2
theorem byteOf_nat {n : Nat} (h : n < 256) : (byteOf n).toNat = n := by
 rw [UInt8.toNat_ofNat']
 omega
theorem w8 {n : Nat} (h : n < 256) : IntKind.u8.wrap (n : Int) = ((byteOf n).toNat : Int) := by
 rw [byteOf_nat h, IntKind.wrap_u8]
 omega
section
variable {x : Value}
theorem z69 : tZero (Kp x).P 69 = some (.agg [.v (.pointer none), .sl [] .nil]) := by kernel_rfl
set_option maxHeartbeats 4000000 in
theorem dec_tells (s : List UInt8) (hs : s.length < 4294967281) (H : List AB) : Tells (Kp x) 16 [.str s] H fun r H' => H' = H ∧ r = decV s := by
 refine Tells.vals (c := _) Tryz.func16 rfl (args' := [.str s]) (m := 49) rfl rfl rfl rfl rfl ?_
 (repeat (first|(with_reducible first|apply jA|apply jC|apply jD|apply jE|apply jF|apply jG|apply jH|apply jI|apply jJ|apply jK|apply jL|apply jM|apply jN|apply jO)|(with_reducible apply SeqQ.id;refine SeqQ.norm (by first|(simp only [j0];rfl)|rfl) ?_)|with_reducible refine jP (by decide) ?_|(with_reducible apply jQ;first|refine jR rfl rfl rfl ?_|refine jS rfl rfl rfl ?_)|((first|((with_reducible first|apply jm|apply jn|apply jb|apply ju);repeat rfl)|((with_reducible apply jy);iterate 3 rfl)|((with_reducible apply jz);iterate 3 rfl)|((with_reducible apply jp);iterate 5 rfl)|((with_reducible apply jq);iterate 5 rfl)|((with_reducible apply jk);exact u9;rfl)|((with_reducible apply jl);exact u67;rfl)|((with_reducible apply Wo.conv);(iterate 2 (with_reducible first|exact u3|exact u5|exact u76|exact u84));rfl));refine jT (by first|(simp only [j0];rfl)|rfl) ?_)))
 refine Wo.doVal rfl rfl (op_alloc rfl z69 rfl) ?_
 (repeat (first|(with_reducible first|apply jA|apply jC|apply jD|apply jE|apply jF|apply jG|apply jH|apply jI|apply jJ|apply jK|apply jL|apply jM|apply jN|apply jO)|(with_reducible apply SeqQ.id;refine SeqQ.norm (by first|(simp only [j0];rfl)|rfl) ?_)|with_reducible refine jP (by decide) ?_|(with_reducible apply jQ;first|refine jR rfl rfl rfl ?_|refine jS rfl rfl rfl ?_)|((first|((with_reducible first|apply jm|apply jn|apply jb|apply ju);repeat rfl)|((with_reducible apply jy);iterate 3 rfl)|((with_reducible apply jz);iterate 3 rfl)|((with_reducible apply jp);iterate 5 rfl)|((with_reducible apply jq);iterate 5 rfl)|((with_reducible apply jk);exact u9;rfl)|((with_reducible apply jl);exact u67;rfl)|((with_reducible apply Wo.conv);(iterate 2 (with_reducible first|exact u3|exact u5|exact u76|exact u84));rfl));refine jT (by first|(simp only [j0];rfl)|rfl) ?_)))
 refine Wc.inv (fun m st => ∃ (t bs : List UInt8), m = t.length ∧ bs.length + t.length ≤ s.length ∧ dec s = (dec t).map (bs ++ ·) ∧ Bld st.H 0 bs ∧ ∃ d : Nat → AV, st.regs = (.str t :: d 1 :: .str [] :: .v (.bool false) :: .ptr 0 0 :: d 5 :: d 6 :: d 7 :: d 8 :: d 9 :: d 10 :: d 11 :: d 12 :: d 13 :: d 14 :: d 15 :: d 16 :: d 17 :: d 18 :: d 19 :: d 20 :: d 21 :: d 22 :: d 23 :: d 24 :: d 25 :: d 26 :: d 27 :: d 28 :: d 29 :: d 30 :: d 31 :: d 32 :: d 33 :: d 34 :: d 35 :: d 36 :: d 37 :: d 38 :: d 39 :: d 40 :: d 41 :: d 42 :: d 43 :: d 44 :: d 45 :: d 46 :: d 47 :: d 48 :: d 49 :: [])) s.length ?_ ?_
 ·exact ⟨s, [], rfl, by simp, by cases dec s <;> rfl, .inl ⟨rfl, _, .inl rfl, rfl⟩, dead_of rfl⟩
 ·rintro m regs own H1 ⟨t, bs, rfl, hl, hd, hb, d, rfl⟩
  have hb : Bld H1 0 bs := hb
  (repeat (first|(with_reducible first|apply jA|apply jC|apply jD|apply jE|apply jF|apply jG|apply jH|apply jI|apply jJ|apply jK|apply jL|apply jM|apply jN|apply jO)|(with_reducible apply SeqQ.id;refine SeqQ.norm (by first|(simp only [j0];rfl)|rfl) ?_)|with_reducible refine jP (by decide) ?_|(with_reducible apply jQ;first|refine jR rfl rfl rfl ?_|refine jS rfl rfl rfl ?_)|((first|((with_reducible first|apply jm|apply jn|apply jb|apply ju);repeat rfl)|((with_reducible apply jy);iterate 3 rfl)|((with_reducible apply jz);iterate 3 rfl)|((with_reducible apply jp);iterate 5 rfl)|((with_reducible apply jq);iterate 5 rfl)|((with_reducible apply jk);exact u9;rfl)|((with_reducible apply jl);exact u67;rfl)|((with_reducible apply Wo.conv);(iterate 2 (with_reducible first|exact u3|exact u5|exact u76|exact u84));rfl));refine jT (by first|(simp only [j0];rfl)|rfl) ?_)))
  refine Wo.doVal rfl rfl (op_bin_str (r := .v (.bool (!(t == [])))) rfl rfl rfl rfl) ?_
  (repeat (first|(with_reducible first|apply jA|apply jC|apply jD|apply jE|apply jF|apply jG|apply jH|apply jI|apply jJ|apply jK|apply jL|apply jM|apply jN|apply jO)|(with_reducible apply SeqQ.id;refine SeqQ.norm (by first|(simp only [j0];rfl)|rfl) ?_)|with_reducible refine jP (by decide) ?_|(with_reducible apply jQ;first|refine jR rfl rfl rfl ?_|refine jS rfl rfl rfl ?_)|((first|((with_reducible first|apply jm|apply jn|apply jb|apply ju);repeat rfl)|((with_reducible apply jy);iterate 3 rfl)|((with_reducible apply jz);iterate 3 rfl)|((with_reducible apply jp);iterate 5 rfl)|((with_reducible apply jq);iterate 5 rfl)|((with_reducible apply jk);exact u9;rfl)|((with_reducible apply jl);exact u67;rfl)|((with_reducible apply Wo.conv);(iterate 2 (with_reducible first|exact u3|exact u5|exact u76|exact u84));rfl));refine jT (by first|(simp only [j0];rfl)|rfl) ?_)))
  by_cases ht : t = []
  ·subst ht
   refine Wc.condF rfl rfl rfl ?_
   (repeat (first|(with_reducible first|apply jA|apply jC|apply jD|apply jE|apply jF|apply jG|apply jH|apply jI|apply jJ|apply jK|apply jL|apply jM|apply jN|apply jO)|(with_reducible apply SeqQ.id;refine SeqQ.norm (by first|(simp only [j0];rfl)|rfl) ?_)|with_reducible refine jP (by decide) ?_|(with_reducible apply jQ;first|refine jR rfl rfl rfl ?_|refine jS rfl rfl rfl ?_)|((first|((with_reducible first|apply jm|apply jn|apply jb|apply ju);repeat rfl)|((with_reducible apply jy);iterate 3 rfl)|((with_reducible apply jz);iterate 3 rfl)|((with_reducible apply jp);iterate 5 rfl)|((with_reducible apply jq);iterate 5 rfl)|((with_reducible apply jk);exact u9;rfl)|((with_reducible apply jl);exact u67;rfl)|((with_reducible apply Wo.conv);(iterate 2 (with_reducible first|exact u3|exact u5|exact u76|exact u84));rfl));refine jT (by first|(simp only [j0];rfl)|rfl) ?_)))
   refine Wo.doCall rfl rfl (op_call (args := [.ptr 0 0]) rfl rfl) ((str_tells _ 0 _ hb (by first | omega | (simp only [List.length_append]; omega))).mono ?_)
   rintro r2 H3 rfl
   (repeat (first|(with_reducible first|apply jA|apply jC|apply jD|apply jE|apply jF|apply jG|apply jH|apply jI|apply jJ|apply jK|apply jL|apply jM|apply jN|apply jO)|(with_reducible apply SeqQ.id;refine SeqQ.norm (by first|(simp only [j0];rfl)|rfl) ?_)|with_reducible refine jP (by decide) ?_|(with_reducible apply jQ;first|refine jR rfl rfl rfl ?_|refine jS rfl rfl rfl ?_)|((first|((with_reducible first|apply jm|apply jn|apply jb|apply ju);repeat rfl)|((with_reducible apply jy);iterate 3 rfl)|((with_reducible apply jz);iterate 3 rfl)|((with_reducible apply jp);iterate 5 rfl)|((with_reducible apply jq);iterate 5 rfl)|((with_reducible apply jk);exact u9;rfl)|((with_reducible apply jl);exact u67;rfl)|((with_reducible apply Wo.conv);(iterate 2 (with_reducible first|exact u3|exact u5|exact u76|exact u84));rfl));refine jT (by first|(simp only [j0];rfl)|rfl) ?_)))
   refine EndQ.ret rfl ⟨_, rfl, rfl, rfl, ?_⟩
   unfold decV
   rw [hd]
   simp [dec]
   rfl
  ·refine Wc.condT rfl rfl (by simp [ht]) ?_
   (repeat (first|(with_reducible first|apply jA|apply jC|apply jD|apply jE|apply jF|apply jG|apply jH|apply jI|apply jJ|apply jK|apply jL|apply jM|apply jN|apply jO)|(with_reducible apply SeqQ.id;refine SeqQ.norm (by first|(simp only [j0];rfl)|rfl) ?_)|with_reducible refine jP (by decide) ?_|(with_reducible apply jQ;first|refine jR rfl rfl rfl ?_|refine jS rfl rfl rfl ?_)|((first|((with_reducible first|apply jm|apply jn|apply jb|apply ju);repeat rfl)|((with_reducible apply jy);iterate 3 rfl)|((with_reducible apply jz);iterate 3 rfl)|((with_reducible apply jp);iterate 5 rfl)|((with_reducible apply jq);iterate 5 rfl)|((with_reducible apply jk);exact u9;rfl)|((with_reducible apply jl);exact u67;rfl)|((with_reducible apply Wo.conv);(iterate 2 (with_reducible first|exact u3|exact u5|exact u76|exact u84));rfl));refine jT (by first|(simp only [j0];rfl)|rfl) ?_)))
   refine Wo.doCall rfl rfl (op_call (args := [.str t, .str [37]]) rfl rfl) ((cut_tells t (by omega) _).mono ?_)
   rintro r1 H2 ⟨rfl, rfl⟩
   unfold cutV
   (repeat (first|(with_reducible first|apply jA|apply jC|apply jD|apply jE|apply jF|apply jG|apply jH|apply jI|apply jJ|apply jK|apply jL|apply jM|apply jN|apply jO)|(with_reducible apply SeqQ.id;refine SeqQ.norm (by first|(simp only [j0];rfl)|rfl) ?_)|with_reducible refine jP (by decide) ?_|(with_reducible apply jQ;first|refine jR rfl rfl rfl ?_|refine jS rfl rfl rfl ?_)|((first|((with_reducible first|apply jm|apply jn|apply jb|apply ju);repeat rfl)|((with_reducible apply jy);iterate 3 rfl)|((with_reducible apply jz);iterate 3 rfl)|((with_reducible apply jp);iterate 5 rfl)|((with_reducible apply jq);iterate 5 rfl)|((with_reducible apply jk);exact u9;rfl)|((with_reducible apply jl);exact u67;rfl)|((with_reducible apply Wo.conv);(iterate 2 (with_reducible first|exact u3|exact u5|exact u76|exact u84));rfl));refine jT (by first|(simp only [j0];rfl)|rfl) ?_)))
   refine Wo.doVal rfl rfl (op_extract rfl rfl rfl) ?_
   refine Wo.doVal rfl rfl (op_extract rfl rfl rfl) ?_
   refine Wo.doVal rfl rfl (op_extract rfl rfl rfl) ?_
   (repeat (first|(with_reducible first|apply jA|apply jC|apply jD|apply jE|apply jF|apply jG|apply jH|apply jI|apply jJ|apply jK|apply jL|apply jM|apply jN|apply jO)|(with_reducible apply SeqQ.id;refine SeqQ.norm (by first|(simp only [j0];rfl)|rfl) ?_)|with_reducible refine jP (by decide) ?_|(with_reducible apply jQ;first|refine jR rfl rfl rfl ?_|refine jS rfl rfl rfl ?_)|((first|((with_reducible first|apply jm|apply jn|apply jb|apply ju);repeat rfl)|((with_reducible apply jy);iterate 3 rfl)|((with_reducible apply jz);iterate 3 rfl)|((with_reducible apply jp);iterate 5 rfl)|((with_reducible apply jq);iterate 5 rfl)|((with_reducible apply jk);exact u9;rfl)|((with_reducible apply jl);exact u67;rfl)|((with_reducible apply Wo.conv);(iterate 2 (with_reducible first|exact u3|exact u5|exact u76|exact u84));rfl));refine jT (by first|(simp only [j0];rfl)|rfl) ?_)))
   have hpl : (pre t).length ≤ t.length := by rw [← pre_take t, List.length_take]; omega
   refine Wo.doCall rfl rfl (op_call (args := [.ptr 0 0, .str (pre t)]) rfl rfl) ((ws_tells _ 0 bs (pre t) hb (by omega)).mono ?_)
   rintro r1 H2 hb
   by_cases hm : 37 ∈ t
   ·rw [decide_eq_true hm]
    (repeat (first|(with_reducible first|apply jA|apply jC|apply jD|apply jE|apply jF|apply jG|apply jH|apply jI|apply jJ|apply jK|apply jL|apply jM|apply jN|apply jO)|(with_reducible apply SeqQ.id;refine SeqQ.norm (by first|(simp only [j0];rfl)|rfl) ?_)|with_reducible refine jP (by decide) ?_|(with_reducible apply jQ;first|refine jR rfl rfl rfl ?_|refine jS rfl rfl rfl ?_)|((first|((with_reducible first|apply jm|apply jn|apply jb|apply ju);repeat rfl)|((with_reducible apply jy);iterate 3 rfl)|((with_reducible apply jz);iterate 3 rfl)|((with_reducible apply jp);iterate 5 rfl)|((with_reducible apply jq);iterate 5 rfl)|((with_reducible apply jk);exact u9;rfl)|((with_reducible apply jl);exact u67;rfl)|((with_reducible apply Wo.conv);(iterate 2 (with_reducible first|exact u3|exact u5|exact u76|exact u84));rfl));refine jT (by first|(simp only [j0];rfl)|rfl) ?_)))
    have hpost := post_len hm
    rw [dec_has hm] at hd
    generalize post t = u at *
    match u, hd with
    | [], hd =>
     (repeat (first|(with_reducible first|apply jA|apply jC|apply jD|apply jE|apply jF|apply jG|apply jH|apply jI|apply jJ|apply jK|apply jL|apply jM|apply jN|apply jO)|(with_reducible apply SeqQ.id;refine SeqQ.norm (by first|(simp only [j0];rfl)|rfl) ?_)|with_reducible refine jP (by decide) ?_|(with_reducible apply jQ;first|refine jR rfl rfl rfl ?_|refine jS rfl rfl rfl ?_)|((first|((with_reducible first|apply jm|apply jn|apply jb|apply ju);repeat rfl)|((with_reducible apply jy);iterate 3 rfl)|((with_reducible apply jz);iterate 3 rfl)|((with_reducible apply jp);iterate 5 rfl)|((with_reducible apply jq);iterate 5 rfl)|((with_reducible apply jk);exact u9;rfl)|((with_reducible apply jl);exact u67;rfl)|((with_reducible apply Wo.conv);(iterate 2 (with_reducible first|exact u3|exact u5|exact u76|exact u84));rfl));refine jT (by first|(simp only [j0];rfl)|rfl) ?_)))
     refine EndQ.ret rfl ⟨_, rfl, rfl, rfl, ?_⟩
     unfold decV
     rw [hd]
     rfl
    | [a], hd =>
     (repeat (first|(with_reducible first|apply jA|apply jC|apply jD|apply jE|apply jF|apply jG|apply jH|apply jI|apply jJ|apply jK|apply jL|apply jM|apply jN|apply jO)|(with_reducible apply SeqQ.id;refine SeqQ.norm (by first|(simp only [j0];rfl)|rfl) ?_)|with_reducible refine jP (by decide) ?_|(with_reducible apply jQ;first|refine jR rfl rfl rfl ?_|refine jS rfl rfl rfl ?_)|((first|((with_reducible first|apply jm|apply jn|apply jb|apply ju);repeat rfl)|((with_reducible apply jy);iterate 3 rfl)|((with_reducible apply jz);iterate 3 rfl)|((with_reducible apply jp);iterate 5 rfl)|((with_reducible apply jq);iterate 5 rfl)|((with_reducible apply jk);exact u9;rfl)|((with_reducible apply jl);exact u67;rfl)|((with_reducible apply Wo.conv);(iterate 2 (with_reducible first|exact u3|exact u5|exact u76|exact u84));rfl));refine jT (by first|(simp only [j0];rfl)|rfl) ?_)))
     refine EndQ.ret rfl ⟨_, rfl, rfl, rfl, ?_⟩
     unfold decV
     rw [hd]
     rfl
    | a :: b :: t', hd =>
     (repeat (first|(with_reducible first|apply jA|apply jC|apply jD|apply jE|apply jF|apply jG|apply jH|apply jI|apply jJ|apply jK|apply jL|apply jM|apply jN|apply jO)|(with_reducible apply SeqQ.id;refine SeqQ.norm (by first|(simp only [j0];rfl)|rfl) ?_)|with_reducible refine jP (by decide) ?_|(with_reducible apply jQ;first|refine jR rfl rfl rfl ?_|refine jS rfl rfl rfl ?_)|((first|((with_reducible first|apply jm|apply jn|apply jb|apply ju);repeat rfl)|((with_reducible apply jy);iterate 3 rfl)|((with_reducible apply jz);iterate 3 rfl)|((with_reducible apply jp);iterate 5 rfl)|((with_reducible apply jq);iterate 5 rfl)|((with_reducible apply jk);exact u9;rfl)|((with_reducible apply jl);exact u67;rfl)|((with_reducible apply Wo.conv);(iterate 2 (with_reducible first|exact u3|exact u5|exact u76|exact u84));rfl));refine jT (by first|(simp only [j0];rfl)|rfl) ?_)))
     refine Wo.doVal rfl rfl (op_slice_str_hi (b := 2) rfl rfl u9 rfl rfl rfl (by simp)) ?_
     refine Wo.doCall rfl rfl (op_call (args := [.str [a, b], i64v 16, i64v 8]) rfl rfl) ((pu_tells a b _).mono ?_)
     rintro r2 H3 ⟨rfl, rfl⟩
     unfold puSays
     by_cases hbad : hexOf a.toNat = 16 ∨ hexOf b.toNat = 16
     ·rw [if_pos hbad]
      (repeat (first|(with_reducible first|apply jA|apply jC|apply jD|apply jE|apply jF|apply jG|apply jH|apply jI|apply jJ|apply jK|apply jL|apply jM|apply jN|apply jO)|(with_reducible apply SeqQ.id;refine SeqQ.norm (by first|(simp only [j0];rfl)|rfl) ?_)|with_reducible refine jP (by decide) ?_|(with_reducible apply jQ;first|refine jR rfl rfl rfl ?_|refine jS rfl rfl rfl ?_)|((first|((with_reducible first|apply jm|apply jn|apply jb|apply ju);repeat rfl)|((with_reducible apply jy);iterate 3 rfl)|((with_reducible apply jz);iterate 3 rfl)|((with_reducible apply jp);iterate 5 rfl)|((with_reducible apply jq);iterate 5 rfl)|((with_reducible apply jk);exact u9;rfl)|((with_reducible apply jl);exact u67;rfl)|((with_reducible apply Wo.conv);(iterate 2 (with_reducible first|exact u3|exact u5|exact u76|exact u84));rfl));refine jT (by first|(simp only [j0];rfl)|rfl) ?_)))
      refine Wo.doVal rfl rfl (op_extract rfl rfl rfl) ?_
      refine Wo.doVal rfl rfl (op_extract rfl rfl rfl) ?_
      (repeat (first|(with_reducible first|apply jA|apply jC|apply jD|apply jE|apply jF|apply jG|apply jH|apply jI|apply jJ|apply jK|apply jL|apply jM|apply jN|apply jO)|(with_reducible apply SeqQ.id;refine SeqQ.norm (by first|(simp only [j0];rfl)|rfl) ?_)|with_reducible refine jP (by decide) ?_|(with_reducible apply jQ;first|refine jR rfl rfl rfl ?_|refine jS rfl rfl rfl ?_)|((first|((with_reducible first|apply jm|apply jn|apply jb|apply ju);repeat rfl)|((with_reducible apply jy);iterate 3 rfl)|((with_reducible apply jz);iterate 3 rfl)|((with_reducible apply jp);iterate 5 rfl)|((with_reducible apply jq);iterate 5 rfl)|((with_reducible apply jk);exact u9;rfl)|((with_reducible apply jl);exact u67;rfl)|((with_reducible apply Wo.conv);(iterate 2 (with_reducible first|exact u3|exact u5|exact u76|exact u84));rfl));refine jT (by first|(simp only [j0];rfl)|rfl) ?_)))
      refine Wo.doVal rfl rfl (op_binv rfl rfl rfl (ifc_ne _ _ _ _)) ?_
      (repeat (first|(with_reducible first|apply jA|apply jC|apply jD|apply jE|apply jF|apply jG|apply jH|apply jI|apply jJ|apply jK|apply jL|apply jM|apply jN|apply jO)|(with_reducible apply SeqQ.id;refine SeqQ.norm (by first|(simp only [j0];rfl)|rfl) ?_)|with_reducible refine jP (by decide) ?_|(with_reducible apply jQ;first|refine jR rfl rfl rfl ?_|refine jS rfl rfl rfl ?_)|((first|((with_reducible first|apply jm|apply jn|apply jb|apply ju);repeat rfl)|((with_reducible apply jy);iterate 3 rfl)|((with_reducible apply jz);iterate 3 rfl)|((with_reducible apply jp);iterate 5 rfl)|((with_reducible apply jq);iterate 5 rfl)|((with_reducible apply jk);exact u9;rfl)|((with_reducible apply jl);exact u67;rfl)|((with_reducible apply Wo.conv);(iterate 2 (with_reducible first|exact u3|exact u5|exact u76|exact u84));rfl));refine jT (by first|(simp only [j0];rfl)|rfl) ?_)))
      refine EndQ.ret rfl ⟨_, rfl, rfl, rfl, ?_⟩
      unfold decV
      rw [hd]
      simp [dec, hbad]
     ·rw [if_neg hbad]
      (repeat (first|(with_reducible first|apply jA|apply jC|apply jD|apply jE|apply jF|apply jG|apply jH|apply jI|apply jJ|apply jK|apply jL|apply jM|apply jN|apply jO)|(with_reducible apply SeqQ.id;refine SeqQ.norm (by first|(simp only [j0];rfl)|rfl) ?_)|with_reducible refine jP (by decide) ?_|(with_reducible apply jQ;first|refine jR rfl rfl rfl ?_|refine jS rfl rfl rfl ?_)|((first|((with_reducible first|apply jm|apply jn|apply jb|apply ju);repeat rfl)|((with_reducible apply jy);iterate 3 rfl)|((with_reducible apply jz);iterate 3 rfl)|((with_reducible apply jp);iterate 5 rfl)|((with_reducible apply jq);iterate 5 rfl)|((with_reducible apply jk);exact u9;rfl)|((with_reducible apply jl);exact u67;rfl)|((with_reducible apply Wo.conv);(iterate 2 (with_reducible first|exact u3|exact u5|exact u76|exact u84));rfl));refine jT (by first|(simp only [j0];rfl)|rfl) ?_)))
      refine Wo.doVal rfl rfl (op_extract rfl rfl rfl) ?_
      refine Wo.doVal rfl rfl (op_extract rfl rfl rfl) ?_
      (repeat (first|(with_reducible first|apply jA|apply jC|apply jD|apply jE|apply jF|apply jG|apply jH|apply jI|apply jJ|apply jK|apply jL|apply jM|apply jN|apply jO)|(with_reducible apply SeqQ.id;refine SeqQ.norm (by first|(simp only [j0];rfl)|rfl) ?_)|with_reducible refine jP (by decide) ?_|(with_reducible apply jQ;first|refine jR rfl rfl rfl ?_|refine jS rfl rfl rfl ?_)|((first|((with_reducible first|apply jm|apply jn|apply jb|apply ju);repeat rfl)|((with_reducible apply jy);iterate 3 rfl)|((with_reducible apply jz);iterate 3 rfl)|((with_reducible apply jp);iterate 5 rfl)|((with_reducible apply jq);iterate 5 rfl)|((with_reducible apply jk);exact u9;rfl)|((with_reducible apply jl);exact u67;rfl)|((with_reducible apply Wo.conv);(iterate 2 (with_reducible first|exact u3|exact u5|exact u76|exact u84));rfl));refine jT (by first|(simp only [j0];rfl)|rfl) ?_)))
      have hna : hexOf a.toNat ≠ 16 := fun q => hbad (.inl q)
      have hnb : hexOf b.toNat ≠ 16 := fun q => hbad (.inr q)
      have hla := hexOf_le a.toNat
      have hlb := hexOf_le b.toNat
      refine Wo.doVal rfl rfl (op_index_str (s := a :: b :: t') (j := 0) rfl rfl u9 rfl rfl rfl (by simp)) ?_
      rw [show u8v (a :: b :: t')[0] = u8v a from rfl]
      (repeat (first|(with_reducible first|apply jA|apply jC|apply jD|apply jE|apply jF|apply jG|apply jH|apply jI|apply jJ|apply jK|apply jL|apply jM|apply jN|apply jO)|(with_reducible apply SeqQ.id;refine SeqQ.norm (by first|(simp only [j0];rfl)|rfl) ?_)|with_reducible refine jP (by decide) ?_|(with_reducible apply jQ;first|refine jR rfl rfl rfl ?_|refine jS rfl rfl rfl ?_)|((first|((with_reducible first|apply jm|apply jn|apply jb|apply ju);repeat rfl)|((with_reducible apply jy);iterate 3 rfl)|((with_reducible apply jz);iterate 3 rfl)|((with_reducible apply jp);iterate 5 rfl)|((with_reducible apply jq);iterate 5 rfl)|((with_reducible apply jk);exact u9;rfl)|((with_reducible apply jl);exact u67;rfl)|((with_reducible apply Wo.conv);(iterate 2 (with_reducible first|exact u3|exact u5|exact u76|exact u84));rfl));refine jT (by first|(simp only [j0];rfl)|rfl) ?_)))
      rw [ne43 hna]
      (repeat (first|(with_reducible first|apply jA|apply jC|apply jD|apply jE|apply jF|apply jG|apply jH|apply jI|apply jJ|apply jK|apply jL|apply jM|apply jN|apply jO)|(with_reducible apply SeqQ.id;refine SeqQ.norm (by first|(simp only [j0];rfl)|rfl) ?_)|with_reducible refine jP (by decide) ?_|(with_reducible apply jQ;first|refine jR rfl rfl rfl ?_|refine jS rfl rfl rfl ?_)|((first|((with_reducible first|apply jm|apply jn|apply jb|apply ju);repeat rfl)|((with_reducible apply jy);iterate 3 rfl)|((with_reducible apply jz);iterate 3 rfl)|((with_reducible apply jp);iterate 5 rfl)|((with_reducible apply jq);iterate 5 rfl)|((with_reducible apply jk);exact u9;rfl)|((with_reducible apply jl);exact u67;rfl)|((with_reducible apply Wo.conv);(iterate 2 (with_reducible first|exact u3|exact u5|exact u76|exact u84));rfl));refine jT (by first|(simp only [j0];rfl)|rfl) ?_)))
      refine Wo.doVal rfl rfl (op_index_str (s := a :: b :: t') (j := 0) rfl rfl u9 rfl rfl rfl (by simp)) ?_
      rw [show u8v (a :: b :: t')[0] = u8v a from rfl]
      (repeat (first|(with_reducible first|apply jA|apply jC|apply jD|apply jE|apply jF|apply jG|apply jH|apply jI|apply jJ|apply jK|apply jL|apply jM|apply jN|apply jO)|(with_reducible apply SeqQ.id;refine SeqQ.norm (by first|(simp only [j0];rfl)|rfl) ?_)|with_reducible refine jP (by decide) ?_|(with_reducible apply jQ;first|refine jR rfl rfl rfl ?_|refine jS rfl rfl rfl ?_)|((first|((with_reducible first|apply jm|apply jn|apply jb|apply ju);repeat rfl)|((with_reducible apply jy);iterate 3 rfl)|((with_reducible apply jz);iterate 3 rfl)|((with_reducible apply jp);iterate 5 rfl)|((with_reducible apply jq);iterate 5 rfl)|((with_reducible apply jk);exact u9;rfl)|((with_reducible apply jl);exact u67;rfl)|((with_reducible apply Wo.conv);(iterate 2 (with_reducible first|exact u3|exact u5|exact u76|exact u84));rfl));refine jT (by first|(simp only [j0];rfl)|rfl) ?_)))
      rw [ne45 hna]
      (repeat (first|(with_reducible first|apply jA|apply jC|apply jD|apply jE|apply jF|apply jG|apply jH|apply jI|apply jJ|apply jK|apply jL|apply jM|apply jN|apply jO)|(with_reducible apply SeqQ.id;refine SeqQ.norm (by first|(simp only [j0];rfl)|rfl) ?_)|with_reducible refine jP (by decide) ?_|(with_reducible apply jQ;first|refine jR rfl rfl rfl ?_|refine jS rfl rfl rfl ?_)|((first|((with_reducible first|apply jm|apply jn|apply jb|apply ju);repeat rfl)|((with_reducible apply jy);iterate 3 rfl)|((with_reducible apply jz);iterate 3 rfl)|((with_reducible apply jp);iterate 5 rfl)|((with_reducible apply jq);iterate 5 rfl)|((with_reducible apply jk);exact u9;rfl)|((with_reducible apply jl);exact u67;rfl)|((with_reducible apply Wo.conv);(iterate 2 (with_reducible first|exact u3|exact u5|exact u76|exact u84));rfl));refine jT (by first|(simp only [j0];rfl)|rfl) ?_)))
      rw [w8 (show hexOf a.toNat * 16 + hexOf b.toNat < 256 by omega)]
      refine Wo.doCall rfl rfl (op_call (args := [.ptr 0 0, u8v (byteOf (hexOf a.toNat * 16 + hexOf b.toNat))]) rfl rfl) ((wb_tells _ 0 _ _ hb (by simp only [List.length_append]; omega)).mono ?_)
      rintro r2 H4 hb
      (repeat (first|(with_reducible first|apply jA|apply jC|apply jD|apply jE|apply jF|apply jG|apply jH|apply jI|apply jJ|apply jK|apply jL|apply jM|apply jN|apply jO)|(with_reducible apply SeqQ.id;refine SeqQ.norm (by first|(simp only [j0];rfl)|rfl) ?_)|with_reducible refine jP (by decide) ?_|(with_reducible apply jQ;first|refine jR rfl rfl rfl ?_|refine jS rfl rfl rfl ?_)|((first|((with_reducible first|apply jm|apply jn|apply jb|apply ju);repeat rfl)|((with_reducible apply jy);iterate 3 rfl)|((with_reducible apply jz);iterate 3 rfl)|((with_reducible apply jp);iterate 5 rfl)|((with_reducible apply jq);iterate 5 rfl)|((with_reducible apply jk);exact u9;rfl)|((with_reducible apply jl);exact u67;rfl)|((with_reducible apply Wo.conv);(iterate 2 (with_reducible first|exact u3|exact u5|exact u76|exact u84));rfl));refine jT (by first|(simp only [j0];rfl)|rfl) ?_)))
      refine Wo.doVal rfl rfl (op_slice_str_lo (a := 2) rfl rfl u9 rfl rfl rfl (by simp)) ?_
      (repeat (first|(with_reducible first|apply jA|apply jC|apply jD|apply jE|apply jF|apply jG|apply jH|apply jI|apply jJ|apply jK|apply jL|apply jM|apply jN|apply jO)|(with_reducible apply SeqQ.id;refine SeqQ.norm (by first|(simp only [j0];rfl)|rfl) ?_)|with_reducible refine jP (by decide) ?_|(with_reducible apply jQ;first|refine jR rfl rfl rfl ?_|refine jS rfl rfl rfl ?_)|((first|((with_reducible first|apply jm|apply jn|apply jb|apply ju);repeat rfl)|((with_reducible apply jy);iterate 3 rfl)|((with_reducible apply jz);iterate 3 rfl)|((with_reducible apply jp);iterate 5 rfl)|((with_reducible apply jq);iterate 5 rfl)|((with_reducible apply jk);exact u9;rfl)|((with_reducible apply jl);exact u67;rfl)|((with_reducible apply Wo.conv);(iterate 2 (with_reducible first|exact u3|exact u5|exact u76|exact u84));rfl));refine jT (by first|(simp only [j0];rfl)|rfl) ?_)))
      refine LoopQ.normal t'.length (by simp only [List.length_cons] at hpost; omega) ⟨t', bs ++ pre t ++ [byteOf (hexOf a.toNat * 16 + hexOf b.toNat)], rfl, ?_, ?_, hb, dead_of rfl⟩
      ·simp only [List.length_append, List.length_cons, List.length_nil] at hpost ⊢; omega
      ·rw [hd]
       simp only [dec, if_true, if_neg hbad]
       cases dec t' with
       | none => rfl
       | some l => simp
   ·rw [decide_eq_false hm]
    (repeat (first|(with_reducible first|apply jA|apply jC|apply jD|apply jE|apply jF|apply jG|apply jH|apply jI|apply jJ|apply jK|apply jL|apply jM|apply jN|apply jO)|(with_reducible apply SeqQ.id;refine SeqQ.norm (by first|(simp only [j0];rfl)|rfl) ?_)|with_reducible refine jP (by decide) ?_|(with_reducible apply jQ;first|refine jR rfl rfl rfl ?_|refine jS rfl rfl rfl ?_)|((first|((with_reducible first|apply jm|apply jn|apply jb|apply ju);repeat rfl)|((with_reducible apply jy);iterate 3 rfl)|((with_reducible apply jz);iterate 3 rfl)|((with_reducible apply jp);iterate 5 rfl)|((with_reducible apply jq);iterate 5 rfl)|((with_reducible apply jk);exact u9;rfl)|((with_reducible apply jl);exact u67;rfl)|((with_reducible apply Wo.conv);(iterate 2 (with_reducible first|exact u3|exact u5|exact u76|exact u84));rfl));refine jT (by first|(simp only [j0];rfl)|rfl) ?_)))
    rw [dec_no hm] at hd
    refine Wo.doCall rfl rfl (op_call (args := [.ptr 0 0]) rfl rfl) ((str_tells _ 0 _ hb (by first | omega | (simp only [List.length_append]; omega))).mono ?_)
    rintro r2 H3 rfl
    (repeat (first|(with_reducible first|apply jA|apply jC|apply jD|apply jE|apply jF|apply jG|apply jH|apply jI|apply jJ|apply jK|apply jL|apply jM|apply jN|apply jO)|(with_reducible apply SeqQ.id;refine SeqQ.norm (by first|(simp only [j0];rfl)|rfl) ?_)|with_reducible refine jP (by decide) ?_|(with_reducible apply jQ;first|refine jR rfl rfl rfl ?_|refine jS rfl rfl rfl ?_)|((first|((with_reducible first|apply jm|apply jn|apply jb|apply ju);repeat rfl)|((with_reducible apply jy);iterate 3 rfl)|((with_reducible apply jz);iterate 3 rfl)|((with_reducible apply jp);iterate 5 rfl)|((with_reducible apply jq);iterate 5 rfl)|((with_reducible apply jk);exact u9;rfl)|((with_reducible apply jl);exact u67;rfl)|((with_reducible apply Wo.conv);(iterate 2 (with_reducible first|exact u3|exact u5|exact u76|exact u84));rfl));refine jT (by first|(simp only [j0];rfl)|rfl) ?_)))
    refine EndQ.ret rfl ⟨_, rfl, rfl, rfl, ?_⟩
    unfold decV
    rw [hd, (index_not hm).2]
    rfl
end
end Go.Proofs
end
section
namespace Go.Tm
section
variable {K : Cfg} {f : FuncId} {o : Oper} {R : List AV} {own : Nat → Nat} {H : List AB}
theorem op_append_own (hs : K.sym = false) {t t2 e d : TypeId} {a x : Operand} {ts : Array TypeId} {xs ys : List AV} {tl u : Tail} {info : TypeInfo} {z : AV} {n : Nat} (ho : o.op = .call { callee := .builtin .append, args := #[a, x], argTypes := ts }) (hd : o.dst = some d) (ht : ts.toList = [t, t2]) (hu : K.P.underlying t = some (.slice e)) (hu2 : K.P.underlying t2 = some (.slice e))
  (hi : K.P.info? e = some info) (hz : tSize K.P e = some (n + 1)) (h0 : tZero K.P e = some z) (hz1 : z.cells.length = n + 1) (hg : K.chg f d = false) (ha : evalO K R a = some (.sl xs tl)) (htl : tl = .nil ∨ ∃ st, tl = .own st (own st) (n + 1) ∧ own st ≠ 0) (hx : evalO K R x = some (.sl ys u)) (hxs : xs.all (fun y => y.cells.length == n + 1) = true) (hy : ys.all (fun y => y.cells.length == n + 1) = true) (hne : ys ≠ []) (hcl : AV.closedL (ys.flatMap AV.cells) = true) (hr : roomOk (xs.length + ys.length) info.bytes = true) :
  ∃ own', aOp K f ⟨R, own, H⟩ o [] = some (.val (.sl (xs ++ ys) (.own d (own d + 1) (n + 1))) own' H, [], []) ∧ own' d = own d + 1 := by
 have hm : mapO (evalO K R) [a, x] = some [.sl xs tl, .sl ys u] := by simp [mapO, ha, hx]
 have hzb : (z.cells.length == n + 1) = true := by simp [hz1]
 simp only [aOp, ho, ht, hm, aBuiltin, hu2, aAppend, hu, hi, hz, h0, asEls, hy, if_true, hzb, hd, Option.getD_some, hg, hs]
 cases ys with
 | nil => exact absurd rfl hne
 | cons y r =>
  rcases htl with rfl | ⟨st, rfl, hst⟩
  ·refine ⟨fun i => if i = d then own d + 1 else own i, ?_, by simp⟩
   refine (E.bind_nil (a := ()) (by rw [hr]; rfl)).trans ?_
   refine (E.bind_nil (a := ()) (by rw [hxs]; rfl)).trans ?_
   refine (E.bind_nil (a := ()) (by rw [hcl]; rfl)).trans ?_
   exact (E.bind_nil (a := ()) (by simp [E.chk])).trans rfl
  ·refine ⟨fun i => if i = d then own d + 1 else if i = st then own st + 1 else own i, ?_, by simp⟩
   refine (E.bind_nil (a := ()) (by rw [hr]; rfl)).trans ?_
   refine (E.bind_nil (a := ()) (by rw [hxs]; rfl)).trans ?_
   refine (E.bind_nil (a := ()) (by rw [hcl]; rfl)).trans ?_
   refine (E.bind_nil (a := ()) (by
    show E.chk false (own st == own st && own st != 0 && (n + 1 == n + 1)) [] = _
    rw [show (own st == own st && own st != 0 && (n + 1 == n + 1)) = true by simp [hst]]; rfl)).trans rfl
end
end Go.Tm
namespace Go.Proofs
open Go.Tm
section
variable {x : Value}
def Mine (tl : Tail) (own : Nat → Nat) : Prop := tl = .nil ∨ ∃ st, tl = .own st (own st) 1 ∧ own st ≠ 0
theorem ones (bs : List UInt8) : (bs.map u8v).all (fun y => y.cells.length == 0 + 1) = true := by
 rw [List.all_eq_true]
 intro y hy
 obtain ⟨b, _, rfl⟩ := List.mem_map.1 hy
 rfl
theorem flat_u8 : ∀ bs : List UInt8, (bs.map u8v).flatMap AV.cells = bs.map u8v
 | [] => rfl
 | b :: r => by simp only [List.map_cons, List.flatMap_cons, flat_u8 r]; rfl
theorem closed_u8 : ∀ bs : List UInt8, AV.closedL (bs.map u8v) = true
 | [] => rfl
 | b :: r => by simp only [List.map_cons, AV.closedL, closed_u8 r]; rfl
theorem app_own {f : FuncId} {o : Oper} {R : List AV} {own : Nat → Nat} {H : List AB} {d : TypeId} {a c : Operand} {ts : Array TypeId} {bs ys : List UInt8} {tl u : Tail} (ho : o.op = .call { callee := .builtin .append, args := #[a, c], argTypes := ts }) (hd : o.dst = some d) (ht : ts.toList = [67, 67]) (hg : (Kp x).chg f d = false) (ha : evalO (Kp x) R a = some (.sl (bs.map u8v) tl)) (htl : Mine tl own) (hx : evalO (Kp x) R c = some (.sl (ys.map u8v) u)) (hne : ys ≠ []) (hr : bs.length + ys.length ≤ 140737488355328) :
  ∃ own', aOp (Kp x) f ⟨R, own, H⟩ o [] = some (.val (.sl ((bs ++ ys).map u8v) (.own d (own d + 1) 1)) own' H, [], []) ∧ Mine (.own d (own d + 1) 1) own' := by
 obtain ⟨info, hi, hb⟩ := in5 (x := x)
 obtain ⟨own', h1, h2⟩ := op_append_own (K := Kp x) (f := f) (H := H) (n := 0) rfl ho hd ht u67 u67 hi sz5 z5 rfl hg ha htl hx (ones bs) (ones ys) (by simpa using hne) (by rw [flat_u8]; exact closed_u8 ys) (by rw [hb, List.length_map, List.length_map]; exact room_ok hr)
 refine ⟨own', by rw [List.map_append]; exact h1, .inr ⟨d, by rw [h2], by rw [h2]; omega⟩⟩
theorem Wo.app_own {f : FuncId} {ops : Array Oper} {Q : AX → St → Prop} {l : List Oper} {o : Oper} {R : List AV} {own : Nat → Nat} {H : List AB} {d : TypeId} {a c : Operand} {ts : Array TypeId} {bs ys : List UInt8} {tl u : Tail} (hgd : o.guard = none) (hd : o.dst = some d) (ho : o.op = .call { callee := .builtin .append, args := #[a, c], argTypes := ts }) (ht : ts.toList = [67, 67]) (hg : (Kp x).chg f d = false) (ha : evalO (Kp x) R a = some (.sl (bs.map u8v) tl)) (htl : Mine tl own) (hx : evalO (Kp x) R c = some (.sl (ys.map u8v) u)) (hne : ys ≠ []) (hr : bs.length + ys.length ≤ 140737488355328)
  (h : ∀ own', Mine (.own d (own d + 1) 1) own' → Wo (Kp x) f ops l (setAt R d (.sl ((bs ++ ys).map u8v) (.own d (own d + 1) 1))) own' H Q) : Wo (Kp x) f ops (o :: l) R own H Q := by
 obtain ⟨own', h1, h2⟩ := Go.Proofs.app_own (x := x) (f := f) (H := H) ho hd ht hg ha htl hx hne hr
 exact Wo.doVal hgd hd h1 (h own' h2)
theorem Wy.app_own {f : FuncId} {Q : St → Prop} {o : Oper} {R : List AV} {own : Nat → Nat} {H : List AB} {d : TypeId} {a c : Operand} {ts : Array TypeId} {bs ys : List UInt8} {tl u : Tail} (hd : o.dst = some d) (ho : o.op = .call { callee := .builtin .append, args := #[a, c], argTypes := ts }) (ht : ts.toList = [67, 67]) (hg : (Kp x).chg f d = false) (ha : evalO (Kp x) R a = some (.sl (bs.map u8v) tl)) (htl : Mine tl own) (hx : evalO (Kp x) R c = some (.sl (ys.map u8v) u)) (hne : ys ≠ []) (hr : bs.length + ys.length ≤ 140737488355328) (hk : Nat.ble (touch (Kp x) f o) 2 = true)
  (h : ∀ own', Mine (.own d (own d + 1) 1) own' → Q ⟨setAt R d (.sl ((bs ++ ys).map u8v) (.own d (own d + 1) 1)), own', H⟩) : Wy (Kp x) f o ⟨R, own, H⟩ Q := by
 obtain ⟨own', h1, h2⟩ := Go.Proofs.app_own (x := x) (f := f) (H := H) ho hd ht hg ha htl hx hne hr
 exact Wy.val hd h1 hk (h own' h2)
theorem wk {n k : Nat} (h : n + k < 2 ^ 63) : IntKind.i64.wrap ((n : Int) + (k : Int)) = ((n + k : Nat) : Int) := by rw [IntKind.wrap_i64]; omega
theorem op_conv_text {K : Cfg} {f : FuncId} {o : Oper} {R : List AV} {own : Nat → Nat} {H : List AB} {s d e : TypeId} {c : Operand} {bs : List UInt8} {tl : Tail} (ho : o.op = .convert s d c) (h1 : K.P.underlying s = some (.slice e)) (h2 : K.P.underlying d = some .string) (h3 : K.P.underlying e = some (.int .u8)) (hx : evalO K R c = some (.sl (bs.map u8v) tl)) : aOp K f ⟨R, own, H⟩ o [] = some (.val (.str bs) own H, [], []) := by
 have hm : mapO (fun y => match y with | AV.v (.int .u8 n) => some (UInt8.ofNat n.toNat) | _ => none) (bs.map u8v) = some bs := by
  clear hx
  induction bs with
  | nil => rfl
  | cons b r ih =>
   simp only [List.map_cons, mapO]
   rw [ih]
   show some (UInt8.ofNat (Int.toNat (b.toNat : Int)) :: r) = _
   rw [Int.toNat_natCast, UInt8.ofNat_toNat]
 refine op_conv_val (r := .str bs) ho hx ?_ ?_ ?_
 ·simp only [aUnsafe, h1, h2]
 ·simp only [aConvertM, h1, h2]
 ·simp only [aConvert, h1, h2, h3]
  exact congrArg (Option.map AV.str) hm
end
end Go.Proofs
end
