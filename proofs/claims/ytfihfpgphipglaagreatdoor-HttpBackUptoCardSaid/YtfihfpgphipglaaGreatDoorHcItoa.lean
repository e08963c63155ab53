/- strconv.Itoa at what is not negative. -/
import Derived.Test.YtfihfpgphipglaaGreatDoorHcA
import Derived.Lib.ItoaLen
set_option linter.unusedVariables false
set_option linter.unusedSimpArgs false
set_option linter.unusedSectionVars false
namespace Go.Tm
theorem op_indexAddr_rp {K : Cfg} (hs : K.sym = false) {f : FuncId} {o : Oper} {R : List AV} {own : Nat → Nat} {H : List AB} {t e : TypeId} {x i : Operand} {cs : List AV} {len sz j : Nat} {k : IntKind} {n : Int} (ho : o.op = .indexAddr t x i) (hu : K.P.underlying t = some (.array len e)) (hz : tSize K.P e = some (sz + 1)) (hx : evalO K R x = some (.rp cs)) (hi : evalO K R i = some (.v (.int k n))) (hn : n = (j : Int)) (hj : j < len) : aOp K f ⟨R, own, H⟩ o [] = some (.val (.rp (cs.drop (j * (sz + 1)))) own H, [], []) := by
 subst hn
 simp only [aOp, ho, hx, hi, aKeepE, aIndexAddr, asI, hu, hz, hs]
 refine (E.bind_nil (a := AV.rp (cs.drop (j * (sz + 1)))) ?_).trans rfl
 rw [decide_eq_true (show 0 ≤ (j : Int) ∧ (j : Int) < (len : Int) by omega)]
 refine (E.bind_nil (a := ()) rfl).trans ?_
 rw [Int.toNat_natCast]; rfl
theorem op_slice_arr {K : Cfg} (hs : K.sym = false) {f : FuncId} {o : Oper} {R : List AV} {own : Nat → Nat} {H : List AB} {t e : TypeId} {x l h : Operand} {b n a c : Nat} {tt : TypeId × Bool} {cs : List AV} {k k' : IntKind} {p q : Int} (ho : o.op = .slice t x (some l) (some h) none) (hu : K.P.underlying t = some (.array n e)) (hz : tSize K.P e = some 1) (hx : evalO K R x = some (.ptr b 0)) (hb : nth H b = some (.cells tt cs)) (hcs : n ≤ cs.length) (hl : evalO K R l = some (.v (.int k p))) (hh : evalO K R h = some (.v (.int k' q))) (hp : p = (a : Int)) (hq : q = (c : Int)) (hac : a ≤ c) (hcn : c ≤ n) (han : a < n) : aOp K f ⟨R, own, H⟩ o [] = some (.val (.ms b a (c - a) 1) own H, [], []) := by
 subst hp hq
 simp only [aOp, ho, hx, hl, hh, Option.elim, Option.map]
 have hbd : aBounds K n (some (.v (.int k (a : Int)))) (some (.v (.int k' (c : Int)))) none [] = some ((a, c, none), [], []) := by
  simp only [aBounds, optI, asI, Option.map, hs]
  refine (E.bind_nil (a := ()) (by
   show E.chk false (decide (0 ≤ (a : Int) ∧ (a : Int) ≤ (c : Int) ∧ (c : Int) ≤ (n : Int) ∧ (n : Int) ≤ (n : Int))) [] = _
   rw [decide_eq_true (by omega)]; rfl)).trans ?_
  simp; rfl
 have hsl : aSlice K H t (.ptr b 0) (some (.v (.int k (a : Int)))) (some (.v (.int k' (c : Int)))) none [] = some (.ms b a (c - a) 1, [], []) := by
  simp only [aSlice, hu, hz, hs, hb]
  refine (E.bind_nil (a := ()) (by rw [decide_eq_true (by omega)]; rfl)).trans ?_
  refine (E.bind_nil hbd).trans ?_
  simp only [Option.getD_none]
  rw [if_neg (by omega)]
  simp only [Nat.zero_add, Nat.mul_one]
  rfl
 exact (E.bind_nil hsl).trans rfl
theorem op_conv_ms {K : Cfg} {f : FuncId} {o : Oper} {R : List AV} {own : Nat → Nat} {H : List AB} {s d e : TypeId} {x : Operand} {b off len : Nat} {tt : TypeId × Bool} {cs : List AV} {bs : List UInt8} (ho : o.op = .convert s d x) (h1 : K.P.underlying s = some (.slice e)) (h2 : K.P.underlying d = some .string) (h3 : K.P.underlying e = some (.int .u8)) (hx : evalO K R x = some (.ms b off len 1)) (hb : nth H b = some (.cells tt cs)) (hle : off + len ≤ cs.length) (hbs : (cs.drop off).take len = bs.map u8v) : aOp K f ⟨R, own, H⟩ o [] = some (.val (.str bs) own H, [], []) := by
 have hm : ∀ l : List UInt8, mapO (fun y => match y with | AV.v (.int .u8 n) => some (UInt8.ofNat n.toNat) | _ => none) (l.map u8v) = some l := by
  intro l
  induction l with
  | nil => rfl
  | cons b r ih =>
   simp only [List.map_cons, mapO]
   rw [ih]
   show some (UInt8.ofNat (Int.toNat (b.toNat : Int)) :: r) = _
   rw [Int.toNat_natCast, UInt8.ofNat_toNat]
 have e1 : aUnsafe K H s d (.ms b off len 1) = none := by simp only [aUnsafe, h1, h2]
 have e2 : aConvertM K H s d (.ms b off len 1) = some (.str bs) := by
  simp only [aConvertM, h1, h2, h3, hb]
  rw [if_pos hle, hbs]
  exact congrArg (Option.map AV.str) (hm bs)
 simp only [aOp, ho, hx, aKeep, e1, e2]
 rfl
end Go.Tm
namespace Go.Proofs.Hc
open Go.Tm
set_option maxRecDepth 100000
section
variable {x : Value}
theorem u2 : (Kq x).P.underlying 2 = some (.int .i64) := Tryz.underlying2
theorem u76 : (Kq x).P.underlying 76 = some (.int .u64) := Tryz.underlying76
theorem u67 : (Kq x).P.underlying 67 = some (.slice 5) := Tryz.underlying67
theorem u104 : (Kq x).P.underlying 104 = some (.array 24 5) := Tryz.underlying104
theorem u128 : (Kq x).P.underlying 128 = some (.array 20 76) := Tryz.underlying128
theorem sz5' : tSize (Kq x).P 5 = some 1 := by kernel_rfl
theorem sz76 : tSize (Kq x).P 76 = some 1 := by kernel_rfl
theorem ag76 : tAgg (Kq x).P 76 = some false := by kernel_rfl
theorem z104 : tZero (Kq x).P 104 = some (.agg (List.replicate 24 (u8v 0))) := by kernel_rfl
theorem bool2_run (b : Bool) : callF (Kq x) 11 96 [.v (.bool b)] [] = some (i64v (if b then 1 else 0), []) := by cases b <;> kernel_rfl
theorem pow_at : ∀ j : Fin 20, pow10[j.val]? = some ((10 ^ j.val : Nat) : Int) := by decide
theorem pow_drop {j : Nat} (h : j < 20) : ∃ r, (pow10.map fun n => AV.v (.int .u64 n)).drop (j * 1) = AV.v (.int .u64 ((10 ^ j : Nat) : Int)) :: r := by
 have hj := pow_at ⟨j, h⟩
 obtain ⟨hlt, hg⟩ := List.getElem?_eq_some_iff.1 hj
 refine ⟨(pow10.map fun n => AV.v (.int .u64 n)).drop (j + 1), ?_⟩
 rw [Nat.mul_one, List.drop_eq_getElem_cons (by simpa using hlt), List.getElem_map, hg]
theorem bitLen_le {u : Nat} (h1 : 1 ≤ u) (h2 : u < 18446744073709551616) : Lib.bitLen u ≤ 64 := by
 obtain ⟨a, b, _⟩ := Lib.bitLenAux_bounds 64 u (by omega) (by omega)
 unfold Lib.bitLen
 by_cases h : Lib.bitLenAux 64 u ≤ 64
 ·exact h
 ·have : 2 ^ 64 ≤ 2 ^ (Lib.bitLenAux 64 u - 1) := Nat.pow_le_pow_right (by omega) (by omega)
  omega
set_option maxHeartbeats 1000000 in
theorem num_tells (u : Nat) (h1 : 1 ≤ u) (h2 : u < 18446744073709551616) (H : List AB) : Tells (Kq x) 75 [.v (.int .u64 u)] H fun r H' => H' = H ∧ r = i64v (Lib.nDigits u : Nat) := by
 obtain ⟨hnd, hl⟩ := Lib.numDigits_eq u h1 h2
 have hb := bitLen_le h1 h2
 refine Tells.vals (c := _) Tryz.func75 rfl (args' := [.v (.int .u64 u)]) (m := 14) rfl rfl rfl rfl rfl ?_
 (repeat (first|(with_reducible first|apply jA|apply jC|apply jD|apply jE|apply jF|apply jG|apply jH|apply jI|apply jJ|apply jK|apply jL|apply jM|apply jN|apply jO)|(with_reducible apply SeqQ.id;refine SeqQ.norm (by first|(simp only [j0];rfl)|rfl) ?_)|with_reducible refine jP (by decide) ?_|(with_reducible apply jQ;first|refine jR rfl rfl rfl ?_|refine jS rfl rfl rfl ?_)|((first|((with_reducible first|apply jm|apply jn|apply jb|apply ju);repeat rfl)|((with_reducible apply jy);iterate 3 rfl)|((with_reducible apply jz);iterate 3 rfl)|((with_reducible apply jp);iterate 5 rfl)|((with_reducible apply jq);iterate 5 rfl)|((with_reducible apply jk);exact u9;rfl));refine jT (by first|(simp only [j0];rfl)|rfl) ?_)))
 refine Wo.doCall rfl rfl (op_call (args := [.v (.int .u64 u)]) rfl rfl) (Tells.libv (g := toldLen64) (r := i64v (Lib.bitLen u : Nat)) rfl (if_pos (by omega)) ?_)
 refine Wo.doCall rfl rfl (op_call (args := [i64v (Lib.bitLen u : Nat)]) rfl rfl) (Tells.libv (g := toldL10) (r := i64v (Lib.l10 (Lib.bitLen u) : Nat)) rfl (if_pos (by omega)) ?_)
 generalize Lib.l10 (Lib.bitLen u) = L at *
 (repeat (first|(with_reducible first|apply jA|apply jC|apply jD|apply jE|apply jF|apply jG|apply jH|apply jI|apply jJ|apply jK|apply jL|apply jM|apply jN|apply jO)|(with_reducible apply SeqQ.id;refine SeqQ.norm (by first|(simp only [j0];rfl)|rfl) ?_)|with_reducible refine jP (by decide) ?_|(with_reducible apply jQ;first|refine jR rfl rfl rfl ?_|refine jS rfl rfl rfl ?_)|((first|((with_reducible first|apply jm|apply jn|apply jb|apply ju);repeat rfl)|((with_reducible apply jy);iterate 3 rfl)|((with_reducible apply jz);iterate 3 rfl)|((with_reducible apply jp);iterate 5 rfl)|((with_reducible apply jq);iterate 5 rfl)|((with_reducible apply jk);exact u9;rfl));refine jT (by first|(simp only [j0];rfl)|rfl) ?_)))
 refine Wo.doVal rfl rfl (op_indexAddr_rp (j := L) rfl rfl u128 sz76 rfl rfl rfl (by omega)) ?_
 obtain ⟨rs, hrs⟩ := pow_drop (j := L) (by omega)
 rw [show (0 + 1 : Nat) = 1 from rfl, hrs]
 refine Wo.doVal rfl rfl (op_load_rp rfl rfl (take_one ag76 sz76)) ?_
 (repeat (first|(with_reducible first|apply jA|apply jC|apply jD|apply jE|apply jF|apply jG|apply jH|apply jI|apply jJ|apply jK|apply jL|apply jM|apply jN|apply jO)|(with_reducible apply SeqQ.id;refine SeqQ.norm (by first|(simp only [j0];rfl)|rfl) ?_)|with_reducible refine jP (by decide) ?_|(with_reducible apply jQ;first|refine jR rfl rfl rfl ?_|refine jS rfl rfl rfl ?_)|((first|((with_reducible first|apply jm|apply jn|apply jb|apply ju);repeat rfl)|((with_reducible apply jy);iterate 3 rfl)|((with_reducible apply jz);iterate 3 rfl)|((with_reducible apply jp);iterate 5 rfl)|((with_reducible apply jq);iterate 5 rfl)|((with_reducible apply jk);exact u9;rfl));refine jT (by first|(simp only [j0];rfl)|rfl) ?_)))
 refine Wo.doCall rfl rfl (op_call (args := [.v (.bool (decide ((u : Int) ≥ ((10 ^ L : Nat) : Int))))]) rfl rfl) ((Tells.runv (n := 10) rfl rfl rfl rfl rfl (bool2_run (x := x) _)).mono ?_)
 rintro r1 H1 ⟨rfl, rfl⟩
 (repeat (first|(with_reducible first|apply jA|apply jC|apply jD|apply jE|apply jF|apply jG|apply jH|apply jI|apply jJ|apply jK|apply jL|apply jM|apply jN|apply jO)|(with_reducible apply SeqQ.id;refine SeqQ.norm (by first|(simp only [j0];rfl)|rfl) ?_)|with_reducible refine jP (by decide) ?_|(with_reducible apply jQ;first|refine jR rfl rfl rfl ?_|refine jS rfl rfl rfl ?_)|((first|((with_reducible first|apply jm|apply jn|apply jb|apply ju);repeat rfl)|((with_reducible apply jy);iterate 3 rfl)|((with_reducible apply jz);iterate 3 rfl)|((with_reducible apply jp);iterate 5 rfl)|((with_reducible apply jq);iterate 5 rfl)|((with_reducible apply jk);exact u9;rfl));refine jT (by first|(simp only [j0];rfl)|rfl) ?_)))
 refine EndQ.ret rfl ⟨_, rfl, rfl, rfl, ?_⟩
 rw [← hnd, show decide ((u : Int) ≥ ((10 ^ L : Nat) : Int)) = decide (10 ^ L ≤ u) from decide_eq_decide.2 Int.ofNat_le]
 have key : ∀ b : Bool, IntKind.i64.wrap ((L : Int) + (if b = true then 1 else 0)) = ((L + (if b = true then 1 else 0) : Nat) : Int) := fun b => by
  cases b with
  | true => rw [if_pos rfl, if_pos rfl, IntKind.wrap_i64]; omega
  | false => rw [if_neg (by simp), if_neg (by simp), IntKind.wrap_i64]; omega
 have hk := key (decide (10 ^ L ≤ u))
 simp only [decide_eq_true_eq] at hk ⊢
 exact congrArg (fun z => AV.v (.int .i64 z)) hk
theorem dig_zeros (n : Nat) : allZero (((List.replicate 24 (u8v 0)).drop 1).take n) = true := by
 have h : ∀ l : List AV, (∀ y ∈ l, y = u8v 0) → allZero l = true := by
  intro l
  induction l with
  | nil => intro _; rfl
  | cons y r ih =>
   intro q
   obtain rfl := q y (by simp)
   show (decide ((0 : Int) = 0) && allZero r) = true
   rw [ih fun z hz => q z (by simp [hz])]; rfl
 refine h _ fun y hy => ?_
 exact List.eq_of_mem_replicate (List.mem_of_mem_drop (List.mem_of_mem_take hy))
theorem nd_le {n : Nat} (h : n < 1000000000000000000) : Lib.nDigits n ≤ 20 := Lib.nDigits_le20 n (by omega)
theorem fmt_said {n : Nat} (h : n < 1000000000000000000) : toldFmt [.ms 0 1 (Lib.nDigits n) 1, .v (.int .u64 (n : Nat))] [.cells (104, true) (List.replicate 24 (u8v 0))] = some (.tup [], [.cells (104, true) (putAll (List.replicate 24 (u8v 0)) 1 ((digs10 (Lib.nDigits n) n).map u8v))]) := by
 have hlt := Lib.lt_pow_nDigits n
 have hnd := nd_le h
 show (if 0 ≤ (n : Int) ∧ (n : Int).toNat < 10 ^ Lib.nDigits n ∧ (n : Int) ≤ 18446744073709551615 ∧ Lib.nDigits n ≤ 20 ∧ 1 + Lib.nDigits n ≤ (List.replicate 24 (u8v 0)).length ∧ allZero (((List.replicate 24 (u8v 0)).drop 1).take (Lib.nDigits n)) = true then _ else none) = _
 rw [if_pos ⟨by omega, by simpa using hlt, by omega, hnd, by simp; omega, dig_zeros _⟩]
 rfl
theorem digs_dec (n : Nat) : digs10 (Lib.nDigits n) n = Lib.decDigits n := by
 rw [Lib.decDigits_eq]; rfl
theorem put_get {cs : List AV} {o : Nat} {ys : List AV} (h : o + ys.length ≤ cs.length) : ((putAll cs o ys).drop o).take ys.length = ys := by
 apply List.ext_getElem?
 intro i
 rw [List.getElem?_take, List.getElem?_drop, putAll_get _ _ _ _ h]
 by_cases hi : i < ys.length
 ·rw [if_pos hi, if_pos ⟨by omega, by omega⟩]; congr 1; omega
 ·rw [if_neg hi, List.getElem?_eq_none (by omega)]
set_option maxHeartbeats 2000000 in
theorem fint_tells (n : Nat) (hn : n < 1000000000000000000) (H : List AB) : Tells (Kq x) 56 [i64v n, i64v 10] H fun r H' => H' = H ∧ r = .str (Lib.decDigits n) := by
 refine Tells.vals (c := _) Tryz.func56 rfl (args' := [i64v n, i64v 10]) (m := 52) rfl rfl rfl rfl rfl ?_
 have hnd := nd_le hn
 have hn1 := Lib.nDigits_pos n
 (repeat (first|(with_reducible first|apply jA|apply jC|apply jD|apply jE|apply jF|apply jG|apply jH|apply jI|apply jJ|apply jK|apply jL|apply jM|apply jN|apply jO)|(with_reducible apply SeqQ.id;refine SeqQ.norm (by first|(simp only [j0];rfl)|rfl) ?_)|with_reducible refine jP (by decide) ?_|(with_reducible apply jQ;first|refine jR rfl rfl rfl ?_|refine jS rfl rfl rfl ?_)|((first|((with_reducible first|apply jm|apply jn|apply jb|apply ju);repeat rfl)|((with_reducible apply jy);iterate 3 rfl)|((with_reducible apply jz);iterate 3 rfl)|((with_reducible apply jp);iterate 5 rfl)|((with_reducible apply jq);iterate 5 rfl)|((with_reducible apply jk);exact u9;rfl));refine jT (by first|(simp only [j0];rfl)|rfl) ?_)))
 rw [show decide ((0 : Int) ≤ (n : Int)) = true by simp]
 (repeat (first|(with_reducible first|apply jA|apply jC|apply jD|apply jE|apply jF|apply jG|apply jH|apply jI|apply jJ|apply jK|apply jL|apply jM|apply jN|apply jO)|(with_reducible apply SeqQ.id;refine SeqQ.norm (by first|(simp only [j0];rfl)|rfl) ?_)|with_reducible refine jP (by decide) ?_|(with_reducible apply jQ;first|refine jR rfl rfl rfl ?_|refine jS rfl rfl rfl ?_)|((first|((with_reducible first|apply jm|apply jn|apply jb|apply ju);repeat rfl)|((with_reducible apply jy);iterate 3 rfl)|((with_reducible apply jz);iterate 3 rfl)|((with_reducible apply jp);iterate 5 rfl)|((with_reducible apply jq);iterate 5 rfl)|((with_reducible apply jk);exact u9;rfl));refine jT (by first|(simp only [j0];rfl)|rfl) ?_)))
 by_cases h100 : n < 100
 ·rw [show decide ((n : Int) < 100) = true by simp; omega]
  (repeat (first|(with_reducible first|apply jA|apply jC|apply jD|apply jE|apply jF|apply jG|apply jH|apply jI|apply jJ|apply jK|apply jL|apply jM|apply jN|apply jO)|(with_reducible apply SeqQ.id;refine SeqQ.norm (by first|(simp only [j0];rfl)|rfl) ?_)|with_reducible refine jP (by decide) ?_|(with_reducible apply jQ;first|refine jR rfl rfl rfl ?_|refine jS rfl rfl rfl ?_)|((first|((with_reducible first|apply jm|apply jn|apply jb|apply ju);repeat rfl)|((with_reducible apply jy);iterate 3 rfl)|((with_reducible apply jz);iterate 3 rfl)|((with_reducible apply jp);iterate 5 rfl)|((with_reducible apply jq);iterate 5 rfl)|((with_reducible apply jk);exact u9;rfl));refine jT (by first|(simp only [j0];rfl)|rfl) ?_)))
  refine Wo.doCall rfl rfl (op_call (args := [i64v n]) rfl rfl) (Tells.libv (g := toldSmall) (r := .str (Lib.decDigits n)) rfl (if_pos (by omega)) ?_)
  (repeat (first|(with_reducible first|apply jA|apply jC|apply jD|apply jE|apply jF|apply jG|apply jH|apply jI|apply jJ|apply jK|apply jL|apply jM|apply jN|apply jO)|(with_reducible apply SeqQ.id;refine SeqQ.norm (by first|(simp only [j0];rfl)|rfl) ?_)|with_reducible refine jP (by decide) ?_|(with_reducible apply jQ;first|refine jR rfl rfl rfl ?_|refine jS rfl rfl rfl ?_)|((first|((with_reducible first|apply jm|apply jn|apply jb|apply ju);repeat rfl)|((with_reducible apply jy);iterate 3 rfl)|((with_reducible apply jz);iterate 3 rfl)|((with_reducible apply jp);iterate 5 rfl)|((with_reducible apply jq);iterate 5 rfl)|((with_reducible apply jk);exact u9;rfl));refine jT (by first|(simp only [j0];rfl)|rfl) ?_)))
  exact EndQ.ret rfl ⟨_, rfl, rfl, rfl, rfl⟩
 ·rw [show decide ((n : Int) < 100) = false by simp; omega]
  (repeat (first|(with_reducible first|apply jA|apply jC|apply jD|apply jE|apply jF|apply jG|apply jH|apply jI|apply jJ|apply jK|apply jL|apply jM|apply jN|apply jO)|(with_reducible apply SeqQ.id;refine SeqQ.norm (by first|(simp only [j0];rfl)|rfl) ?_)|with_reducible refine jP (by decide) ?_|(with_reducible apply jQ;first|refine jR rfl rfl rfl ?_|refine jS rfl rfl rfl ?_)|((first|((with_reducible first|apply jm|apply jn|apply jb|apply ju);repeat rfl)|((with_reducible apply jy);iterate 3 rfl)|((with_reducible apply jz);iterate 3 rfl)|((with_reducible apply jp);iterate 5 rfl)|((with_reducible apply jq);iterate 5 rfl)|((with_reducible apply jk);exact u9;rfl));refine jT (by first|(simp only [j0];rfl)|rfl) ?_)))
  refine Wo.doVal rfl rfl (op_alloc rfl z104 rfl) ?_
  (repeat (first|(with_reducible first|apply jA|apply jC|apply jD|apply jE|apply jF|apply jG|apply jH|apply jI|apply jJ|apply jK|apply jL|apply jM|apply jN|apply jO)|(with_reducible apply SeqQ.id;refine SeqQ.norm (by first|(simp only [j0];rfl)|rfl) ?_)|with_reducible refine jP (by decide) ?_|(with_reducible apply jQ;first|refine jR rfl rfl rfl ?_|refine jS rfl rfl rfl ?_)|((first|((with_reducible first|apply jm|apply jn|apply jb|apply ju);repeat rfl)|((with_reducible apply jy);iterate 3 rfl)|((with_reducible apply jz);iterate 3 rfl)|((with_reducible apply jp);iterate 5 rfl)|((with_reducible apply jq);iterate 5 rfl)|((with_reducible apply jk);exact u9;rfl));refine jT (by first|(simp only [j0];rfl)|rfl) ?_)))
  refine Wo.conv u2 u76 rfl ?_
  rw [show IntKind.u64.wrap (n : Int) = (n : Int) by rw [IntKind.wrap_u64]; omega]
  (repeat (first|(with_reducible first|apply jA|apply jC|apply jD|apply jE|apply jF|apply jG|apply jH|apply jI|apply jJ|apply jK|apply jL|apply jM|apply jN|apply jO)|(with_reducible apply SeqQ.id;refine SeqQ.norm (by first|(simp only [j0];rfl)|rfl) ?_)|with_reducible refine jP (by decide) ?_|(with_reducible apply jQ;first|refine jR rfl rfl rfl ?_|refine jS rfl rfl rfl ?_)|((first|((with_reducible first|apply jm|apply jn|apply jb|apply ju);repeat rfl)|((with_reducible apply jy);iterate 3 rfl)|((with_reducible apply jz);iterate 3 rfl)|((with_reducible apply jp);iterate 5 rfl)|((with_reducible apply jq);iterate 5 rfl)|((with_reducible apply jk);exact u9;rfl));refine jT (by first|(simp only [j0];rfl)|rfl) ?_)))
  rw [show decide ((n : Int) < 0) = false by simp]
  (repeat (first|(with_reducible first|apply jA|apply jC|apply jD|apply jE|apply jF|apply jG|apply jH|apply jI|apply jJ|apply jK|apply jL|apply jM|apply jN|apply jO)|(with_reducible apply SeqQ.id;refine SeqQ.norm (by first|(simp only [j0];rfl)|rfl) ?_)|with_reducible refine jP (by decide) ?_|(with_reducible apply jQ;first|refine jR rfl rfl rfl ?_|refine jS rfl rfl rfl ?_)|((first|((with_reducible first|apply jm|apply jn|apply jb|apply ju);repeat rfl)|((with_reducible apply jy);iterate 3 rfl)|((with_reducible apply jz);iterate 3 rfl)|((with_reducible apply jp);iterate 5 rfl)|((with_reducible apply jq);iterate 5 rfl)|((with_reducible apply jk);exact u9;rfl));refine jT (by first|(simp only [j0];rfl)|rfl) ?_)))
  refine Wo.doCall rfl rfl (op_call (args := [.v (.int .u64 (n : Nat))]) rfl rfl) ((num_tells n (by omega) (by omega) _).mono ?_)
  rintro r1 H1 ⟨rfl, rfl⟩
  (repeat (first|(with_reducible first|apply jA|apply jC|apply jD|apply jE|apply jF|apply jG|apply jH|apply jI|apply jJ|apply jK|apply jL|apply jM|apply jN|apply jO)|(with_reducible apply SeqQ.id;refine SeqQ.norm (by first|(simp only [j0];rfl)|rfl) ?_)|with_reducible refine jP (by decide) ?_|(with_reducible apply jQ;first|refine jR rfl rfl rfl ?_|refine jS rfl rfl rfl ?_)|((first|((with_reducible first|apply jm|apply jn|apply jb|apply ju);repeat rfl)|((with_reducible apply jy);iterate 3 rfl)|((with_reducible apply jz);iterate 3 rfl)|((with_reducible apply jp);iterate 5 rfl)|((with_reducible apply jq);iterate 5 rfl)|((with_reducible apply jk);exact u9;rfl));refine jT (by first|(simp only [j0];rfl)|rfl) ?_)))
  rw [show IntKind.i64.wrap (1 + ((Lib.nDigits n : Nat) : Int)) = ((1 + Lib.nDigits n : Nat) : Int) by rw [IntKind.wrap_i64]; omega]
  refine Wo.doVal rfl rfl (op_slice_arr (a := 1) (c := 1 + Lib.nDigits n) rfl rfl u104 sz5' rfl rfl (by decide) rfl rfl rfl rfl (by omega) (by omega) (by omega)) ?_
  rw [show 1 + Lib.nDigits n - 1 = Lib.nDigits n by omega]
  (repeat (first|(with_reducible first|apply jA|apply jC|apply jD|apply jE|apply jF|apply jG|apply jH|apply jI|apply jJ|apply jK|apply jL|apply jM|apply jN|apply jO)|(with_reducible apply SeqQ.id;refine SeqQ.norm (by first|(simp only [j0];rfl)|rfl) ?_)|with_reducible refine jP (by decide) ?_|(with_reducible apply jQ;first|refine jR rfl rfl rfl ?_|refine jS rfl rfl rfl ?_)|((first|((with_reducible first|apply jm|apply jn|apply jb|apply ju);repeat rfl)|((with_reducible apply jy);iterate 3 rfl)|((with_reducible apply jz);iterate 3 rfl)|((with_reducible apply jp);iterate 5 rfl)|((with_reducible apply jq);iterate 5 rfl)|((with_reducible apply jk);exact u9;rfl));refine jT (by first|(simp only [j0];rfl)|rfl) ?_)))
  refine Wo.doCall rfl rfl (op_call (args := [.ms 0 1 (Lib.nDigits n) 1, .v (.int .u64 (n : Nat))]) rfl rfl) (Tells.lib (g := toldFmt) rfl rfl (fmt_said hn) ?_)
  (repeat (first|(with_reducible first|apply jA|apply jC|apply jD|apply jE|apply jF|apply jG|apply jH|apply jI|apply jJ|apply jK|apply jL|apply jM|apply jN|apply jO)|(with_reducible apply SeqQ.id;refine SeqQ.norm (by first|(simp only [j0];rfl)|rfl) ?_)|with_reducible refine jP (by decide) ?_|(with_reducible apply jQ;first|refine jR rfl rfl rfl ?_|refine jS rfl rfl rfl ?_)|((first|((with_reducible first|apply jm|apply jn|apply jb|apply ju);repeat rfl)|((with_reducible apply jy);iterate 3 rfl)|((with_reducible apply jz);iterate 3 rfl)|((with_reducible apply jp);iterate 5 rfl)|((with_reducible apply jq);iterate 5 rfl)|((with_reducible apply jk);exact u9;rfl));refine jT (by first|(simp only [j0];rfl)|rfl) ?_)))
  rw [show decide ((n : Int) < 0) = false by simp]
  (repeat (first|(with_reducible first|apply jA|apply jC|apply jD|apply jE|apply jF|apply jG|apply jH|apply jI|apply jJ|apply jK|apply jL|apply jM|apply jN|apply jO)|(with_reducible apply SeqQ.id;refine SeqQ.norm (by first|(simp only [j0];rfl)|rfl) ?_)|with_reducible refine jP (by decide) ?_|(with_reducible apply jQ;first|refine jR rfl rfl rfl ?_|refine jS rfl rfl rfl ?_)|((first|((with_reducible first|apply jm|apply jn|apply jb|apply ju);repeat rfl)|((with_reducible apply jy);iterate 3 rfl)|((with_reducible apply jz);iterate 3 rfl)|((with_reducible apply jp);iterate 5 rfl)|((with_reducible apply jq);iterate 5 rfl)|((with_reducible apply jk);exact u9;rfl));refine jT (by first|(simp only [j0];rfl)|rfl) ?_)))
  rw [show IntKind.i64.wrap (1 + ((Lib.nDigits n : Nat) : Int)) = ((1 + Lib.nDigits n : Nat) : Int) by rw [IntKind.wrap_i64]; omega]
  have hpl : (putAll (List.replicate 24 (u8v 0)) 1 ((digs10 (Lib.nDigits n) n).map u8v)).length = 24 := by rw [putAll_ln]; simp
  have hdl : ((digs10 (Lib.nDigits n) n).map u8v).length = Lib.nDigits n := by simp [digs10]
  refine Wo.doVal rfl rfl (op_slice_arr (a := 1) (c := 1 + Lib.nDigits n) rfl rfl u104 sz5' rfl rfl (by rw [hpl]; exact Nat.le_refl _) rfl rfl rfl rfl (by omega) (by omega) (by omega)) ?_
  rw [show 1 + Lib.nDigits n - 1 = Lib.nDigits n by omega]
  have hput : ((putAll (List.replicate 24 (u8v 0)) 1 ((digs10 (Lib.nDigits n) n).map u8v)).drop 1).take (Lib.nDigits n) = (digs10 (Lib.nDigits n) n).map u8v := by
   have := put_get (cs := List.replicate 24 (u8v 0)) (o := 1) (ys := (digs10 (Lib.nDigits n) n).map u8v) (by rw [hdl]; simp; omega)
   rwa [hdl] at this
  refine Wo.doVal rfl rfl (op_conv_ms rfl u67 u9 u5 rfl rfl (by rw [hpl]; omega) hput) ?_
  (repeat (first|(with_reducible first|apply jA|apply jC|apply jD|apply jE|apply jF|apply jG|apply jH|apply jI|apply jJ|apply jK|apply jL|apply jM|apply jN|apply jO)|(with_reducible apply SeqQ.id;refine SeqQ.norm (by first|(simp only [j0];rfl)|rfl) ?_)|with_reducible refine jP (by decide) ?_|(with_reducible apply jQ;first|refine jR rfl rfl rfl ?_|refine jS rfl rfl rfl ?_)|((first|((with_reducible first|apply jm|apply jn|apply jb|apply ju);repeat rfl)|((with_reducible apply jy);iterate 3 rfl)|((with_reducible apply jz);iterate 3 rfl)|((with_reducible apply jp);iterate 5 rfl)|((with_reducible apply jq);iterate 5 rfl)|((with_reducible apply jk);exact u9;rfl));refine jT (by first|(simp only [j0];rfl)|rfl) ?_)))
  refine EndQ.ret rfl ⟨_, rfl, rfl, rfl, ?_⟩
  rw [digs_dec]
set_option maxHeartbeats 1000000 in
theorem itoa_tells (n : Nat) (hn : n < 1000000000000000000) (H : List AB) : Tells (Kq x) 24 [i64v n] H fun r H' => H' = H ∧ r = .str (Lib.decDigits n) := by
 refine Tells.vals (c := _) Tryz.func24 rfl (args' := [i64v n]) (m := 4) rfl rfl rfl rfl rfl ?_
 (repeat (first|(with_reducible first|apply jA|apply jC|apply jD|apply jE|apply jF|apply jG|apply jH|apply jI|apply jJ|apply jK|apply jL|apply jM|apply jN|apply jO)|(with_reducible apply SeqQ.id;refine SeqQ.norm (by first|(simp only [j0];rfl)|rfl) ?_)|with_reducible refine jP (by decide) ?_|(with_reducible apply jQ;first|refine jR rfl rfl rfl ?_|refine jS rfl rfl rfl ?_)|((first|((with_reducible first|apply jm|apply jn|apply jb|apply ju);repeat rfl)|((with_reducible apply jy);iterate 3 rfl)|((with_reducible apply jz);iterate 3 rfl)|((with_reducible apply jp);iterate 5 rfl)|((with_reducible apply jq);iterate 5 rfl)|((with_reducible apply jk);exact u9;rfl));refine jT (by first|(simp only [j0];rfl)|rfl) ?_)))
 refine Wo.doCall rfl rfl (op_call (args := [i64v n]) rfl rfl) ?_
 refine (show Tells (Kq x) 41 [i64v n] [] fun r H' => H' = [] ∧ r = .str (Lib.decDigits n) from ?_).mono ?_
 ·refine Tells.vals (c := _) Tryz.func41 rfl (args' := [i64v n]) (m := 4) rfl rfl rfl rfl rfl ?_
  (repeat (first|(with_reducible first|apply jA|apply jC|apply jD|apply jE|apply jF|apply jG|apply jH|apply jI|apply jJ|apply jK|apply jL|apply jM|apply jN|apply jO)|(with_reducible apply SeqQ.id;refine SeqQ.norm (by first|(simp only [j0];rfl)|rfl) ?_)|with_reducible refine jP (by decide) ?_|(with_reducible apply jQ;first|refine jR rfl rfl rfl ?_|refine jS rfl rfl rfl ?_)|((first|((with_reducible first|apply jm|apply jn|apply jb|apply ju);repeat rfl)|((with_reducible apply jy);iterate 3 rfl)|((with_reducible apply jz);iterate 3 rfl)|((with_reducible apply jp);iterate 5 rfl)|((with_reducible apply jq);iterate 5 rfl)|((with_reducible apply jk);exact u9;rfl));refine jT (by first|(simp only [j0];rfl)|rfl) ?_)))
  refine Wo.doCall rfl rfl (op_call (args := [i64v n, i64v 10]) rfl rfl) ((fint_tells n hn _).mono ?_)
  rintro r1 H1 ⟨rfl, rfl⟩
  (repeat (first|(with_reducible first|apply jA|apply jC|apply jD|apply jE|apply jF|apply jG|apply jH|apply jI|apply jJ|apply jK|apply jL|apply jM|apply jN|apply jO)|(with_reducible apply SeqQ.id;refine SeqQ.norm (by first|(simp only [j0];rfl)|rfl) ?_)|with_reducible refine jP (by decide) ?_|(with_reducible apply jQ;first|refine jR rfl rfl rfl ?_|refine jS rfl rfl rfl ?_)|((first|((with_reducible first|apply jm|apply jn|apply jb|apply ju);repeat rfl)|((with_reducible apply jy);iterate 3 rfl)|((with_reducible apply jz);iterate 3 rfl)|((with_reducible apply jp);iterate 5 rfl)|((with_reducible apply jq);iterate 5 rfl)|((with_reducible apply jk);exact u9;rfl));refine jT (by first|(simp only [j0];rfl)|rfl) ?_)))
  exact EndQ.ret rfl ⟨_, rfl, rfl, rfl, rfl⟩
 ·rintro r1 H1 ⟨rfl, rfl⟩
  (repeat (first|(with_reducible first|apply jA|apply jC|apply jD|apply jE|apply jF|apply jG|apply jH|apply jI|apply jJ|apply jK|apply jL|apply jM|apply jN|apply jO)|(with_reducible apply SeqQ.id;refine SeqQ.norm (by first|(simp only [j0];rfl)|rfl) ?_)|with_reducible refine jP (by decide) ?_|(with_reducible apply jQ;first|refine jR rfl rfl rfl ?_|refine jS rfl rfl rfl ?_)|((first|((with_reducible first|apply jm|apply jn|apply jb|apply ju);repeat rfl)|((with_reducible apply jy);iterate 3 rfl)|((with_reducible apply jz);iterate 3 rfl)|((with_reducible apply jp);iterate 5 rfl)|((with_reducible apply jq);iterate 5 rfl)|((with_reducible apply jk);exact u9;rfl));refine jT (by first|(simp only [j0];rfl)|rfl) ?_)))
  exact EndQ.ret rfl ⟨_, rfl, rfl, rfl, rfl⟩
end
end Go.Proofs.Hc
