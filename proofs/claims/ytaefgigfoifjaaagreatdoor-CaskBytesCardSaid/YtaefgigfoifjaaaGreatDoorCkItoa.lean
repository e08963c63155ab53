/- strconv.Itoa at what is not negative; names of segments' files: the code's and the reference's. -/
import Derived.Test.YtaefgigfoifjaaaGreatDoorCkRead2
import Derived.Test.YtaefgigfoifjaaaGreatDoorTmMono
set_option linter.unusedVariables false
set_option linter.unusedSimpArgs false
set_option linter.unusedSectionVars false
namespace Go.Proofs.Ck
open Go.Tm
set_option maxRecDepth 100000
theorem u5 : Kk.P.underlying 5 = some (.int .u8) := Tryz.underlying5
theorem sz136 : tSize Kk.P 136 = some 1 := by kernel_rfl
theorem ag136 : tAgg Kk.P 136 = some false := by kernel_rfl
theorem u2 : Kk.P.underlying 2 = some (.int .i64) := Tryz.underlying2
theorem u136 : Kk.P.underlying 136 = some (.int .u64) := Tryz.underlying136
theorem u183 : Kk.P.underlying 183 = some (.array 24 5) := Tryz.underlying183
theorem u212 : Kk.P.underlying 212 = some (.array 20 136) := Tryz.underlying212
theorem z183 : tZero Kk.P 183 = some (.agg (List.replicate 24 (u8v 0))) := by kernel_rfl
theorem bool2_run (b : Bool) : callF Kk 11 202 [.v (.bool b)] [] = some (i64v (if b then 1 else 0), []) := by cases b <;> kernel_rfl
theorem pow_at : ∀ j : Fin 20, pow10[j.val]? = some ((10 ^ j.val : Nat) : Int) := by decide
theorem pow_drop {j : Nat} (h : j < 20) : ∃ r, (pow10.map fun n => AV.v (.int .u64 n)).drop (j * 1) = AV.v (.int .u64 ((10 ^ j : Nat) : Int)) :: r := by
 have hj := pow_at ⟨j, h⟩
 obtain ⟨hlt, hg⟩ := List.getElem?_eq_some_iff.1 hj
 refine ⟨(pow10.map fun n => AV.v (.int .u64 n)).drop (j + 1), ?_⟩
 rw [Nat.mul_one, List.drop_eq_getElem_cons (by simpa using hlt), List.getElem_map, hg]
theorem bitLen_le {u : Nat} (h1 : 1 ≤ u) (h2 : u < 18446744073709551616) : Lib.bitLen u ≤ 64 := by
 obtain ⟨a, b, _⟩ := Lib.bitLenAux_bounds 64 u (by omega) (by omega)
 unfold Lib.bitLen
 by_cases h : Lib.bitLenAux 64 u ≤ 64
 ·exact h
 ·have : 2 ^ 64 ≤ 2 ^ (Lib.bitLenAux 64 u - 1) := Nat.pow_le_pow_right (by omega) (by omega)
  omega
set_option maxHeartbeats 1000000 in
theorem dnum_tells (u : Nat) (h1 : 1 ≤ u) (h2 : u < 18446744073709551616) (H : List AB) : Tells Kk 168 [.v (.int .u64 u)] H fun r H' => H' = H ∧ r = i64v (Lib.nDigits u : Nat) := by
 obtain ⟨hnd, hl⟩ := Lib.numDigits_eq u h1 h2
 have hb := bitLen_le h1 h2
 refine Tells.vals (c := _) Tryz.func168 rfl (args' := [.v (.int .u64 u)]) (m := 14) rfl rfl rfl rfl rfl ?_
 (repeat(first|with_reducible refine jZ ?_|(with_reducible apply jW;refine jX (by first|(simp only [j0,jU];rfl)|rfl) ?_)|with_reducible apply jE|with_reducible refine jP (by decide) ?_|(with_reducible apply jQ;first|refine kR rfl rfl ?_|refine kT rfl rfl ?_)|((first|((with_reducible apply kv);rfl)|((with_reducible apply ky);rfl;rfl)|((with_reducible apply kz);rfl;rfl)|((with_reducible apply kl);rfl;assumption;rfl;(first|assumption|rfl)));refine jT (by first|(simp only [j0,jU];rfl)|rfl) ?_)))
 refine Wo.doCall rfl rfl (op_call (args := [.v (.int .u64 u)]) rfl rfl) (Tells.libv (g := toldLen64) (r := i64v (Lib.bitLen u : Nat)) rfl (if_pos (by omega)) ?_)
 refine Wo.doCall rfl rfl (op_call (args := [i64v (Lib.bitLen u : Nat)]) rfl rfl) (Tells.libv (g := toldL10) (r := i64v (Lib.l10 (Lib.bitLen u) : Nat)) rfl (if_pos (by omega)) ?_)
 generalize Lib.l10 (Lib.bitLen u) = L at *
 (repeat(first|with_reducible refine jZ ?_|(with_reducible apply jW;refine jX (by first|(simp only [j0,jU];rfl)|rfl) ?_)|with_reducible apply jE|with_reducible refine jP (by decide) ?_|(with_reducible apply jQ;first|refine kR rfl rfl ?_|refine kT rfl rfl ?_)|((first|((with_reducible apply kv);rfl)|((with_reducible apply ky);rfl;rfl)|((with_reducible apply kz);rfl;rfl)|((with_reducible apply kl);rfl;assumption;rfl;(first|assumption|rfl)));refine jT (by first|(simp only [j0,jU];rfl)|rfl) ?_)))
 refine Wo.doVal rfl rfl (op_indexAddr_rp (j := L) rfl rfl u212 sz136 rfl rfl rfl (by omega)) ?_
 obtain ⟨rs, hrs⟩ := pow_drop (j := L) (by omega)
 rw [show (0 + 1 : Nat) = 1 from rfl, hrs]
 refine Wo.doVal rfl rfl (op_load_rp rfl rfl (take_one ag136 sz136)) ?_
 (repeat(first|with_reducible refine jZ ?_|(with_reducible apply jW;refine jX (by first|(simp only [j0,jU];rfl)|rfl) ?_)|with_reducible apply jE|with_reducible refine jP (by decide) ?_|(with_reducible apply jQ;first|refine kR rfl rfl ?_|refine kT rfl rfl ?_)|((first|((with_reducible apply kv);rfl)|((with_reducible apply ky);rfl;rfl)|((with_reducible apply kz);rfl;rfl)|((with_reducible apply kl);rfl;assumption;rfl;(first|assumption|rfl)));refine jT (by first|(simp only [j0,jU];rfl)|rfl) ?_)))
 refine Wo.doCall rfl rfl (op_call (args := [.v (.bool (decide ((u : Int) ≥ ((10 ^ L : Nat) : Int))))]) rfl rfl) ((Tells.runv (n := 10) rfl rfl rfl rfl rfl (bool2_run  _)).mono ?_)
 rintro r1 H1 ⟨rfl, rfl⟩
 (repeat(first|with_reducible refine jZ ?_|(with_reducible apply jW;refine jX (by first|(simp only [j0,jU];rfl)|rfl) ?_)|with_reducible apply jE|with_reducible refine jP (by decide) ?_|(with_reducible apply jQ;first|refine kR rfl rfl ?_|refine kT rfl rfl ?_)|((first|((with_reducible apply kv);rfl)|((with_reducible apply ky);rfl;rfl)|((with_reducible apply kz);rfl;rfl)|((with_reducible apply kl);rfl;assumption;rfl;(first|assumption|rfl)));refine jT (by first|(simp only [j0,jU];rfl)|rfl) ?_)))
 refine EndQ.ret rfl ⟨_, rfl, rfl, rfl, ?_⟩
 rw [← hnd, show decide ((u : Int) ≥ ((10 ^ L : Nat) : Int)) = decide (10 ^ L ≤ u) from decide_eq_decide.2 Int.ofNat_le]
 have key : ∀ b : Bool, IntKind.i64.wrap ((L : Int) + (if b = true then 1 else 0)) = ((L + (if b = true then 1 else 0) : Nat) : Int) := fun b => by
  cases b with
  | true => rw [if_pos rfl, if_pos rfl, IntKind.wrap_i64]; omega
  | false => rw [if_neg (by simp), if_neg (by simp), IntKind.wrap_i64]; omega
 have hk := key (decide (10 ^ L ≤ u))
 simp only [decide_eq_true_eq] at hk ⊢
 exact congrArg (fun z => AV.v (.int .i64 z)) hk
theorem dig_zeros (n : Nat) : allZero (((List.replicate 24 (u8v 0)).drop 1).take n) = true := by
 have h : ∀ l : List AV, (∀ y ∈ l, y = u8v 0) → allZero l = true := by
  intro l
  induction l with
  | nil => intro _; rfl
  | cons y r ih =>
   intro q
   obtain rfl := q y (by simp)
   show (decide ((0 : Int) = 0) && allZero r) = true
   rw [ih fun z hz => q z (by simp [hz])]; rfl
 refine h _ fun y hy => ?_
 exact List.eq_of_mem_replicate (List.mem_of_mem_drop (List.mem_of_mem_take hy))
theorem nd_le {n : Nat} (h : n < 1000000000000000000) : Lib.nDigits n ≤ 20 := Lib.nDigits_le20 n (by omega)
theorem fmt_said {n : Nat} (h : n < 1000000000000000000) : toldFmt [.ms 0 1 (Lib.nDigits n) 1, .v (.int .u64 (n : Nat))] [.cells (183, true) (List.replicate 24 (u8v 0))] = some (.tup [], [.cells (183, true) (putAll (List.replicate 24 (u8v 0)) 1 ((digs10 (Lib.nDigits n) n).map u8v))]) := by
 have hlt := Lib.lt_pow_nDigits n
 have hnd := nd_le h
 show (if 0 ≤ (n : Int) ∧ (n : Int).toNat < 10 ^ Lib.nDigits n ∧ (n : Int) ≤ 18446744073709551615 ∧ Lib.nDigits n ≤ 20 ∧ 1 + Lib.nDigits n ≤ (List.replicate 24 (u8v 0)).length ∧ allZero (((List.replicate 24 (u8v 0)).drop 1).take (Lib.nDigits n)) = true then _ else none) = _
 rw [if_pos ⟨by omega, by simpa using hlt, by omega, hnd, by simp; omega, dig_zeros _⟩]
 rfl
theorem digs_dec (n : Nat) : digs10 (Lib.nDigits n) n = Lib.decDigits n := by
 rw [Lib.decDigits_eq]; rfl
theorem put_get {cs : List AV} {o : Nat} {ys : List AV} (h : o + ys.length ≤ cs.length) : ((putAll cs o ys).drop o).take ys.length = ys := by
 apply List.ext_getElem?
 intro i
 rw [List.getElem?_take, List.getElem?_drop, putAll_get _ _ _ _ h]
 by_cases hi : i < ys.length
 ·rw [if_pos hi, if_pos ⟨by omega, by omega⟩]; congr 1; omega
 ·rw [if_neg hi, List.getElem?_eq_none (by omega)]
set_option maxHeartbeats 2000000 in
theorem fint_tells (n : Nat) (hn : n < 1000000000000000000) (H : List AB) : Tells Kk 147 [i64v n, i64v 10] H fun r H' => H' = H ∧ r = .str (Lib.decDigits n) := by
 refine Tells.vals (c := _) Tryz.func147 rfl (args' := [i64v n, i64v 10]) (m := 52) rfl rfl rfl rfl rfl ?_
 have hnd := nd_le hn
 have hn1 := Lib.nDigits_pos n
 (repeat(first|with_reducible refine jZ ?_|(with_reducible apply jW;refine jX (by first|(simp only [j0,jU];rfl)|rfl) ?_)|with_reducible apply jE|with_reducible refine jP (by decide) ?_|(with_reducible apply jQ;first|refine kR rfl rfl ?_|refine kT rfl rfl ?_)|((first|((with_reducible apply kv);rfl)|((with_reducible apply ky);rfl;rfl)|((with_reducible apply kz);rfl;rfl)|((with_reducible apply kl);rfl;assumption;rfl;(first|assumption|rfl)));refine jT (by first|(simp only [j0,jU];rfl)|rfl) ?_)))
 rw [show decide ((0 : Int) ≤ (n : Int)) = true by simp]
 (repeat(first|with_reducible refine jZ ?_|(with_reducible apply jW;refine jX (by first|(simp only [j0,jU];rfl)|rfl) ?_)|with_reducible apply jE|with_reducible refine jP (by decide) ?_|(with_reducible apply jQ;first|refine kR rfl rfl ?_|refine kT rfl rfl ?_)|((first|((with_reducible apply kv);rfl)|((with_reducible apply ky);rfl;rfl)|((with_reducible apply kz);rfl;rfl)|((with_reducible apply kl);rfl;assumption;rfl;(first|assumption|rfl)));refine jT (by first|(simp only [j0,jU];rfl)|rfl) ?_)))
 by_cases h100 : n < 100
 ·rw [show decide ((n : Int) < 100) = true by simp; omega]
  (repeat(first|with_reducible refine jZ ?_|(with_reducible apply jW;refine jX (by first|(simp only [j0,jU];rfl)|rfl) ?_)|with_reducible apply jE|with_reducible refine jP (by decide) ?_|(with_reducible apply jQ;first|refine kR rfl rfl ?_|refine kT rfl rfl ?_)|((first|((with_reducible apply kv);rfl)|((with_reducible apply ky);rfl;rfl)|((with_reducible apply kz);rfl;rfl)|((with_reducible apply kl);rfl;assumption;rfl;(first|assumption|rfl)));refine jT (by first|(simp only [j0,jU];rfl)|rfl) ?_)))
  refine Wo.doCall rfl rfl (op_call (args := [i64v n]) rfl rfl) (Tells.libv (g := toldSmall) (r := .str (Lib.decDigits n)) rfl (if_pos (by omega)) ?_)
  (repeat(first|with_reducible refine jZ ?_|(with_reducible apply jW;refine jX (by first|(simp only [j0,jU];rfl)|rfl) ?_)|with_reducible apply jE|with_reducible refine jP (by decide) ?_|(with_reducible apply jQ;first|refine kR rfl rfl ?_|refine kT rfl rfl ?_)|((first|((with_reducible apply kv);rfl)|((with_reducible apply ky);rfl;rfl)|((with_reducible apply kz);rfl;rfl)|((with_reducible apply kl);rfl;assumption;rfl;(first|assumption|rfl)));refine jT (by first|(simp only [j0,jU];rfl)|rfl) ?_)))
  exact EndQ.ret rfl ⟨_, rfl, rfl, rfl, rfl⟩
 ·rw [show decide ((n : Int) < 100) = false by simp; omega]
  (repeat(first|with_reducible refine jZ ?_|(with_reducible apply jW;refine jX (by first|(simp only [j0,jU];rfl)|rfl) ?_)|with_reducible apply jE|with_reducible refine jP (by decide) ?_|(with_reducible apply jQ;first|refine kR rfl rfl ?_|refine kT rfl rfl ?_)|((first|((with_reducible apply kv);rfl)|((with_reducible apply ky);rfl;rfl)|((with_reducible apply kz);rfl;rfl)|((with_reducible apply kl);rfl;assumption;rfl;(first|assumption|rfl)));refine jT (by first|(simp only [j0,jU];rfl)|rfl) ?_)))
  refine Wo.doVal rfl rfl (op_alloc rfl z183 rfl) ?_
  (repeat(first|with_reducible refine jZ ?_|(with_reducible apply jW;refine jX (by first|(simp only [j0,jU];rfl)|rfl) ?_)|with_reducible apply jE|with_reducible refine jP (by decide) ?_|(with_reducible apply jQ;first|refine kR rfl rfl ?_|refine kT rfl rfl ?_)|((first|((with_reducible apply kv);rfl)|((with_reducible apply ky);rfl;rfl)|((with_reducible apply kz);rfl;rfl)|((with_reducible apply kl);rfl;assumption;rfl;(first|assumption|rfl)));refine jT (by first|(simp only [j0,jU];rfl)|rfl) ?_)))
  refine Wo.conv u2 u136 rfl ?_
  rw [show IntKind.u64.wrap (n : Int) = (n : Int) by rw [IntKind.wrap_u64]; omega]
  (repeat(first|with_reducible refine jZ ?_|(with_reducible apply jW;refine jX (by first|(simp only [j0,jU];rfl)|rfl) ?_)|with_reducible apply jE|with_reducible refine jP (by decide) ?_|(with_reducible apply jQ;first|refine kR rfl rfl ?_|refine kT rfl rfl ?_)|((first|((with_reducible apply kv);rfl)|((with_reducible apply ky);rfl;rfl)|((with_reducible apply kz);rfl;rfl)|((with_reducible apply kl);rfl;assumption;rfl;(first|assumption|rfl)));refine jT (by first|(simp only [j0,jU];rfl)|rfl) ?_)))
  rw [show decide ((n : Int) < 0) = false by simp]
  (repeat(first|with_reducible refine jZ ?_|(with_reducible apply jW;refine jX (by first|(simp only [j0,jU];rfl)|rfl) ?_)|with_reducible apply jE|with_reducible refine jP (by decide) ?_|(with_reducible apply jQ;first|refine kR rfl rfl ?_|refine kT rfl rfl ?_)|((first|((with_reducible apply kv);rfl)|((with_reducible apply ky);rfl;rfl)|((with_reducible apply kz);rfl;rfl)|((with_reducible apply kl);rfl;assumption;rfl;(first|assumption|rfl)));refine jT (by first|(simp only [j0,jU];rfl)|rfl) ?_)))
  refine Wo.doCall rfl rfl (op_call (args := [.v (.int .u64 (n : Nat))]) rfl rfl) ((dnum_tells n (by omega) (by omega) _).mono ?_)
  rintro r1 H1 ⟨rfl, rfl⟩
  (repeat(first|with_reducible refine jZ ?_|(with_reducible apply jW;refine jX (by first|(simp only [j0,jU];rfl)|rfl) ?_)|with_reducible apply jE|with_reducible refine jP (by decide) ?_|(with_reducible apply jQ;first|refine kR rfl rfl ?_|refine kT rfl rfl ?_)|((first|((with_reducible apply kv);rfl)|((with_reducible apply ky);rfl;rfl)|((with_reducible apply kz);rfl;rfl)|((with_reducible apply kl);rfl;assumption;rfl;(first|assumption|rfl)));refine jT (by first|(simp only [j0,jU];rfl)|rfl) ?_)))
  rw [show IntKind.i64.wrap (1 + ((Lib.nDigits n : Nat) : Int)) = ((1 + Lib.nDigits n : Nat) : Int) by rw [IntKind.wrap_i64]; omega]
  refine Wo.doVal rfl rfl (op_slice_arr (a := 1) (c := 1 + Lib.nDigits n) rfl rfl u183 sz5 rfl rfl (by decide) rfl rfl rfl rfl (by omega) (by omega) (by omega)) ?_
  rw [show 1 + Lib.nDigits n - 1 = Lib.nDigits n by omega]
  (repeat(first|with_reducible refine jZ ?_|(with_reducible apply jW;refine jX (by first|(simp only [j0,jU];rfl)|rfl) ?_)|with_reducible apply jE|with_reducible refine jP (by decide) ?_|(with_reducible apply jQ;first|refine kR rfl rfl ?_|refine kT rfl rfl ?_)|((first|((with_reducible apply kv);rfl)|((with_reducible apply ky);rfl;rfl)|((with_reducible apply kz);rfl;rfl)|((with_reducible apply kl);rfl;assumption;rfl;(first|assumption|rfl)));refine jT (by first|(simp only [j0,jU];rfl)|rfl) ?_)))
  refine Wo.doCall rfl rfl (op_call (args := [.ms 0 1 (Lib.nDigits n) 1, .v (.int .u64 (n : Nat))]) rfl rfl) (Tells.lib (g := toldFmt) rfl rfl (fmt_said hn) ?_)
  (repeat(first|with_reducible refine jZ ?_|(with_reducible apply jW;refine jX (by first|(simp only [j0,jU];rfl)|rfl) ?_)|with_reducible apply jE|with_reducible refine jP (by decide) ?_|(with_reducible apply jQ;first|refine kR rfl rfl ?_|refine kT rfl rfl ?_)|((first|((with_reducible apply kv);rfl)|((with_reducible apply ky);rfl;rfl)|((with_reducible apply kz);rfl;rfl)|((with_reducible apply kl);rfl;assumption;rfl;(first|assumption|rfl)));refine jT (by first|(simp only [j0,jU];rfl)|rfl) ?_)))
  rw [show decide ((n : Int) < 0) = false by simp]
  (repeat(first|with_reducible refine jZ ?_|(with_reducible apply jW;refine jX (by first|(simp only [j0,jU];rfl)|rfl) ?_)|with_reducible apply jE|with_reducible refine jP (by decide) ?_|(with_reducible apply jQ;first|refine kR rfl rfl ?_|refine kT rfl rfl ?_)|((first|((with_reducible apply kv);rfl)|((with_reducible apply ky);rfl;rfl)|((with_reducible apply kz);rfl;rfl)|((with_reducible apply kl);rfl;assumption;rfl;(first|assumption|rfl)));refine jT (by first|(simp only [j0,jU];rfl)|rfl) ?_)))
  rw [show IntKind.i64.wrap (1 + ((Lib.nDigits n : Nat) : Int)) = ((1 + Lib.nDigits n : Nat) : Int) by rw [IntKind.wrap_i64]; omega]
  have hpl : (putAll (List.replicate 24 (u8v 0)) 1 ((digs10 (Lib.nDigits n) n).map u8v)).length = 24 := by rw [putAll_ln]; simp
  have hdl : ((digs10 (Lib.nDigits n) n).map u8v).length = Lib.nDigits n := by simp [digs10]
  refine Wo.doVal rfl rfl (op_slice_arr (a := 1) (c := 1 + Lib.nDigits n) rfl rfl u183 sz5 rfl rfl (by rw [hpl]; exact Nat.le_refl _) rfl rfl rfl rfl (by omega) (by omega) (by omega)) ?_
  rw [show 1 + Lib.nDigits n - 1 = Lib.nDigits n by omega]
  have hput : ((putAll (List.replicate 24 (u8v 0)) 1 ((digs10 (Lib.nDigits n) n).map u8v)).drop 1).take (Lib.nDigits n) = (digs10 (Lib.nDigits n) n).map u8v := by
   have := put_get (cs := List.replicate 24 (u8v 0)) (o := 1) (ys := (digs10 (Lib.nDigits n) n).map u8v) (by rw [hdl]; simp; omega)
   rwa [hdl] at this
  refine Wo.doVal rfl rfl (op_conv_ms rfl u37 u9 u5 rfl rfl (by rw [hpl]; omega) hput) ?_
  (repeat(first|with_reducible refine jZ ?_|(with_reducible apply jW;refine jX (by first|(simp only [j0,jU];rfl)|rfl) ?_)|with_reducible apply jE|with_reducible refine jP (by decide) ?_|(with_reducible apply jQ;first|refine kR rfl rfl ?_|refine kT rfl rfl ?_)|((first|((with_reducible apply kv);rfl)|((with_reducible apply ky);rfl;rfl)|((with_reducible apply kz);rfl;rfl)|((with_reducible apply kl);rfl;assumption;rfl;(first|assumption|rfl)));refine jT (by first|(simp only [j0,jU];rfl)|rfl) ?_)))
  refine EndQ.ret rfl ⟨_, rfl, rfl, rfl, ?_⟩
  rw [digs_dec]
set_option maxHeartbeats 1000000 in
theorem itoa_tells (n : Nat) (hn : n < 1000000000000000000) (H : List AB) : Tells Kk 45 [i64v n] H fun r H' => H' = H ∧ r = .str (Lib.decDigits n) := by
 refine Tells.vals (c := _) Tryz.func45 rfl (args' := [i64v n]) (m := 4) rfl rfl rfl rfl rfl ?_
 (repeat(first|with_reducible refine jZ ?_|(with_reducible apply jW;refine jX (by first|(simp only [j0,jU];rfl)|rfl) ?_)|with_reducible apply jE|with_reducible refine jP (by decide) ?_|(with_reducible apply jQ;first|refine kR rfl rfl ?_|refine kT rfl rfl ?_)|((first|((with_reducible apply kv);rfl)|((with_reducible apply ky);rfl;rfl)|((with_reducible apply kz);rfl;rfl)|((with_reducible apply kl);rfl;assumption;rfl;(first|assumption|rfl)));refine jT (by first|(simp only [j0,jU];rfl)|rfl) ?_)))
 refine Wo.doCall rfl rfl (op_call (args := [i64v n]) rfl rfl) ?_
 refine (show Tells Kk 102 [i64v n] [] fun r H' => H' = [] ∧ r = .str (Lib.decDigits n) from ?_).mono ?_
 ·refine Tells.vals (c := _) Tryz.func102 rfl (args' := [i64v n]) (m := 4) rfl rfl rfl rfl rfl ?_
  (repeat(first|with_reducible refine jZ ?_|(with_reducible apply jW;refine jX (by first|(simp only [j0,jU];rfl)|rfl) ?_)|with_reducible apply jE|with_reducible refine jP (by decide) ?_|(with_reducible apply jQ;first|refine kR rfl rfl ?_|refine kT rfl rfl ?_)|((first|((with_reducible apply kv);rfl)|((with_reducible apply ky);rfl;rfl)|((with_reducible apply kz);rfl;rfl)|((with_reducible apply kl);rfl;assumption;rfl;(first|assumption|rfl)));refine jT (by first|(simp only [j0,jU];rfl)|rfl) ?_)))
  refine Wo.doCall rfl rfl (op_call (args := [i64v n, i64v 10]) rfl rfl) ((fint_tells n hn _).mono ?_)
  rintro r1 H1 ⟨rfl, rfl⟩
  (repeat(first|with_reducible refine jZ ?_|(with_reducible apply jW;refine jX (by first|(simp only [j0,jU];rfl)|rfl) ?_)|with_reducible apply jE|with_reducible refine jP (by decide) ?_|(with_reducible apply jQ;first|refine kR rfl rfl ?_|refine kT rfl rfl ?_)|((first|((with_reducible apply kv);rfl)|((with_reducible apply ky);rfl;rfl)|((with_reducible apply kz);rfl;rfl)|((with_reducible apply kl);rfl;assumption;rfl;(first|assumption|rfl)));refine jT (by first|(simp only [j0,jU];rfl)|rfl) ?_)))
  exact EndQ.ret rfl ⟨_, rfl, rfl, rfl, rfl⟩
 ·rintro r1 H1 ⟨rfl, rfl⟩
  (repeat(first|with_reducible refine jZ ?_|(with_reducible apply jW;refine jX (by first|(simp only [j0,jU];rfl)|rfl) ?_)|with_reducible apply jE|with_reducible refine jP (by decide) ?_|(with_reducible apply jQ;first|refine kR rfl rfl ?_|refine kT rfl rfl ?_)|((first|((with_reducible apply kv);rfl)|((with_reducible apply ky);rfl;rfl)|((with_reducible apply kz);rfl;rfl)|((with_reducible apply kl);rfl;assumption;rfl;(first|assumption|rfl)));refine jT (by first|(simp only [j0,jU];rfl)|rfl) ?_)))
  exact EndQ.ret rfl ⟨_, rfl, rfl, rfl, rfl⟩
end Go.Proofs.Ck
