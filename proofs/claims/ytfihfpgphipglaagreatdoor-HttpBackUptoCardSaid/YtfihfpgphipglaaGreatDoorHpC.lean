/- HpPu2, HpLast, joined. -/
import Derived.Test.YtfihfpgphipglaaGreatDoorHpPu
set_option linter.unusedVariables false
set_option linter.unusedSimpArgs false
set_option linter.unusedSectionVars false
section
namespace Go.Tm
variable {K : Cfg} {f : FuncId} {o : Oper} {R : List AV} {own : Nat → Nat} {H : List AB}
theorem op_sliceData {x : Operand} {v r : AV} {ts : Array TypeId} (ho : o.op = .call { callee := .builtin .unsafeSliceData, args := #[x], argTypes := ts }) (hx : evalO K R x = some v) (hv : (v = .sl [] .nil ∧ r = .v (.pointer none)) ∨ ∃ b off l s, v = .ms b off (l + 1) s ∧ r = .ptr b off) : aOp K f ⟨R, own, H⟩ o [] = some (.val r own H, [], []) := by
 have hm : mapO (evalO K R) [x] = some [v] := by simp [mapO, hx]
 rcases hv with ⟨rfl, rfl⟩ | ⟨b, off, l, s, rfl, rfl⟩
 ·simp only [aOp, ho, hm, aBuiltin]; rfl
 ·simp only [aOp, ho, hm, aBuiltin]; rfl
theorem op_unsafeString {x y : Operand} {t u : TypeId} {p n r : AV} {H' : List AB} {ts : Array TypeId} {l : List TypeId} (ho : o.op = .call { callee := .builtin .unsafeString, args := #[x, y], argTypes := ts }) (ht : ts.toList = t :: l) (hu : K.P.underlying t = some (.pointer u)) (hx : evalO K R x = some p) (hy : evalO K R y = some n) (hr : aUnsafeString K H u p n = some (r, H')) : aOp K f ⟨R, own, H⟩ o [] = some (.val r.unown own H', [], []) := by
 have hm : mapO (evalO K R) [x, y] = some [p, n] := by simp [mapO, hx, hy]
 simp only [aOp, ho, hm, ht, aBuiltin, hu, hr]; rfl
end Go.Tm
namespace Go.Proofs
open Go.Tm
set_option maxRecDepth 100000
section
variable {x : Value}
abbrev numErr (x : Value) (a b : UInt8) : AV := .iface 101 (.rp [.str [80, 97, 114, 115, 101, 85, 105, 110, 116], .str [(Int.toNat (a.toNat : Int)).toUInt8, (Int.toNat (b.toNat : Int)).toUInt8], .v x])
theorem err_run2 (x : Value) (a b : UInt8) : callF (Kp x) 100 54 [.str [80, 97, 114, 115, 101, 85, 105, 110, 116], .str [a, b], .v (.int .i64 16), .v (.int .i64 8), .iface 98 (.v (.int .i64 2))] [] = some (numErr x a b, []) := by kernel_rfl
theorem u73 : ∃ ms, (Kp x).P.underlying 73 = some (.interface ms) := ⟨_, Tryz.underlying73⟩
theorem ifc_ne (t : TypeId) (v : AV) (p q : Operand) : aBinOp (Kp x) .neq 73 p q (.iface t v) (.v .nilIface) [] = some (.v (.bool true), [], []) := by
 obtain ⟨ms, h⟩ := u73 (x := x)
 simp only [aBinOp, aNilEq, h]; rfl
def puSays (x : Value) (a b : UInt8) : AV := if hexOf a.toNat = 16 ∨ hexOf b.toNat = 16 then .tup [u64v 0, numErr x a b] else .tup [u64v ((hexOf a.toNat * 16 + hexOf b.toNat : Nat) : Int), .v .nilIface]
set_option maxHeartbeats 2000000 in
theorem pu_tells (a b : UInt8) (H : List AB) : Tells (Kp x) 33 [.str [a, b], i64v 16, i64v 8] H fun r H' => H' = H ∧ r = puSays x a b := by
 refine Tells.vals (c := _) Tryz.func33 rfl (args' := [.str [a, b], i64v 16, i64v 8]) (m := 23) rfl rfl rfl rfl rfl ?_
 (repeat (first|(with_reducible first|apply jA|apply jC|apply jD|apply jE|apply jF|apply jG|apply jH|apply jI|apply jJ|apply jK|apply jL|apply jM|apply jN|apply jO)|(with_reducible apply SeqQ.id;refine SeqQ.norm (by first|(simp only [j0];rfl)|rfl) ?_)|with_reducible refine jP (by decide) ?_|(with_reducible apply jQ;first|refine jR rfl rfl rfl ?_|refine jS rfl rfl rfl ?_)|((first|((with_reducible first|apply jm|apply jn|apply jb|apply ju);repeat rfl)|((with_reducible apply jy);iterate 3 rfl)|((with_reducible apply jz);iterate 3 rfl)|((with_reducible apply jp);iterate 5 rfl)|((with_reducible apply jq);iterate 5 rfl)|((with_reducible apply jk);exact u9;rfl)|((with_reducible apply jl);exact u67;rfl)|((with_reducible apply Wo.conv);(iterate 2 (with_reducible first|exact u3|exact u5|exact u76|exact u84));rfl));refine jT (by first|(simp only [j0];rfl)|rfl) ?_)))
 refine Wo.doCall rfl rfl (op_call (args := [.str [a, b], i64v 16, i64v 8]) rfl rfl) ((ipu_tells a b _).mono ?_)
 rintro r1 H1 ⟨rfl, rfl⟩
 unfold puRes puSays
 by_cases hb : hexOf a.toNat = 16 ∨ hexOf b.toNat = 16
 ·rw [if_pos hb, if_pos hb]
  (repeat (first|(with_reducible first|apply jA|apply jC|apply jD|apply jE|apply jF|apply jG|apply jH|apply jI|apply jJ|apply jK|apply jL|apply jM|apply jN|apply jO)|(with_reducible apply SeqQ.id;refine SeqQ.norm (by first|(simp only [j0];rfl)|rfl) ?_)|with_reducible refine jP (by decide) ?_|(with_reducible apply jQ;first|refine jR rfl rfl rfl ?_|refine jS rfl rfl rfl ?_)|((first|((with_reducible first|apply jm|apply jn|apply jb|apply ju);repeat rfl)|((with_reducible apply jy);iterate 3 rfl)|((with_reducible apply jz);iterate 3 rfl)|((with_reducible apply jp);iterate 5 rfl)|((with_reducible apply jq);iterate 5 rfl)|((with_reducible apply jk);exact u9;rfl)|((with_reducible apply jl);exact u67;rfl)|((with_reducible apply Wo.conv);(iterate 2 (with_reducible first|exact u3|exact u5|exact u76|exact u84));rfl));refine jT (by first|(simp only [j0];rfl)|rfl) ?_)))
  refine Wo.doVal rfl rfl (op_extract rfl rfl rfl) ?_
  refine Wo.doVal rfl rfl (op_extract rfl rfl rfl) ?_
  (repeat (first|(with_reducible first|apply jA|apply jC|apply jD|apply jE|apply jF|apply jG|apply jH|apply jI|apply jJ|apply jK|apply jL|apply jM|apply jN|apply jO)|(with_reducible apply SeqQ.id;refine SeqQ.norm (by first|(simp only [j0];rfl)|rfl) ?_)|with_reducible refine jP (by decide) ?_|(with_reducible apply jQ;first|refine jR rfl rfl rfl ?_|refine jS rfl rfl rfl ?_)|((first|((with_reducible first|apply jm|apply jn|apply jb|apply ju);repeat rfl)|((with_reducible apply jy);iterate 3 rfl)|((with_reducible apply jz);iterate 3 rfl)|((with_reducible apply jp);iterate 5 rfl)|((with_reducible apply jq);iterate 5 rfl)|((with_reducible apply jk);exact u9;rfl)|((with_reducible apply jl);exact u67;rfl)|((with_reducible apply Wo.conv);(iterate 2 (with_reducible first|exact u3|exact u5|exact u76|exact u84));rfl));refine jT (by first|(simp only [j0];rfl)|rfl) ?_)))
  refine Wo.doVal rfl rfl (op_binv rfl rfl rfl (ifc_ne _ _ _ _)) ?_
  (repeat (first|(with_reducible first|apply jA|apply jC|apply jD|apply jE|apply jF|apply jG|apply jH|apply jI|apply jJ|apply jK|apply jL|apply jM|apply jN|apply jO)|(with_reducible apply SeqQ.id;refine SeqQ.norm (by first|(simp only [j0];rfl)|rfl) ?_)|with_reducible refine jP (by decide) ?_|(with_reducible apply jQ;first|refine jR rfl rfl rfl ?_|refine jS rfl rfl rfl ?_)|((first|((with_reducible first|apply jm|apply jn|apply jb|apply ju);repeat rfl)|((with_reducible apply jy);iterate 3 rfl)|((with_reducible apply jz);iterate 3 rfl)|((with_reducible apply jp);iterate 5 rfl)|((with_reducible apply jq);iterate 5 rfl)|((with_reducible apply jk);exact u9;rfl)|((with_reducible apply jl);exact u67;rfl)|((with_reducible apply Wo.conv);(iterate 2 (with_reducible first|exact u3|exact u5|exact u76|exact u84));rfl));refine jT (by first|(simp only [j0];rfl)|rfl) ?_)))
  refine Wo.doCall rfl rfl (op_call (args := [.str [80, 97, 114, 115, 101, 85, 105, 110, 116], .str [a, b], i64v 16, i64v 8, synErr]) rfl rfl) ((Tells.runv (n := 99) rfl rfl rfl rfl rfl (err_run2 x a b)).mono ?_)
  rintro r1 H1 ⟨rfl, rfl⟩
  (repeat (first|(with_reducible first|apply jA|apply jC|apply jD|apply jE|apply jF|apply jG|apply jH|apply jI|apply jJ|apply jK|apply jL|apply jM|apply jN|apply jO)|(with_reducible apply SeqQ.id;refine SeqQ.norm (by first|(simp only [j0];rfl)|rfl) ?_)|with_reducible refine jP (by decide) ?_|(with_reducible apply jQ;first|refine jR rfl rfl rfl ?_|refine jS rfl rfl rfl ?_)|((first|((with_reducible first|apply jm|apply jn|apply jb|apply ju);repeat rfl)|((with_reducible apply jy);iterate 3 rfl)|((with_reducible apply jz);iterate 3 rfl)|((with_reducible apply jp);iterate 5 rfl)|((with_reducible apply jq);iterate 5 rfl)|((with_reducible apply jk);exact u9;rfl)|((with_reducible apply jl);exact u67;rfl)|((with_reducible apply Wo.conv);(iterate 2 (with_reducible first|exact u3|exact u5|exact u76|exact u84));rfl));refine jT (by first|(simp only [j0];rfl)|rfl) ?_)))
  exact EndQ.ret rfl ⟨_, rfl, rfl, rfl, rfl⟩
 ·rw [if_neg hb, if_neg hb]
  (repeat (first|(with_reducible first|apply jA|apply jC|apply jD|apply jE|apply jF|apply jG|apply jH|apply jI|apply jJ|apply jK|apply jL|apply jM|apply jN|apply jO)|(with_reducible apply SeqQ.id;refine SeqQ.norm (by first|(simp only [j0];rfl)|rfl) ?_)|with_reducible refine jP (by decide) ?_|(with_reducible apply jQ;first|refine jR rfl rfl rfl ?_|refine jS rfl rfl rfl ?_)|((first|((with_reducible first|apply jm|apply jn|apply jb|apply ju);repeat rfl)|((with_reducible apply jy);iterate 3 rfl)|((with_reducible apply jz);iterate 3 rfl)|((with_reducible apply jp);iterate 5 rfl)|((with_reducible apply jq);iterate 5 rfl)|((with_reducible apply jk);exact u9;rfl)|((with_reducible apply jl);exact u67;rfl)|((with_reducible apply Wo.conv);(iterate 2 (with_reducible first|exact u3|exact u5|exact u76|exact u84));rfl));refine jT (by first|(simp only [j0];rfl)|rfl) ?_)))
  refine Wo.doVal rfl rfl (op_extract rfl rfl rfl) ?_
  refine Wo.doVal rfl rfl (op_extract rfl rfl rfl) ?_
  (repeat (first|(with_reducible first|apply jA|apply jC|apply jD|apply jE|apply jF|apply jG|apply jH|apply jI|apply jJ|apply jK|apply jL|apply jM|apply jN|apply jO)|(with_reducible apply SeqQ.id;refine SeqQ.norm (by first|(simp only [j0];rfl)|rfl) ?_)|with_reducible refine jP (by decide) ?_|(with_reducible apply jQ;first|refine jR rfl rfl rfl ?_|refine jS rfl rfl rfl ?_)|((first|((with_reducible first|apply jm|apply jn|apply jb|apply ju);repeat rfl)|((with_reducible apply jy);iterate 3 rfl)|((with_reducible apply jz);iterate 3 rfl)|((with_reducible apply jp);iterate 5 rfl)|((with_reducible apply jq);iterate 5 rfl)|((with_reducible apply jk);exact u9;rfl)|((with_reducible apply jl);exact u67;rfl)|((with_reducible apply Wo.conv);(iterate 2 (with_reducible first|exact u3|exact u5|exact u76|exact u84));rfl));refine jT (by first|(simp only [j0];rfl)|rfl) ?_)))
  exact EndQ.ret rfl ⟨_, rfl, rfl, rfl, rfl⟩
def pre (s : List UInt8) : List UInt8 := s.takeWhile (· != 37)
def post (s : List UInt8) : List UInt8 := s.drop ((pre s).length + 1)
theorem index_has : ∀ {s : List UInt8}, 37 ∈ s → Lib.indexByte s 37 = ((pre s).length : Int) ∧ (pre s).length < s.length
 | [], h => by cases h
 | c :: r, h => by
  unfold Lib.indexByte pre
  by_cases e : c = 37
  ·subst e
   simp
  ·have hr : 37 ∈ r := by rcases List.mem_cons.1 h with h | h; exact absurd h.symm e; exact h
   obtain ⟨h1, h2⟩ := index_has hr
   unfold pre at h1 h2
   simp [List.takeWhile_cons, e, h1]
   omega
theorem index_not : ∀ {s : List UInt8}, 37 ∉ s → Lib.indexByte s 37 = -1 ∧ pre s = s
 | [], _ => ⟨rfl, rfl⟩
 | c :: r, h => by
  have e : c ≠ 37 := fun q => h (by simp [q])
  obtain ⟨h1, h2⟩ := index_not (s := r) fun q => h (by simp [q])
  unfold pre at h2 ⊢
  unfold Lib.indexByte
  simp [List.takeWhile_cons, e, h1, h2]
theorem pre_take (s : List UInt8) : s.take (pre s).length = pre s := by
 have h : pre s <+: s := List.takeWhile_prefix _
 exact (List.prefix_iff_eq_take.1 h).symm
def cutV (s : List UInt8) : AV := .tup [.str (pre s), .str (post s), .v (.bool (decide (37 ∈ s)))]
theorem wi1 {n : Nat} (h : n < 4294967281) : IntKind.i64.wrap ((n : Int) + ((([37] : List UInt8).length : Nat) : Int)) = ((n + 1 : Nat) : Int) := by
 change IntKind.i64.wrap ((n : Int) + 1) = _
 rw [IntKind.wrap_i64]
 omega
set_option maxHeartbeats 2000000 in
theorem icut_tells (s : List UInt8) (hs : s.length < 4294967281) (H : List AB) : Tells (Kp x) 51 [.str s, .str [37]] H fun r H' => H' = H ∧ r = cutV s := by
 refine Tells.vals (c := _) Tryz.func51 rfl (args' := [.str s, .str [37]]) (m := 21) rfl rfl rfl rfl rfl ?_
 have hidx : toldIndex [.str s, .str [37]] = some (i64v (Lib.indexByte s 37)) := by
  show (if s.length < 4294967281 then some (AV.v (.int .i64 (Lib.index s [37]))) else none) = _
  rw [if_pos hs, Lib.index_one]
 (repeat (first|(with_reducible first|apply jA|apply jC|apply jD|apply jE|apply jF|apply jG|apply jH|apply jI|apply jJ|apply jK|apply jL|apply jM|apply jN|apply jO)|(with_reducible apply SeqQ.id;refine SeqQ.norm (by first|(simp only [j0];rfl)|rfl) ?_)|with_reducible refine jP (by decide) ?_|(with_reducible apply jQ;first|refine jR rfl rfl rfl ?_|refine jS rfl rfl rfl ?_)|((first|((with_reducible first|apply jm|apply jn|apply jb|apply ju);repeat rfl)|((with_reducible apply jy);iterate 3 rfl)|((with_reducible apply jz);iterate 3 rfl)|((with_reducible apply jp);iterate 5 rfl)|((with_reducible apply jq);iterate 5 rfl)|((with_reducible apply jk);exact u9;rfl)|((with_reducible apply jl);exact u67;rfl)|((with_reducible apply Wo.conv);(iterate 2 (with_reducible first|exact u3|exact u5));rfl));refine jT (by first|(simp only [j0];rfl)|rfl) ?_)))
 refine Wo.doCall rfl rfl (op_call (args := [.str s, .str [37]]) rfl rfl) (Tells.libv (g := toldIndex) rfl hidx ?_)
 unfold cutV
 by_cases hm : 37 ∈ s
 ·obtain ⟨h1, h2⟩ := index_has hm
  rw [h1, decide_eq_true hm]
  (repeat (first|(with_reducible first|apply jA|apply jC|apply jD|apply jE|apply jF|apply jG|apply jH|apply jI|apply jJ|apply jK|apply jL|apply jM|apply jN|apply jO)|(with_reducible apply SeqQ.id;refine SeqQ.norm (by first|(simp only [j0];rfl)|rfl) ?_)|with_reducible refine jP (by decide) ?_|(with_reducible apply jQ;first|refine jR rfl rfl rfl ?_|refine jS rfl rfl rfl ?_)|((first|((with_reducible first|apply jm|apply jn|apply jb|apply ju);repeat rfl)|((with_reducible apply jy);iterate 3 rfl)|((with_reducible apply jz);iterate 3 rfl)|((with_reducible apply jp);iterate 5 rfl)|((with_reducible apply jq);iterate 5 rfl)|((with_reducible apply jk);exact u9;rfl)|((with_reducible apply jl);exact u67;rfl)|((with_reducible apply Wo.conv);(iterate 2 (with_reducible first|exact u3|exact u5));rfl));refine jT (by first|(simp only [j0];rfl)|rfl) ?_)))
  refine Wc.drawn rfl (by kernel_rfl) ?_
  (repeat (with_reducible refine Wd.id ?_; first | refine Wd.nil ?_ | (refine Wd.not rfl rfl rfl rfl rfl ?_; refine Wd.norm (by first | (simp only [setAt]; rfl) | rfl) ?_) | ((first | refine Wd.go0 rfl rfl ?_ | refine Wd.go1 rfl rfl rfl rfl ?_); (first | refine Wy.val rfl (op_move rfl rfl) rfl ?_ | refine Wy.val rfl (op_assign rfl rfl) rfl ?_ | refine Wy.val rfl (op_bin rfl rfl rfl rfl rfl) rfl ?_ | refine Wy.val rfl (op_un rfl rfl rfl rfl) rfl ?_ | refine Wy.val rfl (op_pick_t rfl rfl rfl rfl rfl rfl) rfl ?_ | refine Wy.val rfl (op_pick_f rfl rfl rfl rfl rfl rfl) rfl ?_ | refine Wy.val rfl (op_len_sl rfl rfl (by first | with_reducible exact u9 | with_reducible exact u3 | with_reducible exact u5) rfl) rfl ?_ | refine Wy.val rfl (op_len_str rfl rfl (by first | with_reducible exact u9 | with_reducible exact u3 | with_reducible exact u5) rfl) rfl ?_); refine Wd.norm (by first | (simp only [setAt]; rfl) | rfl) ?_)))
  ((first | refine Wd.go0 rfl rfl ?_ | refine Wd.go1 rfl rfl rfl rfl ?_); refine Wy.val rfl (op_slice_str_hi (b := (pre s).length) rfl rfl u9 rfl rfl rfl (by omega)) rfl ?_; refine Wd.norm (by first | (simp only [setAt]; rfl) | rfl) ?_)
  (repeat (with_reducible refine Wd.id ?_; first | refine Wd.nil ?_ | (refine Wd.not rfl rfl rfl rfl rfl ?_; refine Wd.norm (by first | (simp only [setAt]; rfl) | rfl) ?_) | ((first | refine Wd.go0 rfl rfl ?_ | refine Wd.go1 rfl rfl rfl rfl ?_); (first | refine Wy.val rfl (op_move rfl rfl) rfl ?_ | refine Wy.val rfl (op_assign rfl rfl) rfl ?_ | refine Wy.val rfl (op_bin rfl rfl rfl rfl rfl) rfl ?_ | refine Wy.val rfl (op_un rfl rfl rfl rfl) rfl ?_ | refine Wy.val rfl (op_pick_t rfl rfl rfl rfl rfl rfl) rfl ?_ | refine Wy.val rfl (op_pick_f rfl rfl rfl rfl rfl rfl) rfl ?_ | refine Wy.val rfl (op_len_sl rfl rfl (by first | with_reducible exact u9 | with_reducible exact u3 | with_reducible exact u5) rfl) rfl ?_ | refine Wy.val rfl (op_len_str rfl rfl (by first | with_reducible exact u9 | with_reducible exact u3 | with_reducible exact u5) rfl) rfl ?_); refine Wd.norm (by first | (simp only [setAt]; rfl) | rfl) ?_)))
  ((first | refine Wd.go0 rfl rfl ?_ | refine Wd.go1 rfl rfl rfl rfl ?_); refine Wy.val rfl (op_slice_str_lo (a := (pre s).length + 1) rfl rfl u9 rfl rfl (wi1 (by omega)) (by omega)) rfl ?_; refine Wd.norm (by first | (simp only [setAt]; rfl) | rfl) ?_)
  (repeat (with_reducible refine Wd.id ?_; first | refine Wd.nil ?_ | (refine Wd.not rfl rfl rfl rfl rfl ?_; refine Wd.norm (by first | (simp only [setAt]; rfl) | rfl) ?_) | ((first | refine Wd.go0 rfl rfl ?_ | refine Wd.go1 rfl rfl rfl rfl ?_); (first | refine Wy.val rfl (op_move rfl rfl) rfl ?_ | refine Wy.val rfl (op_assign rfl rfl) rfl ?_ | refine Wy.val rfl (op_bin rfl rfl rfl rfl rfl) rfl ?_ | refine Wy.val rfl (op_un rfl rfl rfl rfl) rfl ?_ | refine Wy.val rfl (op_pick_t rfl rfl rfl rfl rfl rfl) rfl ?_ | refine Wy.val rfl (op_pick_f rfl rfl rfl rfl rfl rfl) rfl ?_ | refine Wy.val rfl (op_len_sl rfl rfl (by first | with_reducible exact u9 | with_reducible exact u3 | with_reducible exact u5) rfl) rfl ?_ | refine Wy.val rfl (op_len_str rfl rfl (by first | with_reducible exact u9 | with_reducible exact u3 | with_reducible exact u5) rfl) rfl ?_); refine Wd.norm (by first | (simp only [setAt]; rfl) | rfl) ?_)))
  (repeat (first|(with_reducible first|apply jA|apply jC|apply jD|apply jE|apply jF|apply jG|apply jH|apply jI|apply jJ|apply jK|apply jL|apply jM|apply jN|apply jO)|(with_reducible apply SeqQ.id;refine SeqQ.norm (by first|(simp only [j0];rfl)|rfl) ?_)|with_reducible refine jP (by decide) ?_|(with_reducible apply jQ;first|refine jR rfl rfl rfl ?_|refine jS rfl rfl rfl ?_)|((first|((with_reducible first|apply jm|apply jn|apply jb|apply ju);repeat rfl)|((with_reducible apply jy);iterate 3 rfl)|((with_reducible apply jz);iterate 3 rfl)|((with_reducible apply jp);iterate 5 rfl)|((with_reducible apply jq);iterate 5 rfl)|((with_reducible apply jk);exact u9;rfl)|((with_reducible apply jl);exact u67;rfl)|((with_reducible apply Wo.conv);(iterate 2 (with_reducible first|exact u3|exact u5));rfl));refine jT (by first|(simp only [j0];rfl)|rfl) ?_)))
  rw [pre_take]
  exact EndQ.ret rfl ⟨_, rfl, rfl, rfl, rfl⟩
 ·obtain ⟨h1, h2⟩ := index_not hm
  rw [h1, decide_eq_false hm]
  (repeat (first|(with_reducible first|apply jA|apply jC|apply jD|apply jE|apply jF|apply jG|apply jH|apply jI|apply jJ|apply jK|apply jL|apply jM|apply jN|apply jO)|(with_reducible apply SeqQ.id;refine SeqQ.norm (by first|(simp only [j0];rfl)|rfl) ?_)|with_reducible refine jP (by decide) ?_|(with_reducible apply jQ;first|refine jR rfl rfl rfl ?_|refine jS rfl rfl rfl ?_)|((first|((with_reducible first|apply jm|apply jn|apply jb|apply ju);repeat rfl)|((with_reducible apply jy);iterate 3 rfl)|((with_reducible apply jz);iterate 3 rfl)|((with_reducible apply jp);iterate 5 rfl)|((with_reducible apply jq);iterate 5 rfl)|((with_reducible apply jk);exact u9;rfl)|((with_reducible apply jl);exact u67;rfl)|((with_reducible apply Wo.conv);(iterate 2 (with_reducible first|exact u3|exact u5));rfl));refine jT (by first|(simp only [j0];rfl)|rfl) ?_)))
  refine EndQ.ret rfl ⟨_, rfl, rfl, rfl, ?_⟩
  unfold post
  rw [h2, List.drop_eq_nil_of_le (by omega)]
set_option maxHeartbeats 2000000 in
theorem cut_tells (s : List UInt8) (hs : s.length < 4294967281) (H : List AB) : Tells (Kp x) 31 [.str s, .str [37]] H fun r H' => H' = H ∧ r = cutV s := by
 refine Tells.vals (c := _) Tryz.func31 rfl (args' := [.str s, .str [37]]) (m := 11) rfl rfl rfl rfl rfl ?_
 (repeat (first|(with_reducible first|apply jA|apply jC|apply jD|apply jE|apply jF|apply jG|apply jH|apply jI|apply jJ|apply jK|apply jL|apply jM|apply jN|apply jO)|(with_reducible apply SeqQ.id;refine SeqQ.norm (by first|(simp only [j0];rfl)|rfl) ?_)|with_reducible refine jP (by decide) ?_|(with_reducible apply jQ;first|refine jR rfl rfl rfl ?_|refine jS rfl rfl rfl ?_)|((first|((with_reducible first|apply jm|apply jn|apply jb|apply ju);repeat rfl)|((with_reducible apply jy);iterate 3 rfl)|((with_reducible apply jz);iterate 3 rfl)|((with_reducible apply jp);iterate 5 rfl)|((with_reducible apply jq);iterate 5 rfl)|((with_reducible apply jk);exact u9;rfl)|((with_reducible apply jl);exact u67;rfl)|((with_reducible apply Wo.conv);(iterate 2 (with_reducible first|exact u3|exact u5));rfl));refine jT (by first|(simp only [j0];rfl)|rfl) ?_)))
 refine Wo.doCall rfl rfl (op_call (args := [.str s, .str [37]]) rfl rfl) ((icut_tells s hs _).mono ?_)
 rintro r1 H1 ⟨rfl, rfl⟩
 unfold cutV
 (repeat (first|(with_reducible first|apply jA|apply jC|apply jD|apply jE|apply jF|apply jG|apply jH|apply jI|apply jJ|apply jK|apply jL|apply jM|apply jN|apply jO)|(with_reducible apply SeqQ.id;refine SeqQ.norm (by first|(simp only [j0];rfl)|rfl) ?_)|with_reducible refine jP (by decide) ?_|(with_reducible apply jQ;first|refine jR rfl rfl rfl ?_|refine jS rfl rfl rfl ?_)|((first|((with_reducible first|apply jm|apply jn|apply jb|apply ju);repeat rfl)|((with_reducible apply jy);iterate 3 rfl)|((with_reducible apply jz);iterate 3 rfl)|((with_reducible apply jp);iterate 5 rfl)|((with_reducible apply jq);iterate 5 rfl)|((with_reducible apply jk);exact u9;rfl)|((with_reducible apply jl);exact u67;rfl)|((with_reducible apply Wo.conv);(iterate 2 (with_reducible first|exact u3|exact u5));rfl));refine jT (by first|(simp only [j0];rfl)|rfl) ?_)))
 refine Wo.doVal rfl rfl (op_extract rfl rfl rfl) ?_
 refine Wo.doVal rfl rfl (op_extract rfl rfl rfl) ?_
 refine Wo.doVal rfl rfl (op_extract rfl rfl rfl) ?_
 (repeat (first|(with_reducible first|apply jA|apply jC|apply jD|apply jE|apply jF|apply jG|apply jH|apply jI|apply jJ|apply jK|apply jL|apply jM|apply jN|apply jO)|(with_reducible apply SeqQ.id;refine SeqQ.norm (by first|(simp only [j0];rfl)|rfl) ?_)|with_reducible refine jP (by decide) ?_|(with_reducible apply jQ;first|refine jR rfl rfl rfl ?_|refine jS rfl rfl rfl ?_)|((first|((with_reducible first|apply jm|apply jn|apply jb|apply ju);repeat rfl)|((with_reducible apply jy);iterate 3 rfl)|((with_reducible apply jz);iterate 3 rfl)|((with_reducible apply jp);iterate 5 rfl)|((with_reducible apply jq);iterate 5 rfl)|((with_reducible apply jk);exact u9;rfl)|((with_reducible apply jl);exact u67;rfl)|((with_reducible apply Wo.conv);(iterate 2 (with_reducible first|exact u3|exact u5));rfl));refine jT (by first|(simp only [j0];rfl)|rfl) ?_)))
 exact EndQ.ret rfl ⟨_, rfl, rfl, rfl, rfl⟩
theorem asBytes_u8 : ∀ bs : List UInt8, asBytes (bs.map u8v) = some bs
 | [] => rfl
 | b :: r => by
  simp only [List.map_cons, asBytes, asBytes_u8 r]
  congr 2
  exact UInt8.ofNat_toNat
theorem u91 : (Kp x).P.underlying 91 = some (.pointer 5) := Tryz.underlying91
theorem cells5 : (Kp x).P.cellsOf 5 = 1 := by kernel_rfl
theorem us_some {H : List AB} {k : Nat} {bs : List UInt8} (hne : bs ≠ []) (hl : bs.length ≤ 140737488355328) (hk : nth H k = some (.cells (5, false) (bs.map u8v))) : aUnsafeString (Kp x) H 5 (.ptr k 0) (.v (goInt bs.length)) = some (.str bs, setAt H k .dead) := by
 have hp : 0 < bs.length := List.length_pos_iff.2 hne
 obtain ⟨n, hn⟩ : ∃ n, bs.length = n + 1 := ⟨bs.length - 1, by omega⟩
 unfold aUnsafeString
 rw [show asI (.v (goInt bs.length)) = some (.i64, ((n + 1 : Nat) : Int)) by rw [hn]; rfl]
 show (match nth H k with
  | some (.cells tt cs) =>
   if (0 : Nat) = 0 ∧ 0 < ((n + 1 : Nat) : Int) ∧ ((n + 1 : Nat) : Int).toNat ≤ cs.length ∧ ((n + 1 : Nat) : Int) ≤ 9223372036854775807 ∧ tt.1 = 5 ∧ (Kp x).P.cellsOf 5 = 1 then match asBytes (cs.take ((n + 1 : Nat) : Int).toNat) with
    | some l => some (AV.str l, setAt H k .dead)
    | none => none
   else none
  | _ => none) = _
 rw [hk]
 simp only [Int.toNat_natCast]
 rw [if_pos ⟨by trivial, by omega, by rw [List.length_map, hn]; exact Nat.le_refl _, by omega, by trivial, cells5⟩, ← hn, List.take_of_length_le (by rw [List.length_map]; exact Nat.le_refl _), asBytes_u8]
set_option maxHeartbeats 2000000 in
theorem str_tells (H : List AB) (b : Nat) (bs : List UInt8) (hb : Bld H b bs) (hl : bs.length ≤ 140737488355328) : Tells (Kp x) 35 [.ptr b 0] H fun r _ => r = .str bs := by
 refine Tells.mem (c := _) Tryz.func35 rfl (args' := [.ptr b 0]) (m := 13) rfl rfl rfl rfl rfl ?_
 (repeat (first|(with_reducible first|apply jA|apply jC|apply jD|apply jE|apply jF|apply jG|apply jH|apply jI|apply jJ|apply jK|apply jL|apply jM|apply jN|apply jO)|(with_reducible apply SeqQ.id;refine SeqQ.norm (by first|(simp only [j0];rfl)|rfl) ?_)|with_reducible refine jP (by decide) ?_|(with_reducible apply jQ;first|refine jR rfl rfl rfl ?_|refine jS rfl rfl rfl ?_)|((first|((with_reducible first|apply jm|apply jn|apply jb|apply ju);repeat rfl)|((with_reducible apply jy);iterate 3 rfl)|((with_reducible apply jz);iterate 3 rfl)|((with_reducible apply jp);iterate 5 rfl)|((with_reducible apply jq);iterate 5 rfl)|((with_reducible apply jk);exact u9;rfl)|((with_reducible apply jl);exact u67;rfl)|((with_reducible apply Wo.conv);(iterate 2 (with_reducible first|exact u3|exact u5));rfl));refine jT (by first|(simp only [j0];rfl)|rfl) ?_)))
 refine Wc.drawn rfl (by kernel_rfl) ?_
 (repeat (with_reducible refine Wd.id ?_; first | refine Wd.nil ?_ | (refine Wd.not rfl rfl rfl rfl rfl ?_; refine Wd.norm (by first | (simp only [setAt]; rfl) | rfl) ?_) | ((first | refine Wd.go0 rfl rfl ?_ | refine Wd.go1 rfl rfl rfl rfl ?_); (first | refine Wy.val rfl (op_move rfl rfl) rfl ?_ | refine Wy.val rfl (op_assign rfl rfl) rfl ?_ | refine Wy.val rfl (op_bin rfl rfl rfl rfl rfl) rfl ?_ | refine Wy.val rfl (op_un rfl rfl rfl rfl) rfl ?_ | refine Wy.val rfl (op_pick_t rfl rfl rfl rfl rfl rfl) rfl ?_ | refine Wy.val rfl (op_pick_f rfl rfl rfl rfl rfl rfl) rfl ?_ | refine Wy.val rfl (op_len_sl rfl rfl (by first | with_reducible exact u67 | with_reducible exact u3 | with_reducible exact u5) rfl) rfl ?_ | refine Wy.val rfl (op_len_str rfl rfl (by first | with_reducible exact u67 | with_reducible exact u3 | with_reducible exact u5) rfl) rfl ?_); refine Wd.norm (by first | (simp only [setAt]; rfl) | rfl) ?_)))
 obtain ⟨a, v, ha, hn, hvb, hv⟩ := hb.buf
 have hload : takeVar (Kp x).P 67 ([a, v].drop 1) = some v := take_one ag67 sz67
 ((first | refine Wd.go0 rfl rfl ?_ | refine Wd.go1 rfl rfl rfl rfl ?_); refine Wy.val rfl (op_nilCheck rfl rfl) rfl ?_; refine Wd.norm (by first | (simp only [setAt]; rfl) | rfl) ?_)
 ((first | refine Wd.go0 rfl rfl ?_ | refine Wd.go1 rfl rfl rfl rfl ?_); refine Wy.val rfl (op_fieldAddr rfl rfl (fb1 _)) rfl ?_; refine Wd.norm (by first | (simp only [setAt]; rfl) | rfl) ?_)
 ((first | refine Wd.go0 rfl rfl ?_ | refine Wd.go1 rfl rfl rfl rfl ?_); refine Wy.val rfl (op_load_ptr (v := v) rfl rfl hn hload) rfl ?_; refine Wd.norm (by first | (simp only [setAt]; rfl) | rfl) ?_)
 rw [hv.plain.1]
 rcases hb with ⟨rfl, a', ha', hn'⟩ | ⟨hne, k, hkb, hn', hk⟩
 ·obtain ⟨rfl, rfl⟩ : a' = a ∧ v = .sl [] .nil := by rw [hn] at hn'; cases hn'; exact ⟨rfl, rfl⟩
  ((first | refine Wd.go0 rfl rfl ?_ | refine Wd.go1 rfl rfl rfl rfl ?_); refine Wy.val rfl (op_sliceData rfl rfl (.inl ⟨rfl, rfl⟩)) rfl ?_; refine Wd.norm (by first | (simp only [setAt]; rfl) | rfl) ?_)
  (repeat (with_reducible refine Wd.id ?_; first | refine Wd.nil ?_ | (refine Wd.not rfl rfl rfl rfl rfl ?_; refine Wd.norm (by first | (simp only [setAt]; rfl) | rfl) ?_) | ((first | refine Wd.go0 rfl rfl ?_ | refine Wd.go1 rfl rfl rfl rfl ?_); (first | refine Wy.val rfl (op_move rfl rfl) rfl ?_ | refine Wy.val rfl (op_assign rfl rfl) rfl ?_ | refine Wy.val rfl (op_bin rfl rfl rfl rfl rfl) rfl ?_ | refine Wy.val rfl (op_un rfl rfl rfl rfl) rfl ?_ | refine Wy.val rfl (op_pick_t rfl rfl rfl rfl rfl rfl) rfl ?_ | refine Wy.val rfl (op_pick_f rfl rfl rfl rfl rfl rfl) rfl ?_ | refine Wy.val rfl (op_len_sl rfl rfl (by first | with_reducible exact u67 | with_reducible exact u3 | with_reducible exact u5) rfl) rfl ?_ | refine Wy.val rfl (op_len_str rfl rfl (by first | with_reducible exact u67 | with_reducible exact u3 | with_reducible exact u5) rfl) rfl ?_); refine Wd.norm (by first | (simp only [setAt]; rfl) | rfl) ?_)))
  ((first | refine Wd.go0 rfl rfl ?_ | refine Wd.go1 rfl rfl rfl rfl ?_); refine Wy.val rfl (op_nilCheck rfl rfl) rfl ?_; refine Wd.norm (by first | (simp only [setAt]; rfl) | rfl) ?_)
  ((first | refine Wd.go0 rfl rfl ?_ | refine Wd.go1 rfl rfl rfl rfl ?_); refine Wy.val rfl (op_fieldAddr rfl rfl (fb1 _)) rfl ?_; refine Wd.norm (by first | (simp only [setAt]; rfl) | rfl) ?_)
  ((first | refine Wd.go0 rfl rfl ?_ | refine Wd.go1 rfl rfl rfl rfl ?_); refine Wy.val rfl (op_load_ptr (v := .sl [] .nil) rfl rfl hn hload) rfl ?_; refine Wd.norm (by first | (simp only [setAt]; rfl) | rfl) ?_)
  (repeat (with_reducible refine Wd.id ?_; first | refine Wd.nil ?_ | (refine Wd.not rfl rfl rfl rfl rfl ?_; refine Wd.norm (by first | (simp only [setAt]; rfl) | rfl) ?_) | ((first | refine Wd.go0 rfl rfl ?_ | refine Wd.go1 rfl rfl rfl rfl ?_); (first | refine Wy.val rfl (op_move rfl rfl) rfl ?_ | refine Wy.val rfl (op_assign rfl rfl) rfl ?_ | refine Wy.val rfl (op_bin rfl rfl rfl rfl rfl) rfl ?_ | refine Wy.val rfl (op_un rfl rfl rfl rfl) rfl ?_ | refine Wy.val rfl (op_pick_t rfl rfl rfl rfl rfl rfl) rfl ?_ | refine Wy.val rfl (op_pick_f rfl rfl rfl rfl rfl rfl) rfl ?_ | refine Wy.val rfl (op_len_sl rfl rfl (by first | with_reducible exact u67 | with_reducible exact u3 | with_reducible exact u5) rfl) rfl ?_ | refine Wy.val rfl (op_len_str rfl rfl (by first | with_reducible exact u67 | with_reducible exact u3 | with_reducible exact u5) rfl) rfl ?_); refine Wd.norm (by first | (simp only [setAt]; rfl) | rfl) ?_)))
  ((first | refine Wd.go0 rfl rfl ?_ | refine Wd.go1 rfl rfl rfl rfl ?_); refine Wy.val rfl (op_unsafeString rfl rfl u91 rfl rfl rfl) rfl ?_; refine Wd.norm (by first | (simp only [setAt]; rfl) | rfl) ?_)
  (repeat (with_reducible refine Wd.id ?_; first | refine Wd.nil ?_ | (refine Wd.not rfl rfl rfl rfl rfl ?_; refine Wd.norm (by first | (simp only [setAt]; rfl) | rfl) ?_) | ((first | refine Wd.go0 rfl rfl ?_ | refine Wd.go1 rfl rfl rfl rfl ?_); (first | refine Wy.val rfl (op_move rfl rfl) rfl ?_ | refine Wy.val rfl (op_assign rfl rfl) rfl ?_ | refine Wy.val rfl (op_bin rfl rfl rfl rfl rfl) rfl ?_ | refine Wy.val rfl (op_un rfl rfl rfl rfl) rfl ?_ | refine Wy.val rfl (op_pick_t rfl rfl rfl rfl rfl rfl) rfl ?_ | refine Wy.val rfl (op_pick_f rfl rfl rfl rfl rfl rfl) rfl ?_ | refine Wy.val rfl (op_len_sl rfl rfl (by first | with_reducible exact u67 | with_reducible exact u3 | with_reducible exact u5) rfl) rfl ?_ | refine Wy.val rfl (op_len_str rfl rfl (by first | with_reducible exact u67 | with_reducible exact u3 | with_reducible exact u5) rfl) rfl ?_); refine Wd.norm (by first | (simp only [setAt]; rfl) | rfl) ?_)))
  (repeat (first|(with_reducible first|apply jA|apply jC|apply jD|apply jE|apply jF|apply jG|apply jH|apply jI|apply jJ|apply jK|apply jL|apply jM|apply jN|apply jO)|(with_reducible apply SeqQ.id;refine SeqQ.norm (by first|(simp only [j0];rfl)|rfl) ?_)|with_reducible refine jP (by decide) ?_|(with_reducible apply jQ;first|refine jR rfl rfl rfl ?_|refine jS rfl rfl rfl ?_)|((first|((with_reducible first|apply jm|apply jn|apply jb|apply ju);repeat rfl)|((with_reducible apply jy);iterate 3 rfl)|((with_reducible apply jz);iterate 3 rfl)|((with_reducible apply jp);iterate 5 rfl)|((with_reducible apply jq);iterate 5 rfl)|((with_reducible apply jk);exact u9;rfl)|((with_reducible apply jl);exact u67;rfl)|((with_reducible apply Wo.conv);(iterate 2 (with_reducible first|exact u3|exact u5));rfl));refine jT (by first|(simp only [j0];rfl)|rfl) ?_)))
  exact EndQ.ret rfl rfl
 ·obtain rfl : v = .ms k 0 bs.length 1 := by rw [hn] at hn'; cases hn'; rfl
  obtain ⟨n, hl'⟩ : ∃ n, bs.length = n + 1 := ⟨bs.length - 1, by have := List.length_pos_iff.2 hne; omega⟩
  ((first | refine Wd.go0 rfl rfl ?_ | refine Wd.go1 rfl rfl rfl rfl ?_); refine Wy.val rfl (op_sliceData rfl rfl (.inr ⟨k, 0, n, 1, by rw [hl'], rfl⟩)) rfl ?_; refine Wd.norm (by first | (simp only [setAt]; rfl) | rfl) ?_)
  (repeat (with_reducible refine Wd.id ?_; first | refine Wd.nil ?_ | (refine Wd.not rfl rfl rfl rfl rfl ?_; refine Wd.norm (by first | (simp only [setAt]; rfl) | rfl) ?_) | ((first | refine Wd.go0 rfl rfl ?_ | refine Wd.go1 rfl rfl rfl rfl ?_); (first | refine Wy.val rfl (op_move rfl rfl) rfl ?_ | refine Wy.val rfl (op_assign rfl rfl) rfl ?_ | refine Wy.val rfl (op_bin rfl rfl rfl rfl rfl) rfl ?_ | refine Wy.val rfl (op_un rfl rfl rfl rfl) rfl ?_ | refine Wy.val rfl (op_pick_t rfl rfl rfl rfl rfl rfl) rfl ?_ | refine Wy.val rfl (op_pick_f rfl rfl rfl rfl rfl rfl) rfl ?_ | refine Wy.val rfl (op_len_sl rfl rfl (by first | with_reducible exact u67 | with_reducible exact u3 | with_reducible exact u5) rfl) rfl ?_ | refine Wy.val rfl (op_len_str rfl rfl (by first | with_reducible exact u67 | with_reducible exact u3 | with_reducible exact u5) rfl) rfl ?_); refine Wd.norm (by first | (simp only [setAt]; rfl) | rfl) ?_)))
  ((first | refine Wd.go0 rfl rfl ?_ | refine Wd.go1 rfl rfl rfl rfl ?_); refine Wy.val rfl (op_nilCheck rfl rfl) rfl ?_; refine Wd.norm (by first | (simp only [setAt]; rfl) | rfl) ?_)
  ((first | refine Wd.go0 rfl rfl ?_ | refine Wd.go1 rfl rfl rfl rfl ?_); refine Wy.val rfl (op_fieldAddr rfl rfl (fb1 _)) rfl ?_; refine Wd.norm (by first | (simp only [setAt]; rfl) | rfl) ?_)
  ((first | refine Wd.go0 rfl rfl ?_ | refine Wd.go1 rfl rfl rfl rfl ?_); refine Wy.val rfl (op_load_ptr (v := .ms k 0 bs.length 1) rfl rfl hn hload) rfl ?_; refine Wd.norm (by first | (simp only [setAt]; rfl) | rfl) ?_)
  (repeat (with_reducible refine Wd.id ?_; first | refine Wd.nil ?_ | (refine Wd.not rfl rfl rfl rfl rfl ?_; refine Wd.norm (by first | (simp only [setAt]; rfl) | rfl) ?_) | ((first | refine Wd.go0 rfl rfl ?_ | refine Wd.go1 rfl rfl rfl rfl ?_); (first | refine Wy.val rfl (op_move rfl rfl) rfl ?_ | refine Wy.val rfl (op_assign rfl rfl) rfl ?_ | refine Wy.val rfl (op_bin rfl rfl rfl rfl rfl) rfl ?_ | refine Wy.val rfl (op_un rfl rfl rfl rfl) rfl ?_ | refine Wy.val rfl (op_pick_t rfl rfl rfl rfl rfl rfl) rfl ?_ | refine Wy.val rfl (op_pick_f rfl rfl rfl rfl rfl rfl) rfl ?_ | refine Wy.val rfl (op_len_sl rfl rfl (by first | with_reducible exact u67 | with_reducible exact u3 | with_reducible exact u5) rfl) rfl ?_ | refine Wy.val rfl (op_len_str rfl rfl (by first | with_reducible exact u67 | with_reducible exact u3 | with_reducible exact u5) rfl) rfl ?_); refine Wd.norm (by first | (simp only [setAt]; rfl) | rfl) ?_)))
  ((first | refine Wd.go0 rfl rfl ?_ | refine Wd.go1 rfl rfl rfl rfl ?_); refine Wy.val rfl (op_len_ms rfl rfl u67 rfl) rfl ?_; refine Wd.norm (by first | (simp only [setAt]; rfl) | rfl) ?_)
  ((first | refine Wd.go0 rfl rfl ?_ | refine Wd.go1 rfl rfl rfl rfl ?_); refine Wy.val rfl (op_unsafeString rfl rfl u91 rfl rfl (us_some hne hl hk)) rfl ?_; refine Wd.norm (by first | (simp only [setAt]; rfl) | rfl) ?_)
  (repeat (with_reducible refine Wd.id ?_; first | refine Wd.nil ?_ | (refine Wd.not rfl rfl rfl rfl rfl ?_; refine Wd.norm (by first | (simp only [setAt]; rfl) | rfl) ?_) | ((first | refine Wd.go0 rfl rfl ?_ | refine Wd.go1 rfl rfl rfl rfl ?_); (first | refine Wy.val rfl (op_move rfl rfl) rfl ?_ | refine Wy.val rfl (op_assign rfl rfl) rfl ?_ | refine Wy.val rfl (op_bin rfl rfl rfl rfl rfl) rfl ?_ | refine Wy.val rfl (op_un rfl rfl rfl rfl) rfl ?_ | refine Wy.val rfl (op_pick_t rfl rfl rfl rfl rfl rfl) rfl ?_ | refine Wy.val rfl (op_pick_f rfl rfl rfl rfl rfl rfl) rfl ?_ | refine Wy.val rfl (op_len_sl rfl rfl (by first | with_reducible exact u67 | with_reducible exact u3 | with_reducible exact u5) rfl) rfl ?_ | refine Wy.val rfl (op_len_str rfl rfl (by first | with_reducible exact u67 | with_reducible exact u3 | with_reducible exact u5) rfl) rfl ?_); refine Wd.norm (by first | (simp only [setAt]; rfl) | rfl) ?_)))
  (repeat (first|(with_reducible first|apply jA|apply jC|apply jD|apply jE|apply jF|apply jG|apply jH|apply jI|apply jJ|apply jK|apply jL|apply jM|apply jN|apply jO)|(with_reducible apply SeqQ.id;refine SeqQ.norm (by first|(simp only [j0];rfl)|rfl) ?_)|with_reducible refine jP (by decide) ?_|(with_reducible apply jQ;first|refine jR rfl rfl rfl ?_|refine jS rfl rfl rfl ?_)|((first|((with_reducible first|apply jm|apply jn|apply jb|apply ju);repeat rfl)|((with_reducible apply jy);iterate 3 rfl)|((with_reducible apply jz);iterate 3 rfl)|((with_reducible apply jp);iterate 5 rfl)|((with_reducible apply jq);iterate 5 rfl)|((with_reducible apply jk);exact u9;rfl)|((with_reducible apply jl);exact u67;rfl)|((with_reducible apply Wo.conv);(iterate 2 (with_reducible first|exact u3|exact u5));rfl));refine jT (by first|(simp only [j0];rfl)|rfl) ?_)))
  exact EndQ.ret rfl rfl
end
end Go.Proofs
end
section
namespace Go.Tm
theorem pairs_bits {K : Cfg} {f : FuncId} {ops : Array Oper} {b : Tr} : ∀ (l : List Tr) (i : Nat), (∀ (j : Nat) (t : Tr), l[j]? = some t → t.i = i + j) → (∀ j, j < l.length → b.bef.testBit (i + j) = true) → aPairs K f ops l b [] = some ((), [], [])
 | [], _, _, _ => rfl
 | a :: r, i, hl, h => by
  have hi : a.i = i := by simpa using hl 0 a rfl
  have h0 : b.bef.testBit i = true := by simpa using h 0 (by simp)
  refine (E.bind_nil (a := ()) ?_).trans (pairs_bits r (i + 1) (fun j t q => by have := hl (j + 1) t (by simpa using q); omega) (fun j q => by have := h (j + 1) (by simpa using q); rw [show i + 1 + j = i + (j + 1) by omega]; exact this))
  unfold aPair
  rw [hi, h0]
  rfl
def statGoL (K : Cfg) (f : FuncId) (ops : Array Oper) (last : Oper) : List Oper → List Nat → List Oper → Bool
 | [], befs, acc => match befOf befs last.after.toList 0 with
  | none => false
  | some m => (List.range acc.length).all fun i => m.testBit i
 | o :: rest, befs, acc => match befOf befs o.after.toList 0 with
  | none => false
  | some m => match pairsStat K f ops m o 0 acc with
   | true => statGoL K f ops last rest (befs ++ [m]) (acc ++ [o])
   | false => false
def LastQ (K : Cfg) (f : FuncId) (last : Oper) (Q : St → Prop) (s : St) : Prop := ∃ g args d, last.guard = none ∧ last.dst = some d ∧ aOp K f s last [] = some (.call g args, [], []) ∧ Tells K g args s.H fun r H' => Q ⟨setAt s.regs d r.unown, s.own, H'⟩
theorem Wd.runL {K : Cfg} (hs : K.sym = false) {f : FuncId} {ops : Array Oper} {last : Oper} {Q : St → Prop} : ∀ (l : List Oper) (s : St) (befs : List Nat) (acc : List Tr), Wd K f ops l s (LastQ K f last Q) → statGoL K f ops last l befs (acc.map (·.o)) = true → (∀ (j : Nat) (t : Tr), acc[j]? = some t → t.i = 0 + j ∧ (t.k = 0 ∨ t.k = kOf (touch K f t.o))) → W (fun n => aDrawn K (aCall K n) f ops (l ++ [last]) befs acc s) Q
 | [], s, befs, acc, h, hst, hacc => by
  obtain ⟨g, args, d, hg, hd, ho, ⟨r, H'⟩, N, h1, h2⟩ := h
  unfold statGoL at hst
  cases hm : befOf befs last.after.toList 0 with
  | none => simp [hm] at hst
  | some m =>
   simp only [hm, List.length_map] at hst
   refine ⟨⟨setAt s.regs d r.unown, s.own, H'⟩, N, fun n hn => ?_, h2⟩
   show aDrawn K (aCall K n) f ops [last] befs acc s [] = _
   unfold aDrawn
   simp only [hm]
   obtain ⟨t, ht, hb, hs'⟩ : ∃ t : Tr, aTr K (aCall K n) f ops acc.length last m s [] = some (t, [], []) ∧ t.bef = m ∧ t.s' = ⟨setAt s.regs d r.unown, s.own, H'⟩ := by
    unfold aTr
    simp only [hg]
    unfold aTrDo
    rw [E.bind_nil ho]
    refine ⟨_, (E.bind_nil (h1 n hn)).trans rfl, rfl, ?_⟩
    simp only [hd]; rfl
   refine (E.bind_nil ht).trans ?_
   refine (E.bind_nil (a := ()) (pairs_bits acc 0 (fun j t q => (hacc j t q).1) (fun j q => ?_))).trans ?_
   ·rw [hb, Nat.zero_add]
    exact List.all_eq_true.1 hst j (List.mem_range.2 q)
   ·rw [← hs']; rfl
 | o :: rest, s, befs, acc, h, hst, hacc => by
  obtain ⟨t, N, h1, h2, h3, h4⟩ := h
  unfold statGoL at hst
  cases hm : befOf befs o.after.toList 0 with
  | none => simp [hm] at hst
  | some m =>
   simp only [hm] at hst
   cases hp : pairsStat K f ops m o 0 (acc.map (·.o)) with
   | false => simp [hp] at hst
   | true =>
    simp only [hp] at hst
    have hpairs : aPairs K f ops acc { t with i := acc.length, bef := m } [] = some ((), [], []) := pairsStat_ok (K := K) (ops := ops) (b := { t with i := acc.length, bef := m }) h2 acc 0 hacc (by show pairsStat K f ops m t.o 0 _ = true; rw [h3]; exact hp)
    have hacc' : ∀ (j : Nat) (t' : Tr), (acc ++ [{ t with i := acc.length, bef := m }])[j]? = some t' → t'.i = 0 + j ∧ (t'.k = 0 ∨ t'.k = kOf (touch K f t'.o)) := fun j t' q => by
     rw [List.getElem?_append] at q
     split at q
     ·exact hacc j t' q
     ·rename_i hj
      have hj0 : j - acc.length = 0 := by
       rcases Nat.eq_zero_or_pos (j - acc.length) with h0 | h0
       ·exact h0
       ·rw [List.getElem?_eq_none (by simp; omega)] at q; cases q
      rw [hj0] at q
      simp at q
      subst q
      exact ⟨by simp; omega, h2⟩
    obtain ⟨a, M, ha, hq⟩ := Wd.runL hs rest t.s' (befs ++ [m]) (acc ++ [{ t with i := acc.length, bef := m }]) h4 (by rw [List.map_append]; simpa [h3] using hst) hacc'
    refine ⟨a, max N M, fun n hn => ?_, hq⟩
    show aDrawn K (aCall K n) f ops (o :: (rest ++ [last])) befs acc s [] = _
    unfold aDrawn
    simp only [hm]
    refine (E.bind_nil (aTr_i hs acc.length m (h1 n (by omega)))).trans ?_
    refine (E.bind_nil hpairs).trans ?_
    exact ha n (by omega)
end Go.Tm
end
