/- The ring's Claim: one partition taken. -/
import Derived.Test.YtpgkkmlmdoacmaaRgSortF
set_option linter.unusedVariables false
set_option linter.unusedSimpArgs false
set_option linter.unusedSectionVars false
namespace Go.Proofs
open Go.Tm Go.Proofs.RgPlain
set_option maxRecDepth 100000
theorem u53 : Kz.P.underlying 53 = some (.map 3 3) := Try.underlying53
theorem ag53 : tAgg Kz.P 53 = some false := by kernel_rfl
theorem sz53 : tSize Kz.P 53 = some 1 := by kernel_rfl
theorem z53 : tZero Kz.P 53 = some (.v (.map none)) := by kernel_rfl
theorem z23 : tZero Kz.P 23 = some (.agg (zeros.map i64)) := by kernel_rfl
theorem wrap_small {n : Int} (h1 : -(2 ^ 62) ≤ n) (h2 : n < 2 ^ 62) : IntKind.i64.wrap n = n := by
 simp only [IntKind.wrap, IntKind.bits, IntKind.signed]
 simp
 omega
theorem div_run (x y : Operand) (k : Nat) (hk : 0 < k) : pureRun Kz.P (do eqGuard .quo 3 x y (.int .i64 8) (.int .i64 k); binOp .quo 3 (.int .i64 8) (.int .i64 k)) = some (.int .i64 ((8 / k : Nat) : Int)) := by
 have h0 : ¬ (k : Int) = 0 := by omega
 have e : pureRun Kz.P (do eqGuard .quo 3 x y (.int .i64 8) (.int .i64 k); binOp .quo 3 (.int .i64 8) (.int .i64 k)) = pureRun Kz.P (Op.intDiv .quo .i64 8 (k : Int)) := rfl
 rw [e]
 unfold Op.intDiv
 rw [if_neg h0]
 have h8 : Int.tdiv 8 (k : Int) = ((8 / k : Nat) : Int) := (Int.ofNat_tdiv 8 k).symm
 have hle : 8 / k ≤ 8 := Nat.div_le_self _ _
 show some (Value.int .i64 (IntKind.i64.wrap (Int.tdiv 8 (k : Int)))) = _
 rw [h8, wrap_small (by generalize 8 / k = q at *; omega) (by generalize 8 / k = q at *; omega)]
theorem mod_run (x y : Operand) (k : Nat) (hk : 0 < k) : pureRun Kz.P (do eqGuard .rem 3 x y (.int .i64 8) (.int .i64 k); binOp .rem 3 (.int .i64 8) (.int .i64 k)) = some (.int .i64 ((8 % k : Nat) : Int)) := by
 have h0 : ¬ (k : Int) = 0 := by omega
 have e : pureRun Kz.P (do eqGuard .rem 3 x y (.int .i64 8) (.int .i64 k); binOp .rem 3 (.int .i64 8) (.int .i64 k)) = pureRun Kz.P (Op.intDiv .rem .i64 8 (k : Int)) := rfl
 rw [e]
 unfold Op.intDiv
 rw [if_neg h0]
 have h8 : Int.tmod 8 (k : Int) = ((8 % k : Nat) : Int) := (Int.ofNat_tmod 8 k).symm
 have hle : 8 % k ≤ 8 := Nat.mod_le _ _
 show some (Value.int .i64 (Int.tmod 8 (k : Int))) = _
 rw [h8]
structure CMem (H : List AB) (bo bv bm : Nat) (φ : Int → Int) (out : List Int) : Prop where
 v : nth H bv = some (.cells (53, true) [.map bm])
 m : MapIs H bm φ
 o : nth H bo = some (.cells (23, true) (out.map i64))
 len : out.length = 8
 low : ∀ k, 0 ≤ φ k ∧ φ k ≤ 9
 n1 : bm ≠ bo
 n2 : bv ≠ bm
 n3 : bv ≠ bo
theorem upd_low {φ : Int → Int} (h : ∀ k, 0 ≤ φ k ∧ φ k ≤ 9) {n : Int} (hn : 0 < φ n) : ∀ k, 0 ≤ upd φ n (φ n - 1) k ∧ upd φ n (φ n - 1) k ≤ 9 := by
 intro k
 unfold upd
 have := h n
 split
 ·omega
 ·exact h k
theorem setAt_map (l : List Int) (p : Nat) (n : Int) : setAt (l.map i64) p (i64 n) = (l.set p n).map i64 := by rw [setAt_eq, List.map_set]
set_option maxHeartbeats 4000000 in
theorem take_tells {H : List AB} {bo bv bm : Nat} {φ : Int → Int} {out : List Int} (h : CMem H bo bv bm φ out) (p : Nat) (hp : p < 8) (n : Int) : Tells Kz 24 [i64 p, i64 n, .ptr bv 0, .ptr bo 0] H fun r H' =>
  (φ n ≤ 0 ∧ r = .v (.bool false) ∧ H' = H) ∨ (0 < φ n ∧ r = .v (.bool true) ∧ CMem H' bo bv bm (upd φ n (φ n - 1)) (out.set p n) ∧ H'.length = H.length ∧ ∀ k, k ≠ bm → k ≠ bo → nth H' k = nth H k) := by
 refine Tells.mem (c := _) Try.func24 rfl (args' := [i64 p, i64 n, .ptr bv 0, .ptr bo 0]) (m := 14) rfl rfl rfl rfl rfl ?_
 (repeat (first | (with_reducible first | refine jk ?_ | refine jl ?_ | refine jn ?_ | refine jo ?_ | refine jp ?_ | refine jq ?_ | refine jr ?_ | refine js ?_ | refine jt ?_ | refine ju ?_ | refine jv ?_ | refine jw ?_ | refine jx ?_ | refine jy ?_) | (with_reducible refine jz ?_; refine jA (by first | (simp only [setAt, enter, List.replicate, List.cons_append, List.nil_append]; rfl) | rfl) ?_) | with_reducible refine jB (by decide) ?_ | (with_reducible refine jC ?_; first | refine jD rfl rfl rfl ?_ | refine jE rfl rfl rfl ?_) | ((first | (with_reducible refine jF ?_; first | refine jm rfl rfl rfl rfl ?_ | refine jG rfl rfl rfl rfl rfl ?_) | (with_reducible refine jH ?_; refine ja rfl rfl (je rfl rfl) ?_) | (with_reducible refine jI ?_; refine ja rfl rfl (jf rfl rfl) ?_) | (with_reducible refine jJ ?_; refine ja rfl rfl (jd rfl rfl rfl rfl rfl) ?_) | (with_reducible refine jK ?_; refine ja rfl rfl (jg rfl rfl rfl rfl) ?_) | (with_reducible refine jL ?_; first | refine ja rfl rfl (jh rfl rfl rfl rfl rfl rfl) ?_ | refine ja rfl rfl (ji rfl rfl rfl rfl rfl rfl) ?_) | (with_reducible refine jM ?_; refine ja rfl rfl (jj rfl rfl u24 rfl) ?_)); refine jc (by first | (simp only [setAt]; rfl) | rfl) ?_)))
 refine ja rfl rfl (op_load_ptr rfl rfl h.v (take_one ag53 sz53)) ?_
 refine jc (by first | (simp only [setAt]; rfl) | rfl) ?_
 (repeat (first | (with_reducible first | refine jk ?_ | refine jl ?_ | refine jn ?_ | refine jo ?_ | refine jp ?_ | refine jq ?_ | refine jr ?_ | refine js ?_ | refine jt ?_ | refine ju ?_ | refine jv ?_ | refine jw ?_ | refine jx ?_ | refine jy ?_) | (with_reducible refine jz ?_; refine jA (by first | (simp only [setAt, List.nil_append]; rfl) | rfl) ?_) | with_reducible refine jB (by decide) ?_ | (with_reducible refine jC ?_; first | refine jD rfl rfl rfl ?_ | refine jE rfl rfl rfl ?_) | ((first | (with_reducible refine jF ?_; first | refine jm rfl rfl rfl rfl ?_ | refine jG rfl rfl rfl rfl rfl ?_) | (with_reducible refine jH ?_; refine ja rfl rfl (je rfl rfl) ?_) | (with_reducible refine jI ?_; refine ja rfl rfl (jf rfl rfl) ?_) | (with_reducible refine jJ ?_; refine ja rfl rfl (jd rfl rfl rfl rfl rfl) ?_) | (with_reducible refine jK ?_; refine ja rfl rfl (jg rfl rfl rfl rfl) ?_) | (with_reducible refine jL ?_; first | refine ja rfl rfl (jh rfl rfl rfl rfl rfl rfl) ?_ | refine ja rfl rfl (ji rfl rfl rfl rfl rfl rfl) ?_) | (with_reducible refine jM ?_; refine ja rfl rfl (jj rfl rfl u24 rfl) ?_)); refine jc (by first | (simp only [setAt]; rfl) | rfl) ?_)))
 refine ja rfl rfl (op_lookup h.m rfl u53 u3 z3 rfl rfl) ?_
 refine jc (by first | (simp only [setAt]; rfl) | rfl) ?_
 (repeat (first | (with_reducible first | refine jk ?_ | refine jl ?_ | refine jn ?_ | refine jo ?_ | refine jp ?_ | refine jq ?_ | refine jr ?_ | refine js ?_ | refine jt ?_ | refine ju ?_ | refine jv ?_ | refine jw ?_ | refine jx ?_ | refine jy ?_) | (with_reducible refine jz ?_; refine jA (by first | (simp only [setAt, List.nil_append]; rfl) | rfl) ?_) | with_reducible refine jB (by decide) ?_ | (with_reducible refine jC ?_; first | refine jD rfl rfl rfl ?_ | refine jE rfl rfl rfl ?_) | ((first | (with_reducible refine jF ?_; first | refine jm rfl rfl rfl rfl ?_ | refine jG rfl rfl rfl rfl rfl ?_) | (with_reducible refine jH ?_; refine ja rfl rfl (je rfl rfl) ?_) | (with_reducible refine jI ?_; refine ja rfl rfl (jf rfl rfl) ?_) | (with_reducible refine jJ ?_; refine ja rfl rfl (jd rfl rfl rfl rfl rfl) ?_) | (with_reducible refine jK ?_; refine ja rfl rfl (jg rfl rfl rfl rfl) ?_) | (with_reducible refine jL ?_; first | refine ja rfl rfl (jh rfl rfl rfl rfl rfl rfl) ?_ | refine ja rfl rfl (ji rfl rfl rfl rfl rfl rfl) ?_) | (with_reducible refine jM ?_; refine ja rfl rfl (jj rfl rfl u24 rfl) ?_)); refine jc (by first | (simp only [setAt]; rfl) | rfl) ?_)))
 refine Wc.cond rfl rfl (fun hc => ?_) (fun hc => ?_)
 ·have hc' : φ n ≤ 0 := of_decide_eq_true hc
  (repeat (first | (with_reducible first | refine jk ?_ | refine jl ?_ | refine jn ?_ | refine jo ?_ | refine jp ?_ | refine jq ?_ | refine jr ?_ | refine js ?_ | refine jt ?_ | refine ju ?_ | refine jv ?_ | refine jw ?_ | refine jx ?_ | refine jy ?_) | (with_reducible refine jz ?_; refine jA (by first | (simp only [setAt, List.nil_append]; rfl) | rfl) ?_) | with_reducible refine jB (by decide) ?_ | (with_reducible refine jC ?_; first | refine jD rfl rfl rfl ?_ | refine jE rfl rfl rfl ?_) | ((first | (with_reducible refine jF ?_; first | refine jm rfl rfl rfl rfl ?_ | refine jG rfl rfl rfl rfl rfl ?_) | (with_reducible refine jH ?_; refine ja rfl rfl (je rfl rfl) ?_) | (with_reducible refine jI ?_; refine ja rfl rfl (jf rfl rfl) ?_) | (with_reducible refine jJ ?_; refine ja rfl rfl (jd rfl rfl rfl rfl rfl) ?_) | (with_reducible refine jK ?_; refine ja rfl rfl (jg rfl rfl rfl rfl) ?_) | (with_reducible refine jL ?_; first | refine ja rfl rfl (jh rfl rfl rfl rfl rfl rfl) ?_ | refine ja rfl rfl (ji rfl rfl rfl rfl rfl rfl) ?_) | (with_reducible refine jM ?_; refine ja rfl rfl (jj rfl rfl u24 rfl) ?_)); refine jc (by first | (simp only [setAt]; rfl) | rfl) ?_)))
  exact EndQ.ret (r := .v (.bool false)) rfl (.inl ⟨hc', rfl, rfl⟩)
 ·have hc' : ¬ φ n ≤ 0 := of_decide_eq_false hc
  have hlow := h.low n
  (repeat (first | (with_reducible first | refine jk ?_ | refine jl ?_ | refine jn ?_ | refine jo ?_ | refine jp ?_ | refine jq ?_ | refine jr ?_ | refine js ?_ | refine jt ?_ | refine ju ?_ | refine jv ?_ | refine jw ?_ | refine jx ?_ | refine jy ?_) | (with_reducible refine jz ?_; refine jA (by first | (simp only [setAt, List.nil_append]; rfl) | rfl) ?_) | with_reducible refine jB (by decide) ?_ | (with_reducible refine jC ?_; first | refine jD rfl rfl rfl ?_ | refine jE rfl rfl rfl ?_) | ((first | (with_reducible refine jF ?_; first | refine jm rfl rfl rfl rfl ?_ | refine jG rfl rfl rfl rfl rfl ?_) | (with_reducible refine jH ?_; refine ja rfl rfl (je rfl rfl) ?_) | (with_reducible refine jI ?_; refine ja rfl rfl (jf rfl rfl) ?_) | (with_reducible refine jJ ?_; refine ja rfl rfl (jd rfl rfl rfl rfl rfl) ?_) | (with_reducible refine jK ?_; refine ja rfl rfl (jg rfl rfl rfl rfl) ?_) | (with_reducible refine jL ?_; first | refine ja rfl rfl (jh rfl rfl rfl rfl rfl rfl) ?_ | refine ja rfl rfl (ji rfl rfl rfl rfl rfl rfl) ?_) | (with_reducible refine jM ?_; refine ja rfl rfl (jj rfl rfl u24 rfl) ?_)); refine jc (by first | (simp only [setAt]; rfl) | rfl) ?_)))
  refine ja rfl rfl (op_load_ptr rfl rfl h.v (take_one ag53 sz53)) ?_
  refine jc (by first | (simp only [setAt]; rfl) | rfl) ?_
  (repeat (first | (with_reducible first | refine jk ?_ | refine jl ?_ | refine jn ?_ | refine jo ?_ | refine jp ?_ | refine jq ?_ | refine jr ?_ | refine js ?_ | refine jt ?_ | refine ju ?_ | refine jv ?_ | refine jw ?_ | refine jx ?_ | refine jy ?_) | (with_reducible refine jz ?_; refine jA (by first | (simp only [setAt, List.nil_append]; rfl) | rfl) ?_) | with_reducible refine jB (by decide) ?_ | (with_reducible refine jC ?_; first | refine jD rfl rfl rfl ?_ | refine jE rfl rfl rfl ?_) | ((first | (with_reducible refine jF ?_; first | refine jm rfl rfl rfl rfl ?_ | refine jG rfl rfl rfl rfl rfl ?_) | (with_reducible refine jH ?_; refine ja rfl rfl (je rfl rfl) ?_) | (with_reducible refine jI ?_; refine ja rfl rfl (jf rfl rfl) ?_) | (with_reducible refine jJ ?_; refine ja rfl rfl (jd rfl rfl rfl rfl rfl) ?_) | (with_reducible refine jK ?_; refine ja rfl rfl (jg rfl rfl rfl rfl) ?_) | (with_reducible refine jL ?_; first | refine ja rfl rfl (jh rfl rfl rfl rfl rfl rfl) ?_ | refine ja rfl rfl (ji rfl rfl rfl rfl rfl rfl) ?_) | (with_reducible refine jM ?_; refine ja rfl rfl (jj rfl rfl u24 rfl) ?_)); refine jc (by first | (simp only [setAt]; rfl) | rfl) ?_)))
  refine ja rfl rfl (op_lookup h.m rfl u53 u3 z3 rfl rfl) ?_
  refine jc (by first | (simp only [setAt]; rfl) | rfl) ?_
  (repeat (first | (with_reducible first | refine jk ?_ | refine jl ?_ | refine jn ?_ | refine jo ?_ | refine jp ?_ | refine jq ?_ | refine jr ?_ | refine js ?_ | refine jt ?_ | refine ju ?_ | refine jv ?_ | refine jw ?_ | refine jx ?_ | refine jy ?_) | (with_reducible refine jz ?_; refine jA (by first | (simp only [setAt, List.nil_append]; rfl) | rfl) ?_) | with_reducible refine jB (by decide) ?_ | (with_reducible refine jC ?_; first | refine jD rfl rfl rfl ?_ | refine jE rfl rfl rfl ?_) | ((first | (with_reducible refine jF ?_; first | refine jm rfl rfl rfl rfl ?_ | refine jG rfl rfl rfl rfl rfl ?_) | (with_reducible refine jH ?_; refine ja rfl rfl (je rfl rfl) ?_) | (with_reducible refine jI ?_; refine ja rfl rfl (jf rfl rfl) ?_) | (with_reducible refine jJ ?_; refine ja rfl rfl (jd rfl rfl rfl rfl rfl) ?_) | (with_reducible refine jK ?_; refine ja rfl rfl (jg rfl rfl rfl rfl) ?_) | (with_reducible refine jL ?_; first | refine ja rfl rfl (jh rfl rfl rfl rfl rfl rfl) ?_ | refine ja rfl rfl (ji rfl rfl rfl rfl rfl rfl) ?_) | (with_reducible refine jM ?_; refine ja rfl rfl (jj rfl rfl u24 rfl) ?_)); refine jc (by first | (simp only [setAt]; rfl) | rfl) ?_)))
  rw [wrap_small (n := φ n - 1) (by omega) (by omega)]
  refine Wo.mapUpdate h.m rfl rfl rfl u53 u3 rfl rfl rfl (fun A hM => ?_)
  (repeat (first | (with_reducible first | refine jk ?_ | refine jl ?_ | refine jn ?_ | refine jo ?_ | refine jp ?_ | refine jq ?_ | refine jr ?_ | refine js ?_ | refine jt ?_ | refine ju ?_ | refine jv ?_ | refine jw ?_ | refine jx ?_ | refine jy ?_) | (with_reducible refine jz ?_; refine jA (by first | (simp only [setAt, List.nil_append]; rfl) | rfl) ?_) | with_reducible refine jB (by decide) ?_ | (with_reducible refine jC ?_; first | refine jD rfl rfl rfl ?_ | refine jE rfl rfl rfl ?_) | ((first | (with_reducible refine jF ?_; first | refine jm rfl rfl rfl rfl ?_ | refine jG rfl rfl rfl rfl rfl ?_) | (with_reducible refine jH ?_; refine ja rfl rfl (je rfl rfl) ?_) | (with_reducible refine jI ?_; refine ja rfl rfl (jf rfl rfl) ?_) | (with_reducible refine jJ ?_; refine ja rfl rfl (jd rfl rfl rfl rfl rfl) ?_) | (with_reducible refine jK ?_; refine ja rfl rfl (jg rfl rfl rfl rfl) ?_) | (with_reducible refine jL ?_; first | refine ja rfl rfl (jh rfl rfl rfl rfl rfl rfl) ?_ | refine ja rfl rfl (ji rfl rfl rfl rfl rfl rfl) ?_) | (with_reducible refine jM ?_; refine ja rfl rfl (jj rfl rfl u24 rfl) ?_)); refine jc (by first | (simp only [setAt]; rfl) | rfl) ?_)))
  have ho : nth (setAt H bm A) bo = some (.cells (23, true) (out.map i64)) := by rw [nth_setAt_other _ _ _ _ (Ne.symm h.n1)]; exact h.o
  refine ja rfl rfl (op_indexAddr_arr (sz := 0) rfl rfl u23 sz3 rfl rfl rfl hp) ?_
  refine jc (by first | (simp only [setAt]; rfl) | rfl) ?_
  refine Wo.doSkip rfl rfl (op_store1 (n := n) rfl sz3 rfl rfl ho (by have := h.len; simp; omega)) ?_
  (repeat (first | (with_reducible first | refine jk ?_ | refine jl ?_ | refine jn ?_ | refine jo ?_ | refine jp ?_ | refine jq ?_ | refine jr ?_ | refine js ?_ | refine jt ?_ | refine ju ?_ | refine jv ?_ | refine jw ?_ | refine jx ?_ | refine jy ?_) | (with_reducible refine jz ?_; refine jA (by first | (simp only [setAt, List.nil_append]; rfl) | rfl) ?_) | with_reducible refine jB (by decide) ?_ | (with_reducible refine jC ?_; first | refine jD rfl rfl rfl ?_ | refine jE rfl rfl rfl ?_) | ((first | (with_reducible refine jF ?_; first | refine jm rfl rfl rfl rfl ?_ | refine jG rfl rfl rfl rfl rfl ?_) | (with_reducible refine jH ?_; refine ja rfl rfl (je rfl rfl) ?_) | (with_reducible refine jI ?_; refine ja rfl rfl (jf rfl rfl) ?_) | (with_reducible refine jJ ?_; refine ja rfl rfl (jd rfl rfl rfl rfl rfl) ?_) | (with_reducible refine jK ?_; refine ja rfl rfl (jg rfl rfl rfl rfl) ?_) | (with_reducible refine jL ?_; first | refine ja rfl rfl (jh rfl rfl rfl rfl rfl rfl) ?_ | refine ja rfl rfl (ji rfl rfl rfl rfl rfl rfl) ?_) | (with_reducible refine jM ?_; refine ja rfl rfl (jj rfl rfl u24 rfl) ?_)); refine jc (by first | (simp only [setAt]; rfl) | rfl) ?_)))
  have e : 0 + p * (0 + 1) = p := by omega
  rw [e, setAt_map]
  have ho2 := nth_setAt_same _ _ (.cells (23, true) ((out.set p n).map i64)) _ ho
  refine EndQ.ret (r := .v (.bool true)) rfl (.inr ⟨by omega, rfl, ⟨?_, ?_, ho2, by rw [List.length_set]; exact h.len, upd_low h.low (by omega), h.n1, h.n2, h.n3⟩, by rw [len_setAt, len_setAt], fun k k1 k2 => ?_⟩)
  ·rw [nth_setAt_other _ _ _ _ h.n3, nth_setAt_other _ _ _ _ h.n2]; exact h.v
  ·exact hM.same (nth_setAt_other _ _ _ _ h.n1)
  ·rw [nth_setAt_other _ _ _ _ k2, nth_setAt_other _ _ _ _ k1]
end Go.Proofs
