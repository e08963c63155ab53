/- The ring's reference: Claim. -/
import Derived.Test.YtpgkkmlmdoacmaaRgRef3
import Derived.Test.YtpgkkmlmdoacmaaRgClaim
set_option linter.unusedVariables false
set_option linter.unusedSimpArgs false
set_option linter.unusedSectionVars false
namespace Go.Proofs
open Go.Tm Go.Proofs.RgPlain
set_option maxRecDepth 100000
structure RMem (o l : List Int) (H : List AB) (qb : Nat) (φ : Int → Int) (out : List Int) : Prop where
 b0 : nth H 0 = some (.cells (23, true) (o.map i64))
 b1 : nth H 1 = some (.cells (23, true) (zeros.map i64))
 b2 : nth H 2 = some (.cells (23, true) (out.map i64))
 bq : nth H qb = some (.cells (3, false) ((l.map φ).map i64))
 len : out.length = 8
 low : ∀ k, 0 ≤ φ k ∧ φ k ≤ 9
 n : 3 ≤ qb
 mem : ∀ n, 0 < φ n → n ∈ l
theorem get_inj {l : List Int} (hl : l.Nodup) {i j : Nat} (hi : i < l.length) (hj : j < l.length) (h : l[i] = l[j]) : i = j := by
 by_cases e : i = j
 ·exact e
 ·rcases Nat.lt_or_gt_of_ne e with q | q
  ·exact absurd h (List.pairwise_iff_getElem.1 hl i j hi hj q)
  ·exact absurd h.symm (List.pairwise_iff_getElem.1 hl j i hj hi q)
theorem map_upd {l : List Int} (hl : l.Nodup) {k : Nat} (hk : k < l.length) (φ : Int → Int) (v : Int) : (l.map φ).set k v = l.map (upd φ l[k] v) := by
 apply List.ext_getElem (by simp)
 intro j h1 h2
 simp at h1
 rw [List.getElem_set, List.getElem_map, List.getElem_map]
 by_cases e : k = j
 ·subst e; simp [upd]
 ·rw [if_neg e]
  unfold upd
  rw [if_neg fun q => e (get_inj hl h1 hk q).symm]
theorem nin_take {l : List Int} (hl : l.Nodup) {k : Nat} (hk : k < l.length) : l[k] ∉ l.take k := by
 intro h
 obtain ⟨j, hj, e⟩ := List.mem_iff_getElem.1 h
 rw [List.length_take] at hj
 rw [List.getElem_take] at e
 have := get_inj hl (by omega) hk e
 omega
theorem mem_take_succ {l : List Int} {k : Nat} (hk : k < l.length) (n : Int) : n ∈ l.take (k + 1) ↔ n ∈ l.take k ∨ n = l[k] := by
 rw [List.take_add_one, List.getElem?_eq_getElem hk, List.mem_append]; simp
theorem RMem.take {o l : List Int} {H : List AB} {qb : Nat} {φ : Int → Int} {out : List Int} (h : RMem o l H qb φ out) (hl : l.Nodup) {k : Nat} (hk : k < l.length) (i : Nat) (hp : 0 < φ l[k]) : RMem o l (setAt (setAt H 2 (.cells (23, true) ((out.set i l[k]).map i64))) qb (.cells (3, false) (((l.map φ).set k (φ l[k] - 1)).map i64))) qb (upd φ l[k] (φ l[k] - 1)) (out.set i l[k]) := by
 have hn := h.n
 refine ⟨?_, ?_, ?_, ?_, by rw [List.length_set]; exact h.len, upd_low h.low hp, hn, fun n q => ?_⟩
 ·rw [nth_setAt_other _ _ _ _ (by omega), nth_setAt_other _ _ _ _ (by omega)]; exact h.b0
 ·rw [nth_setAt_other _ _ _ _ (by omega), nth_setAt_other _ _ _ _ (by omega)]; exact h.b1
 ·rw [nth_setAt_other _ _ _ _ (by omega)]; exact nth_setAt_same _ _ _ _ h.b2
 ·rw [← map_upd hl hk]
  exact nth_setAt_same _ _ _ _ ((nth_setAt_other _ _ _ _ (by omega)).trans h.bq)
 ·unfold upd at q
  split at q
  ·rename_i e; rw [e]; exact List.getElem_mem _
  ·exact h.mem n q
theorem op_load_q {f : FuncId} {o : Oper} {R : List AV} {own : Nat → Nat} {H : List AB} {a : Operand} {b off k : Nat} {tt : TypeId × Bool} {l : List Int} {φ : Int → Int} (ho : o.op = .load 3 a) (ha : evalO Kz R a = some (.ptr b off)) (hoff : off = k) (hb : nth H b = some (.cells tt ((l.map φ).map i64))) (hk : k < l.length) : aOp Kz f ⟨R, own, H⟩ o [] = some (.val (i64 (φ l[k])) own H, [], []) := by
 have := op_load_int (f := f) (own := own) ho ha hoff hb (by rw [List.length_map]; exact hk)
 rwa [getD_get (by rw [List.length_map]; exact hk), List.getElem_map] at this
theorem op_store_l {f : FuncId} {o : Oper} {R : List AV} {own : Nat → Nat} {H : List AB} {a x : Operand} {b off k : Nat} {n : Int} {tt : TypeId × Bool} {l : List Int} (ho : o.op = .store 3 a x) (ha : evalO Kz R a = some (.ptr b off)) (hoff : off = k) (hx : evalO Kz R x = some (i64 n)) (hb : nth H b = some (.cells tt (l.map i64))) (hk : k < l.length) : aOp Kz f ⟨R, own, H⟩ o [] = some (.skip (setAt H b (.cells tt ((l.set k n).map i64))), [], []) := by
 subst hoff
 have := op_store1 (f := f) (own := own) ho sz3 ha hx hb (by rw [List.length_map]; omega)
 rwa [setAt_map] at this
set_option maxHeartbeats 16000000 in
theorem rclaim_tells (o : List Int) (ho : o.length = 8) (ms : List Int) (tl : Tail) (htl : tl.un = tl) (hl : ms.length ≤ 17592186043904) (H : List AB) : Tells Kz 11 [.agg (o.map i64), .sl (ms.map i64) tl] H fun r H' => r = .agg ((claimR o (those ms)).map i64) ∧ H' = H := by
 have hcl : AV.closedL [.agg (o.map i64), .sl (ms.map i64) tl] = true := by simp [AV.closedL, AV.closed, closedL_ints]
 refine Tells.vals (c := _) Try.func11 rfl (args' := [.agg (o.map i64), .sl (ms.map i64) tl]) (m := 90) (by simp only [List.map, unown_sl, htl]; rfl) rfl rfl rfl (by rw [hcl]; rfl) ?_
 refine jk ?_
 refine jl ?_
 refine ja rfl rfl (op_box rfl rfl (allOne_ints o)) ?_
 refine jc (by first | (simp only [setAt]; rfl) | rfl) ?_
 refine ja rfl rfl (op_alloc rfl rfl z23) ?_
 refine jc (by first | (simp only [setAt]; rfl) | rfl) ?_
 (repeat (first | (with_reducible first | refine jk ?_ | refine jl ?_ | refine jn ?_ | refine jo ?_ | refine jp ?_ | refine jq ?_ | refine jr ?_ | refine js ?_ | refine jt ?_ | refine ju ?_ | refine jv ?_ | refine jw ?_ | refine jx ?_ | refine jy ?_) | (with_reducible refine jz ?_; refine jA (by first | (simp only [setAt, enter, List.replicate, List.cons_append, List.nil_append]; rfl) | rfl) ?_) | with_reducible refine jB (by decide) ?_ | (with_reducible refine jC ?_; first | refine jD rfl rfl rfl ?_ | refine jE rfl rfl rfl ?_) | ((first | (with_reducible refine jF ?_; first | refine jm rfl rfl rfl rfl ?_ | refine jG rfl rfl rfl rfl rfl ?_) | (with_reducible refine jH ?_; refine ja rfl rfl (je rfl rfl) ?_) | (with_reducible refine jI ?_; refine ja rfl rfl (jf rfl rfl) ?_) | (with_reducible refine jJ ?_; refine ja rfl rfl (jd rfl rfl rfl rfl rfl) ?_) | (with_reducible refine jK ?_; refine ja rfl rfl (jg rfl rfl rfl rfl) ?_) | (with_reducible refine jL ?_; first | refine ja rfl rfl (jh rfl rfl rfl rfl rfl rfl) ?_ | refine ja rfl rfl (ji rfl rfl rfl rfl rfl rfl) ?_) | (with_reducible refine jM ?_; refine ja rfl rfl (jj rfl rfl u24 rfl) ?_)); refine jc (by first | (simp only [setAt]; rfl) | rfl) ?_)))
 refine Wo.doCall rfl rfl (op_call (args := [.sl (ms.map i64) tl]) rfl rfl) ?_
 rw [show List.map AV.unown [.sl (ms.map i64) tl] = [.sl (ms.map i64) tl] by simp only [List.map, unown_sl, htl]]
 refine (rthose_tells ms tl htl (by omega) _).mono ?_
 rintro r H1 ⟨⟨tl1, rfl⟩, rfl⟩
 rw [unown_sl]
 have hll := those_len_le ms
 have hLn := those_nodup ms
 have hL0 : ∀ n ∈ those ms, 0 < n := fun n hn => ((mem_those ms n).1 hn).1
 generalize those ms = l at hll hLn hL0 ⊢
 obtain ⟨tl2, htl2⟩ : ∃ t, tl1.un = t := ⟨_, rfl⟩
 have htl2u : tl2.un = tl2 := by rw [← htl2]; exact un_un tl1
 rw [htl2]
 unfold claimR
 refine jc (by first | (simp only [setAt]; rfl) | rfl) ?_
 (repeat (first | (with_reducible first | refine jk ?_ | refine jl ?_ | refine jn ?_ | refine jo ?_ | refine jp ?_ | refine jq ?_ | refine jr ?_ | refine js ?_ | refine jt ?_ | refine ju ?_ | refine jv ?_ | refine jw ?_ | refine jx ?_ | refine jy ?_) | (with_reducible refine jz ?_; refine jA (by first | (simp only [setAt, List.nil_append]; rfl) | rfl) ?_) | with_reducible refine jB (by decide) ?_ | (with_reducible refine jC ?_; first | refine jD rfl rfl rfl ?_ | refine jE rfl rfl rfl ?_) | ((first | (with_reducible refine jF ?_; first | refine jm rfl rfl rfl rfl ?_ | refine jG rfl rfl rfl rfl rfl ?_) | (with_reducible refine jH ?_; refine ja rfl rfl (je rfl rfl) ?_) | (with_reducible refine jI ?_; refine ja rfl rfl (jf rfl rfl) ?_) | (with_reducible refine jJ ?_; refine ja rfl rfl (jd rfl rfl rfl rfl rfl) ?_) | (with_reducible refine jK ?_; refine ja rfl rfl (jg rfl rfl rfl rfl) ?_) | (with_reducible refine jL ?_; first | refine ja rfl rfl (jh rfl rfl rfl rfl rfl rfl) ?_ | refine ja rfl rfl (ji rfl rfl rfl rfl rfl rfl) ?_) | (with_reducible refine jM ?_; refine ja rfl rfl (jj rfl rfl u24 rfl) ?_)); refine jc (by first | (simp only [setAt]; rfl) | rfl) ?_)))
 refine ja rfl rfl (op_alloc rfl rfl z23) ?_
 refine jc (by first | (simp only [setAt]; rfl) | rfl) ?_
 (repeat (first | (with_reducible first | refine jk ?_ | refine jl ?_ | refine jn ?_ | refine jo ?_ | refine jp ?_ | refine jq ?_ | refine jr ?_ | refine js ?_ | refine jt ?_ | refine ju ?_ | refine jv ?_ | refine jw ?_ | refine jx ?_ | refine jy ?_) | (with_reducible refine jz ?_; refine jA (by first | (simp only [setAt, List.nil_append]; rfl) | rfl) ?_) | with_reducible refine jB (by decide) ?_ | (with_reducible refine jC ?_; first | refine jD rfl rfl rfl ?_ | refine jE rfl rfl rfl ?_) | ((first | (with_reducible refine jF ?_; first | refine jm rfl rfl rfl rfl ?_ | refine jG rfl rfl rfl rfl rfl ?_) | (with_reducible refine jH ?_; refine ja rfl rfl (je rfl rfl) ?_) | (with_reducible refine jI ?_; refine ja rfl rfl (jf rfl rfl) ?_) | (with_reducible refine jJ ?_; refine ja rfl rfl (jd rfl rfl rfl rfl rfl) ?_) | (with_reducible refine jK ?_; refine ja rfl rfl (jg rfl rfl rfl rfl) ?_) | (with_reducible refine jL ?_; first | refine ja rfl rfl (jh rfl rfl rfl rfl rfl rfl) ?_ | refine ja rfl rfl (ji rfl rfl rfl rfl rfl rfl) ?_) | (with_reducible refine jM ?_; refine ja rfl rfl (jj rfl rfl u24 rfl) ?_)); refine jc (by first | (simp only [setAt]; rfl) | rfl) ?_)))
 rw [List.length_map]
 refine Wc.cond rfl rfl (fun hc => ?_) (fun hc => ?_)
 ·have h0 : l = [] := by
   have := eq_of_beq hc
   exact List.length_eq_zero_iff.1 (by omega)
  rw [if_pos h0]
  (repeat (first | (with_reducible first | refine jk ?_ | refine jl ?_ | refine jn ?_ | refine jo ?_ | refine jp ?_ | refine jq ?_ | refine jr ?_ | refine js ?_ | refine jt ?_ | refine ju ?_ | refine jv ?_ | refine jw ?_ | refine jx ?_ | refine jy ?_) | (with_reducible refine jz ?_; refine jA (by first | (simp only [setAt, List.nil_append]; rfl) | rfl) ?_) | with_reducible refine jB (by decide) ?_ | (with_reducible refine jC ?_; first | refine jD rfl rfl rfl ?_ | refine jE rfl rfl rfl ?_) | ((first | (with_reducible refine jF ?_; first | refine jm rfl rfl rfl rfl ?_ | refine jG rfl rfl rfl rfl rfl ?_) | (with_reducible refine jH ?_; refine ja rfl rfl (je rfl rfl) ?_) | (with_reducible refine jI ?_; refine ja rfl rfl (jf rfl rfl) ?_) | (with_reducible refine jJ ?_; refine ja rfl rfl (jd rfl rfl rfl rfl rfl) ?_) | (with_reducible refine jK ?_; refine ja rfl rfl (jg rfl rfl rfl rfl) ?_) | (with_reducible refine jL ?_; first | refine ja rfl rfl (jh rfl rfl rfl rfl rfl rfl) ?_ | refine ja rfl rfl (ji rfl rfl rfl rfl rfl rfl) ?_) | (with_reducible refine jM ?_; refine ja rfl rfl (jj rfl rfl u24 rfl) ?_)); refine jc (by first | (simp only [setAt]; rfl) | rfl) ?_)))
  refine ja rfl rfl (op_load_arr (l := zeros) rfl rfl rfl ag23 sz23 rfl) ?_
  refine jc (by first | (simp only [setAt]; rfl) | rfl) ?_
  refine Wo.doSkip rfl rfl (op_storeArr (n := 8) (l := zeros) rfl sz23 rfl rfl rfl rfl rfl) ?_
  (repeat (first | (with_reducible first | refine jk ?_ | refine jl ?_ | refine jn ?_ | refine jo ?_ | refine jp ?_ | refine jq ?_ | refine jr ?_ | refine js ?_ | refine jt ?_ | refine ju ?_ | refine jv ?_ | refine jw ?_ | refine jx ?_ | refine jy ?_) | (with_reducible refine jz ?_; refine jA (by first | (simp only [setAt, List.nil_append]; rfl) | rfl) ?_) | with_reducible refine jB (by decide) ?_ | (with_reducible refine jC ?_; first | refine jD rfl rfl rfl ?_ | refine jE rfl rfl rfl ?_) | ((first | (with_reducible refine jF ?_; first | refine jm rfl rfl rfl rfl ?_ | refine jG rfl rfl rfl rfl rfl ?_) | (with_reducible refine jH ?_; refine ja rfl rfl (je rfl rfl) ?_) | (with_reducible refine jI ?_; refine ja rfl rfl (jf rfl rfl) ?_) | (with_reducible refine jJ ?_; refine ja rfl rfl (jd rfl rfl rfl rfl rfl) ?_) | (with_reducible refine jK ?_; refine ja rfl rfl (jg rfl rfl rfl rfl) ?_) | (with_reducible refine jL ?_; first | refine ja rfl rfl (jh rfl rfl rfl rfl rfl rfl) ?_ | refine ja rfl rfl (ji rfl rfl rfl rfl rfl rfl) ?_) | (with_reducible refine jM ?_; refine ja rfl rfl (jj rfl rfl u24 rfl) ?_)); refine jc (by first | (simp only [setAt]; rfl) | rfl) ?_)))
  exact EndQ.ret (r := .agg (zeros.map i64)) rfl ⟨_, rfl, rfl, rfl, rfl⟩
 ·have h0 : l ≠ [] := by
   rintro rfl
   have := ne_of_beq_false hc
   simp at this
  have hlp : 0 < l.length := List.length_pos_iff.2 h0
  rw [if_neg h0]
  clear hc
  (repeat (first | (with_reducible first | refine jk ?_ | refine jl ?_ | refine jn ?_ | refine jo ?_ | refine jp ?_ | refine jq ?_ | refine jr ?_ | refine js ?_ | refine jt ?_ | refine ju ?_ | refine jv ?_ | refine jw ?_ | refine jx ?_ | refine jy ?_) | (with_reducible refine jz ?_; refine jA (by first | (simp only [setAt, List.nil_append]; rfl) | rfl) ?_) | with_reducible refine jB (by decide) ?_ | (with_reducible refine jC ?_; first | refine jD rfl rfl rfl ?_ | refine jE rfl rfl rfl ?_) | ((first | (with_reducible refine jF ?_; first | refine jm rfl rfl rfl rfl ?_ | refine jG rfl rfl rfl rfl rfl ?_) | (with_reducible refine jH ?_; refine ja rfl rfl (je rfl rfl) ?_) | (with_reducible refine jI ?_; refine ja rfl rfl (jf rfl rfl) ?_) | (with_reducible refine jJ ?_; refine ja rfl rfl (jd rfl rfl rfl rfl rfl) ?_) | (with_reducible refine jK ?_; refine ja rfl rfl (jg rfl rfl rfl rfl) ?_) | (with_reducible refine jL ?_; first | refine ja rfl rfl (jh rfl rfl rfl rfl rfl rfl) ?_ | refine ja rfl rfl (ji rfl rfl rfl rfl rfl rfl) ?_) | (with_reducible refine jM ?_; refine ja rfl rfl (jj rfl rfl u24 rfl) ?_)); refine jc (by first | (simp only [setAt]; rfl) | rfl) ?_)))
  refine ja rfl rfl (op_load_arr (l := o) rfl rfl rfl ag23 sz23 ho) ?_
  refine jc (by first | (simp only [setAt]; rfl) | rfl) ?_
  (repeat (first | (with_reducible first | refine jk ?_ | refine jl ?_ | refine jn ?_ | refine jo ?_ | refine jp ?_ | refine jq ?_ | refine jr ?_ | refine js ?_ | refine jt ?_ | refine ju ?_ | refine jv ?_ | refine jw ?_ | refine jx ?_ | refine jy ?_) | (with_reducible refine jz ?_; refine jA (by first | (simp only [setAt, List.nil_append]; rfl) | rfl) ?_) | with_reducible refine jB (by decide) ?_ | (with_reducible refine jC ?_; first | refine jD rfl rfl rfl ?_ | refine jE rfl rfl rfl ?_) | ((first | (with_reducible refine jF ?_; first | refine jm rfl rfl rfl rfl ?_ | refine jG rfl rfl rfl rfl rfl ?_) | (with_reducible refine jH ?_; refine ja rfl rfl (je rfl rfl) ?_) | (with_reducible refine jI ?_; refine ja rfl rfl (jf rfl rfl) ?_) | (with_reducible refine jJ ?_; refine ja rfl rfl (jd rfl rfl rfl rfl rfl) ?_) | (with_reducible refine jK ?_; refine ja rfl rfl (jg rfl rfl rfl rfl) ?_) | (with_reducible refine jL ?_; first | refine ja rfl rfl (jh rfl rfl rfl rfl rfl rfl) ?_ | refine ja rfl rfl (ji rfl rfl rfl rfl rfl rfl) ?_) | (with_reducible refine jM ?_; refine ja rfl rfl (jj rfl rfl u24 rfl) ?_)); refine jc (by first | (simp only [setAt]; rfl) | rfl) ?_)))
  refine Wo.doCall rfl rfl (op_call (args := [.agg (o.map i64), .sl (l.map i64) tl2]) rfl rfl) ?_
  rw [show List.map AV.unown [.agg (o.map i64), .sl (l.map i64) tl2] = [.agg (o.map i64), .sl (l.map i64) tl2] by simp only [List.map, unown_sl, htl2u]; rfl]
  refine (quotas_tells o ho l tl2 htl2u (by omega) _).mono ?_
  rintro r H5 hm5
  rw [hm5.view.unown]
  obtain ⟨hm5a, hm5b, hm5c⟩ := hm5
  rcases hm5a with ⟨q, _⟩ | ⟨qb, rfl, hqb, hrow⟩
  ·exact absurd (List.map_eq_nil_iff.1 q) h0
  have hlow : ∀ n, 0 ≤ (fun n => if n ∈ l then quotaR o l n else 0) n ∧ (fun n => if n ∈ l then quotaR o l n else 0) n ≤ 9 := by
   intro n
   have h88 : 8 / l.length ≤ 8 := Nat.div_le_self _ _
   simp only
   split
   ·unfold quotaR
    generalize 8 / l.length = v at *
    split <;> omega
   ·omega
  have hmem : ∀ n, 0 < (fun n => if n ∈ l then quotaR o l n else 0) n → n ∈ l := by
   intro n q
   simp only at q
   split at q
   ·assumption
   ·omega
  have hq : (l.map (quotaR o l)) = l.map (fun n => if n ∈ l then quotaR o l n else 0) := List.map_congr_left fun n hn => by rw [if_pos hn]
  rw [hq] at hrow
  rw [List.length_map]
  generalize (fun n => if n ∈ l then quotaR o l n else 0) = φ0 at *
  have hR0 : RMem o l H5 qb φ0 zeros := ⟨hm5c 0 (by simp), hm5c 1 (by simp), hm5c 2 (by simp), hrow, rfl, hlow, hqb, hmem⟩
  clear hm5c hm5b hrow hqb hq hlow hmem
  refine jc (by first | (simp only [setAt]; rfl) | rfl) ?_
  (repeat (first | (with_reducible first | refine jk ?_ | refine jl ?_ | refine jn ?_ | refine jo ?_ | refine jp ?_ | refine jq ?_ | refine jr ?_ | refine js ?_ | refine jt ?_ | refine ju ?_ | refine jv ?_ | refine jw ?_ | refine jx ?_ | refine jy ?_) | (with_reducible refine jz ?_; refine jA (by first | (simp only [setAt, List.nil_append]; rfl) | rfl) ?_) | with_reducible refine jB (by decide) ?_ | (with_reducible refine jC ?_; first | refine jD rfl rfl rfl ?_ | refine jE rfl rfl rfl ?_) | ((first | (with_reducible refine jF ?_; first | refine jm rfl rfl rfl rfl ?_ | refine jG rfl rfl rfl rfl rfl ?_) | (with_reducible refine jH ?_; refine ja rfl rfl (je rfl rfl) ?_) | (with_reducible refine jI ?_; refine ja rfl rfl (jf rfl rfl) ?_) | (with_reducible refine jJ ?_; refine ja rfl rfl (jd rfl rfl rfl rfl rfl) ?_) | (with_reducible refine jK ?_; refine ja rfl rfl (jg rfl rfl rfl rfl) ?_) | (with_reducible refine jL ?_; first | refine ja rfl rfl (jh rfl rfl rfl rfl rfl rfl) ?_ | refine ja rfl rfl (ji rfl rfl rfl rfl rfl rfl) ?_) | (with_reducible refine jM ?_; refine ja rfl rfl (jj rfl rfl u24 rfl) ?_)); refine jc (by first | (simp only [setAt]; rfl) | rfl) ?_)))
  refine Wc.inv (fun m s => ∃ (i : Nat) (φ : Int → Int) (out op : List Int), m = 8 - i ∧ i ≤ 8 ∧ RMem o l s.H qb φ out ∧ keep (o.drop i) i φ out op = keep o 0 φ0 zeros [] ∧ ∃ d : Nat → AV, s.regs = (d 0 :: d 1 :: .ptr 0 0 :: d 3 :: .ptr 1 0 :: .sl (l.map i64) tl2 :: .ptr 2 0 :: .ms qb 0 l.length 1 :: i64 i :: d 9 :: d 10 :: d 11 :: d 12 :: d 13 :: d 14 :: d 15 :: d 16 :: d 17 :: d 18 :: d 19 :: d 20 :: d 21 :: d 22 :: d 23 :: d 24 :: d 25 :: d 26 :: d 27 :: d 28 :: d 29 :: d 30 :: d 31 :: d 32 :: d 33 :: d 34 :: d 35 :: d 36 :: d 37 :: d 38 :: d 39 :: d 40 :: d 41 :: d 42 :: d 43 :: d 44 :: d 45 :: d 46 :: d 47 :: d 48 :: d 49 :: d 50 :: d 51 :: d 52 :: d 53 :: d 54 :: d 55 :: d 56 :: d 57 :: d 58 :: d 59 :: d 60 :: d 61 :: d 62 :: d 63 :: d 64 :: d 65 :: d 66 :: d 67 :: d 68 :: d 69 :: d 70 :: d 71 :: d 72 :: d 73 :: d 74 :: d 75 :: d 76 :: d 77 :: d 78 :: d 79 :: d 80 :: d 81 :: d 82 :: d 83 :: d 84 :: d 85 :: d 86 :: d 87 :: d 88 :: d 89 :: d 90 :: d 91 :: [])) 8 ?_ ?_
  ·exact ⟨0, φ0, zeros, [], by omega, by omega, hR0, by rw [List.drop_zero], dead_of rfl⟩
  ·clear hR0
   rintro m regs own H6 ⟨i, φ, out, op, rfl, hi, hR, hkp, d, rfl⟩
   simp only at hR
   (repeat (first | (with_reducible first | refine jk ?_ | refine jl ?_ | refine jn ?_ | refine jo ?_ | refine jp ?_ | refine jq ?_ | refine jr ?_ | refine js ?_ | refine jt ?_ | refine ju ?_ | refine jv ?_ | refine jw ?_ | refine jx ?_ | refine jy ?_) | (with_reducible refine jz ?_; refine jA (by first | (simp only [setAt, List.nil_append]; rfl) | rfl) ?_) | with_reducible refine jB (by decide) ?_ | (with_reducible refine jC ?_; first | refine jD rfl rfl rfl ?_ | refine jE rfl rfl rfl ?_) | ((first | (with_reducible refine jF ?_; first | refine jm rfl rfl rfl rfl ?_ | refine jG rfl rfl rfl rfl rfl ?_) | (with_reducible refine jH ?_; refine ja rfl rfl (je rfl rfl) ?_) | (with_reducible refine jI ?_; refine ja rfl rfl (jf rfl rfl) ?_) | (with_reducible refine jJ ?_; refine ja rfl rfl (jd rfl rfl rfl rfl rfl) ?_) | (with_reducible refine jK ?_; refine ja rfl rfl (jg rfl rfl rfl rfl) ?_) | (with_reducible refine jL ?_; first | refine ja rfl rfl (jh rfl rfl rfl rfl rfl rfl) ?_ | refine ja rfl rfl (ji rfl rfl rfl rfl rfl rfl) ?_) | (with_reducible refine jM ?_; refine ja rfl rfl (jj rfl rfl u24 rfl) ?_)); refine jc (by first | (simp only [setAt]; rfl) | rfl) ?_)))
   refine Wc.cond rfl rfl (fun h => ?_) (fun h => ?_)
   ·have hlt : i < 8 := by have := of_decide_eq_true h; omega
    clear h
    rw [List.drop_eq_getElem_cons (show i < o.length by omega)] at hkp
    simp only [keep] at hkp
    (repeat (first | (with_reducible first | refine jk ?_ | refine jl ?_ | refine jn ?_ | refine jo ?_ | refine jp ?_ | refine jq ?_ | refine jr ?_ | refine js ?_ | refine jt ?_ | refine ju ?_ | refine jv ?_ | refine jw ?_ | refine jx ?_ | refine jy ?_) | (with_reducible refine jz ?_; refine jA (by first | (simp only [setAt, List.nil_append]; rfl) | rfl) ?_) | with_reducible refine jB (by decide) ?_ | (with_reducible refine jC ?_; first | refine jD rfl rfl rfl ?_ | refine jE rfl rfl rfl ?_) | ((first | (with_reducible refine jF ?_; first | refine jm rfl rfl rfl rfl ?_ | refine jG rfl rfl rfl rfl rfl ?_) | (with_reducible refine jH ?_; refine ja rfl rfl (je rfl rfl) ?_) | (with_reducible refine jI ?_; refine ja rfl rfl (jf rfl rfl) ?_) | (with_reducible refine jJ ?_; refine ja rfl rfl (jd rfl rfl rfl rfl rfl) ?_) | (with_reducible refine jK ?_; refine ja rfl rfl (jg rfl rfl rfl rfl) ?_) | (with_reducible refine jL ?_; first | refine ja rfl rfl (jh rfl rfl rfl rfl rfl rfl) ?_ | refine ja rfl rfl (ji rfl rfl rfl rfl rfl rfl) ?_) | (with_reducible refine jM ?_; refine ja rfl rfl (jj rfl rfl u24 rfl) ?_)); refine jc (by first | (simp only [setAt]; rfl) | rfl) ?_)))
    refine Wc.inv (fun m s => ∃ (k : Nat) (φ' : Int → Int) (out' : List Int), m = l.length - k ∧ k ≤ l.length ∧ RMem o l s.H qb φ' out' ∧ ((o[i] ∈ l.take k ∧ 0 < φ o[i] ∧ φ' = upd φ o[i] (φ o[i] - 1) ∧ out' = out.set i o[i]) ∨ (¬ (o[i] ∈ l.take k ∧ 0 < φ o[i]) ∧ φ' = φ ∧ out' = out)) ∧ ∃ d : Nat → AV, s.regs = (d 0 :: d 1 :: .ptr 0 0 :: d 3 :: .ptr 1 0 :: .sl (l.map i64) tl2 :: .ptr 2 0 :: .ms qb 0 l.length 1 :: i64 i :: i64 k :: d 10 :: d 11 :: d 12 :: d 13 :: d 14 :: d 15 :: d 16 :: d 17 :: d 18 :: d 19 :: d 20 :: d 21 :: d 22 :: d 23 :: d 24 :: d 25 :: d 26 :: d 27 :: d 28 :: d 29 :: d 30 :: d 31 :: d 32 :: d 33 :: d 34 :: d 35 :: d 36 :: d 37 :: d 38 :: d 39 :: d 40 :: d 41 :: d 42 :: d 43 :: d 44 :: d 45 :: d 46 :: d 47 :: d 48 :: d 49 :: d 50 :: d 51 :: d 52 :: d 53 :: d 54 :: d 55 :: d 56 :: d 57 :: d 58 :: d 59 :: d 60 :: d 61 :: d 62 :: d 63 :: d 64 :: d 65 :: d 66 :: d 67 :: d 68 :: d 69 :: d 70 :: d 71 :: d 72 :: d 73 :: d 74 :: d 75 :: d 76 :: d 77 :: d 78 :: d 79 :: d 80 :: d 81 :: d 82 :: d 83 :: d 84 :: d 85 :: d 86 :: d 87 :: d 88 :: d 89 :: d 90 :: d 91 :: [])) l.length ?_ ?_
    ·exact ⟨0, φ, out, by omega, by omega, hR, .inr ⟨by simp, rfl, rfl⟩, dead_of rfl⟩
    ·clear hR d
     rintro m regs own H7 ⟨k, φ', out', rfl, hk, hR, hst, d, rfl⟩
     simp only at hR
     (repeat (first | (with_reducible first | refine jk ?_ | refine jl ?_ | refine jn ?_ | refine jo ?_ | refine jp ?_ | refine jq ?_ | refine jr ?_ | refine js ?_ | refine jt ?_ | refine ju ?_ | refine jv ?_ | refine jw ?_ | refine jx ?_ | refine jy ?_) | (with_reducible refine jz ?_; refine jA (by first | (simp only [setAt, List.nil_append]; rfl) | rfl) ?_) | with_reducible refine jB (by decide) ?_ | (with_reducible refine jC ?_; first | refine jD rfl rfl rfl ?_ | refine jE rfl rfl rfl ?_) | ((first | (with_reducible refine jF ?_; first | refine jm rfl rfl rfl rfl ?_ | refine jG rfl rfl rfl rfl rfl ?_) | (with_reducible refine jH ?_; refine ja rfl rfl (je rfl rfl) ?_) | (with_reducible refine jI ?_; refine ja rfl rfl (jf rfl rfl) ?_) | (with_reducible refine jJ ?_; refine ja rfl rfl (jd rfl rfl rfl rfl rfl) ?_) | (with_reducible refine jK ?_; refine ja rfl rfl (jg rfl rfl rfl rfl) ?_) | (with_reducible refine jL ?_; first | refine ja rfl rfl (jh rfl rfl rfl rfl rfl rfl) ?_ | refine ja rfl rfl (ji rfl rfl rfl rfl rfl rfl) ?_) | (with_reducible refine jM ?_; refine ja rfl rfl (jj rfl rfl u24 rfl) ?_)); refine jc (by first | (simp only [setAt]; rfl) | rfl) ?_)))
     rw [List.length_map]
     refine Wc.cond rfl rfl (fun h => ?_) (fun h => ?_)
     ·have hltk : k < l.length := by simpa [goInt] using h
      clear h
      have hmt := mem_take_succ hltk o[i]
      have hnt := nin_take hLn hltk
      have hlow := hR.low l[k]
      have hoi : o.getD i 0 = o[i] := getD_get (by omega)
      (repeat (first | (with_reducible first | refine jk ?_ | refine jl ?_ | refine jn ?_ | refine jo ?_ | refine jp ?_ | refine jq ?_ | refine jr ?_ | refine js ?_ | refine jt ?_ | refine ju ?_ | refine jv ?_ | refine jw ?_ | refine jx ?_ | refine jy ?_) | (with_reducible refine jz ?_; refine jA (by first | (simp only [setAt, List.nil_append]; rfl) | rfl) ?_) | with_reducible refine jB (by decide) ?_ | (with_reducible refine jC ?_; first | refine jD rfl rfl rfl ?_ | refine jE rfl rfl rfl ?_) | ((first | (with_reducible refine jF ?_; first | refine jm rfl rfl rfl rfl ?_ | refine jG rfl rfl rfl rfl rfl ?_) | (with_reducible refine jH ?_; refine ja rfl rfl (je rfl rfl) ?_) | (with_reducible refine jI ?_; refine ja rfl rfl (jf rfl rfl) ?_) | (with_reducible refine jJ ?_; refine ja rfl rfl (jd rfl rfl rfl rfl rfl) ?_) | (with_reducible refine jK ?_; refine ja rfl rfl (jg rfl rfl rfl rfl) ?_) | (with_reducible refine jL ?_; first | refine ja rfl rfl (jh rfl rfl rfl rfl rfl rfl) ?_ | refine ja rfl rfl (ji rfl rfl rfl rfl rfl rfl) ?_) | (with_reducible refine jM ?_; refine ja rfl rfl (jj rfl rfl u24 rfl) ?_)); refine jc (by first | (simp only [setAt]; rfl) | rfl) ?_)))
      refine Wc.mid (fun s => s.H = H7 ∧ ∃ d : Nat → AV, s.regs = (d 0 :: d 1 :: .ptr 0 0 :: d 3 :: .ptr 1 0 :: .sl (l.map i64) tl2 :: .ptr 2 0 :: .ms qb 0 l.length 1 :: i64 i :: i64 k :: d 10 :: d 11 :: d 12 :: d 13 :: d 14 :: d 15 :: d 16 :: d 17 :: d 18 :: d 19 :: d 20 :: d 21 :: d 22 :: d 23 :: d 24 :: d 25 :: d 26 :: d 27 :: d 28 :: d 29 :: d 30 :: d 31 :: d 32 :: d 33 :: d 34 :: d 35 :: d 36 :: d 37 :: d 38 :: d 39 :: d 40 :: d 41 :: d 42 :: d 43 :: d 44 :: .v (.bool (decide (o[i] = l[k]) && decide (0 < φ' l[k]))) :: d 46 :: d 47 :: d 48 :: d 49 :: d 50 :: d 51 :: d 52 :: d 53 :: d 54 :: d 55 :: d 56 :: d 57 :: d 58 :: d 59 :: d 60 :: d 61 :: d 62 :: d 63 :: d 64 :: d 65 :: d 66 :: d 67 :: d 68 :: d 69 :: d 70 :: d 71 :: d 72 :: d 73 :: d 74 :: d 75 :: d 76 :: d 77 :: d 78 :: d 79 :: d 80 :: d 81 :: d 82 :: d 83 :: d 84 :: d 85 :: d 86 :: d 87 :: d 88 :: d 89 :: d 90 :: d 91 :: [])) ?_ ?_
      ·refine Wc.drawn rfl (by kernel_rfl) ?_
       (repeat (with_reducible refine jQ ?_; first | refine jR ?_ | (refine jS rfl rfl rfl rfl rfl ?_; refine jN (by first | (simp only [setAt]; rfl) | rfl) ?_) | ((first | refine jO rfl rfl ?_ | refine jP rfl rfl rfl rfl ?_); (first | refine jb rfl (je rfl rfl) rfl ?_ | refine jb rfl (jf rfl rfl) rfl ?_ | refine jb rfl (jd rfl rfl rfl rfl rfl) rfl ?_ | refine jb rfl (jg rfl rfl rfl rfl) rfl ?_ | refine jb rfl (jh rfl rfl rfl rfl rfl rfl) rfl ?_ | refine jb rfl (ji rfl rfl rfl rfl rfl rfl) rfl ?_ | refine jb rfl (jj rfl rfl (by first | with_reducible exact u24) rfl) rfl ?_ | refine jb rfl (jT rfl rfl (by first | with_reducible exact u24) rfl) rfl ?_); refine jN (by first | (simp only [setAt]; rfl) | rfl) ?_)))
       ((first | refine jO rfl rfl ?_ | refine jP rfl rfl rfl rfl ?_); refine jb rfl (op_indexAddr_arr (sz := 0) rfl rfl u23 sz3 rfl rfl rfl hlt) rfl ?_; refine jN (by first | (simp only [setAt]; rfl) | rfl) ?_)
       ((first | refine jO rfl rfl ?_ | refine jP rfl rfl rfl rfl ?_); refine jb rfl (op_load_int (i := i) rfl rfl (by omega) hR.b0 (by omega)) rfl ?_; refine jN (by first | (simp only [setAt]; rfl) | rfl) ?_)
       rw [hoi]
       (repeat (with_reducible refine jQ ?_; first | refine jR ?_ | (refine jS rfl rfl rfl rfl rfl ?_; refine jN (by first | (simp only [setAt]; rfl) | rfl) ?_) | ((first | refine jO rfl rfl ?_ | refine jP rfl rfl rfl rfl ?_); (first | refine jb rfl (je rfl rfl) rfl ?_ | refine jb rfl (jf rfl rfl) rfl ?_ | refine jb rfl (jd rfl rfl rfl rfl rfl) rfl ?_ | refine jb rfl (jg rfl rfl rfl rfl) rfl ?_ | refine jb rfl (jh rfl rfl rfl rfl rfl rfl) rfl ?_ | refine jb rfl (ji rfl rfl rfl rfl rfl rfl) rfl ?_ | refine jb rfl (jj rfl rfl (by first | with_reducible exact u24) rfl) rfl ?_ | refine jb rfl (jT rfl rfl (by first | with_reducible exact u24) rfl) rfl ?_); refine jN (by first | (simp only [setAt]; rfl) | rfl) ?_)))
       ((first | refine jO rfl rfl ?_ | refine jP rfl rfl rfl rfl ?_); refine jb rfl (op_indexAddr_sl (sz := 0) (j := k) (el := i64 l[k]) rfl rfl u24 sz3 rfl rfl rfl (get_i64 hltk) rfl) rfl ?_; refine jN (by first | (simp only [setAt]; rfl) | rfl) ?_)
       ((first | refine jO rfl rfl ?_ | refine jP rfl rfl rfl rfl ?_); refine jb rfl (op_load_rp (v := i64 l[k]) rfl rfl (take_one ag3 sz3)) rfl ?_; refine jN (by first | (simp only [setAt]; rfl) | rfl) ?_)
       (repeat (with_reducible refine jQ ?_; first | refine jR ?_ | (refine jS rfl rfl rfl rfl rfl ?_; refine jN (by first | (simp only [setAt]; rfl) | rfl) ?_) | ((first | refine jO rfl rfl ?_ | refine jP rfl rfl rfl rfl ?_); (first | refine jb rfl (je rfl rfl) rfl ?_ | refine jb rfl (jf rfl rfl) rfl ?_ | refine jb rfl (jd rfl rfl rfl rfl rfl) rfl ?_ | refine jb rfl (jg rfl rfl rfl rfl) rfl ?_ | refine jb rfl (jh rfl rfl rfl rfl rfl rfl) rfl ?_ | refine jb rfl (ji rfl rfl rfl rfl rfl rfl) rfl ?_ | refine jb rfl (jj rfl rfl (by first | with_reducible exact u24) rfl) rfl ?_ | refine jb rfl (jT rfl rfl (by first | with_reducible exact u24) rfl) rfl ?_); refine jN (by first | (simp only [setAt]; rfl) | rfl) ?_)))
       by_cases h1 : o[i] = l[k]
       ·rw [decide_eq_true h1, Bool.true_and]
        rw [show (o[i] == l[k]) = true from beq_iff_eq.2 h1]
        (repeat (with_reducible refine jQ ?_; first | refine jR ?_ | (refine jS rfl rfl rfl rfl rfl ?_; refine jN (by first | (simp only [setAt]; rfl) | rfl) ?_) | ((first | refine jO rfl rfl ?_ | refine jP rfl rfl rfl rfl ?_); (first | refine jb rfl (je rfl rfl) rfl ?_ | refine jb rfl (jf rfl rfl) rfl ?_ | refine jb rfl (jd rfl rfl rfl rfl rfl) rfl ?_ | refine jb rfl (jg rfl rfl rfl rfl) rfl ?_ | refine jb rfl (jh rfl rfl rfl rfl rfl rfl) rfl ?_ | refine jb rfl (ji rfl rfl rfl rfl rfl rfl) rfl ?_ | refine jb rfl (jj rfl rfl (by first | with_reducible exact u24) rfl) rfl ?_ | refine jb rfl (jT rfl rfl (by first | with_reducible exact u24) rfl) rfl ?_); refine jN (by first | (simp only [setAt]; rfl) | rfl) ?_)))
        ((first | refine jO rfl rfl ?_ | refine jP rfl rfl rfl rfl ?_); refine jb rfl (op_indexAddr_ms (sz := 0) rfl rfl u24 sz3 rfl rfl rfl hltk) rfl ?_; refine jN (by first | (simp only [setAt]; rfl) | rfl) ?_)
        ((first | refine jO rfl rfl ?_ | refine jP rfl rfl rfl rfl ?_); refine jb rfl (op_load_q (k := k) rfl rfl (by omega) hR.bq hltk) rfl ?_; refine jN (by first | (simp only [setAt]; rfl) | rfl) ?_)
        (repeat (with_reducible refine jQ ?_; first | refine jR ?_ | (refine jS rfl rfl rfl rfl rfl ?_; refine jN (by first | (simp only [setAt]; rfl) | rfl) ?_) | ((first | refine jO rfl rfl ?_ | refine jP rfl rfl rfl rfl ?_); (first | refine jb rfl (je rfl rfl) rfl ?_ | refine jb rfl (jf rfl rfl) rfl ?_ | refine jb rfl (jd rfl rfl rfl rfl rfl) rfl ?_ | refine jb rfl (jg rfl rfl rfl rfl) rfl ?_ | refine jb rfl (jh rfl rfl rfl rfl rfl rfl) rfl ?_ | refine jb rfl (ji rfl rfl rfl rfl rfl rfl) rfl ?_ | refine jb rfl (jj rfl rfl (by first | with_reducible exact u24) rfl) rfl ?_ | refine jb rfl (jT rfl rfl (by first | with_reducible exact u24) rfl) rfl ?_); refine jN (by first | (simp only [setAt]; rfl) | rfl) ?_)))
        exact ⟨rfl, rfl, dead_of rfl⟩
       ·rw [decide_eq_false h1, Bool.false_and]
        rw [show (o[i] == l[k]) = false from beq_eq_false_iff_ne.2 h1]
        (repeat (with_reducible refine jQ ?_; first | refine jR ?_ | (refine jS rfl rfl rfl rfl rfl ?_; refine jN (by first | (simp only [setAt]; rfl) | rfl) ?_) | ((first | refine jO rfl rfl ?_ | refine jP rfl rfl rfl rfl ?_); (first | refine jb rfl (je rfl rfl) rfl ?_ | refine jb rfl (jf rfl rfl) rfl ?_ | refine jb rfl (jd rfl rfl rfl rfl rfl) rfl ?_ | refine jb rfl (jg rfl rfl rfl rfl) rfl ?_ | refine jb rfl (jh rfl rfl rfl rfl rfl rfl) rfl ?_ | refine jb rfl (ji rfl rfl rfl rfl rfl rfl) rfl ?_ | refine jb rfl (jj rfl rfl (by first | with_reducible exact u24) rfl) rfl ?_ | refine jb rfl (jT rfl rfl (by first | with_reducible exact u24) rfl) rfl ?_); refine jN (by first | (simp only [setAt]; rfl) | rfl) ?_)))
        exact ⟨rfl, rfl, dead_of rfl⟩
      ·clear d
       rintro regs own2 H8 ⟨hH, d, rfl⟩
       simp only at hH
       subst hH
       (repeat (first | (with_reducible first | refine jk ?_ | refine jl ?_ | refine jn ?_ | refine jo ?_ | refine jp ?_ | refine jq ?_ | refine jr ?_ | refine js ?_ | refine jt ?_ | refine ju ?_ | refine jv ?_ | refine jw ?_ | refine jx ?_ | refine jy ?_) | (with_reducible refine jz ?_; refine jA (by first | (simp only [setAt, List.nil_append]; rfl) | rfl) ?_) | with_reducible refine jB (by decide) ?_ | (with_reducible refine jC ?_; first | refine jD rfl rfl rfl ?_ | refine jE rfl rfl rfl ?_) | ((first | (with_reducible refine jF ?_; first | refine jm rfl rfl rfl rfl ?_ | refine jG rfl rfl rfl rfl rfl ?_) | (with_reducible refine jH ?_; refine ja rfl rfl (je rfl rfl) ?_) | (with_reducible refine jI ?_; refine ja rfl rfl (jf rfl rfl) ?_) | (with_reducible refine jJ ?_; refine ja rfl rfl (jd rfl rfl rfl rfl rfl) ?_) | (with_reducible refine jK ?_; refine ja rfl rfl (jg rfl rfl rfl rfl) ?_) | (with_reducible refine jL ?_; first | refine ja rfl rfl (jh rfl rfl rfl rfl rfl rfl) ?_ | refine ja rfl rfl (ji rfl rfl rfl rfl rfl rfl) ?_) | (with_reducible refine jM ?_; refine ja rfl rfl (jj rfl rfl u24 rfl) ?_)); refine jc (by first | (simp only [setAt]; rfl) | rfl) ?_)))
       refine Wc.cond rfl rfl (fun h => ?_) (fun h => ?_)
       ·have h' : o[i] = l[k] ∧ 0 < φ' l[k] := by simpa using h
        clear h
        obtain ⟨h1, h2⟩ := h'
        have hR' := hR.take hLn hltk i h2
        rcases hst with ⟨q, _⟩ | ⟨_, rfl, rfl⟩
        ·rw [h1] at q; exact absurd q hnt
        (repeat (first | (with_reducible first | refine jk ?_ | refine jl ?_ | refine jn ?_ | refine jo ?_ | refine jp ?_ | refine jq ?_ | refine jr ?_ | refine js ?_ | refine jt ?_ | refine ju ?_ | refine jv ?_ | refine jw ?_ | refine jx ?_ | refine jy ?_) | (with_reducible refine jz ?_; refine jA (by first | (simp only [setAt, List.nil_append]; rfl) | rfl) ?_) | with_reducible refine jB (by decide) ?_ | (with_reducible refine jC ?_; first | refine jD rfl rfl rfl ?_ | refine jE rfl rfl rfl ?_) | ((first | (with_reducible refine jF ?_; first | refine jm rfl rfl rfl rfl ?_ | refine jG rfl rfl rfl rfl rfl ?_) | (with_reducible refine jH ?_; refine ja rfl rfl (je rfl rfl) ?_) | (with_reducible refine jI ?_; refine ja rfl rfl (jf rfl rfl) ?_) | (with_reducible refine jJ ?_; refine ja rfl rfl (jd rfl rfl rfl rfl rfl) ?_) | (with_reducible refine jK ?_; refine ja rfl rfl (jg rfl rfl rfl rfl) ?_) | (with_reducible refine jL ?_; first | refine ja rfl rfl (jh rfl rfl rfl rfl rfl rfl) ?_ | refine ja rfl rfl (ji rfl rfl rfl rfl rfl rfl) ?_) | (with_reducible refine jM ?_; refine ja rfl rfl (jj rfl rfl u24 rfl) ?_)); refine jc (by first | (simp only [setAt]; rfl) | rfl) ?_)))
        refine ja rfl rfl (op_indexAddr_sl (sz := 0) (j := k) (el := i64 l[k]) rfl rfl u24 sz3 rfl rfl rfl (get_i64 hltk) rfl) ?_
        refine jc (by first | (simp only [setAt]; rfl) | rfl) ?_
        refine ja rfl rfl (op_load_rp (v := i64 l[k]) rfl rfl (take_one ag3 sz3)) ?_
        refine jc (by first | (simp only [setAt]; rfl) | rfl) ?_
        refine ja rfl rfl (op_indexAddr_arr (sz := 0) rfl rfl u23 sz3 rfl rfl rfl hlt) ?_
        refine jc (by first | (simp only [setAt]; rfl) | rfl) ?_
        refine Wo.doSkip rfl rfl (op_store_l (k := i) (n := l[k]) rfl rfl (by omega) rfl hR.b2 (by have := hR.len; omega)) ?_
        (repeat (first | (with_reducible first | refine jk ?_ | refine jl ?_ | refine jn ?_ | refine jo ?_ | refine jp ?_ | refine jq ?_ | refine jr ?_ | refine js ?_ | refine jt ?_ | refine ju ?_ | refine jv ?_ | refine jw ?_ | refine jx ?_ | refine jy ?_) | (with_reducible refine jz ?_; refine jA (by first | (simp only [setAt, List.nil_append]; rfl) | rfl) ?_) | with_reducible refine jB (by decide) ?_ | (with_reducible refine jC ?_; first | refine jD rfl rfl rfl ?_ | refine jE rfl rfl rfl ?_) | ((first | (with_reducible refine jF ?_; first | refine jm rfl rfl rfl rfl ?_ | refine jG rfl rfl rfl rfl rfl ?_) | (with_reducible refine jH ?_; refine ja rfl rfl (je rfl rfl) ?_) | (with_reducible refine jI ?_; refine ja rfl rfl (jf rfl rfl) ?_) | (with_reducible refine jJ ?_; refine ja rfl rfl (jd rfl rfl rfl rfl rfl) ?_) | (with_reducible refine jK ?_; refine ja rfl rfl (jg rfl rfl rfl rfl) ?_) | (with_reducible refine jL ?_; first | refine ja rfl rfl (jh rfl rfl rfl rfl rfl rfl) ?_ | refine ja rfl rfl (ji rfl rfl rfl rfl rfl rfl) ?_) | (with_reducible refine jM ?_; refine ja rfl rfl (jj rfl rfl u24 rfl) ?_)); refine jc (by first | (simp only [setAt]; rfl) | rfl) ?_)))
        refine ja rfl rfl (op_indexAddr_ms (sz := 0) rfl rfl u24 sz3 rfl rfl rfl hltk) ?_
        refine jc (by first | (simp only [setAt]; rfl) | rfl) ?_
        have hbq : nth (setAt H8 2 (.cells (23, true) ((out'.set i l[k]).map i64))) qb = some (.cells (3, false) ((l.map φ').map i64)) := (nth_setAt_other _ _ _ _ (by have := hR.n; omega)).trans hR.bq
        refine ja rfl rfl (op_load_q (k := k) rfl rfl (by omega) hbq hltk) ?_
        refine jc (by first | (simp only [setAt]; rfl) | rfl) ?_
        (repeat (first | (with_reducible first | refine jk ?_ | refine jl ?_ | refine jn ?_ | refine jo ?_ | refine jp ?_ | refine jq ?_ | refine jr ?_ | refine js ?_ | refine jt ?_ | refine ju ?_ | refine jv ?_ | refine jw ?_ | refine jx ?_ | refine jy ?_) | (with_reducible refine jz ?_; refine jA (by first | (simp only [setAt, List.nil_append]; rfl) | rfl) ?_) | with_reducible refine jB (by decide) ?_ | (with_reducible refine jC ?_; first | refine jD rfl rfl rfl ?_ | refine jE rfl rfl rfl ?_) | ((first | (with_reducible refine jF ?_; first | refine jm rfl rfl rfl rfl ?_ | refine jG rfl rfl rfl rfl rfl ?_) | (with_reducible refine jH ?_; refine ja rfl rfl (je rfl rfl) ?_) | (with_reducible refine jI ?_; refine ja rfl rfl (jf rfl rfl) ?_) | (with_reducible refine jJ ?_; refine ja rfl rfl (jd rfl rfl rfl rfl rfl) ?_) | (with_reducible refine jK ?_; refine ja rfl rfl (jg rfl rfl rfl rfl) ?_) | (with_reducible refine jL ?_; first | refine ja rfl rfl (jh rfl rfl rfl rfl rfl rfl) ?_ | refine ja rfl rfl (ji rfl rfl rfl rfl rfl rfl) ?_) | (with_reducible refine jM ?_; refine ja rfl rfl (jj rfl rfl u24 rfl) ?_)); refine jc (by first | (simp only [setAt]; rfl) | rfl) ?_)))
        rw [wrap_small (n := φ' l[k] - 1) (by omega) (by omega)]
        refine ja rfl rfl (op_indexAddr_ms (sz := 0) rfl rfl u24 sz3 rfl rfl rfl hltk) ?_
        refine jc (by first | (simp only [setAt]; rfl) | rfl) ?_
        refine Wo.doSkip rfl rfl (op_store_l (k := k) (n := φ' l[k] - 1) rfl rfl (by omega) rfl hbq (by rw [List.length_map]; exact hltk)) ?_
        (repeat (first | (with_reducible first | refine jk ?_ | refine jl ?_ | refine jn ?_ | refine jo ?_ | refine jp ?_ | refine jq ?_ | refine jr ?_ | refine js ?_ | refine jt ?_ | refine ju ?_ | refine jv ?_ | refine jw ?_ | refine jx ?_ | refine jy ?_) | (with_reducible refine jz ?_; refine jA (by first | (simp only [setAt, List.nil_append]; rfl) | rfl) ?_) | with_reducible refine jB (by decide) ?_ | (with_reducible refine jC ?_; first | refine jD rfl rfl rfl ?_ | refine jE rfl rfl rfl ?_) | ((first | (with_reducible refine jF ?_; first | refine jm rfl rfl rfl rfl ?_ | refine jG rfl rfl rfl rfl rfl ?_) | (with_reducible refine jH ?_; refine ja rfl rfl (je rfl rfl) ?_) | (with_reducible refine jI ?_; refine ja rfl rfl (jf rfl rfl) ?_) | (with_reducible refine jJ ?_; refine ja rfl rfl (jd rfl rfl rfl rfl rfl) ?_) | (with_reducible refine jK ?_; refine ja rfl rfl (jg rfl rfl rfl rfl) ?_) | (with_reducible refine jL ?_; first | refine ja rfl rfl (jh rfl rfl rfl rfl rfl rfl) ?_ | refine ja rfl rfl (ji rfl rfl rfl rfl rfl rfl) ?_) | (with_reducible refine jM ?_; refine ja rfl rfl (jj rfl rfl u24 rfl) ?_)); refine jc (by first | (simp only [setAt]; rfl) | rfl) ?_)))
        refine LoopQ.normal (l.length - (k + 1)) (by omega) ⟨k + 1, _, _, rfl, by omega, hR', .inl ⟨hmt.2 (.inr h1), by rw [h1]; exact h2, by rw [h1], by rw [h1]⟩, dead_of ?_⟩
        rw [w64 (by omega)]; rfl
       ·have h' : ¬ (o[i] = l[k] ∧ 0 < φ' l[k]) := by
         intro q
         rw [decide_eq_true q.1, decide_eq_true q.2] at h
         exact absurd h (by decide)
        clear h
        have hst' : (o[i] ∈ l.take (k + 1) ∧ 0 < φ o[i] ∧ φ' = upd φ o[i] (φ o[i] - 1) ∧ out' = out.set i o[i]) ∨ (¬ (o[i] ∈ l.take (k + 1) ∧ 0 < φ o[i]) ∧ φ' = φ ∧ out' = out) := by
         rcases hst with ⟨q, q2⟩ | ⟨q, rfl, rfl⟩
         ·exact .inl ⟨hmt.2 (.inl q), q2⟩
         ·refine .inr ⟨?_, rfl, rfl⟩
          rintro ⟨q1, q2⟩
          rcases hmt.1 q1 with q3 | q3
          ·exact q ⟨q3, q2⟩
          ·exact h' ⟨q3, by rw [← q3]; exact q2⟩
        (repeat (first | (with_reducible first | refine jk ?_ | refine jl ?_ | refine jn ?_ | refine jo ?_ | refine jp ?_ | refine jq ?_ | refine jr ?_ | refine js ?_ | refine jt ?_ | refine ju ?_ | refine jv ?_ | refine jw ?_ | refine jx ?_ | refine jy ?_) | (with_reducible refine jz ?_; refine jA (by first | (simp only [setAt, List.nil_append]; rfl) | rfl) ?_) | with_reducible refine jB (by decide) ?_ | (with_reducible refine jC ?_; first | refine jD rfl rfl rfl ?_ | refine jE rfl rfl rfl ?_) | ((first | (with_reducible refine jF ?_; first | refine jm rfl rfl rfl rfl ?_ | refine jG rfl rfl rfl rfl rfl ?_) | (with_reducible refine jH ?_; refine ja rfl rfl (je rfl rfl) ?_) | (with_reducible refine jI ?_; refine ja rfl rfl (jf rfl rfl) ?_) | (with_reducible refine jJ ?_; refine ja rfl rfl (jd rfl rfl rfl rfl rfl) ?_) | (with_reducible refine jK ?_; refine ja rfl rfl (jg rfl rfl rfl rfl) ?_) | (with_reducible refine jL ?_; first | refine ja rfl rfl (jh rfl rfl rfl rfl rfl rfl) ?_ | refine ja rfl rfl (ji rfl rfl rfl rfl rfl rfl) ?_) | (with_reducible refine jM ?_; refine ja rfl rfl (jj rfl rfl u24 rfl) ?_)); refine jc (by first | (simp only [setAt]; rfl) | rfl) ?_)))
        refine LoopQ.normal (l.length - (k + 1)) (by omega) ⟨k + 1, φ', out', rfl, by omega, hR, hst', dead_of ?_⟩
        rw [w64 (by omega)]; rfl
     ·have hkl : k = l.length := by
       have h' : ¬ k < l.length := by simpa [goInt] using h
       omega
      subst hkl
      clear h
      rw [List.take_length] at hst
      (repeat (first | (with_reducible first | refine jk ?_ | refine jl ?_ | refine jn ?_ | refine jo ?_ | refine jp ?_ | refine jq ?_ | refine jr ?_ | refine js ?_ | refine jt ?_ | refine ju ?_ | refine jv ?_ | refine jw ?_ | refine jx ?_ | refine jy ?_) | (with_reducible refine jz ?_; refine jA (by first | (simp only [setAt, List.nil_append]; rfl) | rfl) ?_) | with_reducible refine jB (by decide) ?_ | (with_reducible refine jC ?_; first | refine jD rfl rfl rfl ?_ | refine jE rfl rfl rfl ?_) | ((first | (with_reducible refine jF ?_; first | refine jm rfl rfl rfl rfl ?_ | refine jG rfl rfl rfl rfl rfl ?_) | (with_reducible refine jH ?_; refine ja rfl rfl (je rfl rfl) ?_) | (with_reducible refine jI ?_; refine ja rfl rfl (jf rfl rfl) ?_) | (with_reducible refine jJ ?_; refine ja rfl rfl (jd rfl rfl rfl rfl rfl) ?_) | (with_reducible refine jK ?_; refine ja rfl rfl (jg rfl rfl rfl rfl) ?_) | (with_reducible refine jL ?_; first | refine ja rfl rfl (jh rfl rfl rfl rfl rfl rfl) ?_ | refine ja rfl rfl (ji rfl rfl rfl rfl rfl rfl) ?_) | (with_reducible refine jM ?_; refine ja rfl rfl (jj rfl rfl u24 rfl) ?_)); refine jc (by first | (simp only [setAt]; rfl) | rfl) ?_)))
      rcases hst with ⟨q1, q2, rfl, rfl⟩ | ⟨q, rfl, rfl⟩
      ·rw [if_neg (by omega)] at hkp
       refine LoopQ.normal (8 - (i + 1)) (by omega) ⟨i + 1, _, _, op, rfl, by omega, hR, hkp, dead_of ?_⟩
       rw [w64 (by omega)]; rfl
      ·have hle : φ' o[i] ≤ 0 := by
        by_cases q3 : 0 < φ' o[i]
        ·exact absurd ⟨hR.mem _ q3, q3⟩ q
        ·omega
       rw [if_pos hle] at hkp
       refine LoopQ.normal (8 - (i + 1)) (by omega) ⟨i + 1, _, _, _, rfl, by omega, hR, hkp, dead_of ?_⟩
       rw [w64 (by omega)]; rfl
   ·have h8 : i = 8 := by have := of_decide_eq_false h; omega
    subst h8
    clear h
    rw [List.drop_eq_nil_of_le (by omega)] at hkp
    simp only [keep] at hkp
    rw [← hkp]
    simp only
    clear hkp hi
    obtain ⟨φ1, hφ1⟩ : ∃ x, x = φ := ⟨_, rfl⟩
    obtain ⟨out1, hout1⟩ : ∃ x, x = out := ⟨_, rfl⟩
    rw [← hφ1, ← hout1]
    rw [← hφ1, ← hout1] at hR
    clear hφ1 hout1 φ out
    (repeat (first | (with_reducible first | refine jk ?_ | refine jl ?_ | refine jn ?_ | refine jo ?_ | refine jp ?_ | refine jq ?_ | refine jr ?_ | refine js ?_ | refine jt ?_ | refine ju ?_ | refine jv ?_ | refine jw ?_ | refine jx ?_ | refine jy ?_) | (with_reducible refine jz ?_; refine jA (by first | (simp only [setAt, List.nil_append]; rfl) | rfl) ?_) | with_reducible refine jB (by decide) ?_ | (with_reducible refine jC ?_; first | refine jD rfl rfl rfl ?_ | refine jE rfl rfl rfl ?_) | ((first | (with_reducible refine jF ?_; first | refine jm rfl rfl rfl rfl ?_ | refine jG rfl rfl rfl rfl rfl ?_) | (with_reducible refine jH ?_; refine ja rfl rfl (je rfl rfl) ?_) | (with_reducible refine jI ?_; refine ja rfl rfl (jf rfl rfl) ?_) | (with_reducible refine jJ ?_; refine ja rfl rfl (jd rfl rfl rfl rfl rfl) ?_) | (with_reducible refine jK ?_; refine ja rfl rfl (jg rfl rfl rfl rfl) ?_) | (with_reducible refine jL ?_; first | refine ja rfl rfl (jh rfl rfl rfl rfl rfl rfl) ?_ | refine ja rfl rfl (ji rfl rfl rfl rfl rfl rfl) ?_) | (with_reducible refine jM ?_; refine ja rfl rfl (jj rfl rfl u24 rfl) ?_)); refine jc (by first | (simp only [setAt]; rfl) | rfl) ?_)))
    refine Wc.inv (fun m s => ∃ (i : Nat) (φ : Int → Int) (out : List Int), m = 8 - i ∧ i ≤ 8 ∧ RMem o l s.H qb φ out ∧ fillR l ((List.range 8).drop i) φ out = fillR l (List.range 8) φ1 out1 ∧ ∃ d : Nat → AV, s.regs = (d 0 :: d 1 :: .ptr 0 0 :: d 3 :: .ptr 1 0 :: .sl (l.map i64) tl2 :: .ptr 2 0 :: .ms qb 0 l.length 1 :: d 8 :: d 9 :: i64 i :: d 11 :: d 12 :: d 13 :: d 14 :: d 15 :: d 16 :: d 17 :: d 18 :: d 19 :: d 20 :: d 21 :: d 22 :: d 23 :: d 24 :: d 25 :: d 26 :: d 27 :: d 28 :: d 29 :: d 30 :: d 31 :: d 32 :: d 33 :: d 34 :: d 35 :: d 36 :: d 37 :: d 38 :: d 39 :: d 40 :: d 41 :: d 42 :: d 43 :: d 44 :: d 45 :: d 46 :: d 47 :: d 48 :: d 49 :: d 50 :: d 51 :: d 52 :: d 53 :: d 54 :: d 55 :: d 56 :: d 57 :: d 58 :: d 59 :: d 60 :: d 61 :: d 62 :: d 63 :: d 64 :: d 65 :: d 66 :: d 67 :: d 68 :: d 69 :: d 70 :: d 71 :: d 72 :: d 73 :: d 74 :: d 75 :: d 76 :: d 77 :: d 78 :: d 79 :: d 80 :: d 81 :: d 82 :: d 83 :: d 84 :: d 85 :: d 86 :: d 87 :: d 88 :: d 89 :: d 90 :: d 91 :: [])) 8 ?_ ?_
    ·exact ⟨0, φ1, out1, by omega, by omega, hR, by rw [List.drop_zero], dead_of rfl⟩
    ·clear hR d
     rintro m regs own H7 ⟨i, φ, out, rfl, hi, hR, hfl, d, rfl⟩
     simp only at hR
     (repeat (first | (with_reducible first | refine jk ?_ | refine jl ?_ | refine jn ?_ | refine jo ?_ | refine jp ?_ | refine jq ?_ | refine jr ?_ | refine js ?_ | refine jt ?_ | refine ju ?_ | refine jv ?_ | refine jw ?_ | refine jx ?_ | refine jy ?_) | (with_reducible refine jz ?_; refine jA (by first | (simp only [setAt, List.nil_append]; rfl) | rfl) ?_) | with_reducible refine jB (by decide) ?_ | (with_reducible refine jC ?_; first | refine jD rfl rfl rfl ?_ | refine jE rfl rfl rfl ?_) | ((first | (with_reducible refine jF ?_; first | refine jm rfl rfl rfl rfl ?_ | refine jG rfl rfl rfl rfl rfl ?_) | (with_reducible refine jH ?_; refine ja rfl rfl (je rfl rfl) ?_) | (with_reducible refine jI ?_; refine ja rfl rfl (jf rfl rfl) ?_) | (with_reducible refine jJ ?_; refine ja rfl rfl (jd rfl rfl rfl rfl rfl) ?_) | (with_reducible refine jK ?_; refine ja rfl rfl (jg rfl rfl rfl rfl) ?_) | (with_reducible refine jL ?_; first | refine ja rfl rfl (jh rfl rfl rfl rfl rfl rfl) ?_ | refine ja rfl rfl (ji rfl rfl rfl rfl rfl rfl) ?_) | (with_reducible refine jM ?_; refine ja rfl rfl (jj rfl rfl u24 rfl) ?_)); refine jc (by first | (simp only [setAt]; rfl) | rfl) ?_)))
     refine Wc.cond rfl rfl (fun h => ?_) (fun h => ?_)
     ·have hlt : i < 8 := by have := of_decide_eq_true h; omega
      clear h
      rw [List.drop_eq_getElem_cons (show i < (List.range 8).length by simpa using hlt), List.getElem_range] at hfl
      have hT : ∃ T : (Int → Int) × List Int, T = (if out.getD i 0 = 0 then give i l φ out else (φ, out)) ∧ fillR l ((List.range 8).drop (i + 1)) T.1 T.2 = fillR l (List.range 8) φ1 out1 := by
       refine ⟨_, rfl, ?_⟩
       rw [← hfl]
       simp only [fillR]
       split <;> rfl
      obtain ⟨T, hT, hfl'⟩ := hT
      clear hfl
      (repeat (first | (with_reducible first | refine jk ?_ | refine jl ?_ | refine jn ?_ | refine jo ?_ | refine jp ?_ | refine jq ?_ | refine jr ?_ | refine js ?_ | refine jt ?_ | refine ju ?_ | refine jv ?_ | refine jw ?_ | refine jx ?_ | refine jy ?_) | (with_reducible refine jz ?_; refine jA (by first | (simp only [setAt, List.nil_append]; rfl) | rfl) ?_) | with_reducible refine jB (by decide) ?_ | (with_reducible refine jC ?_; first | refine jD rfl rfl rfl ?_ | refine jE rfl rfl rfl ?_) | ((first | (with_reducible refine jF ?_; first | refine jm rfl rfl rfl rfl ?_ | refine jG rfl rfl rfl rfl rfl ?_) | (with_reducible refine jH ?_; refine ja rfl rfl (je rfl rfl) ?_) | (with_reducible refine jI ?_; refine ja rfl rfl (jf rfl rfl) ?_) | (with_reducible refine jJ ?_; refine ja rfl rfl (jd rfl rfl rfl rfl rfl) ?_) | (with_reducible refine jK ?_; refine ja rfl rfl (jg rfl rfl rfl rfl) ?_) | (with_reducible refine jL ?_; first | refine ja rfl rfl (jh rfl rfl rfl rfl rfl rfl) ?_ | refine ja rfl rfl (ji rfl rfl rfl rfl rfl rfl) ?_) | (with_reducible refine jM ?_; refine ja rfl rfl (jj rfl rfl u24 rfl) ?_)); refine jc (by first | (simp only [setAt]; rfl) | rfl) ?_)))
      refine Wc.inv (fun m s => ∃ (k : Nat) (φ' : Int → Int) (out' : List Int), m = l.length - k ∧ k ≤ l.length ∧ RMem o l s.H qb φ' out' ∧ (out'.getD i 0 = 0 → give i (l.drop k) φ' out' = T) ∧ (out'.getD i 0 ≠ 0 → (φ', out') = T) ∧ ∃ d : Nat → AV, s.regs = (d 0 :: d 1 :: .ptr 0 0 :: d 3 :: .ptr 1 0 :: .sl (l.map i64) tl2 :: .ptr 2 0 :: .ms qb 0 l.length 1 :: d 8 :: d 9 :: i64 i :: i64 k :: d 12 :: d 13 :: d 14 :: d 15 :: d 16 :: d 17 :: d 18 :: d 19 :: d 20 :: d 21 :: d 22 :: d 23 :: d 24 :: d 25 :: d 26 :: d 27 :: d 28 :: d 29 :: d 30 :: d 31 :: d 32 :: d 33 :: d 34 :: d 35 :: d 36 :: d 37 :: d 38 :: d 39 :: d 40 :: d 41 :: d 42 :: d 43 :: d 44 :: d 45 :: d 46 :: d 47 :: d 48 :: d 49 :: d 50 :: d 51 :: d 52 :: d 53 :: d 54 :: d 55 :: d 56 :: d 57 :: d 58 :: d 59 :: d 60 :: d 61 :: d 62 :: d 63 :: d 64 :: d 65 :: d 66 :: d 67 :: d 68 :: d 69 :: d 70 :: d 71 :: d 72 :: d 73 :: d 74 :: d 75 :: d 76 :: d 77 :: d 78 :: d 79 :: d 80 :: d 81 :: d 82 :: d 83 :: d 84 :: d 85 :: d 86 :: d 87 :: d 88 :: d 89 :: d 90 :: d 91 :: [])) l.length ?_ ?_
      ·exact ⟨0, φ, out, by omega, by omega, hR, fun q => by rw [hT, if_pos q, List.drop_zero], fun q => by rw [hT, if_neg q], dead_of rfl⟩
      ·clear hR d hT
       rintro m regs own H8 ⟨k, φ', out', rfl, hk, hR, hs0, hs1, d, rfl⟩
       simp only at hR
       (repeat (first | (with_reducible first | refine jk ?_ | refine jl ?_ | refine jn ?_ | refine jo ?_ | refine jp ?_ | refine jq ?_ | refine jr ?_ | refine js ?_ | refine jt ?_ | refine ju ?_ | refine jv ?_ | refine jw ?_ | refine jx ?_ | refine jy ?_) | (with_reducible refine jz ?_; refine jA (by first | (simp only [setAt, List.nil_append]; rfl) | rfl) ?_) | with_reducible refine jB (by decide) ?_ | (with_reducible refine jC ?_; first | refine jD rfl rfl rfl ?_ | refine jE rfl rfl rfl ?_) | ((first | (with_reducible refine jF ?_; first | refine jm rfl rfl rfl rfl ?_ | refine jG rfl rfl rfl rfl rfl ?_) | (with_reducible refine jH ?_; refine ja rfl rfl (je rfl rfl) ?_) | (with_reducible refine jI ?_; refine ja rfl rfl (jf rfl rfl) ?_) | (with_reducible refine jJ ?_; refine ja rfl rfl (jd rfl rfl rfl rfl rfl) ?_) | (with_reducible refine jK ?_; refine ja rfl rfl (jg rfl rfl rfl rfl) ?_) | (with_reducible refine jL ?_; first | refine ja rfl rfl (jh rfl rfl rfl rfl rfl rfl) ?_ | refine ja rfl rfl (ji rfl rfl rfl rfl rfl rfl) ?_) | (with_reducible refine jM ?_; refine ja rfl rfl (jj rfl rfl u24 rfl) ?_)); refine jc (by first | (simp only [setAt]; rfl) | rfl) ?_)))
       rw [List.length_map]
       by_cases hltk : k < l.length
       ·rw [show decide ((k : Int) < (l.length : Int)) = true from decide_eq_true (by omega)]
        (repeat (first | (with_reducible first | refine jk ?_ | refine jl ?_ | refine jn ?_ | refine jo ?_ | refine jp ?_ | refine jq ?_ | refine jr ?_ | refine js ?_ | refine jt ?_ | refine ju ?_ | refine jv ?_ | refine jw ?_ | refine jx ?_ | refine jy ?_) | (with_reducible refine jz ?_; refine jA (by first | (simp only [setAt, List.nil_append]; rfl) | rfl) ?_) | with_reducible refine jB (by decide) ?_ | (with_reducible refine jC ?_; first | refine jD rfl rfl rfl ?_ | refine jE rfl rfl rfl ?_) | ((first | (with_reducible refine jF ?_; first | refine jm rfl rfl rfl rfl ?_ | refine jG rfl rfl rfl rfl rfl ?_) | (with_reducible refine jH ?_; refine ja rfl rfl (je rfl rfl) ?_) | (with_reducible refine jI ?_; refine ja rfl rfl (jf rfl rfl) ?_) | (with_reducible refine jJ ?_; refine ja rfl rfl (jd rfl rfl rfl rfl rfl) ?_) | (with_reducible refine jK ?_; refine ja rfl rfl (jg rfl rfl rfl rfl) ?_) | (with_reducible refine jL ?_; first | refine ja rfl rfl (jh rfl rfl rfl rfl rfl rfl) ?_ | refine ja rfl rfl (ji rfl rfl rfl rfl rfl rfl) ?_) | (with_reducible refine jM ?_; refine ja rfl rfl (jj rfl rfl u24 rfl) ?_)); refine jc (by first | (simp only [setAt]; rfl) | rfl) ?_)))
        refine ja rfl rfl (op_indexAddr_arr (sz := 0) rfl rfl u23 sz3 rfl rfl rfl hlt) ?_
        refine jc (by first | (simp only [setAt]; rfl) | rfl) ?_
        refine jm rfl rfl rfl rfl ?_
        refine ja rfl rfl (op_load_int (i := i) rfl rfl (by omega) hR.b2 (by have := hR.len; omega)) ?_
        refine jc (by first | (simp only [setAt]; rfl) | rfl) ?_
        (repeat (first | (with_reducible first | refine jk ?_ | refine jl ?_ | refine jn ?_ | refine jo ?_ | refine jp ?_ | refine jq ?_ | refine jr ?_ | refine js ?_ | refine jt ?_ | refine ju ?_ | refine jv ?_ | refine jw ?_ | refine jx ?_ | refine jy ?_) | (with_reducible refine jz ?_; refine jA (by first | (simp only [setAt, List.nil_append]; rfl) | rfl) ?_) | with_reducible refine jB (by decide) ?_ | (with_reducible refine jC ?_; first | refine jD rfl rfl rfl ?_ | refine jE rfl rfl rfl ?_) | ((first | (with_reducible refine jF ?_; first | refine jm rfl rfl rfl rfl ?_ | refine jG rfl rfl rfl rfl rfl ?_) | (with_reducible refine jH ?_; refine ja rfl rfl (je rfl rfl) ?_) | (with_reducible refine jI ?_; refine ja rfl rfl (jf rfl rfl) ?_) | (with_reducible refine jJ ?_; refine ja rfl rfl (jd rfl rfl rfl rfl rfl) ?_) | (with_reducible refine jK ?_; refine ja rfl rfl (jg rfl rfl rfl rfl) ?_) | (with_reducible refine jL ?_; first | refine ja rfl rfl (jh rfl rfl rfl rfl rfl rfl) ?_ | refine ja rfl rfl (ji rfl rfl rfl rfl rfl rfl) ?_) | (with_reducible refine jM ?_; refine ja rfl rfl (jj rfl rfl u24 rfl) ?_)); refine jc (by first | (simp only [setAt]; rfl) | rfl) ?_)))
        refine Wc.cond rfl rfl (fun h => ?_) (fun h => ?_)
        ·have h0 : out'.getD i 0 = 0 := eq_of_beq h
         clear h
         have hs := hs0 h0
         rw [List.drop_eq_getElem_cons hltk] at hs
         simp only [give] at hs
         have hlow := hR.low l[k]
         (repeat (first | (with_reducible first | refine jk ?_ | refine jl ?_ | refine jn ?_ | refine jo ?_ | refine jp ?_ | refine jq ?_ | refine jr ?_ | refine js ?_ | refine jt ?_ | refine ju ?_ | refine jv ?_ | refine jw ?_ | refine jx ?_ | refine jy ?_) | (with_reducible refine jz ?_; refine jA (by first | (simp only [setAt, List.nil_append]; rfl) | rfl) ?_) | with_reducible refine jB (by decide) ?_ | (with_reducible refine jC ?_; first | refine jD rfl rfl rfl ?_ | refine jE rfl rfl rfl ?_) | ((first | (with_reducible refine jF ?_; first | refine jm rfl rfl rfl rfl ?_ | refine jG rfl rfl rfl rfl rfl ?_) | (with_reducible refine jH ?_; refine ja rfl rfl (je rfl rfl) ?_) | (with_reducible refine jI ?_; refine ja rfl rfl (jf rfl rfl) ?_) | (with_reducible refine jJ ?_; refine ja rfl rfl (jd rfl rfl rfl rfl rfl) ?_) | (with_reducible refine jK ?_; refine ja rfl rfl (jg rfl rfl rfl rfl) ?_) | (with_reducible refine jL ?_; first | refine ja rfl rfl (jh rfl rfl rfl rfl rfl rfl) ?_ | refine ja rfl rfl (ji rfl rfl rfl rfl rfl rfl) ?_) | (with_reducible refine jM ?_; refine ja rfl rfl (jj rfl rfl u24 rfl) ?_)); refine jc (by first | (simp only [setAt]; rfl) | rfl) ?_)))
         refine ja rfl rfl (op_indexAddr_ms (sz := 0) rfl rfl u24 sz3 rfl rfl rfl hltk) ?_
         refine jc (by first | (simp only [setAt]; rfl) | rfl) ?_
         refine ja rfl rfl (op_load_q (k := k) rfl rfl (by omega) hR.bq hltk) ?_
         refine jc (by first | (simp only [setAt]; rfl) | rfl) ?_
         (repeat (first | (with_reducible first | refine jk ?_ | refine jl ?_ | refine jn ?_ | refine jo ?_ | refine jp ?_ | refine jq ?_ | refine jr ?_ | refine js ?_ | refine jt ?_ | refine ju ?_ | refine jv ?_ | refine jw ?_ | refine jx ?_ | refine jy ?_) | (with_reducible refine jz ?_; refine jA (by first | (simp only [setAt, List.nil_append]; rfl) | rfl) ?_) | with_reducible refine jB (by decide) ?_ | (with_reducible refine jC ?_; first | refine jD rfl rfl rfl ?_ | refine jE rfl rfl rfl ?_) | ((first | (with_reducible refine jF ?_; first | refine jm rfl rfl rfl rfl ?_ | refine jG rfl rfl rfl rfl rfl ?_) | (with_reducible refine jH ?_; refine ja rfl rfl (je rfl rfl) ?_) | (with_reducible refine jI ?_; refine ja rfl rfl (jf rfl rfl) ?_) | (with_reducible refine jJ ?_; refine ja rfl rfl (jd rfl rfl rfl rfl rfl) ?_) | (with_reducible refine jK ?_; refine ja rfl rfl (jg rfl rfl rfl rfl) ?_) | (with_reducible refine jL ?_; first | refine ja rfl rfl (jh rfl rfl rfl rfl rfl rfl) ?_ | refine ja rfl rfl (ji rfl rfl rfl rfl rfl rfl) ?_) | (with_reducible refine jM ?_; refine ja rfl rfl (jj rfl rfl u24 rfl) ?_)); refine jc (by first | (simp only [setAt]; rfl) | rfl) ?_)))
         refine Wc.cond rfl rfl (fun h => ?_) (fun h => ?_)
         ·have h2 : 0 < φ' l[k] := of_decide_eq_true h
          clear h
          rw [if_neg (by omega)] at hs
          have hR' := hR.take hLn hltk i h2
          have hne : (out'.set i l[k]).getD i 0 ≠ 0 := by
           rw [getD_set_same (by have := hR.len; omega)]
           have := hL0 _ (List.getElem_mem hltk)
           omega
          (repeat (first | (with_reducible first | refine jk ?_ | refine jl ?_ | refine jn ?_ | refine jo ?_ | refine jp ?_ | refine jq ?_ | refine jr ?_ | refine js ?_ | refine jt ?_ | refine ju ?_ | refine jv ?_ | refine jw ?_ | refine jx ?_ | refine jy ?_) | (with_reducible refine jz ?_; refine jA (by first | (simp only [setAt, List.nil_append]; rfl) | rfl) ?_) | with_reducible refine jB (by decide) ?_ | (with_reducible refine jC ?_; first | refine jD rfl rfl rfl ?_ | refine jE rfl rfl rfl ?_) | ((first | (with_reducible refine jF ?_; first | refine jm rfl rfl rfl rfl ?_ | refine jG rfl rfl rfl rfl rfl ?_) | (with_reducible refine jH ?_; refine ja rfl rfl (je rfl rfl) ?_) | (with_reducible refine jI ?_; refine ja rfl rfl (jf rfl rfl) ?_) | (with_reducible refine jJ ?_; refine ja rfl rfl (jd rfl rfl rfl rfl rfl) ?_) | (with_reducible refine jK ?_; refine ja rfl rfl (jg rfl rfl rfl rfl) ?_) | (with_reducible refine jL ?_; first | refine ja rfl rfl (jh rfl rfl rfl rfl rfl rfl) ?_ | refine ja rfl rfl (ji rfl rfl rfl rfl rfl rfl) ?_) | (with_reducible refine jM ?_; refine ja rfl rfl (jj rfl rfl u24 rfl) ?_)); refine jc (by first | (simp only [setAt]; rfl) | rfl) ?_)))
          refine ja rfl rfl (op_indexAddr_sl (sz := 0) (j := k) (el := i64 l[k]) rfl rfl u24 sz3 rfl rfl rfl (get_i64 hltk) rfl) ?_
          refine jc (by first | (simp only [setAt]; rfl) | rfl) ?_
          refine ja rfl rfl (op_load_rp (v := i64 l[k]) rfl rfl (take_one ag3 sz3)) ?_
          refine jc (by first | (simp only [setAt]; rfl) | rfl) ?_
          refine ja rfl rfl (op_indexAddr_arr (sz := 0) rfl rfl u23 sz3 rfl rfl rfl hlt) ?_
          refine jc (by first | (simp only [setAt]; rfl) | rfl) ?_
          refine Wo.doSkip rfl rfl (op_store_l (k := i) (n := l[k]) rfl rfl (by omega) rfl hR.b2 (by have := hR.len; omega)) ?_
          (repeat (first | (with_reducible first | refine jk ?_ | refine jl ?_ | refine jn ?_ | refine jo ?_ | refine jp ?_ | refine jq ?_ | refine jr ?_ | refine js ?_ | refine jt ?_ | refine ju ?_ | refine jv ?_ | refine jw ?_ | refine jx ?_ | refine jy ?_) | (with_reducible refine jz ?_; refine jA (by first | (simp only [setAt, List.nil_append]; rfl) | rfl) ?_) | with_reducible refine jB (by decide) ?_ | (with_reducible refine jC ?_; first | refine jD rfl rfl rfl ?_ | refine jE rfl rfl rfl ?_) | ((first | (with_reducible refine jF ?_; first | refine jm rfl rfl rfl rfl ?_ | refine jG rfl rfl rfl rfl rfl ?_) | (with_reducible refine jH ?_; refine ja rfl rfl (je rfl rfl) ?_) | (with_reducible refine jI ?_; refine ja rfl rfl (jf rfl rfl) ?_) | (with_reducible refine jJ ?_; refine ja rfl rfl (jd rfl rfl rfl rfl rfl) ?_) | (with_reducible refine jK ?_; refine ja rfl rfl (jg rfl rfl rfl rfl) ?_) | (with_reducible refine jL ?_; first | refine ja rfl rfl (jh rfl rfl rfl rfl rfl rfl) ?_ | refine ja rfl rfl (ji rfl rfl rfl rfl rfl rfl) ?_) | (with_reducible refine jM ?_; refine ja rfl rfl (jj rfl rfl u24 rfl) ?_)); refine jc (by first | (simp only [setAt]; rfl) | rfl) ?_)))
          refine ja rfl rfl (op_indexAddr_ms (sz := 0) rfl rfl u24 sz3 rfl rfl rfl hltk) ?_
          refine jc (by first | (simp only [setAt]; rfl) | rfl) ?_
          have hbq : nth (setAt H8 2 (.cells (23, true) ((out'.set i l[k]).map i64))) qb = some (.cells (3, false) ((l.map φ').map i64)) := (nth_setAt_other _ _ _ _ (by have := hR.n; omega)).trans hR.bq
          refine ja rfl rfl (op_load_q (k := k) rfl rfl (by omega) hbq hltk) ?_
          refine jc (by first | (simp only [setAt]; rfl) | rfl) ?_
          (repeat (first | (with_reducible first | refine jk ?_ | refine jl ?_ | refine jn ?_ | refine jo ?_ | refine jp ?_ | refine jq ?_ | refine jr ?_ | refine js ?_ | refine jt ?_ | refine ju ?_ | refine jv ?_ | refine jw ?_ | refine jx ?_ | refine jy ?_) | (with_reducible refine jz ?_; refine jA (by first | (simp only [setAt, List.nil_append]; rfl) | rfl) ?_) | with_reducible refine jB (by decide) ?_ | (with_reducible refine jC ?_; first | refine jD rfl rfl rfl ?_ | refine jE rfl rfl rfl ?_) | ((first | (with_reducible refine jF ?_; first | refine jm rfl rfl rfl rfl ?_ | refine jG rfl rfl rfl rfl rfl ?_) | (with_reducible refine jH ?_; refine ja rfl rfl (je rfl rfl) ?_) | (with_reducible refine jI ?_; refine ja rfl rfl (jf rfl rfl) ?_) | (with_reducible refine jJ ?_; refine ja rfl rfl (jd rfl rfl rfl rfl rfl) ?_) | (with_reducible refine jK ?_; refine ja rfl rfl (jg rfl rfl rfl rfl) ?_) | (with_reducible refine jL ?_; first | refine ja rfl rfl (jh rfl rfl rfl rfl rfl rfl) ?_ | refine ja rfl rfl (ji rfl rfl rfl rfl rfl rfl) ?_) | (with_reducible refine jM ?_; refine ja rfl rfl (jj rfl rfl u24 rfl) ?_)); refine jc (by first | (simp only [setAt]; rfl) | rfl) ?_)))
          rw [wrap_small (n := φ' l[k] - 1) (by omega) (by omega)]
          refine ja rfl rfl (op_indexAddr_ms (sz := 0) rfl rfl u24 sz3 rfl rfl rfl hltk) ?_
          refine jc (by first | (simp only [setAt]; rfl) | rfl) ?_
          refine Wo.doSkip rfl rfl (op_store_l (k := k) (n := φ' l[k] - 1) rfl rfl (by omega) rfl hbq (by rw [List.length_map]; exact hltk)) ?_
          (repeat (first | (with_reducible first | refine jk ?_ | refine jl ?_ | refine jn ?_ | refine jo ?_ | refine jp ?_ | refine jq ?_ | refine jr ?_ | refine js ?_ | refine jt ?_ | refine ju ?_ | refine jv ?_ | refine jw ?_ | refine jx ?_ | refine jy ?_) | (with_reducible refine jz ?_; refine jA (by first | (simp only [setAt, List.nil_append]; rfl) | rfl) ?_) | with_reducible refine jB (by decide) ?_ | (with_reducible refine jC ?_; first | refine jD rfl rfl rfl ?_ | refine jE rfl rfl rfl ?_) | ((first | (with_reducible refine jF ?_; first | refine jm rfl rfl rfl rfl ?_ | refine jG rfl rfl rfl rfl rfl ?_) | (with_reducible refine jH ?_; refine ja rfl rfl (je rfl rfl) ?_) | (with_reducible refine jI ?_; refine ja rfl rfl (jf rfl rfl) ?_) | (with_reducible refine jJ ?_; refine ja rfl rfl (jd rfl rfl rfl rfl rfl) ?_) | (with_reducible refine jK ?_; refine ja rfl rfl (jg rfl rfl rfl rfl) ?_) | (with_reducible refine jL ?_; first | refine ja rfl rfl (jh rfl rfl rfl rfl rfl rfl) ?_ | refine ja rfl rfl (ji rfl rfl rfl rfl rfl rfl) ?_) | (with_reducible refine jM ?_; refine ja rfl rfl (jj rfl rfl u24 rfl) ?_)); refine jc (by first | (simp only [setAt]; rfl) | rfl) ?_)))
          refine LoopQ.normal (l.length - (k + 1)) (by omega) ⟨k + 1, _, _, rfl, by omega, hR', fun q => absurd q hne, fun _ => hs, dead_of ?_⟩
          rw [w64 (by omega)]; rfl
         ·have h2 : ¬ 0 < φ' l[k] := of_decide_eq_false h
          clear h
          rw [if_pos (by omega)] at hs
          (repeat (first | (with_reducible first | refine jk ?_ | refine jl ?_ | refine jn ?_ | refine jo ?_ | refine jp ?_ | refine jq ?_ | refine jr ?_ | refine js ?_ | refine jt ?_ | refine ju ?_ | refine jv ?_ | refine jw ?_ | refine jx ?_ | refine jy ?_) | (with_reducible refine jz ?_; refine jA (by first | (simp only [setAt, List.nil_append]; rfl) | rfl) ?_) | with_reducible refine jB (by decide) ?_ | (with_reducible refine jC ?_; first | refine jD rfl rfl rfl ?_ | refine jE rfl rfl rfl ?_) | ((first | (with_reducible refine jF ?_; first | refine jm rfl rfl rfl rfl ?_ | refine jG rfl rfl rfl rfl rfl ?_) | (with_reducible refine jH ?_; refine ja rfl rfl (je rfl rfl) ?_) | (with_reducible refine jI ?_; refine ja rfl rfl (jf rfl rfl) ?_) | (with_reducible refine jJ ?_; refine ja rfl rfl (jd rfl rfl rfl rfl rfl) ?_) | (with_reducible refine jK ?_; refine ja rfl rfl (jg rfl rfl rfl rfl) ?_) | (with_reducible refine jL ?_; first | refine ja rfl rfl (jh rfl rfl rfl rfl rfl rfl) ?_ | refine ja rfl rfl (ji rfl rfl rfl rfl rfl rfl) ?_) | (with_reducible refine jM ?_; refine ja rfl rfl (jj rfl rfl u24 rfl) ?_)); refine jc (by first | (simp only [setAt]; rfl) | rfl) ?_)))
          refine LoopQ.normal (l.length - (k + 1)) (by omega) ⟨k + 1, φ', out', rfl, by omega, hR, fun _ => hs, fun q => absurd h0 q, dead_of ?_⟩
          rw [w64 (by omega)]; rfl
        ·have h0 : out'.getD i 0 ≠ 0 := ne_of_beq_false h
         clear h
         have hs := hs1 h0
         subst hs
         (repeat (first | (with_reducible first | refine jk ?_ | refine jl ?_ | refine jn ?_ | refine jo ?_ | refine jp ?_ | refine jq ?_ | refine jr ?_ | refine js ?_ | refine jt ?_ | refine ju ?_ | refine jv ?_ | refine jw ?_ | refine jx ?_ | refine jy ?_) | (with_reducible refine jz ?_; refine jA (by first | (simp only [setAt, List.nil_append]; rfl) | rfl) ?_) | with_reducible refine jB (by decide) ?_ | (with_reducible refine jC ?_; first | refine jD rfl rfl rfl ?_ | refine jE rfl rfl rfl ?_) | ((first | (with_reducible refine jF ?_; first | refine jm rfl rfl rfl rfl ?_ | refine jG rfl rfl rfl rfl rfl ?_) | (with_reducible refine jH ?_; refine ja rfl rfl (je rfl rfl) ?_) | (with_reducible refine jI ?_; refine ja rfl rfl (jf rfl rfl) ?_) | (with_reducible refine jJ ?_; refine ja rfl rfl (jd rfl rfl rfl rfl rfl) ?_) | (with_reducible refine jK ?_; refine ja rfl rfl (jg rfl rfl rfl rfl) ?_) | (with_reducible refine jL ?_; first | refine ja rfl rfl (jh rfl rfl rfl rfl rfl rfl) ?_ | refine ja rfl rfl (ji rfl rfl rfl rfl rfl rfl) ?_) | (with_reducible refine jM ?_; refine ja rfl rfl (jj rfl rfl u24 rfl) ?_)); refine jc (by first | (simp only [setAt]; rfl) | rfl) ?_)))
         refine LoopQ.normal (8 - (i + 1)) (by omega) ⟨i + 1, φ', out', rfl, by omega, hR, hfl', dead_of ?_⟩
         rw [w64 (by omega)]; rfl
       ·rw [show decide ((k : Int) < (l.length : Int)) = false from decide_eq_false (by omega)]
        have hs : (φ', out') = T := by
         by_cases h0 : out'.getD i 0 = 0
         ·have hs := hs0 h0
          rw [List.drop_eq_nil_of_le (by omega)] at hs
          exact hs
         ·exact hs1 h0
        subst hs
        (repeat (first | (with_reducible first | refine jk ?_ | refine jl ?_ | refine jn ?_ | refine jo ?_ | refine jp ?_ | refine jq ?_ | refine jr ?_ | refine js ?_ | refine jt ?_ | refine ju ?_ | refine jv ?_ | refine jw ?_ | refine jx ?_ | refine jy ?_) | (with_reducible refine jz ?_; refine jA (by first | (simp only [setAt, List.nil_append]; rfl) | rfl) ?_) | with_reducible refine jB (by decide) ?_ | (with_reducible refine jC ?_; first | refine jD rfl rfl rfl ?_ | refine jE rfl rfl rfl ?_) | ((first | (with_reducible refine jF ?_; first | refine jm rfl rfl rfl rfl ?_ | refine jG rfl rfl rfl rfl rfl ?_) | (with_reducible refine jH ?_; refine ja rfl rfl (je rfl rfl) ?_) | (with_reducible refine jI ?_; refine ja rfl rfl (jf rfl rfl) ?_) | (with_reducible refine jJ ?_; refine ja rfl rfl (jd rfl rfl rfl rfl rfl) ?_) | (with_reducible refine jK ?_; refine ja rfl rfl (jg rfl rfl rfl rfl) ?_) | (with_reducible refine jL ?_; first | refine ja rfl rfl (jh rfl rfl rfl rfl rfl rfl) ?_ | refine ja rfl rfl (ji rfl rfl rfl rfl rfl rfl) ?_) | (with_reducible refine jM ?_; refine ja rfl rfl (jj rfl rfl u24 rfl) ?_)); refine jc (by first | (simp only [setAt]; rfl) | rfl) ?_)))
        refine LoopQ.normal (8 - (i + 1)) (by omega) ⟨i + 1, φ', out', rfl, by omega, hR, hfl', dead_of ?_⟩
        rw [w64 (by omega)]; rfl
     ·have h8 : i = 8 := by have := of_decide_eq_false h; omega
      subst h8
      clear h
      rw [List.drop_eq_nil_of_le (by simp)] at hfl
      simp only [fillR] at hfl
      rw [← hfl]
      (repeat (first | (with_reducible first | refine jk ?_ | refine jl ?_ | refine jn ?_ | refine jo ?_ | refine jp ?_ | refine jq ?_ | refine jr ?_ | refine js ?_ | refine jt ?_ | refine ju ?_ | refine jv ?_ | refine jw ?_ | refine jx ?_ | refine jy ?_) | (with_reducible refine jz ?_; refine jA (by first | (simp only [setAt, List.nil_append]; rfl) | rfl) ?_) | with_reducible refine jB (by decide) ?_ | (with_reducible refine jC ?_; first | refine jD rfl rfl rfl ?_ | refine jE rfl rfl rfl ?_) | ((first | (with_reducible refine jF ?_; first | refine jm rfl rfl rfl rfl ?_ | refine jG rfl rfl rfl rfl rfl ?_) | (with_reducible refine jH ?_; refine ja rfl rfl (je rfl rfl) ?_) | (with_reducible refine jI ?_; refine ja rfl rfl (jf rfl rfl) ?_) | (with_reducible refine jJ ?_; refine ja rfl rfl (jd rfl rfl rfl rfl rfl) ?_) | (with_reducible refine jK ?_; refine ja rfl rfl (jg rfl rfl rfl rfl) ?_) | (with_reducible refine jL ?_; first | refine ja rfl rfl (jh rfl rfl rfl rfl rfl rfl) ?_ | refine ja rfl rfl (ji rfl rfl rfl rfl rfl rfl) ?_) | (with_reducible refine jM ?_; refine ja rfl rfl (jj rfl rfl u24 rfl) ?_)); refine jc (by first | (simp only [setAt]; rfl) | rfl) ?_)))
      refine ja rfl rfl (op_load_arr (l := out) rfl rfl hR.b2 ag23 sz23 hR.len) ?_
      refine jc (by first | (simp only [setAt]; rfl) | rfl) ?_
      refine Wo.doSkip rfl rfl (op_storeArr (n := 8) (l := out) rfl sz23 hR.len rfl rfl hR.b1 rfl) ?_
      (repeat (first | (with_reducible first | refine jk ?_ | refine jl ?_ | refine jn ?_ | refine jo ?_ | refine jp ?_ | refine jq ?_ | refine jr ?_ | refine js ?_ | refine jt ?_ | refine ju ?_ | refine jv ?_ | refine jw ?_ | refine jx ?_ | refine jy ?_) | (with_reducible refine jz ?_; refine jA (by first | (simp only [setAt, List.nil_append]; rfl) | rfl) ?_) | with_reducible refine jB (by decide) ?_ | (with_reducible refine jC ?_; first | refine jD rfl rfl rfl ?_ | refine jE rfl rfl rfl ?_) | ((first | (with_reducible refine jF ?_; first | refine jm rfl rfl rfl rfl ?_ | refine jG rfl rfl rfl rfl rfl ?_) | (with_reducible refine jH ?_; refine ja rfl rfl (je rfl rfl) ?_) | (with_reducible refine jI ?_; refine ja rfl rfl (jf rfl rfl) ?_) | (with_reducible refine jJ ?_; refine ja rfl rfl (jd rfl rfl rfl rfl rfl) ?_) | (with_reducible refine jK ?_; refine ja rfl rfl (jg rfl rfl rfl rfl) ?_) | (with_reducible refine jL ?_; first | refine ja rfl rfl (jh rfl rfl rfl rfl rfl rfl) ?_ | refine ja rfl rfl (ji rfl rfl rfl rfl rfl rfl) ?_) | (with_reducible refine jM ?_; refine ja rfl rfl (jj rfl rfl u24 rfl) ?_)); refine jc (by first | (simp only [setAt]; rfl) | rfl) ?_)))
      refine EndQ.ret (r := .agg (out.map i64)) (result_cell rfl (nth_setAt_same _ _ _ _ hR.b1) ag23 sz23 hR.len) ⟨.agg (out.map i64), ?_, ?_, rfl, trivial⟩
      ·unfold snap
       simp only [mapO_ints]
      ·simp only [AV.closed, closedL_ints]
end Go.Proofs
