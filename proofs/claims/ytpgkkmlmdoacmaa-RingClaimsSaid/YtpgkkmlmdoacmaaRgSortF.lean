/- The ring's slices.SortedFunc over slices.Values. -/
import Derived.Test.YtpgkkmlmdoacmaaRgThose
import Derived.Test.YtpgkkmlmdoacmaaTmMapOps
set_option linter.unusedVariables false
set_option linter.unusedSimpArgs false
set_option linter.unusedSectionVars false
namespace Go.Proofs
open Go.Tm Go.Proofs.RgPlain
set_option maxRecDepth 100000
theorem values_tells (xs : List Int) (tl : Tail) (htl : tl.un = tl) (H : List AB) : Tells Kz 20 [.sl (xs.map i64) tl] H fun r H' => r = .func (.func 38) [] [.ptr H.length 0] ∧ H' = H ++ [.cells (24, true) [.sl (xs.map i64) tl]] := by
 refine Tells.mem (c := _) Try.func20 rfl (args' := [.sl (xs.map i64) tl]) (m := 3) (by simp only [List.map, unown_sl, htl]) rfl rfl rfl rfl ?_
 (repeat (first | (with_reducible first | refine jk ?_ | refine jl ?_ | refine jn ?_ | refine jo ?_ | refine jp ?_ | refine jq ?_ | refine jr ?_ | refine js ?_ | refine jt ?_ | refine ju ?_ | refine jv ?_ | refine jw ?_ | refine jx ?_ | refine jy ?_) | (with_reducible refine jz ?_; refine jA (by first | (simp only [setAt, enter, List.replicate, List.cons_append, List.nil_append]; rfl) | rfl) ?_) | with_reducible refine jB (by decide) ?_ | (with_reducible refine jC ?_; first | refine jD rfl rfl rfl ?_ | refine jE rfl rfl rfl ?_) | ((first | (with_reducible refine jF ?_; first | refine jm rfl rfl rfl rfl ?_ | refine jG rfl rfl rfl rfl rfl ?_) | (with_reducible refine jH ?_; refine ja rfl rfl (je rfl rfl) ?_) | (with_reducible refine jI ?_; refine ja rfl rfl (jf rfl rfl) ?_) | (with_reducible refine jJ ?_; refine ja rfl rfl (jd rfl rfl rfl rfl rfl) ?_) | (with_reducible refine jK ?_; refine ja rfl rfl (jg rfl rfl rfl rfl) ?_) | (with_reducible refine jL ?_; first | refine ja rfl rfl (jh rfl rfl rfl rfl rfl rfl) ?_ | refine ja rfl rfl (ji rfl rfl rfl rfl rfl rfl) ?_) | (with_reducible refine jM ?_; refine ja rfl rfl (jj rfl rfl u24 rfl) ?_)); refine jc (by first | (simp only [setAt]; rfl) | rfl) ?_)))
 refine ja rfl rfl (op_box rfl rfl rfl) ?_
 refine jc (by first | (simp only [setAt]; rfl) | rfl) ?_
 (repeat (first | (with_reducible first | refine jk ?_ | refine jl ?_ | refine jn ?_ | refine jo ?_ | refine jp ?_ | refine jq ?_ | refine jr ?_ | refine js ?_ | refine jt ?_ | refine ju ?_ | refine jv ?_ | refine jw ?_ | refine jx ?_ | refine jy ?_) | (with_reducible refine jz ?_; refine jA (by first | (simp only [setAt, List.nil_append]; rfl) | rfl) ?_) | with_reducible refine jB (by decide) ?_ | (with_reducible refine jC ?_; first | refine jD rfl rfl rfl ?_ | refine jE rfl rfl rfl ?_) | ((first | (with_reducible refine jF ?_; first | refine jm rfl rfl rfl rfl ?_ | refine jG rfl rfl rfl rfl rfl ?_) | (with_reducible refine jH ?_; refine ja rfl rfl (je rfl rfl) ?_) | (with_reducible refine jI ?_; refine ja rfl rfl (jf rfl rfl) ?_) | (with_reducible refine jJ ?_; refine ja rfl rfl (jd rfl rfl rfl rfl rfl) ?_) | (with_reducible refine jK ?_; refine ja rfl rfl (jg rfl rfl rfl rfl) ?_) | (with_reducible refine jL ?_; first | refine ja rfl rfl (jh rfl rfl rfl rfl rfl rfl) ?_ | refine ja rfl rfl (ji rfl rfl rfl rfl rfl rfl) ?_) | (with_reducible refine jM ?_; refine ja rfl rfl (jj rfl rfl u24 rfl) ?_)); refine jc (by first | (simp only [setAt]; rfl) | rfl) ?_)))
 refine ja rfl rfl (op_makeFunc (xs := []) (ys := [.ptr H.length 0]) rfl rfl rfl) ?_
 refine jc (by first | (simp only [setAt]; rfl) | rfl) ?_
 (repeat (first | (with_reducible first | refine jk ?_ | refine jl ?_ | refine jn ?_ | refine jo ?_ | refine jp ?_ | refine jq ?_ | refine jr ?_ | refine js ?_ | refine jt ?_ | refine ju ?_ | refine jv ?_ | refine jw ?_ | refine jx ?_ | refine jy ?_) | (with_reducible refine jz ?_; refine jA (by first | (simp only [setAt, List.nil_append]; rfl) | rfl) ?_) | with_reducible refine jB (by decide) ?_ | (with_reducible refine jC ?_; first | refine jD rfl rfl rfl ?_ | refine jE rfl rfl rfl ?_) | ((first | (with_reducible refine jF ?_; first | refine jm rfl rfl rfl rfl ?_ | refine jG rfl rfl rfl rfl rfl ?_) | (with_reducible refine jH ?_; refine ja rfl rfl (je rfl rfl) ?_) | (with_reducible refine jI ?_; refine ja rfl rfl (jf rfl rfl) ?_) | (with_reducible refine jJ ?_; refine ja rfl rfl (jd rfl rfl rfl rfl rfl) ?_) | (with_reducible refine jK ?_; refine ja rfl rfl (jg rfl rfl rfl rfl) ?_) | (with_reducible refine jL ?_; first | refine ja rfl rfl (jh rfl rfl rfl rfl rfl rfl) ?_ | refine ja rfl rfl (ji rfl rfl rfl rfl rfl rfl) ?_) | (with_reducible refine jM ?_; refine ja rfl rfl (jj rfl rfl u24 rfl) ?_)); refine jc (by first | (simp only [setAt]; rfl) | rfl) ?_)))
 refine EndQ.ret (r := .func (.func 38) [] [.ptr H.length 0]) rfl ⟨rfl, ?_⟩
 rw [unown_sl, htl]; rfl
theorem i64s_ints : ∀ xs : List Int, i64s (xs.map i64) = true
 | [] => rfl
 | x :: r => by simp only [List.map_cons, i64s, i64Of]; exact i64s_ints r
def Grows (H : List AB) (xs : List Int) (i : Nat) (H2 : List AB) : Prop := ∃ x, nth H2 H.length = some (.cells (24, true) [x]) ∧ Made (H ++ [.cells (24, true) [x]]) H2 x (xs.take i)
set_option maxHeartbeats 4000000 in
theorem append_tells (xs : List Int) (tl : Tail) (hl : xs.length ≤ 17592186043904) (H : List AB) (b : Nat) (tt : TypeId × Bool) (hb : nth H b = some (.cells tt [.sl (xs.map i64) tl])) : Tells Kz 44 [.sl [] .nil, .func (.func 38) [] [.ptr b 0]] H fun r H' => Made H H' r xs := by
 refine Tells.mem (c := _) Try.func44 rfl (args' := [.sl [] .nil, .func (.func 38) [] [.ptr b 0]]) (m := 11) rfl rfl rfl rfl rfl ?_
 have hlt : b < H.length := by rw [nth_eq] at hb; exact (List.getElem?_eq_some_iff.1 hb).1
 refine jk ?_
 refine jl ?_
 refine ja rfl rfl (op_box rfl rfl rfl) ?_
 refine jc (by first | (simp only [setAt]; rfl) | rfl) ?_
 (repeat (first | (with_reducible first | refine jk ?_ | refine jl ?_ | refine jn ?_ | refine jo ?_ | refine jp ?_ | refine jq ?_ | refine jr ?_ | refine js ?_ | refine jt ?_ | refine ju ?_ | refine jv ?_ | refine jw ?_ | refine jx ?_ | refine jy ?_) | (with_reducible refine jz ?_; refine jA (by first | (simp only [setAt, enter, List.replicate, List.cons_append, List.nil_append]; rfl) | rfl) ?_) | with_reducible refine jB (by decide) ?_ | (with_reducible refine jC ?_; first | refine jD rfl rfl rfl ?_ | refine jE rfl rfl rfl ?_) | ((first | (with_reducible refine jF ?_; first | refine jm rfl rfl rfl rfl ?_ | refine jG rfl rfl rfl rfl rfl ?_) | (with_reducible refine jH ?_; refine ja rfl rfl (je rfl rfl) ?_) | (with_reducible refine jI ?_; refine ja rfl rfl (jf rfl rfl) ?_) | (with_reducible refine jJ ?_; refine ja rfl rfl (jd rfl rfl rfl rfl rfl) ?_) | (with_reducible refine jK ?_; refine ja rfl rfl (jg rfl rfl rfl rfl) ?_) | (with_reducible refine jL ?_; first | refine ja rfl rfl (jh rfl rfl rfl rfl rfl rfl) ?_ | refine ja rfl rfl (ji rfl rfl rfl rfl rfl rfl) ?_) | (with_reducible refine jM ?_; refine ja rfl rfl (jj rfl rfl u24 rfl) ?_)); refine jc (by first | (simp only [setAt]; rfl) | rfl) ?_)))
 refine Wc.range (x := .func (.func 38) [] [.ptr b 0]) (xss := (xs.map i64).map fun x => [x]) rfl ?_ (by kernel_rfl) (Grows H xs) ?_ ?_ ?_
 ·show toldValues [.ptr b 0] _ = _
  have hb2 : nth (H ++ [AB.cells (24, true) (AV.unown (.sl [] .nil)).cells]) b = some (.cells tt [.sl (xs.map i64) tl]) := by rw [nth_app_lt _ _ _ hlt]; exact hb
  simp only [toldValues, hb2, i64s_ints, List.length_map]
  rw [Nat.ble_eq_true_of_le hl]
  rfl
 ·refine ⟨.sl [] .nil, nth_app _ _, .inl ⟨rfl, rfl⟩, Nat.le_refl _, fun k hk => rfl⟩
 ·intro i ys H1 hy ⟨x, hx, hm⟩
  have hi : i < xs.length := by
   have := (List.getElem?_eq_some_iff.1 hy).1
   simpa using this
  have hys : ys = [i64 xs[i]] := by
   rw [List.getElem?_map, List.getElem?_map, List.getElem?_eq_getElem hi] at hy
   simpa using hy.symm
  subst hys
  refine ⟨rfl, ?_⟩
  have hxu : x.unown = x := hm.view.unown
  simp only [List.map, AV.unown, putAt, setAt]
  (repeat (first | (with_reducible first | refine jk ?_ | refine jl ?_ | refine jn ?_ | refine jo ?_ | refine jp ?_ | refine jq ?_ | refine jr ?_ | refine js ?_ | refine jt ?_ | refine ju ?_ | refine jv ?_ | refine jw ?_ | refine jx ?_ | refine jy ?_) | (with_reducible refine jz ?_; refine jA (by first | (simp only [setAt, List.nil_append]; rfl) | rfl) ?_) | with_reducible refine jB (by decide) ?_ | (with_reducible refine jC ?_; first | refine jD rfl rfl rfl ?_ | refine jE rfl rfl rfl ?_) | ((first | (with_reducible refine jF ?_; first | refine jm rfl rfl rfl rfl ?_ | refine jG rfl rfl rfl rfl rfl ?_) | (with_reducible refine jH ?_; refine ja rfl rfl (je rfl rfl) ?_) | (with_reducible refine jI ?_; refine ja rfl rfl (jf rfl rfl) ?_) | (with_reducible refine jJ ?_; refine ja rfl rfl (jd rfl rfl rfl rfl rfl) ?_) | (with_reducible refine jK ?_; refine ja rfl rfl (jg rfl rfl rfl rfl) ?_) | (with_reducible refine jL ?_; first | refine ja rfl rfl (jh rfl rfl rfl rfl rfl rfl) ?_ | refine ja rfl rfl (ji rfl rfl rfl rfl rfl rfl) ?_) | (with_reducible refine jM ?_; refine ja rfl rfl (jj rfl rfl u24 rfl) ?_)); refine jc (by first | (simp only [setAt]; rfl) | rfl) ?_)))
  refine ⟨rfl, ?_⟩
  simp only [List.map, AV.unown]
  (repeat (first | (with_reducible first | refine jk ?_ | refine jl ?_ | refine jn ?_ | refine jo ?_ | refine jp ?_ | refine jq ?_ | refine jr ?_ | refine js ?_ | refine jt ?_ | refine ju ?_ | refine jv ?_ | refine jw ?_ | refine jx ?_ | refine jy ?_) | (with_reducible refine jz ?_; refine jA (by first | (simp only [setAt, List.nil_append]; rfl) | rfl) ?_) | with_reducible refine jB (by decide) ?_ | (with_reducible refine jC ?_; first | refine jD rfl rfl rfl ?_ | refine jE rfl rfl rfl ?_) | ((first | (with_reducible refine jF ?_; first | refine jm rfl rfl rfl rfl ?_ | refine jG rfl rfl rfl rfl rfl ?_) | (with_reducible refine jH ?_; refine ja rfl rfl (je rfl rfl) ?_) | (with_reducible refine jI ?_; refine ja rfl rfl (jf rfl rfl) ?_) | (with_reducible refine jJ ?_; refine ja rfl rfl (jd rfl rfl rfl rfl rfl) ?_) | (with_reducible refine jK ?_; refine ja rfl rfl (jg rfl rfl rfl rfl) ?_) | (with_reducible refine jL ?_; first | refine ja rfl rfl (jh rfl rfl rfl rfl rfl rfl) ?_ | refine ja rfl rfl (ji rfl rfl rfl rfl rfl rfl) ?_) | (with_reducible refine jM ?_; refine ja rfl rfl (jj rfl rfl u24 rfl) ?_)); refine jc (by first | (simp only [setAt]; rfl) | rfl) ?_)))
  refine ja rfl rfl (op_load_ptr rfl rfl hx (take_one ag24 sz24)) ?_
  rw [hxu]
  refine jc (by first | (simp only [setAt]; rfl) | rfl) ?_
  (repeat (first | (with_reducible first | refine jk ?_ | refine jl ?_ | refine jn ?_ | refine jo ?_ | refine jp ?_ | refine jq ?_ | refine jr ?_ | refine js ?_ | refine jt ?_ | refine ju ?_ | refine jv ?_ | refine jw ?_ | refine jx ?_ | refine jy ?_) | (with_reducible refine jz ?_; refine jA (by first | (simp only [setAt, List.nil_append]; rfl) | rfl) ?_) | with_reducible refine jB (by decide) ?_ | (with_reducible refine jC ?_; first | refine jD rfl rfl rfl ?_ | refine jE rfl rfl rfl ?_) | ((first | (with_reducible refine jF ?_; first | refine jm rfl rfl rfl rfl ?_ | refine jG rfl rfl rfl rfl rfl ?_) | (with_reducible refine jH ?_; refine ja rfl rfl (je rfl rfl) ?_) | (with_reducible refine jI ?_; refine ja rfl rfl (jf rfl rfl) ?_) | (with_reducible refine jJ ?_; refine ja rfl rfl (jd rfl rfl rfl rfl rfl) ?_) | (with_reducible refine jK ?_; refine ja rfl rfl (jg rfl rfl rfl rfl) ?_) | (with_reducible refine jL ?_; first | refine ja rfl rfl (jh rfl rfl rfl rfl rfl rfl) ?_ | refine ja rfl rfl (ji rfl rfl rfl rfl rfl rfl) ?_) | (with_reducible refine jM ?_; refine ja rfl rfl (jj rfl rfl u24 rfl) ?_)); refine jc (by first | (simp only [setAt]; rfl) | rfl) ?_)))
  refine Wo.pushI ik rfl rfl rfl rfl rfl rfl rfl rfl rfl rfl rfl rfl hm (by rw [List.length_take]; omega) (fun z H2 hm2 => ?_)
  refine jc (by first | (simp only [setAt]; rfl) | rfl) ?_
  have hz : nth H2 H.length = some (.cells (24, true) [x]) := (hm2.2.2 H.length (by simp)).trans (nth_app _ _)
  have hzc : z.cells = [z] ∧ z.one = true := by
   rcases hm2.1 with ⟨_, rfl⟩ | ⟨b', rfl, _⟩ <;> exact ⟨rfl, rfl⟩
  refine Wo.doSkip rfl rfl (op_storeV rfl sz24 rfl rfl hzc.1 hzc.2 hm2.view.unown hz (by simp)) ?_
  (repeat (first | (with_reducible first | refine jk ?_ | refine jl ?_ | refine jn ?_ | refine jo ?_ | refine jp ?_ | refine jq ?_ | refine jr ?_ | refine js ?_ | refine jt ?_ | refine ju ?_ | refine jv ?_ | refine jw ?_ | refine jx ?_ | refine jy ?_) | (with_reducible refine jz ?_; refine jA (by first | (simp only [setAt, List.nil_append]; rfl) | rfl) ?_) | with_reducible refine jB (by decide) ?_ | (with_reducible refine jC ?_; first | refine jD rfl rfl rfl ?_ | refine jE rfl rfl rfl ?_) | ((first | (with_reducible refine jF ?_; first | refine jm rfl rfl rfl rfl ?_ | refine jG rfl rfl rfl rfl rfl ?_) | (with_reducible refine jH ?_; refine ja rfl rfl (je rfl rfl) ?_) | (with_reducible refine jI ?_; refine ja rfl rfl (jf rfl rfl) ?_) | (with_reducible refine jJ ?_; refine ja rfl rfl (jd rfl rfl rfl rfl rfl) ?_) | (with_reducible refine jK ?_; refine ja rfl rfl (jg rfl rfl rfl rfl) ?_) | (with_reducible refine jL ?_; first | refine ja rfl rfl (jh rfl rfl rfl rfl rfl rfl) ?_ | refine ja rfl rfl (ji rfl rfl rfl rfl rfl rfl) ?_) | (with_reducible refine jM ?_; refine ja rfl rfl (jj rfl rfl u24 rfl) ?_)); refine jc (by first | (simp only [setAt]; rfl) | rfl) ?_)))
  refine ⟨rfl, z, nth_setAt_same _ _ _ _ hz, ?_⟩
  have htk : xs.take (i + 1) = xs.take i ++ [xs[i]] := by rw [List.take_add_one, List.getElem?_eq_getElem hi]; rfl
  rw [htk]
  obtain ⟨h1, h2, h3⟩ := hm2
  refine ⟨?_, by rw [len_setAt]; simpa using h2, fun k hk => ?_⟩
  ·rcases h1 with q | ⟨b', rfl, hb1, hb2⟩
   ·exact .inl q
   ·refine .inr ⟨b', rfl, by simpa using hb1, ?_⟩
    simp at hb1
    rw [nth_setAt_other _ _ _ _ (by omega)]; exact hb2
  ·simp at hk
   by_cases e : k = H.length
   ·subst e; rw [nth_setAt_same _ _ _ _ hz, nth_app]; rfl
   ·rw [nth_setAt_other _ _ _ _ e, h3 k (by simp; omega), nth_app_lt _ _ _ (by omega), nth_app_lt _ _ _ (by omega)]
 ·intro H2 ⟨x, hx, hm⟩
  simp only [List.length_map, List.take_length] at hm
  have hxu : x.unown = x := hm.view.unown
  simp only [List.map, AV.unown]
  (repeat (first | (with_reducible first | refine jk ?_ | refine jl ?_ | refine jn ?_ | refine jo ?_ | refine jp ?_ | refine jq ?_ | refine jr ?_ | refine js ?_ | refine jt ?_ | refine ju ?_ | refine jv ?_ | refine jw ?_ | refine jx ?_ | refine jy ?_) | (with_reducible refine jz ?_; refine jA (by first | (simp only [setAt, List.nil_append]; rfl) | rfl) ?_) | with_reducible refine jB (by decide) ?_ | (with_reducible refine jC ?_; first | refine jD rfl rfl rfl ?_ | refine jE rfl rfl rfl ?_) | ((first | (with_reducible refine jF ?_; first | refine jm rfl rfl rfl rfl ?_ | refine jG rfl rfl rfl rfl rfl ?_) | (with_reducible refine jH ?_; refine ja rfl rfl (je rfl rfl) ?_) | (with_reducible refine jI ?_; refine ja rfl rfl (jf rfl rfl) ?_) | (with_reducible refine jJ ?_; refine ja rfl rfl (jd rfl rfl rfl rfl rfl) ?_) | (with_reducible refine jK ?_; refine ja rfl rfl (jg rfl rfl rfl rfl) ?_) | (with_reducible refine jL ?_; first | refine ja rfl rfl (jh rfl rfl rfl rfl rfl rfl) ?_ | refine ja rfl rfl (ji rfl rfl rfl rfl rfl rfl) ?_) | (with_reducible refine jM ?_; refine ja rfl rfl (jj rfl rfl u24 rfl) ?_)); refine jc (by first | (simp only [setAt]; rfl) | rfl) ?_)))
  refine ja rfl rfl (op_load_ptr rfl rfl hx (take_one ag24 sz24)) ?_
  rw [hxu]
  refine jc (by first | (simp only [setAt]; rfl) | rfl) ?_
  (repeat (first | (with_reducible first | refine jk ?_ | refine jl ?_ | refine jn ?_ | refine jo ?_ | refine jp ?_ | refine jq ?_ | refine jr ?_ | refine js ?_ | refine jt ?_ | refine ju ?_ | refine jv ?_ | refine jw ?_ | refine jx ?_ | refine jy ?_) | (with_reducible refine jz ?_; refine jA (by first | (simp only [setAt, List.nil_append]; rfl) | rfl) ?_) | with_reducible refine jB (by decide) ?_ | (with_reducible refine jC ?_; first | refine jD rfl rfl rfl ?_ | refine jE rfl rfl rfl ?_) | ((first | (with_reducible refine jF ?_; first | refine jm rfl rfl rfl rfl ?_ | refine jG rfl rfl rfl rfl rfl ?_) | (with_reducible refine jH ?_; refine ja rfl rfl (je rfl rfl) ?_) | (with_reducible refine jI ?_; refine ja rfl rfl (jf rfl rfl) ?_) | (with_reducible refine jJ ?_; refine ja rfl rfl (jd rfl rfl rfl rfl rfl) ?_) | (with_reducible refine jK ?_; refine ja rfl rfl (jg rfl rfl rfl rfl) ?_) | (with_reducible refine jL ?_; first | refine ja rfl rfl (jh rfl rfl rfl rfl rfl rfl) ?_ | refine ja rfl rfl (ji rfl rfl rfl rfl rfl rfl) ?_) | (with_reducible refine jM ?_; refine ja rfl rfl (jj rfl rfl u24 rfl) ?_)); refine jc (by first | (simp only [setAt]; rfl) | rfl) ?_)))
  refine EndQ.ret (r := x) rfl ?_
  obtain ⟨h1, h2, h3⟩ := hm
  simp at h2
  refine ⟨?_, Nat.le_of_succ_le h2, fun k hk => by rw [h3 k (by simp; omega), nth_app_lt _ _ _ hk]⟩
  rcases h1 with q | ⟨b', rfl, hb1, hb2⟩
  ·exact .inl q
  ·simp at hb1
   exact .inr ⟨b', rfl, by omega, hb2⟩
theorem toldSortF_ms {H : List AB} {b off b2 : Nat} {tt : TypeId × Bool} {t2 : TypeId} {cs : List AV} {xs o : List Int} (hb : nth H b = some (.cells tt cs)) (hle : off + xs.length ≤ cs.length) (hl : xs.length < 2 ^ 62) (hc : ∀ (j : Nat) (h : j < xs.length), cs[off + j]? = some (i64 xs[j])) (hb2 : nth H b2 = some (.cells (t2, true) (o.map i64))) (ho : o.length = 8) (hne : b2 ≠ b) : toldSortF [.ms b off xs.length 1, .func (.func 21) [] [.ptr b2 0]] H = some (.tup [], setAt H b (.cells tt (putAll cs off ((xs.mergeSort (leO o)).map i64)))) := by
 simp only [toldSortF, rowOf_mk hb hle hl hc, hb2, asInts_map]
 rw [if_pos ⟨ho, hne⟩]
set_option maxHeartbeats 4000000 in
theorem sortedF_tells (xs : List Int) (tl : Tail) (hl : xs.length ≤ 17592186043904) (hne : xs ≠ []) (H : List AB) (b : Nat) (tt : TypeId × Bool) (hb : nth H b = some (.cells tt [.sl (xs.map i64) tl])) (o : List Int) (ho : o.length = 8) (b2 : Nat) (t2 : TypeId) (hb2 : nth H b2 = some (.cells (t2, true) (o.map i64))) :
  Tells Kz 19 [.func (.func 38) [] [.ptr b 0], .func (.func 21) [] [.ptr b2 0]] H fun r H' => Made H H' r (xs.mergeSort (leO o)) := by
 have hlt2 : b2 < H.length := by rw [nth_eq] at hb2; exact (List.getElem?_eq_some_iff.1 hb2).1
 refine Tells.mem (c := _) Try.func19 rfl (args' := [.func (.func 38) [] [.ptr b 0], .func (.func 21) [] [.ptr b2 0]]) (m := 10) rfl rfl rfl rfl rfl ?_
 (repeat (first | (with_reducible first | refine jk ?_ | refine jl ?_ | refine jn ?_ | refine jo ?_ | refine jp ?_ | refine jq ?_ | refine jr ?_ | refine js ?_ | refine jt ?_ | refine ju ?_ | refine jv ?_ | refine jw ?_ | refine jx ?_ | refine jy ?_) | (with_reducible refine jz ?_; refine jA (by first | (simp only [setAt, enter, List.replicate, List.cons_append, List.nil_append]; rfl) | rfl) ?_) | with_reducible refine jB (by decide) ?_ | (with_reducible refine jC ?_; first | refine jD rfl rfl rfl ?_ | refine jE rfl rfl rfl ?_) | ((first | (with_reducible refine jF ?_; first | refine jm rfl rfl rfl rfl ?_ | refine jG rfl rfl rfl rfl rfl ?_) | (with_reducible refine jH ?_; refine ja rfl rfl (je rfl rfl) ?_) | (with_reducible refine jI ?_; refine ja rfl rfl (jf rfl rfl) ?_) | (with_reducible refine jJ ?_; refine ja rfl rfl (jd rfl rfl rfl rfl rfl) ?_) | (with_reducible refine jK ?_; refine ja rfl rfl (jg rfl rfl rfl rfl) ?_) | (with_reducible refine jL ?_; first | refine ja rfl rfl (jh rfl rfl rfl rfl rfl rfl) ?_ | refine ja rfl rfl (ji rfl rfl rfl rfl rfl rfl) ?_) | (with_reducible refine jM ?_; refine ja rfl rfl (jj rfl rfl u24 rfl) ?_)); refine jc (by first | (simp only [setAt]; rfl) | rfl) ?_)))
 refine Wo.doCall rfl rfl (op_call (args := [.func (.func 38) [] [.ptr b 0]]) rfl rfl) ?_
 refine Tells.mono (Q := fun r H' => Made H H' r xs) ?_ ?_
 ·refine Tells.mem (c := _) Try.func36 rfl (args' := [.func (.func 38) [] [.ptr b 0]]) (m := 4) rfl rfl rfl rfl rfl ?_
  (repeat (first | (with_reducible first | refine jk ?_ | refine jl ?_ | refine jn ?_ | refine jo ?_ | refine jp ?_ | refine jq ?_ | refine jr ?_ | refine js ?_ | refine jt ?_ | refine ju ?_ | refine jv ?_ | refine jw ?_ | refine jx ?_ | refine jy ?_) | (with_reducible refine jz ?_; refine jA (by first | (simp only [setAt, List.nil_append]; rfl) | rfl) ?_) | with_reducible refine jB (by decide) ?_ | (with_reducible refine jC ?_; first | refine jD rfl rfl rfl ?_ | refine jE rfl rfl rfl ?_) | ((first | (with_reducible refine jF ?_; first | refine jm rfl rfl rfl rfl ?_ | refine jG rfl rfl rfl rfl rfl ?_) | (with_reducible refine jH ?_; refine ja rfl rfl (je rfl rfl) ?_) | (with_reducible refine jI ?_; refine ja rfl rfl (jf rfl rfl) ?_) | (with_reducible refine jJ ?_; refine ja rfl rfl (jd rfl rfl rfl rfl rfl) ?_) | (with_reducible refine jK ?_; refine ja rfl rfl (jg rfl rfl rfl rfl) ?_) | (with_reducible refine jL ?_; first | refine ja rfl rfl (jh rfl rfl rfl rfl rfl rfl) ?_ | refine ja rfl rfl (ji rfl rfl rfl rfl rfl rfl) ?_) | (with_reducible refine jM ?_; refine ja rfl rfl (jj rfl rfl u24 rfl) ?_)); refine jc (by first | (simp only [setAt]; rfl) | rfl) ?_)))
  refine Wo.doCall rfl rfl (op_call (args := [.sl [] .nil, .func (.func 38) [] [.ptr b 0]]) rfl rfl) ((append_tells xs tl hl H b tt hb).mono ?_)
  intro r H1 hm
  rw [hm.view.unown]
  refine jc (by first | (simp only [setAt]; rfl) | rfl) ?_
  (repeat (first | (with_reducible first | refine jk ?_ | refine jl ?_ | refine jn ?_ | refine jo ?_ | refine jp ?_ | refine jq ?_ | refine jr ?_ | refine js ?_ | refine jt ?_ | refine ju ?_ | refine jv ?_ | refine jw ?_ | refine jx ?_ | refine jy ?_) | (with_reducible refine jz ?_; refine jA (by first | (simp only [setAt, List.nil_append]; rfl) | rfl) ?_) | with_reducible refine jB (by decide) ?_ | (with_reducible refine jC ?_; first | refine jD rfl rfl rfl ?_ | refine jE rfl rfl rfl ?_) | ((first | (with_reducible refine jF ?_; first | refine jm rfl rfl rfl rfl ?_ | refine jG rfl rfl rfl rfl rfl ?_) | (with_reducible refine jH ?_; refine ja rfl rfl (je rfl rfl) ?_) | (with_reducible refine jI ?_; refine ja rfl rfl (jf rfl rfl) ?_) | (with_reducible refine jJ ?_; refine ja rfl rfl (jd rfl rfl rfl rfl rfl) ?_) | (with_reducible refine jK ?_; refine ja rfl rfl (jg rfl rfl rfl rfl) ?_) | (with_reducible refine jL ?_; first | refine ja rfl rfl (jh rfl rfl rfl rfl rfl rfl) ?_ | refine ja rfl rfl (ji rfl rfl rfl rfl rfl rfl) ?_) | (with_reducible refine jM ?_; refine ja rfl rfl (jj rfl rfl u24 rfl) ?_)); refine jc (by first | (simp only [setAt]; rfl) | rfl) ?_)))
  exact EndQ.ret (r := r) rfl hm
 ·intro r H1 hm
  rw [hm.view.unown]
  refine jc (by first | (simp only [setAt]; rfl) | rfl) ?_
  (repeat (first | (with_reducible first | refine jk ?_ | refine jl ?_ | refine jn ?_ | refine jo ?_ | refine jp ?_ | refine jq ?_ | refine jr ?_ | refine js ?_ | refine jt ?_ | refine ju ?_ | refine jv ?_ | refine jw ?_ | refine jx ?_ | refine jy ?_) | (with_reducible refine jz ?_; refine jA (by first | (simp only [setAt, List.nil_append]; rfl) | rfl) ?_) | with_reducible refine jB (by decide) ?_ | (with_reducible refine jC ?_; first | refine jD rfl rfl rfl ?_ | refine jE rfl rfl rfl ?_) | ((first | (with_reducible refine jF ?_; first | refine jm rfl rfl rfl rfl ?_ | refine jG rfl rfl rfl rfl rfl ?_) | (with_reducible refine jH ?_; refine ja rfl rfl (je rfl rfl) ?_) | (with_reducible refine jI ?_; refine ja rfl rfl (jf rfl rfl) ?_) | (with_reducible refine jJ ?_; refine ja rfl rfl (jd rfl rfl rfl rfl rfl) ?_) | (with_reducible refine jK ?_; refine ja rfl rfl (jg rfl rfl rfl rfl) ?_) | (with_reducible refine jL ?_; first | refine ja rfl rfl (jh rfl rfl rfl rfl rfl rfl) ?_ | refine ja rfl rfl (ji rfl rfl rfl rfl rfl rfl) ?_) | (with_reducible refine jM ?_; refine ja rfl rfl (jj rfl rfl u24 rfl) ?_)); refine jc (by first | (simp only [setAt]; rfl) | rfl) ?_)))
  obtain ⟨h1, h2, h3⟩ := hm
  rcases h1 with ⟨q, _⟩ | ⟨b', rfl, hb1, hbb⟩
  ·exact absurd q hne
  refine Wo.doCall rfl rfl (op_call (args := [.ms b' 0 xs.length 1, .func (.func 21) [] [.ptr b2 0]]) rfl rfl) ?_
  refine Tells.lib (g := toldSortF) rfl rfl (toldSortF_ms hbb (by simp) (by omega) (fun j h => by simp [List.getElem?_map, List.getElem?_eq_getElem h]) ((h3 b2 hlt2).trans hb2) ho (by omega)) ?_
  refine jc (by first | (simp only [setAt]; rfl) | rfl) ?_
  (repeat (first | (with_reducible first | refine jk ?_ | refine jl ?_ | refine jn ?_ | refine jo ?_ | refine jp ?_ | refine jq ?_ | refine jr ?_ | refine js ?_ | refine jt ?_ | refine ju ?_ | refine jv ?_ | refine jw ?_ | refine jx ?_ | refine jy ?_) | (with_reducible refine jz ?_; refine jA (by first | (simp only [setAt, List.nil_append]; rfl) | rfl) ?_) | with_reducible refine jB (by decide) ?_ | (with_reducible refine jC ?_; first | refine jD rfl rfl rfl ?_ | refine jE rfl rfl rfl ?_) | ((first | (with_reducible refine jF ?_; first | refine jm rfl rfl rfl rfl ?_ | refine jG rfl rfl rfl rfl rfl ?_) | (with_reducible refine jH ?_; refine ja rfl rfl (je rfl rfl) ?_) | (with_reducible refine jI ?_; refine ja rfl rfl (jf rfl rfl) ?_) | (with_reducible refine jJ ?_; refine ja rfl rfl (jd rfl rfl rfl rfl rfl) ?_) | (with_reducible refine jK ?_; refine ja rfl rfl (jg rfl rfl rfl rfl) ?_) | (with_reducible refine jL ?_; first | refine ja rfl rfl (jh rfl rfl rfl rfl rfl rfl) ?_ | refine ja rfl rfl (ji rfl rfl rfl rfl rfl rfl) ?_) | (with_reducible refine jM ?_; refine ja rfl rfl (jj rfl rfl u24 rfl) ?_)); refine jc (by first | (simp only [setAt]; rfl) | rfl) ?_)))
  have hls : (xs.mergeSort (leO o)).length = xs.length := (List.mergeSort_perm _ _).length_eq
  refine EndQ.ret (r := .ms b' 0 xs.length 1) rfl ⟨.inr ⟨b', by rw [hls], hb1, ?_⟩, by rw [len_setAt]; exact h2, fun k hk => ?_⟩
  ·rw [nth_setAt_same _ _ _ _ hbb]
   have := putAll_all ((xs.mergeSort (leO o)).map i64) (xs.map i64) [] (by simp [hls])
   simp only [List.nil_append, List.length_nil] at this
   rw [this]
  ·rw [nth_setAt_other _ _ _ _ (by omega)]
   exact h3 k hk
end Go.Proofs
