/- RgRef1, RgRef2, joined. -/
import Derived.Test.YtpgkkmlmdoacmaaRgOps
import Derived.Test.YtpgkkmlmdoacmaaTmQe
set_option linter.unusedVariables false
set_option linter.unusedSimpArgs false
set_option linter.unusedSectionVars false
section
namespace Go.Tm
section
variable {K : Cfg} {f : FuncId} {o : Oper} {R : List AV} {own : Nat → Nat} {H : List AB}
theorem op_slice_hi_sl (hs : K.sym = false) {t e : TypeId} {x l : Operand} {xs : List AV} {tl : Tail} {n j : Nat} {k : IntKind} {m : Int} (ho : o.op = .slice t x none (some l) none) (hu : K.P.underlying t = some (.slice e)) (hz : tSize K.P e = some n) (hx : evalO K R x = some (.sl xs tl)) (hl : evalO K R l = some (.v (.int k m))) (hm : m = (j : Int)) (hj : j ≤ xs.length) (hc : xs.all (fun y => y.cells.length == n) = true) : aOp K f ⟨R, own, H⟩ o [] = some (.val (.sl (xs.take j) (cutTail tl xs.length 0 j none)) own H, [], []) := by
 subst hm
 simp only [aOp, ho, hx, hl, Option.elim, Option.map]
 have hb : aBounds K xs.length none (some (.v (.int k (j : Int)))) none [] = some ((0, j, none), [], []) := by
  simp only [aBounds, optI, asI, Option.map, hs]
  refine (E.bind_nil (a := ()) (by
   show E.chk false (decide (0 ≤ (0 : Int) ∧ (0 : Int) ≤ (j : Int) ∧ (j : Int) ≤ (xs.length : Int) ∧ (xs.length : Int) ≤ (xs.length : Int))) [] = _
   rw [decide_eq_true (by omega)]; rfl)).trans ?_
  simp; rfl
 have h : aSlice K H t (.sl xs tl) none (some (.v (.int k (j : Int)))) none [] = some (.sl (xs.take j) (cutTail tl xs.length 0 j none), [], []) := by
  simp only [aSlice, hu, hz, hs]
  refine (E.bind_nil (a := ()) (by rw [hc]; rfl)).trans ?_
  refine (E.bind_nil hb).trans ?_
  simp only [List.drop_zero]; rfl
 exact (E.bind_nil h).trans rfl
theorem op_slice_lo_sl (hs : K.sym = false) {t e : TypeId} {x l : Operand} {xs : List AV} {tl : Tail} {n j : Nat} {k : IntKind} {m : Int} (ho : o.op = .slice t x (some l) none none) (hu : K.P.underlying t = some (.slice e)) (hz : tSize K.P e = some n) (hx : evalO K R x = some (.sl xs tl)) (hl : evalO K R l = some (.v (.int k m))) (hm : m = (j : Int)) (hj : j ≤ xs.length) (hc : xs.all (fun y => y.cells.length == n) = true) : aOp K f ⟨R, own, H⟩ o [] = some (.val (.sl (xs.drop j) (cutTail tl xs.length j xs.length none)) own H, [], []) := by
 subst hm
 simp only [aOp, ho, hx, hl, Option.elim, Option.map]
 have hb : aBounds K xs.length (some (.v (.int k (j : Int)))) none none [] = some ((j, xs.length, none), [], []) := by
  simp only [aBounds, optI, asI, Option.map, hs]
  refine (E.bind_nil (a := ()) (by
   show E.chk false (decide (0 ≤ (j : Int) ∧ (j : Int) ≤ (xs.length : Int) ∧ (xs.length : Int) ≤ (xs.length : Int) ∧ (xs.length : Int) ≤ (xs.length : Int))) [] = _
   rw [decide_eq_true (by omega)]; rfl)).trans ?_
  simp; rfl
 have h : aSlice K H t (.sl xs tl) (some (.v (.int k (j : Int)))) none none [] = some (.sl (xs.drop j) (cutTail tl xs.length j xs.length none), [], []) := by
  simp only [aSlice, hu, hz, hs]
  refine (E.bind_nil (a := ()) (by rw [hc]; rfl)).trans ?_
  refine (E.bind_nil hb).trans ?_
  simp only [List.take_length]; rfl
 exact (E.bind_nil h).trans rfl
end
end Go.Tm
namespace Go.Proofs
open Go.Tm Go.Proofs.RgPlain
set_option maxRecDepth 100000
set_option maxHeartbeats 4000000 in
theorem rowned_tells (o : List Int) (ho : o.length = 8) (n : Int) (H : List AB) : Tells Kz 28 [.agg (o.map i64), i64 n] H fun r H' => (∃ tl, r = .sl ((owned o n).map i64) tl ∧ tl.un = tl) ∧ H' = H := by
 have hcl : AV.closedL [.agg (o.map i64), i64 n] = true := by simp [AV.closedL, AV.closed, closedL_ints]
 refine Tells.vals (c := _) Try.func28 rfl (args' := [.agg (o.map i64), i64 n]) (m := 23) rfl rfl rfl rfl (by rw [hcl]; rfl) ?_
 refine jk ?_
 refine jl ?_
 refine ja rfl rfl (op_box rfl rfl (allOne_ints o)) ?_
 (repeat (first | (with_reducible first | refine jk ?_ | refine jl ?_ | refine jn ?_ | refine jo ?_ | refine jp ?_ | refine jq ?_ | refine jr ?_ | refine js ?_ | refine jt ?_ | refine ju ?_ | refine jv ?_ | refine jw ?_ | refine jx ?_ | refine jy ?_) | (with_reducible refine jz ?_; refine jA (by first | (simp only [setAt, enter, List.replicate, List.cons_append, List.nil_append]; rfl) | rfl) ?_) | with_reducible refine jB (by decide) ?_ | (with_reducible refine jC ?_; first | refine jD rfl rfl rfl ?_ | refine jE rfl rfl rfl ?_) | ((first | (with_reducible refine jF ?_; first | refine jm rfl rfl rfl rfl ?_ | refine jG rfl rfl rfl rfl rfl ?_) | (with_reducible refine jH ?_; refine ja rfl rfl (je rfl rfl) ?_) | (with_reducible refine jI ?_; refine ja rfl rfl (jf rfl rfl) ?_) | (with_reducible refine jJ ?_; refine ja rfl rfl (jd rfl rfl rfl rfl rfl) ?_) | (with_reducible refine jK ?_; refine ja rfl rfl (jg rfl rfl rfl rfl) ?_) | (with_reducible refine jL ?_; first | refine ja rfl rfl (jh rfl rfl rfl rfl rfl rfl) ?_ | refine ja rfl rfl (ji rfl rfl rfl rfl rfl rfl) ?_) | (with_reducible refine jM ?_; refine ja rfl rfl (jj rfl rfl u24 rfl) ?_)); refine jc (by first | (simp only [setAt]; rfl) | rfl) ?_)))
 refine Wc.inv (fun m s => ∃ i : Nat, m = 8 - i ∧ i ≤ 8 ∧ ∃ x, Made [AB.cells (23, true) (o.map i64)] s.H x (ownedTo o n i) ∧ ∃ d : Nat → AV, s.regs = (d 0 :: i64 n :: .ptr 0 0 :: d 3 :: d 4 :: x :: i64 i :: d 7 :: d 8 :: d 9 :: d 10 :: d 11 :: d 12 :: d 13 :: d 14 :: d 15 :: d 16 :: d 17 :: d 18 :: d 19 :: d 20 :: d 21 :: d 22 :: d 23 :: d 24 :: [])) 8 ?_ ?_
 ·exact ⟨0, by omega, by omega, .sl [] .nil, ⟨.inl ⟨rfl, rfl⟩, Nat.le_refl _, fun _ _ => rfl⟩, dead_of rfl⟩
 ·rintro m regs own H1 ⟨i, rfl, hi, x, hm, d, rfl⟩
  (repeat (first | (with_reducible first | refine jk ?_ | refine jl ?_ | refine jn ?_ | refine jo ?_ | refine jp ?_ | refine jq ?_ | refine jr ?_ | refine js ?_ | refine jt ?_ | refine ju ?_ | refine jv ?_ | refine jw ?_ | refine jx ?_ | refine jy ?_) | (with_reducible refine jz ?_; refine jA (by first | (simp only [setAt, List.nil_append]; rfl) | rfl) ?_) | with_reducible refine jB (by decide) ?_ | (with_reducible refine jC ?_; first | refine jD rfl rfl rfl ?_ | refine jE rfl rfl rfl ?_) | ((first | (with_reducible refine jF ?_; first | refine jm rfl rfl rfl rfl ?_ | refine jG rfl rfl rfl rfl rfl ?_) | (with_reducible refine jH ?_; refine ja rfl rfl (je rfl rfl) ?_) | (with_reducible refine jI ?_; refine ja rfl rfl (jf rfl rfl) ?_) | (with_reducible refine jJ ?_; refine ja rfl rfl (jd rfl rfl rfl rfl rfl) ?_) | (with_reducible refine jK ?_; refine ja rfl rfl (jg rfl rfl rfl rfl) ?_) | (with_reducible refine jL ?_; first | refine ja rfl rfl (jh rfl rfl rfl rfl rfl rfl) ?_ | refine ja rfl rfl (ji rfl rfl rfl rfl rfl rfl) ?_) | (with_reducible refine jM ?_; refine ja rfl rfl (jj rfl rfl u24 rfl) ?_)); refine jc (by first | (simp only [setAt]; rfl) | rfl) ?_)))
  refine Wc.cond rfl rfl (fun h => ?_) (fun h => ?_)
  ·have hlt : i < 8 := by have := of_decide_eq_true h; omega
   have hsucc := ownedTo_succ o n i
   have hlen := ownedTo_len o n i
   have e0 : nth H1 0 = some (.cells (23, true) (o.map i64)) := hm.2.2 0 (by simp)
   (repeat (first | (with_reducible first | refine jk ?_ | refine jl ?_ | refine jn ?_ | refine jo ?_ | refine jp ?_ | refine jq ?_ | refine jr ?_ | refine js ?_ | refine jt ?_ | refine ju ?_ | refine jv ?_ | refine jw ?_ | refine jx ?_ | refine jy ?_) | (with_reducible refine jz ?_; refine jA (by first | (simp only [setAt, List.nil_append]; rfl) | rfl) ?_) | with_reducible refine jB (by decide) ?_ | (with_reducible refine jC ?_; first | refine jD rfl rfl rfl ?_ | refine jE rfl rfl rfl ?_) | ((first | (with_reducible refine jF ?_; first | refine jm rfl rfl rfl rfl ?_ | refine jG rfl rfl rfl rfl rfl ?_) | (with_reducible refine jH ?_; refine ja rfl rfl (je rfl rfl) ?_) | (with_reducible refine jI ?_; refine ja rfl rfl (jf rfl rfl) ?_) | (with_reducible refine jJ ?_; refine ja rfl rfl (jd rfl rfl rfl rfl rfl) ?_) | (with_reducible refine jK ?_; refine ja rfl rfl (jg rfl rfl rfl rfl) ?_) | (with_reducible refine jL ?_; first | refine ja rfl rfl (jh rfl rfl rfl rfl rfl rfl) ?_ | refine ja rfl rfl (ji rfl rfl rfl rfl rfl rfl) ?_) | (with_reducible refine jM ?_; refine ja rfl rfl (jj rfl rfl u24 rfl) ?_)); refine jc (by first | (simp only [setAt]; rfl) | rfl) ?_)))
   by_cases hn : 0 < n
   ·have hn' : decide (n > 0) = true := by simpa using hn
    rw [hn']
    (repeat (first | (with_reducible first | refine jk ?_ | refine jl ?_ | refine jn ?_ | refine jo ?_ | refine jp ?_ | refine jq ?_ | refine jr ?_ | refine js ?_ | refine jt ?_ | refine ju ?_ | refine jv ?_ | refine jw ?_ | refine jx ?_ | refine jy ?_) | (with_reducible refine jz ?_; refine jA (by first | (simp only [setAt, List.nil_append]; rfl) | rfl) ?_) | with_reducible refine jB (by decide) ?_ | (with_reducible refine jC ?_; first | refine jD rfl rfl rfl ?_ | refine jE rfl rfl rfl ?_) | ((first | (with_reducible refine jF ?_; first | refine jm rfl rfl rfl rfl ?_ | refine jG rfl rfl rfl rfl rfl ?_) | (with_reducible refine jH ?_; refine ja rfl rfl (je rfl rfl) ?_) | (with_reducible refine jI ?_; refine ja rfl rfl (jf rfl rfl) ?_) | (with_reducible refine jJ ?_; refine ja rfl rfl (jd rfl rfl rfl rfl rfl) ?_) | (with_reducible refine jK ?_; refine ja rfl rfl (jg rfl rfl rfl rfl) ?_) | (with_reducible refine jL ?_; first | refine ja rfl rfl (jh rfl rfl rfl rfl rfl rfl) ?_ | refine ja rfl rfl (ji rfl rfl rfl rfl rfl rfl) ?_) | (with_reducible refine jM ?_; refine ja rfl rfl (jj rfl rfl u24 rfl) ?_)); refine jc (by first | (simp only [setAt]; rfl) | rfl) ?_)))
    refine ja rfl rfl (op_indexAddr_arr (sz := 0) rfl rfl u23 sz3 rfl rfl rfl hlt) ?_
    refine jc (by first | (simp only [setAt]; rfl) | rfl) ?_
    refine jm rfl rfl rfl rfl ?_
    refine ja rfl rfl (op_load_int (i := i) rfl rfl (by omega) e0 (by omega)) ?_
    refine jc (by first | (simp only [setAt]; rfl) | rfl) ?_
    (repeat (first | (with_reducible first | refine jk ?_ | refine jl ?_ | refine jn ?_ | refine jo ?_ | refine jp ?_ | refine jq ?_ | refine jr ?_ | refine js ?_ | refine jt ?_ | refine ju ?_ | refine jv ?_ | refine jw ?_ | refine jx ?_ | refine jy ?_) | (with_reducible refine jz ?_; refine jA (by first | (simp only [setAt, List.nil_append]; rfl) | rfl) ?_) | with_reducible refine jB (by decide) ?_ | (with_reducible refine jC ?_; first | refine jD rfl rfl rfl ?_ | refine jE rfl rfl rfl ?_) | ((first | (with_reducible refine jF ?_; first | refine jm rfl rfl rfl rfl ?_ | refine jG rfl rfl rfl rfl rfl ?_) | (with_reducible refine jH ?_; refine ja rfl rfl (je rfl rfl) ?_) | (with_reducible refine jI ?_; refine ja rfl rfl (jf rfl rfl) ?_) | (with_reducible refine jJ ?_; refine ja rfl rfl (jd rfl rfl rfl rfl rfl) ?_) | (with_reducible refine jK ?_; refine ja rfl rfl (jg rfl rfl rfl rfl) ?_) | (with_reducible refine jL ?_; first | refine ja rfl rfl (jh rfl rfl rfl rfl rfl rfl) ?_ | refine ja rfl rfl (ji rfl rfl rfl rfl rfl rfl) ?_) | (with_reducible refine jM ?_; refine ja rfl rfl (jj rfl rfl u24 rfl) ?_)); refine jc (by first | (simp only [setAt]; rfl) | rfl) ?_)))
    refine Wc.cond rfl rfl (fun h => ?_) (fun h => ?_)
    ·have hin : isOwn o n i = true := by
      have h' : o.getD i 0 = n := eq_of_beq h
      show (decide (0 < n) && decide (o.getD i 0 = n)) = true
      rw [decide_eq_true hn, decide_eq_true h']; rfl
     rw [if_pos hin] at hsucc
     (repeat (first | (with_reducible first | refine jk ?_ | refine jl ?_ | refine jn ?_ | refine jo ?_ | refine jp ?_ | refine jq ?_ | refine jr ?_ | refine js ?_ | refine jt ?_ | refine ju ?_ | refine jv ?_ | refine jw ?_ | refine jx ?_ | refine jy ?_) | (with_reducible refine jz ?_; refine jA (by first | (simp only [setAt, List.nil_append]; rfl) | rfl) ?_) | with_reducible refine jB (by decide) ?_ | (with_reducible refine jC ?_; first | refine jD rfl rfl rfl ?_ | refine jE rfl rfl rfl ?_) | ((first | (with_reducible refine jF ?_; first | refine jm rfl rfl rfl rfl ?_ | refine jG rfl rfl rfl rfl rfl ?_) | (with_reducible refine jH ?_; refine ja rfl rfl (je rfl rfl) ?_) | (with_reducible refine jI ?_; refine ja rfl rfl (jf rfl rfl) ?_) | (with_reducible refine jJ ?_; refine ja rfl rfl (jd rfl rfl rfl rfl rfl) ?_) | (with_reducible refine jK ?_; refine ja rfl rfl (jg rfl rfl rfl rfl) ?_) | (with_reducible refine jL ?_; first | refine ja rfl rfl (jh rfl rfl rfl rfl rfl rfl) ?_ | refine ja rfl rfl (ji rfl rfl rfl rfl rfl rfl) ?_) | (with_reducible refine jM ?_; refine ja rfl rfl (jj rfl rfl u24 rfl) ?_)); refine jc (by first | (simp only [setAt]; rfl) | rfl) ?_)))
     refine Wo.pushI ik rfl rfl rfl rfl rfl rfl rfl rfl rfl rfl rfl rfl hm (by omega) (fun z H' hm' => ?_)
     refine jc (by first | (simp only [setAt]; rfl) | rfl) ?_
     (repeat (first | (with_reducible first | refine jk ?_ | refine jl ?_ | refine jn ?_ | refine jo ?_ | refine jp ?_ | refine jq ?_ | refine jr ?_ | refine js ?_ | refine jt ?_ | refine ju ?_ | refine jv ?_ | refine jw ?_ | refine jx ?_ | refine jy ?_) | (with_reducible refine jz ?_; refine jA (by first | (simp only [setAt, List.nil_append]; rfl) | rfl) ?_) | with_reducible refine jB (by decide) ?_ | (with_reducible refine jC ?_; first | refine jD rfl rfl rfl ?_ | refine jE rfl rfl rfl ?_) | ((first | (with_reducible refine jF ?_; first | refine jm rfl rfl rfl rfl ?_ | refine jG rfl rfl rfl rfl rfl ?_) | (with_reducible refine jH ?_; refine ja rfl rfl (je rfl rfl) ?_) | (with_reducible refine jI ?_; refine ja rfl rfl (jf rfl rfl) ?_) | (with_reducible refine jJ ?_; refine ja rfl rfl (jd rfl rfl rfl rfl rfl) ?_) | (with_reducible refine jK ?_; refine ja rfl rfl (jg rfl rfl rfl rfl) ?_) | (with_reducible refine jL ?_; first | refine ja rfl rfl (jh rfl rfl rfl rfl rfl rfl) ?_ | refine ja rfl rfl (ji rfl rfl rfl rfl rfl rfl) ?_) | (with_reducible refine jM ?_; refine ja rfl rfl (jj rfl rfl u24 rfl) ?_)); refine jc (by first | (simp only [setAt]; rfl) | rfl) ?_)))
     refine LoopQ.normal (8 - (i + 1)) (by omega) ⟨i + 1, rfl, by omega, z, by rw [hsucc]; exact hm', dead_of ?_⟩
     rw [w64 (by omega)]; rfl
    ·have hin : isOwn o n i = false := by
      have h' : ¬ o.getD i 0 = n := ne_of_beq_false h
      show (decide (0 < n) && decide (o.getD i 0 = n)) = false
      rw [decide_eq_false h', Bool.and_false]
     rw [hin] at hsucc
     (repeat (first | (with_reducible first | refine jk ?_ | refine jl ?_ | refine jn ?_ | refine jo ?_ | refine jp ?_ | refine jq ?_ | refine jr ?_ | refine js ?_ | refine jt ?_ | refine ju ?_ | refine jv ?_ | refine jw ?_ | refine jx ?_ | refine jy ?_) | (with_reducible refine jz ?_; refine jA (by first | (simp only [setAt, List.nil_append]; rfl) | rfl) ?_) | with_reducible refine jB (by decide) ?_ | (with_reducible refine jC ?_; first | refine jD rfl rfl rfl ?_ | refine jE rfl rfl rfl ?_) | ((first | (with_reducible refine jF ?_; first | refine jm rfl rfl rfl rfl ?_ | refine jG rfl rfl rfl rfl rfl ?_) | (with_reducible refine jH ?_; refine ja rfl rfl (je rfl rfl) ?_) | (with_reducible refine jI ?_; refine ja rfl rfl (jf rfl rfl) ?_) | (with_reducible refine jJ ?_; refine ja rfl rfl (jd rfl rfl rfl rfl rfl) ?_) | (with_reducible refine jK ?_; refine ja rfl rfl (jg rfl rfl rfl rfl) ?_) | (with_reducible refine jL ?_; first | refine ja rfl rfl (jh rfl rfl rfl rfl rfl rfl) ?_ | refine ja rfl rfl (ji rfl rfl rfl rfl rfl rfl) ?_) | (with_reducible refine jM ?_; refine ja rfl rfl (jj rfl rfl u24 rfl) ?_)); refine jc (by first | (simp only [setAt]; rfl) | rfl) ?_)))
     refine LoopQ.normal (8 - (i + 1)) (by omega) ⟨i + 1, rfl, by omega, x, by rw [hsucc]; exact hm, dead_of ?_⟩
     rw [w64 (by omega)]; rfl
   ·have hn' : decide (n > 0) = false := by simpa using hn
    rw [hn']
    have hin : isOwn o n i = false := by simp [isOwn, hn]
    rw [hin] at hsucc
    (repeat (first | (with_reducible first | refine jk ?_ | refine jl ?_ | refine jn ?_ | refine jo ?_ | refine jp ?_ | refine jq ?_ | refine jr ?_ | refine js ?_ | refine jt ?_ | refine ju ?_ | refine jv ?_ | refine jw ?_ | refine jx ?_ | refine jy ?_) | (with_reducible refine jz ?_; refine jA (by first | (simp only [setAt, List.nil_append]; rfl) | rfl) ?_) | with_reducible refine jB (by decide) ?_ | (with_reducible refine jC ?_; first | refine jD rfl rfl rfl ?_ | refine jE rfl rfl rfl ?_) | ((first | (with_reducible refine jF ?_; first | refine jm rfl rfl rfl rfl ?_ | refine jG rfl rfl rfl rfl rfl ?_) | (with_reducible refine jH ?_; refine ja rfl rfl (je rfl rfl) ?_) | (with_reducible refine jI ?_; refine ja rfl rfl (jf rfl rfl) ?_) | (with_reducible refine jJ ?_; refine ja rfl rfl (jd rfl rfl rfl rfl rfl) ?_) | (with_reducible refine jK ?_; refine ja rfl rfl (jg rfl rfl rfl rfl) ?_) | (with_reducible refine jL ?_; first | refine ja rfl rfl (jh rfl rfl rfl rfl rfl rfl) ?_ | refine ja rfl rfl (ji rfl rfl rfl rfl rfl rfl) ?_) | (with_reducible refine jM ?_; refine ja rfl rfl (jj rfl rfl u24 rfl) ?_)); refine jc (by first | (simp only [setAt]; rfl) | rfl) ?_)))
    refine LoopQ.normal (8 - (i + 1)) (by omega) ⟨i + 1, rfl, by omega, x, by rw [hsucc]; exact hm, dead_of ?_⟩
    rw [w64 (by omega)]; rfl
  ·have h8 : i = 8 := by have := of_decide_eq_false h; omega
   subst h8
   (repeat (first | (with_reducible first | refine jk ?_ | refine jl ?_ | refine jn ?_ | refine jo ?_ | refine jp ?_ | refine jq ?_ | refine jr ?_ | refine js ?_ | refine jt ?_ | refine ju ?_ | refine jv ?_ | refine jw ?_ | refine jx ?_ | refine jy ?_) | (with_reducible refine jz ?_; refine jA (by first | (simp only [setAt, List.nil_append]; rfl) | rfl) ?_) | with_reducible refine jB (by decide) ?_ | (with_reducible refine jC ?_; first | refine jD rfl rfl rfl ?_ | refine jE rfl rfl rfl ?_) | ((first | (with_reducible refine jF ?_; first | refine jm rfl rfl rfl rfl ?_ | refine jG rfl rfl rfl rfl rfl ?_) | (with_reducible refine jH ?_; refine ja rfl rfl (je rfl rfl) ?_) | (with_reducible refine jI ?_; refine ja rfl rfl (jf rfl rfl) ?_) | (with_reducible refine jJ ?_; refine ja rfl rfl (jd rfl rfl rfl rfl rfl) ?_) | (with_reducible refine jK ?_; refine ja rfl rfl (jg rfl rfl rfl rfl) ?_) | (with_reducible refine jL ?_; first | refine ja rfl rfl (jh rfl rfl rfl rfl rfl rfl) ?_ | refine ja rfl rfl (ji rfl rfl rfl rfl rfl rfl) ?_) | (with_reducible refine jM ?_; refine ja rfl rfl (jj rfl rfl u24 rfl) ?_)); refine jc (by first | (simp only [setAt]; rfl) | rfl) ?_)))
   obtain ⟨tl, h1, h2, _⟩ := hm.snapped
   exact EndQ.ret (r := x) rfl ⟨_, h1, by simp [AV.closed], ⟨tl, rfl, h2⟩, rfl⟩
end Go.Proofs
end
section
namespace Go.Tm
theorem Wd.void {K : Cfg} {f : FuncId} {ops : Array Oper} {Q : St → Prop} {R : List AV} {own : Nat → Nat} {H : List AB} {o : Oper} {l : List Oper} {j d : Nat} {want : Bool} (hg : o.guard = some (j, want)) (hd : o.dst = some d) (hy : aYield R ops j = none) (h : Wd K f ops l ⟨setAt R d .undef, own, H⟩ Q) : Wd K f ops (o :: l) ⟨R, own, H⟩ Q := by
 refine ⟨{ i := 0, o, bef := 0, s := ⟨R, own, H⟩, s' := ⟨setAt R d .undef, own, H⟩, x := .undef, k := 0, run := false }, 0, fun n _ => ?_, .inl rfl, rfl, h⟩
 unfold aTr
 simp only [hg, hy, aTrSkip, hd]; rfl
end Go.Tm
namespace Go.Proofs
open Go.Tm Go.Proofs.RgPlain
set_option maxRecDepth 100000
theorem sorted_same {a b : List Int} (ha : a.Pairwise (· < ·)) (hb : b.Pairwise (· < ·)) (h : ∀ n, n ∈ a ↔ n ∈ b) : a = b := by
 have na : a.Nodup := ha.imp fun h => by omega
 have nb : b.Nodup := hb.imp fun h => by omega
 exact ((List.perm_ext_iff_of_nodup na nb).2 h).eq_of_pairwise (le := fun x y => x < y) (fun x y _ _ p q => by omega) ha hb
theorem get_i64 {xs : List Int} {j : Nat} (h : j < xs.length) : (xs.map i64)[j]? = some (i64 xs[j]) := by simp [List.getElem?_map, List.getElem?_eq_getElem h]
theorem all_one (xs : List Int) : (xs.map i64).all (fun y => y.cells.length == 0 + 1) = true := by simp [AV.cells]
theorem closed_flat (xs : List Int) : AV.closedL ((xs.map i64).flatMap AV.cells) = true := by
 induction xs with
 | nil => rfl
 | cons x r ih => simp only [List.map_cons, List.flatMap_cons]; exact ih
theorem put_sorted {cur : List Int} {n : Int} {j : Nat} (hs : cur.Pairwise (· < ·)) (h1 : ∀ x ∈ cur.take j, x < n) (hj : j ≤ cur.length) (h2 : ∀ h : j < cur.length, n < cur[j]) : (cur.take j ++ [n] ++ cur.drop j).Pairwise (· < ·) := by
 have hd : ∀ x ∈ cur.drop j, n < x := fun x hx => by
  by_cases hlt : j < cur.length
  ·rw [List.drop_eq_getElem_cons hlt] at hx
   have hsd : (cur.drop j).Pairwise (· < ·) := hs.sublist (List.drop_sublist _ _)
   rw [List.drop_eq_getElem_cons hlt, List.pairwise_cons] at hsd
   rcases List.mem_cons.1 hx with rfl | hx
   ·exact h2 hlt
   ·exact Int.lt_trans (h2 hlt) (hsd.1 x hx)
  ·rw [List.drop_eq_nil_of_le (by omega)] at hx; simp at hx
 rw [List.append_assoc, List.pairwise_append]
 refine ⟨hs.sublist (List.take_sublist _ _), ?_, fun a ha b hb => ?_⟩
 ·rw [List.singleton_append, List.pairwise_cons]
  exact ⟨hd, hs.sublist (List.drop_sublist _ _)⟩
 ·rcases List.mem_append.1 hb with hb | hb
  ·rw [List.mem_singleton] at hb; subst hb; exact h1 a ha
  ·exact Int.lt_trans (h1 a ha) (hd b hb)
set_option maxHeartbeats 8000000 in
theorem rthose_tells (ms : List Int) (tl : Tail) (htl : tl.un = tl) (hl : ms.length ≤ 17592186043904) (H : List AB) : Tells Kz 25 [.sl (ms.map i64) tl] H fun r H' => (∃ tl', r = .sl ((those ms).map i64) tl') ∧ H' = H := by
 have hcl : AV.closedL [.sl (ms.map i64) tl] = true := by simp [AV.closedL, AV.closed]
 refine Tells.vals (c := _) Try.func25 rfl (args' := [.sl (ms.map i64) tl]) (m := 69) (by simp only [List.map, unown_sl, htl]) rfl rfl rfl (by rw [hcl]; rfl) ?_
 obtain ⟨info, hinfo, hbytes⟩ := in3
 (repeat (first | (with_reducible first | refine jk ?_ | refine jl ?_ | refine jn ?_ | refine jo ?_ | refine jp ?_ | refine jq ?_ | refine jr ?_ | refine js ?_ | refine jt ?_ | refine ju ?_ | refine jv ?_ | refine jw ?_ | refine jx ?_ | refine jy ?_) | (with_reducible refine jz ?_; refine jA (by first | (simp only [setAt, enter, List.replicate, List.cons_append, List.nil_append]; rfl) | rfl) ?_) | with_reducible refine jB (by decide) ?_ | (with_reducible refine jC ?_; first | refine jD rfl rfl rfl ?_ | refine jE rfl rfl rfl ?_) | ((first | (with_reducible refine jF ?_; first | refine jm rfl rfl rfl rfl ?_ | refine jG rfl rfl rfl rfl rfl ?_) | (with_reducible refine jH ?_; refine ja rfl rfl (je rfl rfl) ?_) | (with_reducible refine jI ?_; refine ja rfl rfl (jf rfl rfl) ?_) | (with_reducible refine jJ ?_; refine ja rfl rfl (jd rfl rfl rfl rfl rfl) ?_) | (with_reducible refine jK ?_; refine ja rfl rfl (jg rfl rfl rfl rfl) ?_) | (with_reducible refine jL ?_; first | refine ja rfl rfl (jh rfl rfl rfl rfl rfl rfl) ?_ | refine ja rfl rfl (ji rfl rfl rfl rfl rfl rfl) ?_) | (with_reducible refine jM ?_; refine ja rfl rfl (jj rfl rfl u24 rfl) ?_)); refine jc (by first | (simp only [setAt]; rfl) | rfl) ?_)))
 refine Wc.inv (fun m s => ∃ (i : Nat) (cur : List Int) (tc : Tail), m = ms.length - i ∧ i ≤ ms.length ∧ s.H = [] ∧ cur.Pairwise (· < ·) ∧ (∀ n, n ∈ cur ↔ 0 < n ∧ n ∈ ms.take i) ∧ cur.length ≤ i ∧ ∃ d : Nat → AV, s.regs = (.sl (ms.map i64) tl :: d 1 :: d 2 :: .sl (cur.map i64) tc :: i64 i :: d 5 :: d 6 :: d 7 :: d 8 :: d 9 :: d 10 :: d 11 :: d 12 :: d 13 :: d 14 :: d 15 :: d 16 :: d 17 :: d 18 :: d 19 :: d 20 :: d 21 :: d 22 :: d 23 :: d 24 :: d 25 :: d 26 :: d 27 :: d 28 :: d 29 :: d 30 :: d 31 :: d 32 :: d 33 :: d 34 :: d 35 :: d 36 :: d 37 :: d 38 :: d 39 :: d 40 :: d 41 :: d 42 :: d 43 :: d 44 :: d 45 :: d 46 :: d 47 :: d 48 :: d 49 :: d 50 :: d 51 :: d 52 :: d 53 :: d 54 :: d 55 :: d 56 :: d 57 :: d 58 :: d 59 :: d 60 :: d 61 :: d 62 :: d 63 :: d 64 :: d 65 :: d 66 :: d 67 :: d 68 :: d 69 :: [])) ms.length ?_ ?_
 ·exact ⟨0, [], .nil, by omega, by omega, rfl, List.Pairwise.nil, by simp, by simp, dead_of rfl⟩
 ·rintro m regs own H1 ⟨i, cur, tc, rfl, hi, hH, hs, hmem, hcl, d, rfl⟩
  simp only at hH
  subst hH
  (repeat (first | (with_reducible first | refine jk ?_ | refine jl ?_ | refine jn ?_ | refine jo ?_ | refine jp ?_ | refine jq ?_ | refine jr ?_ | refine js ?_ | refine jt ?_ | refine ju ?_ | refine jv ?_ | refine jw ?_ | refine jx ?_ | refine jy ?_) | (with_reducible refine jz ?_; refine jA (by first | (simp only [setAt, List.nil_append]; rfl) | rfl) ?_) | with_reducible refine jB (by decide) ?_ | (with_reducible refine jC ?_; first | refine jD rfl rfl rfl ?_ | refine jE rfl rfl rfl ?_) | ((first | (with_reducible refine jF ?_; first | refine jm rfl rfl rfl rfl ?_ | refine jG rfl rfl rfl rfl rfl ?_) | (with_reducible refine jH ?_; refine ja rfl rfl (je rfl rfl) ?_) | (with_reducible refine jI ?_; refine ja rfl rfl (jf rfl rfl) ?_) | (with_reducible refine jJ ?_; refine ja rfl rfl (jd rfl rfl rfl rfl rfl) ?_) | (with_reducible refine jK ?_; refine ja rfl rfl (jg rfl rfl rfl rfl) ?_) | (with_reducible refine jL ?_; first | refine ja rfl rfl (jh rfl rfl rfl rfl rfl rfl) ?_ | refine ja rfl rfl (ji rfl rfl rfl rfl rfl rfl) ?_) | (with_reducible refine jM ?_; refine ja rfl rfl (jj rfl rfl u24 rfl) ?_)); refine jc (by first | (simp only [setAt]; rfl) | rfl) ?_)))
  rw [List.length_map]
  refine Wc.cond rfl rfl (fun h => ?_) (fun h => ?_)
  ·have hlt : i < ms.length := by simpa [goInt] using h
   clear h
   (repeat (first | (with_reducible first | refine jk ?_ | refine jl ?_ | refine jn ?_ | refine jo ?_ | refine jp ?_ | refine jq ?_ | refine jr ?_ | refine js ?_ | refine jt ?_ | refine ju ?_ | refine jv ?_ | refine jw ?_ | refine jx ?_ | refine jy ?_) | (with_reducible refine jz ?_; refine jA (by first | (simp only [setAt, List.nil_append]; rfl) | rfl) ?_) | with_reducible refine jB (by decide) ?_ | (with_reducible refine jC ?_; first | refine jD rfl rfl rfl ?_ | refine jE rfl rfl rfl ?_) | ((first | (with_reducible refine jF ?_; first | refine jm rfl rfl rfl rfl ?_ | refine jG rfl rfl rfl rfl rfl ?_) | (with_reducible refine jH ?_; refine ja rfl rfl (je rfl rfl) ?_) | (with_reducible refine jI ?_; refine ja rfl rfl (jf rfl rfl) ?_) | (with_reducible refine jJ ?_; refine ja rfl rfl (jd rfl rfl rfl rfl rfl) ?_) | (with_reducible refine jK ?_; refine ja rfl rfl (jg rfl rfl rfl rfl) ?_) | (with_reducible refine jL ?_; first | refine ja rfl rfl (jh rfl rfl rfl rfl rfl rfl) ?_ | refine ja rfl rfl (ji rfl rfl rfl rfl rfl rfl) ?_) | (with_reducible refine jM ?_; refine ja rfl rfl (jj rfl rfl u24 rfl) ?_)); refine jc (by first | (simp only [setAt]; rfl) | rfl) ?_)))
   refine Wc.inv (fun m s => ∃ (j : Nat), m = cur.length - j ∧ j ≤ cur.length ∧ s.H = [] ∧ (∀ x ∈ cur.take j, x < ms[i]) ∧ ∃ d : Nat → AV, s.regs = (.sl (ms.map i64) tl :: d 1 :: d 2 :: .sl (cur.map i64) tc :: i64 i :: i64 j :: d 6 :: d 7 :: d 8 :: d 9 :: d 10 :: d 11 :: d 12 :: d 13 :: d 14 :: d 15 :: d 16 :: d 17 :: d 18 :: d 19 :: d 20 :: d 21 :: d 22 :: d 23 :: d 24 :: d 25 :: d 26 :: d 27 :: d 28 :: d 29 :: d 30 :: d 31 :: d 32 :: d 33 :: d 34 :: d 35 :: d 36 :: d 37 :: d 38 :: d 39 :: d 40 :: d 41 :: d 42 :: d 43 :: d 44 :: d 45 :: d 46 :: d 47 :: d 48 :: d 49 :: d 50 :: d 51 :: d 52 :: d 53 :: d 54 :: d 55 :: d 56 :: d 57 :: d 58 :: d 59 :: d 60 :: d 61 :: d 62 :: d 63 :: d 64 :: d 65 :: d 66 :: d 67 :: d 68 :: d 69 :: [])) cur.length ?_ ?_
   ·exact ⟨0, by omega, by omega, rfl, by simp, dead_of rfl⟩
   ·clear d
    rintro m regs own H1 ⟨j, rfl, hj, hH, hpre, d, rfl⟩
    simp only at hH
    subst hH
    (repeat (first | (with_reducible first | refine jk ?_ | refine jl ?_ | refine jn ?_ | refine jo ?_ | refine jp ?_ | refine jq ?_ | refine jr ?_ | refine js ?_ | refine jt ?_ | refine ju ?_ | refine jv ?_ | refine jw ?_ | refine jx ?_ | refine jy ?_) | (with_reducible refine jz ?_; refine jA (by first | (simp only [setAt, List.nil_append]; rfl) | rfl) ?_) | with_reducible refine jB (by decide) ?_ | (with_reducible refine jC ?_; first | refine jD rfl rfl rfl ?_ | refine jE rfl rfl rfl ?_) | ((first | (with_reducible refine jF ?_; first | refine jm rfl rfl rfl rfl ?_ | refine jG rfl rfl rfl rfl rfl ?_) | (with_reducible refine jH ?_; refine ja rfl rfl (je rfl rfl) ?_) | (with_reducible refine jI ?_; refine ja rfl rfl (jf rfl rfl) ?_) | (with_reducible refine jJ ?_; refine ja rfl rfl (jd rfl rfl rfl rfl rfl) ?_) | (with_reducible refine jK ?_; refine ja rfl rfl (jg rfl rfl rfl rfl) ?_) | (with_reducible refine jL ?_; first | refine ja rfl rfl (jh rfl rfl rfl rfl rfl rfl) ?_ | refine ja rfl rfl (ji rfl rfl rfl rfl rfl rfl) ?_) | (with_reducible refine jM ?_; refine ja rfl rfl (jj rfl rfl u24 rfl) ?_)); refine jc (by first | (simp only [setAt]; rfl) | rfl) ?_)))
    refine Wc.mid (fun s => s.H = [] ∧ ∃ d : Nat → AV, s.regs = (.sl (ms.map i64) tl :: d 1 :: d 2 :: .sl (cur.map i64) tc :: i64 i :: i64 j :: d 6 :: d 7 :: d 8 :: d 9 :: d 10 :: d 11 :: d 12 :: d 13 :: d 14 :: d 15 :: d 16 :: d 17 :: d 18 :: d 19 :: d 20 :: d 21 :: d 22 :: d 23 :: d 24 :: d 25 :: d 26 :: .v (.bool (decide (∃ h : j < cur.length, cur[j] < ms[i]))) :: d 28 :: d 29 :: d 30 :: d 31 :: d 32 :: d 33 :: d 34 :: d 35 :: d 36 :: d 37 :: d 38 :: d 39 :: d 40 :: d 41 :: d 42 :: d 43 :: d 44 :: d 45 :: d 46 :: d 47 :: d 48 :: d 49 :: d 50 :: d 51 :: d 52 :: d 53 :: d 54 :: d 55 :: d 56 :: d 57 :: d 58 :: d 59 :: d 60 :: d 61 :: d 62 :: d 63 :: d 64 :: d 65 :: d 66 :: d 67 :: d 68 :: d 69 :: [])) ?_ ?_
    ·refine Wc.drawn rfl (by kernel_rfl) ?_
     (repeat (with_reducible refine jQ ?_; first | refine jR ?_ | (refine jS rfl rfl rfl rfl rfl ?_; refine jN (by first | (simp only [setAt]; rfl) | rfl) ?_) | ((first | refine jO rfl rfl ?_ | refine jP rfl rfl rfl rfl ?_); (first | refine jb rfl (je rfl rfl) rfl ?_ | refine jb rfl (jf rfl rfl) rfl ?_ | refine jb rfl (jd rfl rfl rfl rfl rfl) rfl ?_ | refine jb rfl (jg rfl rfl rfl rfl) rfl ?_ | refine jb rfl (jh rfl rfl rfl rfl rfl rfl) rfl ?_ | refine jb rfl (ji rfl rfl rfl rfl rfl rfl) rfl ?_ | refine jb rfl (jj rfl rfl (by first | with_reducible exact u24) rfl) rfl ?_ | refine jb rfl (jT rfl rfl (by first | with_reducible exact u24) rfl) rfl ?_); refine jN (by first | (simp only [setAt]; rfl) | rfl) ?_)))
     rw [List.length_map]
     by_cases hjl : j < cur.length
     ·rw [show decide ((j : Int) < (cur.length : Int)) = true from decide_eq_true (by omega)]
      rw [show decide (∃ h : j < cur.length, cur[j] < ms[i]) = decide (cur[j] < ms[i]) by simp [hjl]]
      (repeat (with_reducible refine jQ ?_; first | refine jR ?_ | (refine jS rfl rfl rfl rfl rfl ?_; refine jN (by first | (simp only [setAt]; rfl) | rfl) ?_) | ((first | refine jO rfl rfl ?_ | refine jP rfl rfl rfl rfl ?_); (first | refine jb rfl (je rfl rfl) rfl ?_ | refine jb rfl (jf rfl rfl) rfl ?_ | refine jb rfl (jd rfl rfl rfl rfl rfl) rfl ?_ | refine jb rfl (jg rfl rfl rfl rfl) rfl ?_ | refine jb rfl (jh rfl rfl rfl rfl rfl rfl) rfl ?_ | refine jb rfl (ji rfl rfl rfl rfl rfl rfl) rfl ?_ | refine jb rfl (jj rfl rfl (by first | with_reducible exact u24) rfl) rfl ?_ | refine jb rfl (jT rfl rfl (by first | with_reducible exact u24) rfl) rfl ?_); refine jN (by first | (simp only [setAt]; rfl) | rfl) ?_)))
      ((first | refine jO rfl rfl ?_ | refine jP rfl rfl rfl rfl ?_); refine jb rfl (op_indexAddr_sl (sz := 0) (j := j) (el := i64 cur[j]) rfl rfl u24 sz3 rfl rfl rfl (get_i64 hjl) rfl) rfl ?_; refine jN (by first | (simp only [setAt]; rfl) | rfl) ?_)
      ((first | refine jO rfl rfl ?_ | refine jP rfl rfl rfl rfl ?_); refine jb rfl (op_load_rp (v := i64 cur[j]) rfl rfl (take_one ag3 sz3)) rfl ?_; refine jN (by first | (simp only [setAt]; rfl) | rfl) ?_)
      (repeat (with_reducible refine jQ ?_; first | refine jR ?_ | (refine jS rfl rfl rfl rfl rfl ?_; refine jN (by first | (simp only [setAt]; rfl) | rfl) ?_) | ((first | refine jO rfl rfl ?_ | refine jP rfl rfl rfl rfl ?_); (first | refine jb rfl (je rfl rfl) rfl ?_ | refine jb rfl (jf rfl rfl) rfl ?_ | refine jb rfl (jd rfl rfl rfl rfl rfl) rfl ?_ | refine jb rfl (jg rfl rfl rfl rfl) rfl ?_ | refine jb rfl (jh rfl rfl rfl rfl rfl rfl) rfl ?_ | refine jb rfl (ji rfl rfl rfl rfl rfl rfl) rfl ?_ | refine jb rfl (jj rfl rfl (by first | with_reducible exact u24) rfl) rfl ?_ | refine jb rfl (jT rfl rfl (by first | with_reducible exact u24) rfl) rfl ?_); refine jN (by first | (simp only [setAt]; rfl) | rfl) ?_)))
      ((first | refine jO rfl rfl ?_ | refine jP rfl rfl rfl rfl ?_); refine jb rfl (op_indexAddr_sl (sz := 0) (j := i) (el := i64 ms[i]) rfl rfl u24 sz3 rfl rfl rfl (get_i64 hlt) rfl) rfl ?_; refine jN (by first | (simp only [setAt]; rfl) | rfl) ?_)
      ((first | refine jO rfl rfl ?_ | refine jP rfl rfl rfl rfl ?_); refine jb rfl (op_load_rp (v := i64 ms[i]) rfl rfl (take_one ag3 sz3)) rfl ?_; refine jN (by first | (simp only [setAt]; rfl) | rfl) ?_)
      (repeat (with_reducible refine jQ ?_; first | refine jR ?_ | (refine jS rfl rfl rfl rfl rfl ?_; refine jN (by first | (simp only [setAt]; rfl) | rfl) ?_) | ((first | refine jO rfl rfl ?_ | refine jP rfl rfl rfl rfl ?_); (first | refine jb rfl (je rfl rfl) rfl ?_ | refine jb rfl (jf rfl rfl) rfl ?_ | refine jb rfl (jd rfl rfl rfl rfl rfl) rfl ?_ | refine jb rfl (jg rfl rfl rfl rfl) rfl ?_ | refine jb rfl (jh rfl rfl rfl rfl rfl rfl) rfl ?_ | refine jb rfl (ji rfl rfl rfl rfl rfl rfl) rfl ?_ | refine jb rfl (jj rfl rfl (by first | with_reducible exact u24) rfl) rfl ?_ | refine jb rfl (jT rfl rfl (by first | with_reducible exact u24) rfl) rfl ?_); refine jN (by first | (simp only [setAt]; rfl) | rfl) ?_)))
      exact ⟨rfl, rfl, dead_of rfl⟩
     ·rw [show decide ((j : Int) < (cur.length : Int)) = false from decide_eq_false (by omega)]
      rw [show decide (∃ h : j < cur.length, cur[j] < ms[i]) = false by simp [hjl]]
      (repeat (with_reducible refine jQ ?_; first | refine jR ?_ | (refine jS rfl rfl rfl rfl rfl ?_; refine jN (by first | (simp only [setAt]; rfl) | rfl) ?_) | ((first | refine jO rfl rfl ?_ | refine jP rfl rfl rfl rfl ?_); (first | refine jb rfl (je rfl rfl) rfl ?_ | refine jb rfl (jf rfl rfl) rfl ?_ | refine jb rfl (jd rfl rfl rfl rfl rfl) rfl ?_ | refine jb rfl (jg rfl rfl rfl rfl) rfl ?_ | refine jb rfl (jh rfl rfl rfl rfl rfl rfl) rfl ?_ | refine jb rfl (ji rfl rfl rfl rfl rfl rfl) rfl ?_ | refine jb rfl (jj rfl rfl (by first | with_reducible exact u24) rfl) rfl ?_ | refine jb rfl (jT rfl rfl (by first | with_reducible exact u24) rfl) rfl ?_); refine jN (by first | (simp only [setAt]; rfl) | rfl) ?_)))
      exact ⟨rfl, rfl, dead_of rfl⟩
    ·clear d
     rintro regs own H1 ⟨hH, d, rfl⟩
     simp only at hH
     subst hH
     (repeat (first | (with_reducible first | refine jk ?_ | refine jl ?_ | refine jn ?_ | refine jo ?_ | refine jp ?_ | refine jq ?_ | refine jr ?_ | refine js ?_ | refine jt ?_ | refine ju ?_ | refine jv ?_ | refine jw ?_ | refine jx ?_ | refine jy ?_) | (with_reducible refine jz ?_; refine jA (by first | (simp only [setAt, List.nil_append]; rfl) | rfl) ?_) | with_reducible refine jB (by decide) ?_ | (with_reducible refine jC ?_; first | refine jD rfl rfl rfl ?_ | refine jE rfl rfl rfl ?_) | ((first | (with_reducible refine jF ?_; first | refine jm rfl rfl rfl rfl ?_ | refine jG rfl rfl rfl rfl rfl ?_) | (with_reducible refine jH ?_; refine ja rfl rfl (je rfl rfl) ?_) | (with_reducible refine jI ?_; refine ja rfl rfl (jf rfl rfl) ?_) | (with_reducible refine jJ ?_; refine ja rfl rfl (jd rfl rfl rfl rfl rfl) ?_) | (with_reducible refine jK ?_; refine ja rfl rfl (jg rfl rfl rfl rfl) ?_) | (with_reducible refine jL ?_; first | refine ja rfl rfl (jh rfl rfl rfl rfl rfl rfl) ?_ | refine ja rfl rfl (ji rfl rfl rfl rfl rfl rfl) ?_) | (with_reducible refine jM ?_; refine ja rfl rfl (jj rfl rfl u24 rfl) ?_)); refine jc (by first | (simp only [setAt]; rfl) | rfl) ?_)))
     refine Wc.cond rfl rfl (fun h => ?_) (fun h => ?_)
     ·obtain ⟨hjl, hlt2⟩ := of_decide_eq_true h
      clear h
      (repeat (first | (with_reducible first | refine jk ?_ | refine jl ?_ | refine jn ?_ | refine jo ?_ | refine jp ?_ | refine jq ?_ | refine jr ?_ | refine js ?_ | refine jt ?_ | refine ju ?_ | refine jv ?_ | refine jw ?_ | refine jx ?_ | refine jy ?_) | (with_reducible refine jz ?_; refine jA (by first | (simp only [setAt, List.nil_append]; rfl) | rfl) ?_) | with_reducible refine jB (by decide) ?_ | (with_reducible refine jC ?_; first | refine jD rfl rfl rfl ?_ | refine jE rfl rfl rfl ?_) | ((first | (with_reducible refine jF ?_; first | refine jm rfl rfl rfl rfl ?_ | refine jG rfl rfl rfl rfl rfl ?_) | (with_reducible refine jH ?_; refine ja rfl rfl (je rfl rfl) ?_) | (with_reducible refine jI ?_; refine ja rfl rfl (jf rfl rfl) ?_) | (with_reducible refine jJ ?_; refine ja rfl rfl (jd rfl rfl rfl rfl rfl) ?_) | (with_reducible refine jK ?_; refine ja rfl rfl (jg rfl rfl rfl rfl) ?_) | (with_reducible refine jL ?_; first | refine ja rfl rfl (jh rfl rfl rfl rfl rfl rfl) ?_ | refine ja rfl rfl (ji rfl rfl rfl rfl rfl rfl) ?_) | (with_reducible refine jM ?_; refine ja rfl rfl (jj rfl rfl u24 rfl) ?_)); refine jc (by first | (simp only [setAt]; rfl) | rfl) ?_)))
      refine LoopQ.normal (cur.length - (j + 1)) (by omega) ⟨j + 1, rfl, by omega, rfl, ?_, dead_of ?_⟩
      ·intro x hx
       rw [List.take_add_one, List.getElem?_eq_getElem hjl, List.mem_append] at hx
       rcases hx with hx | hx
       ·exact hpre x hx
       ·rw [Option.toList_some, List.mem_singleton] at hx; subst hx; exact hlt2
      ·rw [w64 (by omega)]; rfl
     ·have hno : ∀ h : j < cur.length, ¬ cur[j] < ms[i] := fun q1 q2 => of_decide_eq_false h ⟨q1, q2⟩
      clear h
      (repeat (first | (with_reducible first | refine jk ?_ | refine jl ?_ | refine jn ?_ | refine jo ?_ | refine jp ?_ | refine jq ?_ | refine jr ?_ | refine js ?_ | refine jt ?_ | refine ju ?_ | refine jv ?_ | refine jw ?_ | refine jx ?_ | refine jy ?_) | (with_reducible refine jz ?_; refine jA (by first | (simp only [setAt, List.nil_append]; rfl) | rfl) ?_) | with_reducible refine jB (by decide) ?_ | (with_reducible refine jC ?_; first | refine jD rfl rfl rfl ?_ | refine jE rfl rfl rfl ?_) | ((first | (with_reducible refine jF ?_; first | refine jm rfl rfl rfl rfl ?_ | refine jG rfl rfl rfl rfl rfl ?_) | (with_reducible refine jH ?_; refine ja rfl rfl (je rfl rfl) ?_) | (with_reducible refine jI ?_; refine ja rfl rfl (jf rfl rfl) ?_) | (with_reducible refine jJ ?_; refine ja rfl rfl (jd rfl rfl rfl rfl rfl) ?_) | (with_reducible refine jK ?_; refine ja rfl rfl (jg rfl rfl rfl rfl) ?_) | (with_reducible refine jL ?_; first | refine ja rfl rfl (jh rfl rfl rfl rfl rfl rfl) ?_ | refine ja rfl rfl (ji rfl rfl rfl rfl rfl rfl) ?_) | (with_reducible refine jM ?_; refine ja rfl rfl (jj rfl rfl u24 rfl) ?_)); refine jc (by first | (simp only [setAt]; rfl) | rfl) ?_)))
      refine Wc.mid (fun s => s.H = [] ∧ s.own = own ∧ ∃ d : Nat → AV, s.regs = (.sl (ms.map i64) tl :: d 1 :: d 2 :: .sl (cur.map i64) tc :: i64 i :: i64 j :: d 6 :: d 7 :: d 8 :: d 9 :: d 10 :: d 11 :: d 12 :: d 13 :: d 14 :: d 15 :: d 16 :: d 17 :: d 18 :: d 19 :: d 20 :: d 21 :: d 22 :: d 23 :: d 24 :: d 25 :: d 26 :: d 27 :: d 28 :: d 29 :: d 30 :: d 31 :: d 32 :: d 33 :: d 34 :: d 35 :: d 36 :: d 37 :: d 38 :: d 39 :: d 40 :: d 41 :: d 42 :: d 43 :: d 44 :: d 45 :: d 46 :: d 47 :: d 48 :: d 49 :: d 50 :: .v (.bool (decide (ms[i] ≤ 0 ∨ ∃ h : j < cur.length, cur[j] = ms[i]))) :: d 52 :: d 53 :: d 54 :: d 55 :: d 56 :: d 57 :: d 58 :: d 59 :: d 60 :: d 61 :: d 62 :: d 63 :: d 64 :: d 65 :: d 66 :: d 67 :: d 68 :: d 69 :: [])) ?_ ?_
      ·refine Wc.drawn rfl (by kernel_rfl) ?_
       (repeat (with_reducible refine jQ ?_; first | refine jR ?_ | (refine jS rfl rfl rfl rfl rfl ?_; refine jN (by first | (simp only [setAt]; rfl) | rfl) ?_) | ((first | refine jO rfl rfl ?_ | refine jP rfl rfl rfl rfl ?_); (first | refine jb rfl (je rfl rfl) rfl ?_ | refine jb rfl (jf rfl rfl) rfl ?_ | refine jb rfl (jd rfl rfl rfl rfl rfl) rfl ?_ | refine jb rfl (jg rfl rfl rfl rfl) rfl ?_ | refine jb rfl (jh rfl rfl rfl rfl rfl rfl) rfl ?_ | refine jb rfl (ji rfl rfl rfl rfl rfl rfl) rfl ?_ | refine jb rfl (jj rfl rfl (by first | with_reducible exact u24) rfl) rfl ?_ | refine jb rfl (jT rfl rfl (by first | with_reducible exact u24) rfl) rfl ?_); refine jN (by first | (simp only [setAt]; rfl) | rfl) ?_)))
       ((first | refine jO rfl rfl ?_ | refine jP rfl rfl rfl rfl ?_); refine jb rfl (op_indexAddr_sl (sz := 0) (j := i) (el := i64 ms[i]) rfl rfl u24 sz3 rfl rfl rfl (get_i64 hlt) rfl) rfl ?_; refine jN (by first | (simp only [setAt]; rfl) | rfl) ?_)
       ((first | refine jO rfl rfl ?_ | refine jP rfl rfl rfl rfl ?_); refine jb rfl (op_load_rp (v := i64 ms[i]) rfl rfl (take_one ag3 sz3)) rfl ?_; refine jN (by first | (simp only [setAt]; rfl) | rfl) ?_)
       (repeat (with_reducible refine jQ ?_; first | refine jR ?_ | (refine jS rfl rfl rfl rfl rfl ?_; refine jN (by first | (simp only [setAt]; rfl) | rfl) ?_) | ((first | refine jO rfl rfl ?_ | refine jP rfl rfl rfl rfl ?_); (first | refine jb rfl (je rfl rfl) rfl ?_ | refine jb rfl (jf rfl rfl) rfl ?_ | refine jb rfl (jd rfl rfl rfl rfl rfl) rfl ?_ | refine jb rfl (jg rfl rfl rfl rfl) rfl ?_ | refine jb rfl (jh rfl rfl rfl rfl rfl rfl) rfl ?_ | refine jb rfl (ji rfl rfl rfl rfl rfl rfl) rfl ?_ | refine jb rfl (jj rfl rfl (by first | with_reducible exact u24) rfl) rfl ?_ | refine jb rfl (jT rfl rfl (by first | with_reducible exact u24) rfl) rfl ?_); refine jN (by first | (simp only [setAt]; rfl) | rfl) ?_)))
       by_cases hp : ms[i] ≤ 0
       ·rw [show decide (ms[i] ≤ 0 ∨ ∃ h : j < cur.length, cur[j] = ms[i]) = true from decide_eq_true (.inl hp)]
        rw [show decide (ms[i] ≤ 0) = true from decide_eq_true hp]
        (repeat (with_reducible refine jQ ?_; first | refine jR ?_ | (refine jS rfl rfl rfl rfl rfl ?_; refine jN (by first | (simp only [setAt]; rfl) | rfl) ?_) | ((first | refine jO rfl rfl ?_ | refine jP rfl rfl rfl rfl ?_); (first | refine jb rfl (je rfl rfl) rfl ?_ | refine jb rfl (jf rfl rfl) rfl ?_ | refine jb rfl (jd rfl rfl rfl rfl rfl) rfl ?_ | refine jb rfl (jg rfl rfl rfl rfl) rfl ?_ | refine jb rfl (jh rfl rfl rfl rfl rfl rfl) rfl ?_ | refine jb rfl (ji rfl rfl rfl rfl rfl rfl) rfl ?_ | refine jb rfl (jj rfl rfl (by first | with_reducible exact u24) rfl) rfl ?_ | refine jb rfl (jT rfl rfl (by first | with_reducible exact u24) rfl) rfl ?_); refine jN (by first | (simp only [setAt]; rfl) | rfl) ?_)))
        (repeat (refine Wd.void rfl rfl rfl ?_; refine jN (by first | (simp only [setAt]; rfl) | rfl) ?_))
        (repeat (with_reducible refine jQ ?_; first | refine jR ?_ | (refine jS rfl rfl rfl rfl rfl ?_; refine jN (by first | (simp only [setAt]; rfl) | rfl) ?_) | ((first | refine jO rfl rfl ?_ | refine jP rfl rfl rfl rfl ?_); (first | refine jb rfl (je rfl rfl) rfl ?_ | refine jb rfl (jf rfl rfl) rfl ?_ | refine jb rfl (jd rfl rfl rfl rfl rfl) rfl ?_ | refine jb rfl (jg rfl rfl rfl rfl) rfl ?_ | refine jb rfl (jh rfl rfl rfl rfl rfl rfl) rfl ?_ | refine jb rfl (ji rfl rfl rfl rfl rfl rfl) rfl ?_ | refine jb rfl (jj rfl rfl (by first | with_reducible exact u24) rfl) rfl ?_ | refine jb rfl (jT rfl rfl (by first | with_reducible exact u24) rfl) rfl ?_); refine jN (by first | (simp only [setAt]; rfl) | rfl) ?_)))
        exact ⟨rfl, rfl, rfl, dead_of rfl⟩
       ·rw [show decide (ms[i] ≤ 0) = false from decide_eq_false hp]
        (repeat (with_reducible refine jQ ?_; first | refine jR ?_ | (refine jS rfl rfl rfl rfl rfl ?_; refine jN (by first | (simp only [setAt]; rfl) | rfl) ?_) | ((first | refine jO rfl rfl ?_ | refine jP rfl rfl rfl rfl ?_); (first | refine jb rfl (je rfl rfl) rfl ?_ | refine jb rfl (jf rfl rfl) rfl ?_ | refine jb rfl (jd rfl rfl rfl rfl rfl) rfl ?_ | refine jb rfl (jg rfl rfl rfl rfl) rfl ?_ | refine jb rfl (jh rfl rfl rfl rfl rfl rfl) rfl ?_ | refine jb rfl (ji rfl rfl rfl rfl rfl rfl) rfl ?_ | refine jb rfl (jj rfl rfl (by first | with_reducible exact u24) rfl) rfl ?_ | refine jb rfl (jT rfl rfl (by first | with_reducible exact u24) rfl) rfl ?_); refine jN (by first | (simp only [setAt]; rfl) | rfl) ?_)))
        rw [List.length_map]
        by_cases hjl : j < cur.length
        ·rw [show decide ((j : Int) < (cur.length : Int)) = true from decide_eq_true (by omega)]
         rw [show decide (ms[i] ≤ 0 ∨ ∃ h : j < cur.length, cur[j] = ms[i]) = (cur[j] == ms[i]) by
          rw [Bool.eq_iff_iff]; simp [hp, hjl]]
         (repeat (with_reducible refine jQ ?_; first | refine jR ?_ | (refine jS rfl rfl rfl rfl rfl ?_; refine jN (by first | (simp only [setAt]; rfl) | rfl) ?_) | ((first | refine jO rfl rfl ?_ | refine jP rfl rfl rfl rfl ?_); (first | refine jb rfl (je rfl rfl) rfl ?_ | refine jb rfl (jf rfl rfl) rfl ?_ | refine jb rfl (jd rfl rfl rfl rfl rfl) rfl ?_ | refine jb rfl (jg rfl rfl rfl rfl) rfl ?_ | refine jb rfl (jh rfl rfl rfl rfl rfl rfl) rfl ?_ | refine jb rfl (ji rfl rfl rfl rfl rfl rfl) rfl ?_ | refine jb rfl (jj rfl rfl (by first | with_reducible exact u24) rfl) rfl ?_ | refine jb rfl (jT rfl rfl (by first | with_reducible exact u24) rfl) rfl ?_); refine jN (by first | (simp only [setAt]; rfl) | rfl) ?_)))
         ((first | refine jO rfl rfl ?_ | refine jP rfl rfl rfl rfl ?_); refine jb rfl (op_indexAddr_sl (sz := 0) (j := j) (el := i64 cur[j]) rfl rfl u24 sz3 rfl rfl rfl (get_i64 hjl) rfl) rfl ?_; refine jN (by first | (simp only [setAt]; rfl) | rfl) ?_)
         ((first | refine jO rfl rfl ?_ | refine jP rfl rfl rfl rfl ?_); refine jb rfl (op_load_rp (v := i64 cur[j]) rfl rfl (take_one ag3 sz3)) rfl ?_; refine jN (by first | (simp only [setAt]; rfl) | rfl) ?_)
         (repeat (with_reducible refine jQ ?_; first | refine jR ?_ | (refine jS rfl rfl rfl rfl rfl ?_; refine jN (by first | (simp only [setAt]; rfl) | rfl) ?_) | ((first | refine jO rfl rfl ?_ | refine jP rfl rfl rfl rfl ?_); (first | refine jb rfl (je rfl rfl) rfl ?_ | refine jb rfl (jf rfl rfl) rfl ?_ | refine jb rfl (jd rfl rfl rfl rfl rfl) rfl ?_ | refine jb rfl (jg rfl rfl rfl rfl) rfl ?_ | refine jb rfl (jh rfl rfl rfl rfl rfl rfl) rfl ?_ | refine jb rfl (ji rfl rfl rfl rfl rfl rfl) rfl ?_ | refine jb rfl (jj rfl rfl (by first | with_reducible exact u24) rfl) rfl ?_ | refine jb rfl (jT rfl rfl (by first | with_reducible exact u24) rfl) rfl ?_); refine jN (by first | (simp only [setAt]; rfl) | rfl) ?_)))
         ((first | refine jO rfl rfl ?_ | refine jP rfl rfl rfl rfl ?_); refine jb rfl (op_indexAddr_sl (sz := 0) (j := i) (el := i64 ms[i]) rfl rfl u24 sz3 rfl rfl rfl (get_i64 hlt) rfl) rfl ?_; refine jN (by first | (simp only [setAt]; rfl) | rfl) ?_)
         ((first | refine jO rfl rfl ?_ | refine jP rfl rfl rfl rfl ?_); refine jb rfl (op_load_rp (v := i64 ms[i]) rfl rfl (take_one ag3 sz3)) rfl ?_; refine jN (by first | (simp only [setAt]; rfl) | rfl) ?_)
         (repeat (with_reducible refine jQ ?_; first | refine jR ?_ | (refine jS rfl rfl rfl rfl rfl ?_; refine jN (by first | (simp only [setAt]; rfl) | rfl) ?_) | ((first | refine jO rfl rfl ?_ | refine jP rfl rfl rfl rfl ?_); (first | refine jb rfl (je rfl rfl) rfl ?_ | refine jb rfl (jf rfl rfl) rfl ?_ | refine jb rfl (jd rfl rfl rfl rfl rfl) rfl ?_ | refine jb rfl (jg rfl rfl rfl rfl) rfl ?_ | refine jb rfl (jh rfl rfl rfl rfl rfl rfl) rfl ?_ | refine jb rfl (ji rfl rfl rfl rfl rfl rfl) rfl ?_ | refine jb rfl (jj rfl rfl (by first | with_reducible exact u24) rfl) rfl ?_ | refine jb rfl (jT rfl rfl (by first | with_reducible exact u24) rfl) rfl ?_); refine jN (by first | (simp only [setAt]; rfl) | rfl) ?_)))
         exact ⟨rfl, rfl, rfl, dead_of rfl⟩
        ·rw [show decide ((j : Int) < (cur.length : Int)) = false from decide_eq_false (by omega)]
         rw [show decide (ms[i] ≤ 0 ∨ ∃ h : j < cur.length, cur[j] = ms[i]) = false from decide_eq_false (by rintro (q | ⟨q, _⟩); exact hp q; exact hjl q)]
         (repeat (with_reducible refine jQ ?_; first | refine jR ?_ | (refine jS rfl rfl rfl rfl rfl ?_; refine jN (by first | (simp only [setAt]; rfl) | rfl) ?_) | ((first | refine jO rfl rfl ?_ | refine jP rfl rfl rfl rfl ?_); (first | refine jb rfl (je rfl rfl) rfl ?_ | refine jb rfl (jf rfl rfl) rfl ?_ | refine jb rfl (jd rfl rfl rfl rfl rfl) rfl ?_ | refine jb rfl (jg rfl rfl rfl rfl) rfl ?_ | refine jb rfl (jh rfl rfl rfl rfl rfl rfl) rfl ?_ | refine jb rfl (ji rfl rfl rfl rfl rfl rfl) rfl ?_ | refine jb rfl (jj rfl rfl (by first | with_reducible exact u24) rfl) rfl ?_ | refine jb rfl (jT rfl rfl (by first | with_reducible exact u24) rfl) rfl ?_); refine jN (by first | (simp only [setAt]; rfl) | rfl) ?_)))
         exact ⟨rfl, rfl, rfl, dead_of rfl⟩
      ·clear d
       rintro regs own2 H1 ⟨hH, hown, d, rfl⟩
       simp only at hH hown
       subst hH
       (repeat (first | (with_reducible first | refine jk ?_ | refine jl ?_ | refine jn ?_ | refine jo ?_ | refine jp ?_ | refine jq ?_ | refine jr ?_ | refine js ?_ | refine jt ?_ | refine ju ?_ | refine jv ?_ | refine jw ?_ | refine jx ?_ | refine jy ?_) | (with_reducible refine jz ?_; refine jA (by first | (simp only [setAt, List.nil_append]; rfl) | rfl) ?_) | with_reducible refine jB (by decide) ?_ | (with_reducible refine jC ?_; first | refine jD rfl rfl rfl ?_ | refine jE rfl rfl rfl ?_) | ((first | (with_reducible refine jF ?_; first | refine jm rfl rfl rfl rfl ?_ | refine jG rfl rfl rfl rfl rfl ?_) | (with_reducible refine jH ?_; refine ja rfl rfl (je rfl rfl) ?_) | (with_reducible refine jI ?_; refine ja rfl rfl (jf rfl rfl) ?_) | (with_reducible refine jJ ?_; refine ja rfl rfl (jd rfl rfl rfl rfl rfl) ?_) | (with_reducible refine jK ?_; refine ja rfl rfl (jg rfl rfl rfl rfl) ?_) | (with_reducible refine jL ?_; first | refine ja rfl rfl (jh rfl rfl rfl rfl rfl rfl) ?_ | refine ja rfl rfl (ji rfl rfl rfl rfl rfl rfl) ?_) | (with_reducible refine jM ?_; refine ja rfl rfl (jj rfl rfl u24 rfl) ?_)); refine jc (by first | (simp only [setAt]; rfl) | rfl) ?_)))
       have htk : ∀ n, n ∈ ms.take (i + 1) ↔ n ∈ ms.take i ∨ n = ms[i] := fun n => by rw [List.take_add_one, List.getElem?_eq_getElem hlt, List.mem_append, Option.toList_some, List.mem_singleton]
       refine Wc.cond rfl rfl (fun h => ?_) (fun h => ?_)
       ·have hsk := of_decide_eq_true h
        clear h
        (repeat (first | (with_reducible first | refine jk ?_ | refine jl ?_ | refine jn ?_ | refine jo ?_ | refine jp ?_ | refine jq ?_ | refine jr ?_ | refine js ?_ | refine jt ?_ | refine ju ?_ | refine jv ?_ | refine jw ?_ | refine jx ?_ | refine jy ?_) | (with_reducible refine jz ?_; refine jA (by first | (simp only [setAt, List.nil_append]; rfl) | rfl) ?_) | with_reducible refine jB (by decide) ?_ | (with_reducible refine jC ?_; first | refine jD rfl rfl rfl ?_ | refine jE rfl rfl rfl ?_) | ((first | (with_reducible refine jF ?_; first | refine jm rfl rfl rfl rfl ?_ | refine jG rfl rfl rfl rfl rfl ?_) | (with_reducible refine jH ?_; refine ja rfl rfl (je rfl rfl) ?_) | (with_reducible refine jI ?_; refine ja rfl rfl (jf rfl rfl) ?_) | (with_reducible refine jJ ?_; refine ja rfl rfl (jd rfl rfl rfl rfl rfl) ?_) | (with_reducible refine jK ?_; refine ja rfl rfl (jg rfl rfl rfl rfl) ?_) | (with_reducible refine jL ?_; first | refine ja rfl rfl (jh rfl rfl rfl rfl rfl rfl) ?_ | refine ja rfl rfl (ji rfl rfl rfl rfl rfl rfl) ?_) | (with_reducible refine jM ?_; refine ja rfl rfl (jj rfl rfl u24 rfl) ?_)); refine jc (by first | (simp only [setAt]; rfl) | rfl) ?_)))
        refine LoopQ.normal (ms.length - (i + 1)) (by omega) ⟨i + 1, cur, tc, rfl, by omega, rfl, hs, fun n => ?_, by omega, dead_of ?_⟩
        ·rw [hmem, htk]
         constructor
         ·rintro ⟨a, b⟩; exact ⟨a, .inl b⟩
         ·rintro ⟨a, b | rfl⟩
          ·exact ⟨a, b⟩
          ·rcases hsk with q | ⟨q1, q2⟩
           ·omega
           ·exact (hmem _).1 (q2 ▸ List.getElem_mem q1)
        ·rw [w64 (by omega)]; rfl
       ·have hsk := of_decide_eq_false h
        clear h
        have hp : 0 < ms[i] := by
         rcases Int.lt_or_le 0 ms[i] with q | q
         ·exact q
         ·exact absurd (.inl q) hsk
        have hgt : ∀ h : j < cur.length, ms[i] < cur[j] := fun q => by
         have h1 := hno q
         have h2 : ¬ cur[j] = ms[i] := fun e => hsk (.inr ⟨q, e⟩)
         omega
        have hps := put_sorted hs hpre hj hgt
        have hml : (cur.map i64).length = cur.length := List.length_map _
        (repeat (first | (with_reducible first | refine jk ?_ | refine jl ?_ | refine jn ?_ | refine jo ?_ | refine jp ?_ | refine jq ?_ | refine jr ?_ | refine js ?_ | refine jt ?_ | refine ju ?_ | refine jv ?_ | refine jw ?_ | refine jx ?_ | refine jy ?_) | (with_reducible refine jz ?_; refine jA (by first | (simp only [setAt, List.nil_append]; rfl) | rfl) ?_) | with_reducible refine jB (by decide) ?_ | (with_reducible refine jC ?_; first | refine jD rfl rfl rfl ?_ | refine jE rfl rfl rfl ?_) | ((first | (with_reducible refine jF ?_; first | refine jm rfl rfl rfl rfl ?_ | refine jG rfl rfl rfl rfl rfl ?_) | (with_reducible refine jH ?_; refine ja rfl rfl (je rfl rfl) ?_) | (with_reducible refine jI ?_; refine ja rfl rfl (jf rfl rfl) ?_) | (with_reducible refine jJ ?_; refine ja rfl rfl (jd rfl rfl rfl rfl rfl) ?_) | (with_reducible refine jK ?_; refine ja rfl rfl (jg rfl rfl rfl rfl) ?_) | (with_reducible refine jL ?_; first | refine ja rfl rfl (jh rfl rfl rfl rfl rfl rfl) ?_ | refine ja rfl rfl (ji rfl rfl rfl rfl rfl rfl) ?_) | (with_reducible refine jM ?_; refine ja rfl rfl (jj rfl rfl u24 rfl) ?_)); refine jc (by first | (simp only [setAt]; rfl) | rfl) ?_)))
        refine ja rfl rfl (op_slice_hi_sl (j := j) rfl rfl u24 sz3 rfl rfl rfl (by rw [hml]; exact hj) (all_one cur)) ?_
        refine jc (by first | (simp only [setAt]; rfl) | rfl) ?_
        refine Wo.append_any (ys := (cur.map i64).take j) rfl rfl rfl rfl rfl u24 u24 hinfo sz3 z3 rfl rfl rfl (.inl rfl) rfl rfl (by rw [← List.map_take]; exact all_one _) (by rw [← List.map_take]; exact closed_flat _) (by simp [roomOk, hbytes]; omega) (fun t1 own3 ht1 => ?_)
        refine jc (by first | (simp only [setAt]; rfl) | rfl) ?_
        (repeat (first | (with_reducible first | refine jk ?_ | refine jl ?_ | refine jn ?_ | refine jo ?_ | refine jp ?_ | refine jq ?_ | refine jr ?_ | refine js ?_ | refine jt ?_ | refine ju ?_ | refine jv ?_ | refine jw ?_ | refine jx ?_ | refine jy ?_) | (with_reducible refine jz ?_; refine jA (by first | (simp only [setAt, List.nil_append]; rfl) | rfl) ?_) | with_reducible refine jB (by decide) ?_ | (with_reducible refine jC ?_; first | refine jD rfl rfl rfl ?_ | refine jE rfl rfl rfl ?_) | ((first | (with_reducible refine jF ?_; first | refine jm rfl rfl rfl rfl ?_ | refine jG rfl rfl rfl rfl rfl ?_) | (with_reducible refine jH ?_; refine ja rfl rfl (je rfl rfl) ?_) | (with_reducible refine jI ?_; refine ja rfl rfl (jf rfl rfl) ?_) | (with_reducible refine jJ ?_; refine ja rfl rfl (jd rfl rfl rfl rfl rfl) ?_) | (with_reducible refine jK ?_; refine ja rfl rfl (jg rfl rfl rfl rfl) ?_) | (with_reducible refine jL ?_; first | refine ja rfl rfl (jh rfl rfl rfl rfl rfl rfl) ?_ | refine ja rfl rfl (ji rfl rfl rfl rfl rfl rfl) ?_) | (with_reducible refine jM ?_; refine ja rfl rfl (jj rfl rfl u24 rfl) ?_)); refine jc (by first | (simp only [setAt]; rfl) | rfl) ?_)))
        refine Wo.elem rfl (.inl ⟨tl, rfl, htl⟩) hlt rfl rfl rfl rfl rfl rfl rfl u24 sz3 ag3 rfl rfl (Nat.le_of_ble_eq_true rfl) (fun a => ?_)
        refine jc (by first | (simp only [setAt]; rfl) | rfl) ?_
        refine ja rfl rfl (op_buildSlice (qs := [(0, i64 ms[i])]) rfl rfl rfl (build_one u24 sz3 z3 rfl rfl rfl rfl rfl)) ?_
        refine jc (by first | (simp only [setAt]; rfl) | rfl) ?_
        refine Wo.append_any (ys := [i64 ms[i]]) rfl rfl rfl rfl rfl u24 u24 hinfo sz3 z3 rfl rfl rfl ht1 rfl (by rw [← List.map_take]; exact all_one _) rfl rfl (by simp [roomOk, hbytes]; omega) (fun t2 own4 ht2 => ?_)
        refine jc (by first | (simp only [setAt]; rfl) | rfl) ?_
        (repeat (first | (with_reducible first | refine jk ?_ | refine jl ?_ | refine jn ?_ | refine jo ?_ | refine jp ?_ | refine jq ?_ | refine jr ?_ | refine js ?_ | refine jt ?_ | refine ju ?_ | refine jv ?_ | refine jw ?_ | refine jx ?_ | refine jy ?_) | (with_reducible refine jz ?_; refine jA (by first | (simp only [setAt, List.nil_append]; rfl) | rfl) ?_) | with_reducible refine jB (by decide) ?_ | (with_reducible refine jC ?_; first | refine jD rfl rfl rfl ?_ | refine jE rfl rfl rfl ?_) | ((first | (with_reducible refine jF ?_; first | refine jm rfl rfl rfl rfl ?_ | refine jG rfl rfl rfl rfl rfl ?_) | (with_reducible refine jH ?_; refine ja rfl rfl (je rfl rfl) ?_) | (with_reducible refine jI ?_; refine ja rfl rfl (jf rfl rfl) ?_) | (with_reducible refine jJ ?_; refine ja rfl rfl (jd rfl rfl rfl rfl rfl) ?_) | (with_reducible refine jK ?_; refine ja rfl rfl (jg rfl rfl rfl rfl) ?_) | (with_reducible refine jL ?_; first | refine ja rfl rfl (jh rfl rfl rfl rfl rfl rfl) ?_ | refine ja rfl rfl (ji rfl rfl rfl rfl rfl rfl) ?_) | (with_reducible refine jM ?_; refine ja rfl rfl (jj rfl rfl u24 rfl) ?_)); refine jc (by first | (simp only [setAt]; rfl) | rfl) ?_)))
        refine ja rfl rfl (op_slice_lo_sl (j := j) rfl rfl u24 sz3 rfl rfl rfl (by rw [hml]; exact hj) (all_one cur)) ?_
        refine jc (by first | (simp only [setAt]; rfl) | rfl) ?_
        refine Wo.append_any (ys := (cur.map i64).drop j) rfl rfl rfl rfl rfl u24 u24 hinfo sz3 z3 rfl rfl rfl ht2 rfl (by rw [List.all_append, ← List.map_take, all_one]; rfl) (by rw [← List.map_drop]; exact all_one _) (by rw [← List.map_drop]; exact closed_flat _) (by simp [roomOk, hbytes]; omega) (fun t3 own5 ht3 => ?_)
        refine jc (by first | (simp only [setAt]; rfl) | rfl) ?_
        (repeat (first | (with_reducible first | refine jk ?_ | refine jl ?_ | refine jn ?_ | refine jo ?_ | refine jp ?_ | refine jq ?_ | refine jr ?_ | refine js ?_ | refine jt ?_ | refine ju ?_ | refine jv ?_ | refine jw ?_ | refine jx ?_ | refine jy ?_) | (with_reducible refine jz ?_; refine jA (by first | (simp only [setAt, List.nil_append]; rfl) | rfl) ?_) | with_reducible refine jB (by decide) ?_ | (with_reducible refine jC ?_; first | refine jD rfl rfl rfl ?_ | refine jE rfl rfl rfl ?_) | ((first | (with_reducible refine jF ?_; first | refine jm rfl rfl rfl rfl ?_ | refine jG rfl rfl rfl rfl rfl ?_) | (with_reducible refine jH ?_; refine ja rfl rfl (je rfl rfl) ?_) | (with_reducible refine jI ?_; refine ja rfl rfl (jf rfl rfl) ?_) | (with_reducible refine jJ ?_; refine ja rfl rfl (jd rfl rfl rfl rfl rfl) ?_) | (with_reducible refine jK ?_; refine ja rfl rfl (jg rfl rfl rfl rfl) ?_) | (with_reducible refine jL ?_; first | refine ja rfl rfl (jh rfl rfl rfl rfl rfl rfl) ?_ | refine ja rfl rfl (ji rfl rfl rfl rfl rfl rfl) ?_) | (with_reducible refine jM ?_; refine ja rfl rfl (jj rfl rfl u24 rfl) ?_)); refine jc (by first | (simp only [setAt]; rfl) | rfl) ?_)))
        refine LoopQ.normal (ms.length - (i + 1)) (by omega) ⟨i + 1, cur.take j ++ [ms[i]] ++ cur.drop j, t3, rfl, by omega, rfl, hps, fun n => ?_, by simp; omega, dead_of ?_⟩
        ·rw [htk]
         have e : n ∈ cur.take j ++ [ms[i]] ++ cur.drop j ↔ n ∈ cur ∨ n = ms[i] := by
          rw [List.mem_append, List.mem_append, List.mem_singleton]
          conv => rhs; rw [← List.take_append_drop j cur, List.mem_append]
          constructor
          ·rintro ((a | a) | a)
           ·exact .inl (.inl a)
           ·exact .inr a
           ·exact .inl (.inr a)
          ·rintro ((a | a) | a)
           ·exact .inl (.inl a)
           ·exact .inr a
           ·exact .inl (.inr a)
         rw [e, hmem]
         constructor
         ·rintro (⟨a, b⟩ | rfl)
          ·exact ⟨a, .inl b⟩
          ·exact ⟨hp, .inr rfl⟩
         ·rintro ⟨a, b | b⟩
          ·exact .inl ⟨a, b⟩
          ·exact .inr b
        ·rw [w64 (by omega), List.map_append, List.map_append, List.map_take, List.map_drop]; rfl
  ·have hil : i = ms.length := by
    have h' : ¬ i < ms.length := by simpa [goInt] using h
    omega
   subst hil
   rw [List.take_length] at hmem
   have hcur : cur = those ms := sorted_same hs (those_sorted ms) fun n => by rw [hmem, mem_those]
   subst hcur
   (repeat (first | (with_reducible first | refine jk ?_ | refine jl ?_ | refine jn ?_ | refine jo ?_ | refine jp ?_ | refine jq ?_ | refine jr ?_ | refine js ?_ | refine jt ?_ | refine ju ?_ | refine jv ?_ | refine jw ?_ | refine jx ?_ | refine jy ?_) | (with_reducible refine jz ?_; refine jA (by first | (simp only [setAt, List.nil_append]; rfl) | rfl) ?_) | with_reducible refine jB (by decide) ?_ | (with_reducible refine jC ?_; first | refine jD rfl rfl rfl ?_ | refine jE rfl rfl rfl ?_) | ((first | (with_reducible refine jF ?_; first | refine jm rfl rfl rfl rfl ?_ | refine jG rfl rfl rfl rfl rfl ?_) | (with_reducible refine jH ?_; refine ja rfl rfl (je rfl rfl) ?_) | (with_reducible refine jI ?_; refine ja rfl rfl (jf rfl rfl) ?_) | (with_reducible refine jJ ?_; refine ja rfl rfl (jd rfl rfl rfl rfl rfl) ?_) | (with_reducible refine jK ?_; refine ja rfl rfl (jg rfl rfl rfl rfl) ?_) | (with_reducible refine jL ?_; first | refine ja rfl rfl (jh rfl rfl rfl rfl rfl rfl) ?_ | refine ja rfl rfl (ji rfl rfl rfl rfl rfl rfl) ?_) | (with_reducible refine jM ?_; refine ja rfl rfl (jj rfl rfl u24 rfl) ?_)); refine jc (by first | (simp only [setAt]; rfl) | rfl) ?_)))
   exact EndQ.ret (r := .sl ((those ms).map i64) tc) rfl ⟨_, rfl, by simp [AV.closed], ⟨tc, rfl⟩, rfl⟩
end Go.Proofs
end
