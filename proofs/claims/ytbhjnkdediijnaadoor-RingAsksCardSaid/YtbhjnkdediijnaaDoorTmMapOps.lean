/- The tree machine over unknown values: new variables, maps of ints to ints, stores. -/
import Derived.Test.YtbhjnkdediijnaaDoorTmQd
import Derived.Test.YtbhjnkdediijnaaDoorTmS1
import Derived.Test.YtbhjnkdediijnaaDoorTmSymDrawn
set_option linter.unusedVariables false
set_option linter.unusedSimpArgs false
set_option linter.unusedSectionVars false
namespace Go.Tm
section
variable {K : Cfg} {f : FuncId} {o : Oper} {R : List AV} {own : Nat → Nat} {H : List AB}
theorem op_alloc {t : TypeId} {z : AV} (ho : o.op = .alloc t) (hb : K.big t = none) (hz : tZero K.P t = some z) : aOp K f ⟨R, own, H⟩ o [] = some (.val (.ptr H.length 0) own (H ++ [.cells (t, true) z.cells]), [], []) := by
 simp only [aOp, ho, hz, hb, newBlk]; rfl
theorem op_makeMap {t : TypeId} (ho : o.op = .makeMap t none) : aOp K f ⟨R, own, H⟩ o [] = some (.val (.map H.length) own (H ++ [.map [] 0]), [], []) := by
 simp only [aOp, ho]; rfl
theorem op_storeV {t : TypeId} {a x : Operand} {b off : Nat} {e : TypeId × Bool} {cs : List AV} {v : AV} (ho : o.op = .store t a x) (hz : tSize K.P t = some 1) (ha : evalO K R a = some (.ptr b off)) (hx : evalO K R x = some v) (h1 : v.cells = [v]) (h2 : v.one = true) (h3 : v.unown = v) (hb : nth H b = some (.cells e cs)) (hle : off + 1 ≤ cs.length) :
  aOp K f ⟨R, own, H⟩ o [] = some (.skip (setAt H b (.cells e (setAt cs off v))), [], []) := by
 have h : aStore K H t (.ptr b off) v = some (setAt H b (.cells e (setAt cs off v))) := by
  simp only [aStore, hz, hb]
  rw [if_pos ⟨by rw [h1]; rfl, hle, by rw [h1]; simp [allOne, h2]⟩, h3, h1]; rfl
 simp only [aOp, ho, ha, hx, h]; rfl
theorem putAll_all : ∀ (xs cs : List AV) (pre : List AV), cs.length = xs.length → putAll (pre ++ cs) pre.length xs = pre ++ xs
 | [], cs, pre, h => by
  have : cs = [] := List.length_eq_zero_iff.1 h
  subst this; rfl
 | x :: r, cs, pre, h => by
  cases cs with
  | nil => simp at h
  | cons c cs =>
   have e : setAt (pre ++ c :: cs) pre.length x = (pre ++ [x]) ++ cs := by
    rw [setAt_eq]
    simp
   rw [putAll, e]
   have := putAll_all r cs (pre ++ [x]) (by simpa using h)
   rw [List.length_append, List.length_singleton] at this
   rw [this]
   simp
theorem op_storeArr {t : TypeId} {a x : Operand} {b n : Nat} {e : TypeId × Bool} {cs : List AV} {l : List Int} (ho : o.op = .store t a x) (hz : tSize K.P t = some n) (hn : l.length = n) (ha : evalO K R a = some (.ptr b 0)) (hx : evalO K R x = some (.agg (l.map i64))) (hb : nth H b = some (.cells e cs)) (hc : cs.length = n) :
  aOp K f ⟨R, own, H⟩ o [] = some (.skip (setAt H b (.cells e (l.map i64))), [], []) := by
 have hall : allOne (l.map i64) = true := by simp [allOne, AV.one]
 have h : aStore K H t (.ptr b 0) (.agg (l.map i64)) = some (setAt H b (.cells e (l.map i64))) := by
  simp only [aStore, hz, hb]
  rw [if_pos ⟨by show (l.map i64).length = n; rw [List.length_map]; exact hn, by omega, hall⟩]
  have := putAll_all (l.map i64) cs [] (by rw [List.length_map]; omega)
  show some (setAt H b (.cells e (putAll cs 0 (l.map i64)))) = _
  simp only [List.nil_append, List.length_nil] at this
  rw [this]
 simp only [aOp, ho, ha, hx, h]; rfl
/-! Maps of ints to ints. -/
theorem find_set (k : Int) (y : AV) : ∀ (es : List (AV × AV × Nat)) (n i : Nat) (x : AV) (c : Nat), (∀ e ∈ es, ∃ k, e.1 = i64 k) → aFind (i64 k) es n = some (some (i, x, c)) →
  n ≤ i ∧ i - n < es.length ∧ ∀ k', aFind (i64 k') (setAt es (i - n) (i64 k, y, c)) n = if k' = k then some (some (i, y, c)) else aFind (i64 k') es n
 | [], n, i, x, c, _, h => by simp [aFind] at h
 | (a, x0, c0) :: r, n, i, x, c, hk, h => by
  obtain ⟨k0, hk0⟩ := hk (a, x0, c0) (by simp)
  simp only at hk0
  subst hk0
  simp only [aFind, aKeyEq, if_true] at h
  by_cases e : (k == k0) = true
  ·rw [e] at h
   simp only [Option.some.injEq, Prod.mk.injEq] at h
   obtain ⟨rfl, rfl, rfl⟩ := h
   have e' : k = k0 := eq_of_beq e
   subst e'
   refine ⟨Nat.le_refl _, by simp, fun k' => ?_⟩
   rw [Nat.sub_self]
   simp only [setAt, aFind, aKeyEq, if_true]
   by_cases q : k' = k
   ·subst q; simp
   ·have : (k' == k) = false := by simpa using q
    rw [this, if_neg q]
  ·have e2 : (k == k0) = false := by simpa using e
   rw [e2] at h
   simp only at h
   obtain ⟨h1, h2, h3⟩ := find_set k y r (n + 1) i x c (fun e he => hk e (by simp [he])) h
   refine ⟨by omega, by simp; omega, fun k' => ?_⟩
   obtain ⟨j, hj⟩ : ∃ j, i - n = j + 1 := ⟨i - n - 1, by omega⟩
   have hj' : i - (n + 1) = j := by omega
   rw [hj]
   rw [hj'] at h3
   simp only [setAt, aFind, aKeyEq, if_true]
   by_cases q : (k' == k0) = true
   ·rw [q]
    have q' : k' = k0 := eq_of_beq q
    have : ¬ k' = k := fun w => by subst w; rw [q] at e2; cases e2
    rw [if_neg this]
   ·have q2 : (k' == k0) = false := by simpa using q
    rw [q2]
    exact h3 k'
theorem find_app (k : Int) (y : AV) (c : Nat) : ∀ (es : List (AV × AV × Nat)) (n : Nat), (∀ e ∈ es, ∃ k, e.1 = i64 k) → aFind (i64 k) es n = some none →
  ∀ k', aFind (i64 k') (es ++ [(i64 k, y, c)]) n = if k' = k then some (some (n + es.length, y, c)) else aFind (i64 k') es n
 | [], n, _, _, k' => by
  simp only [List.nil_append, aFind, aKeyEq, if_true]
  by_cases q : k' = k
  ·subst q; simp
  ·have : (k' == k) = false := by simpa using q
   rw [this, if_neg q]
 | (a, x0, c0) :: r, n, hk, h, k' => by
  obtain ⟨k0, hk0⟩ := hk (a, x0, c0) (by simp)
  simp only at hk0
  subst hk0
  simp only [aFind, aKeyEq, if_true] at h
  by_cases e : (k == k0) = true
  ·rw [e] at h; simp at h
  ·have e2 : (k == k0) = false := by simpa using e
   rw [e2] at h
   simp only at h
   have ih := find_app k y c r (n + 1) (fun e he => hk e (by simp [he])) h k'
   simp only [List.cons_append, aFind, aKeyEq, if_true]
   by_cases q : (k' == k0) = true
   ·rw [q]
    have q' : k' = k0 := eq_of_beq q
    have : ¬ k' = k := fun w => by subst w; rw [q] at e2; cases e2
    rw [if_neg this]
   ·have q2 : (k' == k0) = false := by simpa using q
    rw [q2]
    simp only [ih]
    rw [show n + 1 + r.length = n + ((i64 k0, x0, c0) :: r).length by simp; omega]
def MapIs (H : List AB) (b : Nat) (φ : Int → Int) : Prop := ∃ es clock, nth H b = some (.map es clock) ∧ (∀ e ∈ es, ∃ k, e.1 = i64 k) ∧ ∀ k, (aFind (i64 k) es 0 = some none ∧ φ k = 0) ∨ ∃ i c, aFind (i64 k) es 0 = some (some (i, i64 (φ k), c))
theorem MapIs.new (H : List AB) : MapIs (H ++ [.map [] 0]) H.length fun _ => 0 := ⟨[], 0, by rw [nth_eq]; simp, by simp, fun k => .inl ⟨rfl, rfl⟩⟩
theorem MapIs.same {H H' : List AB} {b : Nat} {φ : Int → Int} (h : MapIs H b φ) (e : nth H' b = nth H b) : MapIs H' b φ := by
 obtain ⟨es, clock, h1, h2⟩ := h
 exact ⟨es, clock, e.trans h1, h2⟩
theorem MapIs.look {b : Nat} {φ : Int → Int} (h : MapIs H b φ) {t kt et : TypeId} {k : Int} {ik : IntKind} (h1 : K.P.underlying t = some (.map kt et)) (h2 : K.P.underlying kt = some (.int ik)) (h3 : tZero K.P et = some (i64 0)) : aLookup K H t (.map b) (i64 k) false = some (i64 (φ k)) := by
 obtain ⟨es, clock, q1, q2, q3⟩ := h
 simp only [aLookup, h1, aKeyOk, h2, q1, aLook]
 rcases q3 k with ⟨q, e⟩ | ⟨i, c, q⟩
 ·rw [q, e]; simp only [h3]; rfl
 ·rw [q]; rfl
theorem op_lookup {b : Nat} {φ : Int → Int} (h : MapIs H b φ) {t kt et : TypeId} {m x : Operand} {k : Int} {ik : IntKind} (ho : o.op = .lookup t m x false) (h1 : K.P.underlying t = some (.map kt et)) (h2 : K.P.underlying kt = some (.int ik)) (h3 : tZero K.P et = some (i64 0)) (hm : evalO K R m = some (.map b)) (hx : evalO K R x = some (i64 k)) :
  aOp K f ⟨R, own, H⟩ o [] = some (.val (i64 (φ k)) own H, [], []) := by
 simp only [aOp, ho, hm, hx, h.look h1 h2 h3, aKeep]; rfl
theorem MapIs.put {b : Nat} {φ : Int → Int} (h : MapIs H b φ) {t kt et : TypeId} (k v : Int) {ik : IntKind} (h1 : K.P.underlying t = some (.map kt et)) (h2 : K.P.underlying kt = some (.int ik)) : ∃ A, aMapUpdate K H t (.map b) (i64 k) (i64 v) = some (setAt H b A) ∧ MapIs (setAt H b A) b fun j => if j = k then v else φ j := by
 obtain ⟨es, clock, q1, q2, q3⟩ := h
 have hlt : b < H.length := by rw [nth_eq] at q1; exact (List.getElem?_eq_some_iff.1 q1).1
 have hget : ∀ A : AB, nth (setAt H b A) b = some A := fun A => by rw [nth_eq, setAt_eq, List.getElem?_set_self hlt]
 simp only [aMapUpdate, h1, q1, aKeyOk, h2]
 rcases q3 k with ⟨q, e⟩ | ⟨i, c, q⟩
 ·rw [q]
  refine ⟨_, rfl, es ++ [(i64 k, i64 v, clock)], clock + 1, hget _, ?_, fun j => ?_⟩
  ·intro e he
   simp at he
   rcases he with he | rfl
   ·exact q2 e he
   ·exact ⟨k, rfl⟩
  ·rw [find_app k (i64 v) clock es 0 q2 q j]
   by_cases hj : j = k
   ·simp only [if_pos hj]; exact .inr ⟨_, _, rfl⟩
   ·simp only [if_neg hj]; exact q3 j
 ·rw [q]
  obtain ⟨_, r2, r3⟩ := find_set k (i64 v) es 0 i _ c q2 q
  rw [Nat.sub_zero] at r2 r3
  refine ⟨_, rfl, setAt es i (i64 k, i64 v, c), clock, hget _, ?_, fun j => ?_⟩
  ·intro e he
   rw [setAt_eq] at he
   rcases List.mem_or_eq_of_mem_set he with he | rfl
   ·exact q2 e he
   ·exact ⟨k, rfl⟩
  ·rw [r3 j]
   by_cases hj : j = k
   ·simp only [if_pos hj]; exact .inr ⟨_, _, rfl⟩
   ·simp only [if_neg hj]; exact q3 j
theorem op_mapUpdate {b : Nat} {φ : Int → Int} (h : MapIs H b φ) {t kt et : TypeId} {m x y : Operand} {k v : Int} {ik : IntKind} (ho : o.op = .mapUpdate t m x y) (h1 : K.P.underlying t = some (.map kt et)) (h2 : K.P.underlying kt = some (.int ik)) (hm : evalO K R m = some (.map b)) (hx : evalO K R x = some (i64 k)) (hy : evalO K R y = some (i64 v)) :
  ∃ A, aOp K f ⟨R, own, H⟩ o [] = some (.skip (setAt H b A), [], []) ∧ MapIs (setAt H b A) b fun j => if j = k then v else φ j := by
 obtain ⟨A, hA, hM⟩ := h.put (K := K) k v h1 h2
 refine ⟨A, ?_, hM⟩
 simp only [aOp, ho, hm, hx, hy, hA]; rfl
theorem Wo.mapUpdate {ops : Array Oper} {l : List Oper} {Q : AX → St → Prop} {b : Nat} {φ : Int → Int} (h : MapIs H b φ) {t kt et : TypeId} {m x y : Operand} {k v : Int} {ik : IntKind} (hg : o.guard = none) (hd : o.dst = none) (ho : o.op = .mapUpdate t m x y) (h1 : K.P.underlying t = some (.map kt et)) (h2 : K.P.underlying kt = some (.int ik)) (hm : evalO K R m = some (.map b)) (hx : evalO K R x = some (i64 k)) (hy : evalO K R y = some (i64 v))
  (hn : ∀ A, MapIs (setAt H b A) b (fun j => if j = k then v else φ j) → Wo K f ops l R own (setAt H b A) Q) : Wo K f ops (o :: l) R own H Q := by
 obtain ⟨A, hA, hM⟩ := op_mapUpdate (f := f) (own := own) h ho h1 h2 hm hx hy
 exact Wo.doSkip hg hd hA (hn A hM)
end
theorem Wd.skip {K : Cfg} {f : FuncId} {ops : Array Oper} {Q : St → Prop} {R : List AV} {own : Nat → Nat} {H H' : List AB} {o : Oper} {l : List Oper} (hs : K.sym = false) (hg : Goes ops R o) (hd : o.dst = none) (ho : aOp K f ⟨R, own, H⟩ o [] = some (.skip H', [], [])) (hk : kOf (touch K f o) = 2) (h : Wd K f ops l ⟨R, own, H'⟩ Q) : Wd K f ops (o :: l) ⟨R, own, H⟩ Q := by
 refine ⟨{ i := 0, o, bef := 0, s := ⟨R, own, H⟩, s' := ⟨R, own, H'⟩, x := .undef, k := 2, run := true }, 0, fun n _ => ?_, .inr hk.symm, rfl, h⟩
 rw [tr_goes hs hg]
 unfold aTrDo
 rw [E.bind_nil ho, hd]; rfl
theorem Wd.mapUpdate {K : Cfg} {f : FuncId} {ops : Array Oper} {l : List Oper} {Q : St → Prop} {R : List AV} {own : Nat → Nat} {H : List AB} {o : Oper} (hs : K.sym = false) {b : Nat} {φ : Int → Int} (h : MapIs H b φ) {t kt et : TypeId} {m x y : Operand} {k v : Int} {ik : IntKind} (hg : Goes ops R o) (hd : o.dst = none) (hk : kOf (touch K f o) = 2) (ho : o.op = .mapUpdate t m x y) (h1 : K.P.underlying t = some (.map kt et)) (h2 : K.P.underlying kt = some (.int ik)) (hm : evalO K R m = some (.map b)) (hx : evalO K R x = some (i64 k)) (hy : evalO K R y = some (i64 v))
  (hn : ∀ A, MapIs (setAt H b A) b (fun j => if j = k then v else φ j) → Wd K f ops l ⟨R, own, setAt H b A⟩ Q) : Wd K f ops (o :: l) ⟨R, own, H⟩ Q := by
 obtain ⟨A, hA, hM⟩ := op_mapUpdate (f := f) (own := own) h ho h1 h2 hm hx hy
 exact Wd.skip hs hg hd hA hk (hn A hM)
end Go.Tm
