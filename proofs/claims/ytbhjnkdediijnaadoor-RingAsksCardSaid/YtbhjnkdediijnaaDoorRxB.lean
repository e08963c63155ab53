/- RgKit, RsFacts, joined. -/
import Derived.Test.YtbhjnkdediijnaaDoorTmQd
import Derived.Test.YtbhjnkdediijnaaDoorTmS1
import Derived.Test.YtbhjnkdediijnaaDoorRxA
set_option linter.unusedVariables false
set_option linter.unusedSimpArgs false
set_option linter.unusedSectionVars false
section
namespace Go.Proofs
open Go.Tm
def Made (H H' : List AB) (r : AV) (xs : List Int) : Prop := ((xs = [] ∧ r = .sl [] .nil) ∨ ∃ b, r = .ms b 0 xs.length 1 ∧ H.length ≤ b ∧ nth H' b = some (.cells (3, false) (xs.map i64))) ∧ H.length ≤ H'.length ∧ ∀ k, k < H.length → nth H' k = nth H k
theorem Made.view {H H' : List AB} {r : AV} {xs : List Int} (h : Made H H' r xs) : View H' r xs := by
 rcases h.1 with ⟨rfl, rfl⟩ | ⟨b, rfl, _, hb⟩
 ·exact .inl ⟨.nil, rfl, rfl⟩
 ·exact .inr ⟨b, 0, _, _, rfl, hb, by simp, fun j hj => by simp [List.getElem?_map, List.getElem?_eq_getElem hj]⟩
theorem nth_app {α : Type} (l : List α) (x : α) : nth (l ++ [x]) l.length = some x := by rw [nth_eq]; simp
theorem nth_app_lt {α : Type} (l r : List α) (k : Nat) (h : k < l.length) : nth (l ++ r) k = nth l k := by rw [nth_eq, nth_eq, List.getElem?_append_left h]
theorem Made.new {B H : List AB} (n : Int) (hl : B.length ≤ H.length) (hk : ∀ k, k < B.length → nth H k = nth B k) : Made B (H ++ [.cells (3, false) [i64 n]]) (.ms H.length 0 1 1) [n] :=
 ⟨.inr ⟨H.length, rfl, hl, nth_app _ _⟩, by simp; omega, fun k h => by rw [nth_app_lt _ _ _ (by omega)]; exact hk k h⟩
theorem Made.more {B H : List AB} {b : Nat} {xs : List Int} (n : Int) (hb : B.length ≤ b) (hl : B.length ≤ H.length) (hk : ∀ k, k < B.length → nth H k = nth B k) : Made B (setAt H b .dead ++ [.cells (3, false) (xs.map i64 ++ [i64 n])]) (.ms H.length 0 (xs.length + 1) 1) (xs ++ [n]) := by
 have hs : (setAt H b .dead).length = H.length := by rw [setAt_eq]; simp
 refine ⟨.inr ⟨H.length, by simp, hl, ?_⟩, by simp [hs]; omega, fun k h => ?_⟩
 ·have := nth_app (setAt H b .dead) (AB.cells (3, false) (xs.map i64 ++ [i64 n]))
  rw [hs] at this
  simpa using this
 ·rw [nth_app_lt _ _ _ (by rw [hs]; omega), nth_eq, setAt_eq, List.getElem?_set_ne (by omega), ← nth_eq]
  exact hk k h
theorem take_agg {P : Program} {t : TypeId} {n : Nat} {cs : List AV} (h1 : tAgg P t = some true) (h2 : tSize P t = some n) (hn : n ≤ cs.length) : takeVar P t cs = some (.agg (cs.take n)) := by
 simp only [takeVar, h1, h2, if_pos hn]
theorem mapO_ints (H : List AB) (n : Nat) : ∀ xs : List Int, mapO (snap H (n + 1)) (xs.map i64) = some (xs.map i64)
 | [] => rfl
 | x :: r => by
  simp only [List.map_cons, mapO]
  rw [show snap H (n + 1) (i64 x) = some (i64 x) from rfl, mapO_ints H n r]
theorem chunk_one : ∀ xs : List AV, chunk 1 xs.length xs = xs
 | [] => rfl
 | x :: r => by
  show elOf 1 (x :: r) :: chunk 1 r.length ((x :: r).drop 1) = _
  rw [List.drop_one, List.tail_cons, chunk_one r]; rfl
theorem closedL_ints : ∀ xs : List Int, AV.closedL (xs.map i64) = true
 | [] => rfl
 | x :: r => by simp only [List.map_cons, AV.closedL, AV.closed, closedL_ints r, Bool.and_self]
theorem allOne_ints (xs : List Int) : allOne (xs.map i64) = true := by simp [allOne, AV.one]
theorem snap_ms {H : List AB} {b off : Nat} {tt : TypeId × Bool} {cs : List AV} {xs : List Int} (hb : nth H b = some (.cells tt cs)) (hle : off + xs.length ≤ cs.length) (hc : ∀ (j : Nat) (h : j < xs.length), cs[off + j]? = some (i64 xs[j])) : snap H 6 (.ms b off xs.length 1) = some (.sl (xs.map i64) .unk) := by
 have hcs : (cs.drop off).take (xs.length * 1) = xs.map i64 := by
  apply List.ext_getElem?
  intro k
  rw [List.getElem?_take, List.getElem?_drop, List.getElem?_map, Nat.mul_one]
  by_cases hk : k < xs.length
  ·rw [if_pos hk, hc k hk, List.getElem?_eq_getElem hk]; rfl
  ·rw [if_neg hk, List.getElem?_eq_none (by omega)]; rfl
 unfold snap
 simp only [hb]
 rw [if_pos ⟨by omega, by omega⟩, hcs, mapO_ints H 4 xs]
 simp only [closedL_ints, allOne_ints, Bool.and_self, if_true]
 have := chunk_one (xs.map i64)
 rw [List.length_map] at this
 rw [this]
theorem Made.snapped {B H : List AB} {x : AV} {xs : List Int} (h : Made B H x xs) : ∃ tl, snap H 6 x = some (.sl (xs.map i64) tl) ∧ tl.un = tl ∧ tl ≠ .full := by
 rcases h.1 with ⟨rfl, rfl⟩ | ⟨b, rfl, _, hb⟩
 ·exact ⟨.nil, rfl, rfl, by simp⟩
 ·exact ⟨.unk, snap_ms hb (by simp) (fun j hj => by simp [List.getElem?_map, List.getElem?_eq_getElem hj]), rfl, by simp⟩
section
variable {K : Cfg} {f : FuncId} {o : Oper} {R : List AV} {own : Nat → Nat} {H : List AB}
theorem op_index_agg (hs : K.sym = false) {t e : TypeId} {x i : Operand} {l : List Int} {k : IntKind} {n : Int} {j len : Nat} (ho : o.op = .index t x i) (hu : K.P.underlying t = some (.array len e)) (hz : tSize K.P e = some 1) (ha : tAgg K.P e = some false) (hx : evalO K R x = some (.agg (l.map i64))) (hi : evalO K R i = some (.v (.int k n))) (hn : n = (j : Int)) (hj : j < len) (hl : l.length = len) : aOp K f ⟨R, own, H⟩ o [] = some (.val (i64 (l.getD j 0)) own H, [], []) := by
 subst hn
 simp only [aOp, ho, hx, hi, aKeepE]
 have hlt : j < (l.map i64).length := by rw [List.length_map]; omega
 have h : aIndex K t (.agg (l.map i64)) (.v (.int k (j : Int))) [] = some (i64 (l.getD j 0), [], []) := by
  simp only [aIndex, asI, hu, hz, hs]
  have hd : decide (0 ≤ (j : Int) ∧ (j : Int) < (len : Int)) = true := by simp; omega
  rw [hd]
  refine (E.bind_nil (a := ()) rfl).trans ?_
  rw [Int.toNat_natCast, Nat.mul_one, List.drop_eq_getElem_cons hlt, take_one ha hz, List.getElem_map]
  rw [List.getD_eq_getElem?_getD, List.getElem?_eq_getElem (by omega)]
  rfl
 exact (E.bind_nil h).trans rfl
theorem op_load_arr {t : TypeId} {a : Operand} {b : Nat} {tt : TypeId × Bool} {l : List Int} {n : Nat} (ho : o.op = .load t a) (ha : evalO K R a = some (.ptr b 0)) (hb : nth H b = some (.cells tt (l.map i64))) (h1 : tAgg K.P t = some true) (h2 : tSize K.P t = some n) (hn : l.length = n) : aOp K f ⟨R, own, H⟩ o [] = some (.val (.agg (l.map i64)) own H, [], []) := by
 refine op_load_ptr (v := .agg (l.map i64)) ho ha hb ?_
 rw [List.drop_zero, take_agg h1 h2 (by rw [List.length_map]; omega), List.take_of_length_le (by rw [List.length_map]; omega)]
end
structure IntK (K : Cfg) (s e : TypeId) : Prop where
 sym : K.sym = false
 us : K.P.underlying s = some (.slice e)
 sz : tSize K.P e = some 1
 z : tZero K.P e = some (i64 0)
 info : ∃ info, K.P.info? e = some info ∧ info.bytes = 8
section
variable {K : Cfg} {f : FuncId} {ops : Array Oper} {R : List AV} {own : Nat → Nat} {H : List AB} {Q : AX → St → Prop}
theorem op_pushI (k : IntK K 24 3) {o2 : Oper} {d1 d2 : Nat} {x : Operand} {ts : Array TypeId} {xv : AV} {n : Int} {B : List AB} {xs : List Int}
  (ho2 : o2.op = .call { callee := .builtin .append, args := #[x, .tmp d1], argTypes := ts }) (e2 : o2.dst = some d2) (hts : ts.toList = [24, 24]) (c2 : K.chg f d2 = true) (hx : evalO K R x = some xv) (hd : evalO K R (.tmp d1) = some (.sl [i64 n] .full)) (hm : Made B H xv xs) (hl : xs.length < 2 ^ 44) :
  ∃ y H', aOp K f ⟨R, own, H⟩ o2 [] = some (.val y own H', [], []) ∧ Made B H' y (xs ++ [n]) := by
 obtain ⟨info, hinfo, hbytes⟩ := k.info
 have hroom : ∀ m : Nat, m < 2 ^ 44 + 1 → roomOk m info.bytes = true := fun m h => by simp [roomOk, hbytes]; omega
 obtain ⟨hm1, hm2, hm3⟩ := hm
 rcases hm1 with ⟨rfl, rfl⟩ | ⟨b, rfl, hb1, hb2⟩
 ·exact ⟨_, _, op_append_new k.sym ho2 e2 hts k.us k.us hinfo k.sz k.z rfl c2 hx (.inl rfl) hd rfl (by simp) (hroom _ (by simp)), Made.new n hm2 hm3⟩
 ·have h := op_append_ms (f := f) (own := own) k.sym ho2 e2 hts k.us k.us hinfo k.sz k.z rfl hx hb2 (by simp) hd rfl (by simp) (hroom _ (by simp; omega))
  exact ⟨_, _, h, Made.more n hb1 hm2 hm3⟩
theorem Wo.pushI (k : IntK K 24 3) {o1 o2 : Oper} {l : List Oper} {d1 d2 : Nat} {x y : Operand} {ts : Array TypeId} {xv : AV} {n : Int} {B : List AB} {xs : List Int} (g1 : o1.guard = none) (e1 : o1.dst = some d1) (ho1 : o1.op = .buildSlice 24 1 #[(0, y)]) (g2 : o2.guard = none) (e2 : o2.dst = some d2)
  (ho2 : o2.op = .call { callee := .builtin .append, args := #[x, .tmp d1], argTypes := ts }) (hts : ts.toList = [24, 24]) (c1 : K.chg f d1 = false) (c2 : K.chg f d2 = true) (hy : evalO K R y = some (i64 n)) (hx : evalO K (setAt R d1 (.sl [i64 n] .full)) x = some xv) (hd : evalO K (setAt R d1 (.sl [i64 n] .full)) (.tmp d1) = some (.sl [i64 n] .full))
  (hm : Made B H xv xs) (hl : xs.length < 2 ^ 44) (h : ∀ z H', Made B H' z (xs ++ [n]) → Wo K f ops l (setAt (setAt R d1 (.sl [i64 n] .full)) d2 z) own H' Q) : Wo K f ops (o1 :: o2 :: l) R own H Q := by
 refine Wo.doVal g1 e1 (op_buildSlice (qs := [(0, i64 n)]) ho1 e1 (by simp [mapO, hy]) (by rw [c1]; exact build_one k.us k.sz k.z rfl rfl rfl rfl rfl)) ?_
 obtain ⟨z, H', ha, hm'⟩ := op_pushI (own := own) (f := f) k ho2 e2 hts c2 hx hd hm hl
 exact Wo.doVal g2 e2 ha (h z H' hm')
end
theorem build_two {K : Cfg} {own : Nat → Nat} {H : List AB} (k : IntK K 24 3) (a b : Int) : aBuildSlice K false own H 24 2 [(0, i64 a), (1, i64 b)] = some (.val (.sl ([a, b].map i64) .full) own H) := by
 simp only [aBuildSlice, k.us, k.sz, k.z]
 rfl
theorem putAll_at : ∀ (xs cs : List AV) (o k : Nat), o + xs.length ≤ cs.length → (putAll cs o xs)[k]? = if o ≤ k ∧ k < o + xs.length then xs[k - o]? else cs[k]?
 | [], cs, o, k, _ => by simp only [putAll, List.length_nil]; rw [if_neg (by omega)]
 | x :: r, cs, o, k, h => by
  simp only [List.length_cons] at h
  rw [putAll, putAll_at r (setAt cs o x) (o + 1) k (by rw [setAt_eq, List.length_set]; omega), setAt_eq]
  by_cases h1 : k = o
  ·subst h1
   rw [if_neg (by omega), if_pos ⟨Nat.le_refl _, by simp⟩, List.getElem?_set_self (by omega)]
   simp
  ·rw [List.getElem?_set_ne (Ne.symm h1)]
   by_cases h2 : o + 1 ≤ k ∧ k < o + 1 + r.length
   ·rw [if_pos h2, if_pos ⟨by omega, by simp; omega⟩, show k - o = (k - (o + 1)) + 1 by omega, List.getElem?_cons_succ]
   ·rw [if_neg h2, if_neg (by simp; omega)]
end Go.Proofs
end
section
namespace Go.Proofs
open Go.Tm
set_option maxRecDepth 100000
theorem u23 : Kz.P.underlying 23 = some (.array 8 3) := Tryd.underlying23
theorem z3 : tZero Kz.P 3 = some (i64 0) := by kernel_rfl
theorem in3 : ∃ info, Kz.P.info? 3 = some info ∧ info.bytes = 8 := by
 have h : (Kz.P.info? 3).map (·.bytes) = some 8 := by kernel_rfl
 obtain ⟨i, h1, h2⟩ := Option.map_eq_some_iff.1 h
 exact ⟨i, h1, h2⟩
theorem ag23 : tAgg Kz.P 23 = some true := by kernel_rfl
theorem sz23 : tSize Kz.P 23 = some 8 := by kernel_rfl
end Go.Proofs
end
