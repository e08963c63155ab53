/- The ring's laws: single operations. -/
import Derived.Test.YtpgkkmlmdoacmaaRgBal
import Derived.Test.YtpgkkmlmdoacmaaRgEq
set_option linter.unusedVariables false
set_option linter.unusedSimpArgs false
set_option linter.unusedSectionVars false
namespace Go.Tm
theorem Wo.append_own {K : Cfg} {f : FuncId} {ops : Array Oper} {Q : AX → St → Prop} {R : List AV} {own : Nat → Nat} {H : List AB} {l : List Oper} {o : Oper} (hs : K.sym = false) {t t2 e d : TypeId} {a x : Operand} {ts : Array TypeId} {xs ys : List AV} {tl u : Tail} {info : TypeInfo} {z : AV} {n : Nat} (hgd : o.guard = none) (hd : o.dst = some d) (ho : o.op = .call { callee := .builtin .append, args := #[a, x], argTypes := ts }) (ht : ts.toList = [t, t2]) (hu : K.P.underlying t = some (.slice e)) (hu2 : K.P.underlying t2 = some (.slice e))
  (hi : K.P.info? e = some info) (hz : tSize K.P e = some (n + 1)) (h0 : tZero K.P e = some z) (hz1 : z.cells.length = n + 1) (hg : K.chg f d = false) (ha : evalO K R a = some (.sl xs tl)) (htl : tl = .nil ∨ ∃ st, tl = .own st (own st) (n + 1) ∧ own st ≠ 0) (hx : evalO K R x = some (.sl ys u)) (hxs : xs.all (fun y => y.cells.length == n + 1) = true) (hy : ys.all (fun y => y.cells.length == n + 1) = true) (hne : ys ≠ []) (hcl : AV.closedL (ys.flatMap AV.cells) = true) (hr : roomOk (xs.length + ys.length) info.bytes = true)
  (h : ∀ own', own' d = own d + 1 → Wo K f ops l (setAt R d (.sl (xs ++ ys) (.own d (own d + 1) (n + 1)))) own' H Q) : Wo K f ops (o :: l) R own H Q := by
 obtain ⟨own', h1, h2⟩ := op_append_own (f := f) (H := H) hs ho hd ht hu hu2 hi hz h0 hz1 hg ha htl hx hxs hy hne hcl hr
 exact ja hgd hd h1 (h own' h2)
theorem Wd.append_own {K : Cfg} {f : FuncId} {ops : Array Oper} {Q : St → Prop} {R : List AV} {own : Nat → Nat} {H : List AB} {l : List Oper} {o : Oper} (hs : K.sym = false) {t t2 e d : TypeId} {a x : Operand} {ts : Array TypeId} {xs ys : List AV} {tl u : Tail} {info : TypeInfo} {z : AV} {n : Nat} (hgd : Goes ops R o) (hd : o.dst = some d) (ho : o.op = .call { callee := .builtin .append, args := #[a, x], argTypes := ts }) (ht : ts.toList = [t, t2]) (hu : K.P.underlying t = some (.slice e)) (hu2 : K.P.underlying t2 = some (.slice e))
  (hi : K.P.info? e = some info) (hz : tSize K.P e = some (n + 1)) (h0 : tZero K.P e = some z) (hz1 : z.cells.length = n + 1) (hg : K.chg f d = false) (ha : evalO K R a = some (.sl xs tl)) (htl : tl = .nil ∨ ∃ st, tl = .own st (own st) (n + 1) ∧ own st ≠ 0) (hx : evalO K R x = some (.sl ys u)) (hxs : xs.all (fun y => y.cells.length == n + 1) = true) (hy : ys.all (fun y => y.cells.length == n + 1) = true) (hne : ys ≠ []) (hcl : AV.closedL (ys.flatMap AV.cells) = true) (hr : roomOk (xs.length + ys.length) info.bytes = true)
  (h : ∀ own', own' d = own d + 1 → Wd K f ops l ⟨setAt R d (.sl (xs ++ ys) (.own d (own d + 1) (n + 1))), own', H⟩ Q) : Wd K f ops (o :: l) ⟨R, own, H⟩ Q := by
 obtain ⟨own', h1, h2⟩ := op_append_own (f := f) (H := H) hs ho hd ht hu hu2 hi hz h0 hz1 hg ha htl hx hxs hy hne hcl hr
 exact Wd.val hs hgd hd h1 (by simp only [touch, ho]; rfl) (h own' h2)
theorem op_fieldAddr {K : Cfg} {f : FuncId} {o : Oper} {R : List AV} {own : Nat → Nat} {H : List AB} {t : TypeId} {x : Operand} {i : Nat} {v r : AV} (ho : o.op = .fieldAddr t x i) (hx : evalO K R x = some v) (hr : aFieldAddr K t v i = some r) : aOp K f ⟨R, own, H⟩ o [] = some (.val r.unown own H, [], []) := by
 simp only [aOp, ho, hx, aKeep, hr]; rfl
theorem Wo.append_any {K : Cfg} {f : FuncId} {ops : Array Oper} {Q : AX → St → Prop} {R : List AV} {own : Nat → Nat} {H : List AB} {l : List Oper} {o : Oper} (hs : K.sym = false) {t t2 e d : TypeId} {a x : Operand} {ts : Array TypeId} {xs ys : List AV} {tl u : Tail} {info : TypeInfo} {z : AV} {n : Nat} (hgd : o.guard = none) (hd : o.dst = some d) (ho : o.op = .call { callee := .builtin .append, args := #[a, x], argTypes := ts }) (ht : ts.toList = [t, t2]) (hu : K.P.underlying t = some (.slice e)) (hu2 : K.P.underlying t2 = some (.slice e))
  (hi : K.P.info? e = some info) (hz : tSize K.P e = some (n + 1)) (h0 : tZero K.P e = some z) (hz1 : z.cells.length = n + 1) (hg : K.chg f d = false) (ha : evalO K R a = some (.sl xs tl)) (htl : tl = .nil ∨ ∃ st, tl = .own st (own st) (n + 1) ∧ own st ≠ 0) (hx : evalO K R x = some (.sl ys u)) (hxs : xs.all (fun y => y.cells.length == n + 1) = true) (hy : ys.all (fun y => y.cells.length == n + 1) = true) (hcl : AV.closedL (ys.flatMap AV.cells) = true) (hr : roomOk (xs.length + ys.length) info.bytes = true)
  (h : ∀ tl' own', (tl' = .nil ∨ ∃ st, tl' = .own st (own' st) (n + 1) ∧ own' st ≠ 0) → Wo K f ops l (setAt R d (.sl (xs ++ ys) tl')) own' H Q) : Wo K f ops (o :: l) R own H Q := by
 by_cases hne : ys = []
 ·subst hne
  refine ja (x := .sl xs tl) (own' := own) (H' := H) hgd hd ?_ (by simpa using h tl own htl)
  have hm : mapO (evalO K R) [a, x] = some [.sl xs tl, .sl [] u] := by simp [mapO, ha, hx]
  have hzb : (z.cells.length == n + 1) = true := by simp [hz1]
  simp only [aOp, ho, ht, hm, aBuiltin, hu2, aAppend, hu, hi, hz, h0, asEls, hy, if_true, hzb, hd, Option.getD_some, hg, hs]
  refine (E.bind_nil (a := ()) (by rw [hr]; rfl)).trans ?_
  refine (E.bind_nil (a := ()) (by rw [hxs]; rfl)).trans ?_
  refine (E.bind_nil (a := ()) (by rw [hcl]; rfl)).trans ?_
  refine (E.bind_nil (a := ()) ?_).trans rfl
  rcases htl with rfl | ⟨st, rfl, hst⟩
  ·rfl
  ·show E.chk false (own st == own st && own st != 0 && (n + 1 == n + 1)) [] = _
   rw [show (own st == own st && own st != 0 && (n + 1 == n + 1)) = true by simp [hst]]; rfl
 ·exact Wo.append_own hs hgd hd ho ht hu hu2 hi hz h0 hz1 hg ha htl hx hxs hy hne hcl hr fun own' q => h _ own' (.inr ⟨d, by rw [q], by rw [q]; omega⟩)
end Go.Tm
namespace Go.Proofs
open Go.Tm Go.Proofs.RgPlain
set_option maxRecDepth 100000
theorem filter_succ (q : Int → Bool) (xs : List Int) (j : Nat) (h : j < xs.length) : (xs.take (j + 1)).filter q = if q xs[j] then (xs.take j).filter q ++ [xs[j]] else (xs.take j).filter q := by
 rw [List.take_add_one, List.getElem?_eq_getElem h, List.filter_append]
 by_cases e : q xs[j] = true <;> simp [e]
theorem closed_arr (o : List Int) (ms : List Int) (tl : Tail) : AV.closedL [.agg (o.map i64), .sl (ms.map i64) tl] = true := by simp [AV.closedL, AV.closed, closedL_ints]
theorem pure10 (o ms : List Int) (tl : Tail) : isPure Kz 10 [.agg (o.map i64), .sl (ms.map i64) tl] = true := by
 show (true && AV.closedL [.agg (o.map i64), .sl (ms.map i64) tl]) = true
 rw [closed_arr]; rfl
theorem pure12 (o ms : List Int) (tl : Tail) : isPure Kz 12 [.agg (o.map i64), .sl (ms.map i64) tl] = true := by
 show (true && AV.closedL [.agg (o.map i64), .sl (ms.map i64) tl]) = true
 rw [closed_arr]; rfl
theorem b23 : aBuild Kz 23 [] = some (.agg (zeros.map i64)) := by kernel_rfl
theorem rem_run (x y : Operand) (a : Int) (k : Nat) (hk : 0 < k) (ha : 0 ≤ a) : pureRun Kz.P (do eqGuard .rem 3 x y (.int .i64 a) (.int .i64 k); binOp .rem 3 (.int .i64 a) (.int .i64 k)) = some (.int .i64 ((a.toNat % k : Nat) : Int)) := by
 have h0 : ¬ (k : Int) = 0 := by omega
 have e : pureRun Kz.P (do eqGuard .rem 3 x y (.int .i64 a) (.int .i64 k); binOp .rem 3 (.int .i64 a) (.int .i64 k)) = pureRun Kz.P (Op.intDiv .rem .i64 a (k : Int)) := rfl
 rw [e]
 unfold Op.intDiv
 rw [if_neg h0]
 show some (Value.int .i64 (Int.tmod a (k : Int))) = _
 obtain ⟨n, rfl⟩ : ∃ n : Nat, a = n := ⟨a.toNat, by omega⟩
 rw [Int.toNat_natCast, ← Int.ofNat_tmod]
theorem op_load_int {f : FuncId} {o : Oper} {R : List AV} {own : Nat → Nat} {H : List AB} {a : Operand} {b off i : Nat} {tt : TypeId × Bool} {l : List Int} (ho : o.op = .load 3 a) (ha : evalO Kz R a = some (.ptr b off)) (hoff : off = i) (hb : nth H b = some (.cells tt (l.map i64))) (hi : i < l.length) : aOp Kz f ⟨R, own, H⟩ o [] = some (.val (i64 (l.getD i 0)) own H, [], []) := by
 subst hoff
 refine op_load_ptr (v := i64 (l.getD off 0)) ho ha hb ?_
 have hlt : off < (l.map i64).length := by rw [List.length_map]; exact hi
 rw [List.drop_eq_getElem_cons hlt, List.getElem_map, List.getD_eq_getElem?_getD, List.getElem?_eq_getElem hi]
 exact take_one ag3 sz3
theorem wrap_id {n : Int} (h1 : -(2 ^ 63) ≤ n) (h2 : n < 2 ^ 63) : IntKind.i64.wrap n = n := by
 simp only [IntKind.wrap, IntKind.bits, IntKind.signed]
 simp
 omega
end Go.Proofs
