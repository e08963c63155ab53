/- The tree machine over unknown values: what each kind of operation tells. -/
import Derived.Test.YtfihfpgphipglaaGreatDoorTmSym
set_option linter.unusedVariables false
set_option linter.unusedSimpArgs false
set_option linter.unusedSectionVars false
namespace Go.Tm
variable {K : Cfg} {f : FuncId} {o : Oper} {R : List AV} {own : Nat → Nat} {H : List AB}

theorem op_move {x : Operand} {v : AV} (ho : o.op = .move x) (hx : evalO K R x = some v) : aOp K f ⟨R, own, H⟩ o [] = some (.val v own H, [], []) := by
  simp only [aOp, ho, hx]; rfl
theorem op_assign {x : Operand} {v : AV} (ho : o.op = .assign x) (hx : evalO K R x = some v) : aOp K f ⟨R, own, H⟩ o [] = some (.val v own H, [], []) := by
  simp only [aOp, ho, hx]; rfl
theorem op_bin {op : BinOp} {t yt : TypeId} {x y : Operand} {a b r : Value} (ho : o.op = .binOp op t x y yt) (hx : evalO K R x = some (.v a)) (hy : evalO K R y = some (.v b)) (hr : pureRun K.P (do eqGuard op t x y a b; binOp op t a b) = some r) (hf : flat r = true) : aOp K f ⟨R, own, H⟩ o [] = some (.val (.v r) own H, [], []) := by
  simp only [aOp, ho, hx, hy, aKeepE, aBinOp, hr, hf]; rfl
theorem op_bin_str {op : BinOp} {t yt : TypeId} {x y : Operand} {a b : List UInt8} {r : AV} (ho : o.op = .binOp op t x y yt) (hx : evalO K R x = some (.str a)) (hy : evalO K R y = some (.str b)) (hr : aStrOp K op a b [] = some (r, [], [])) : aOp K f ⟨R, own, H⟩ o [] = some (.val r.unown own H, [], []) := by
  simp only [aOp, ho, hx, hy, aKeepE, aBinOp]
  exact (E.bind_nil hr).trans rfl
theorem op_bin_nil {t yt : TypeId} {x y : Operand} {a b : AV} {r : Bool} (ho : o.op = .binOp .eql t x y yt) (hx : evalO K R x = some a) (hy : evalO K R y = some b) (hr : aBinOp K .eql t x y a b [] = some (.v (.bool r), [], [])) : aOp K f ⟨R, own, H⟩ o [] = some (.val (.v (.bool r)) own H, [], []) := by
  simp only [aOp, ho, hx, hy, aKeepE]
  exact (E.bind_nil hr).trans rfl
theorem op_un {op : UnOp} {t : TypeId} {x : Operand} {a r : Value} (ho : o.op = .unOp op t x) (hx : evalO K R x = some (.v a)) (hr : pureRun K.P (Op.unary op a) = some r) (hf : flat r = true) : aOp K f ⟨R, own, H⟩ o [] = some (.val (.v r) own H, [], []) := by
  simp only [aOp, ho, hx, aKeep, aUnOp, hr, hf, if_true]; rfl
theorem op_pick (hs : K.sym = false) {c a b : Operand} {t : Bool} {x y : AV} (ho : o.op = .pick c a b) (hc : evalO K R c = some (.v (.bool t))) (hx : evalO K R a = some x) (hy : evalO K R b = some y) : aOp K f ⟨R, own, H⟩ o [] = some (.val (if t then x else y) own H, [], []) := by
  simp only [aOp, ho, hc, hx, hy, hs]
  exact (E.bind_nil (a := t) rfl).trans rfl
theorem op_pick_t (hs : K.sym = false) {c a b : Operand} {t : Bool} {x y : AV} (ht : t = true) (ho : o.op = .pick c a b) (hc : evalO K R c = some (.v (.bool t))) (hx : evalO K R a = some x) (hy : evalO K R b = some y) : aOp K f ⟨R, own, H⟩ o [] = some (.val x own H, [], []) := by
  have := op_pick (f := f) (own := own) (H := H) hs ho hc hx hy
  rwa [ht, if_pos rfl] at this
theorem op_pick_f (hs : K.sym = false) {c a b : Operand} {t : Bool} {x y : AV} (ht : t = false) (ho : o.op = .pick c a b) (hc : evalO K R c = some (.v (.bool t))) (hx : evalO K R a = some x) (hy : evalO K R b = some y) : aOp K f ⟨R, own, H⟩ o [] = some (.val y own H, [], []) := by
  have := op_pick (f := f) (own := own) (H := H) hs ho hc hx hy
  rwa [ht, if_neg (by simp)] at this
theorem op_len_sl {t e : TypeId} {x : Operand} {xs : List AV} {tl : Tail} {ts : Array TypeId} (ho : o.op = .call { callee := .builtin .len, args := #[x], argTypes := ts }) (ht : ts.toList = [t]) (hu : K.P.underlying t = some (.slice e)) (hx : evalO K R x = some (.sl xs tl)) : aOp K f ⟨R, own, H⟩ o [] = some (.val (.v (goInt xs.length)) own H, [], []) := by
  have hm : mapO (evalO K R) [x] = some [.sl xs tl] := by simp [mapO, hx]
  simp only [aOp, ho, ht, hm, aBuiltin, aKeep, aLen, hu]; rfl
theorem op_len_ms {t e : TypeId} {x : Operand} {b off len sz : Nat} {ts : Array TypeId} (ho : o.op = .call { callee := .builtin .len, args := #[x], argTypes := ts }) (ht : ts.toList = [t]) (hu : K.P.underlying t = some (.slice e)) (hx : evalO K R x = some (.ms b off len sz)) : aOp K f ⟨R, own, H⟩ o [] = some (.val (.v (goInt len)) own H, [], []) := by
  have hm : mapO (evalO K R) [x] = some [.ms b off len sz] := by simp [mapO, hx]
  simp only [aOp, ho, ht, hm, aBuiltin, aKeep, aLen, hu]; rfl
theorem op_len_str {t : TypeId} {x : Operand} {xs : List UInt8} {ts : Array TypeId} (ho : o.op = .call { callee := .builtin .len, args := #[x], argTypes := ts }) (ht : ts.toList = [t]) (hu : K.P.underlying t = some .string) (hx : evalO K R x = some (.str xs)) : aOp K f ⟨R, own, H⟩ o [] = some (.val (.v (goInt xs.length)) own H, [], []) := by
  have hm : mapO (evalO K R) [x] = some [.str xs] := by simp [mapO, hx]
  simp only [aOp, ho, ht, hm, aBuiltin, aKeep, aLen, hu]; rfl
/-- The place of an element. -/
theorem op_indexAddr_sl (hs : K.sym = false) {t e : TypeId} {x i : Operand} {xs : List AV} {tl : Tail} {k : IntKind} {n : Int} {j sz : Nat} {el : AV} (ho : o.op = .indexAddr t x i) (hu : K.P.underlying t = some (.slice e)) (hz : tSize K.P e = some (sz + 1)) (hx : evalO K R x = some (.sl xs tl)) (hi : evalO K R i = some (.v (.int k n))) (hn : n = (j : Int)) (hj : xs[j]? = some el) (hl : el.cells.length = sz + 1) : aOp K f ⟨R, own, H⟩ o [] = some (.val (.rp el.cells) own H, [], []) := by
  subst hn
  have hlt := (List.getElem?_eq_some_iff.1 hj).1
  have hnth : nth xs j = some el := by rw [← hj]; exact nth_eq' xs j
  simp only [aOp, ho, hx, hi, aKeepE, aIndexAddr, asI, hu, hz, hs]
  refine (E.bind_nil (a := AV.rp el.cells) ?_).trans rfl
  have hd : decide (0 ≤ (j : Int) ∧ (j : Int) < (xs.length : Int)) = true := by simp; omega
  rw [hd]
  refine (E.bind_nil (a := ()) rfl).trans ?_
  refine (E.bind_nil (a := el) (by rw [Int.toNat_natCast, hnth]; rfl)).trans ?_
  rw [hl]
  refine (E.bind_nil (a := ()) (by simp [E.chk])).trans rfl
where
  nth_eq' {α : Type} : ∀ (l : List α) (i : Nat), nth l i = l[i]?
    | [], i => by simp [nth]
    | x :: r, 0 => by simp [nth]
    | x :: r, i + 1 => by simp only [nth, List.getElem?_cons_succ]; exact nth_eq' r i
theorem op_load_rp {t : TypeId} {a : Operand} {cs : List AV} {v : AV} (ho : o.op = .load t a) (ha : evalO K R a = some (.rp cs)) (hv : takeVar K.P t cs = some v) : aOp K f ⟨R, own, H⟩ o [] = some (.val v.unown own H, [], []) := by
  simp only [aOp, ho, ha, aKeep, aLoad, deref, hv]; rfl
theorem take_one {P : Program} {t : TypeId} {n : Nat} {x : AV} {r : List AV} (h1 : tAgg P t = some false) (h2 : tSize P t = some n) : takeVar P t (x :: r) = some x := by
  simp only [takeVar, h1, h2]
/-- A call of a function by its name. -/
theorem op_call {g : FuncId} {as ts : Array _} {args : List AV} (ho : o.op = .call { callee := .value (.func g), args := as, argTypes := ts }) (ha : mapO (evalO K R) as.toList = some args) : aOp K f ⟨R, own, H⟩ o [] = some (.call g (args.map AV.unown), [], []) := by
  simp only [aOp, ho, ha, evalO, List.nil_append, List.append_nil]; rfl
/-- A call of a function value. -/
theorem op_callv {x : Operand} {g : FuncId} {fs cs : List AV} {as ts : Array _} {args : List AV} (ho : o.op = .call { callee := .value x, args := as, argTypes := ts }) (hx : evalO K R x = some (.func (.func g) fs cs)) (ha : mapO (evalO K R) as.toList = some args) : aOp K f ⟨R, own, H⟩ o [] = some (.call g ((fs ++ args ++ cs).map AV.unown), [], []) := by
  simp only [aOp, ho, ha, hx]; rfl
theorem op_makeFunc {fn : Fn} {a b : Array Operand} {xs ys : List AV} (ho : o.op = .makeFunc fn a b) (ha : mapO (evalO K R) a.toList = some xs) (hb : mapO (evalO K R) b.toList = some ys) : aOp K f ⟨R, own, H⟩ o [] = some (.val (.func fn (xs.map AV.unown) (ys.map AV.unown)) own H, [], []) := by
  simp only [aOp, ho, ha, hb]; rfl
theorem op_box {e : TypeId} {x : Operand} {v : AV} (ho : o.op = .box e x) (hx : evalO K R x = some v) (h1 : allOne v.cells = true) : aOp K f ⟨R, own, H⟩ o [] = some (.val (.ptr H.length 0) own (H ++ [.cells (e, true) v.unown.cells]), [], []) := by
  simp only [aOp, ho, hx, h1, if_true]; rfl
theorem op_load_ptr {t : TypeId} {a : Operand} {b off : Nat} {tt : TypeId × Bool} {cs : List AV} {v : AV} (ho : o.op = .load t a) (ha : evalO K R a = some (.ptr b off)) (hb : nth H b = some (.cells tt cs)) (hv : takeVar K.P t (cs.drop off) = some v) : aOp K f ⟨R, own, H⟩ o [] = some (.val v.unown own H, [], []) := by
  simp only [aOp, ho, ha, aKeep, aLoad, deref, hb, hv]; rfl
theorem op_indexAddr_arr (hs : K.sym = false) {t e : TypeId} {x i : Operand} {b off len : Nat} {k : IntKind} {n : Int} {j sz : Nat} (ho : o.op = .indexAddr t x i) (hu : K.P.underlying t = some (.array len e)) (hz : tSize K.P e = some (sz + 1)) (hx : evalO K R x = some (.ptr b off)) (hi : evalO K R i = some (.v (.int k n))) (hn : n = (j : Int)) (hj : j < len) : aOp K f ⟨R, own, H⟩ o [] = some (.val (.ptr b (off + j * (sz + 1))) own H, [], []) := by
  subst hn
  simp only [aOp, ho, hx, hi, aKeepE, aIndexAddr, asI, hu, hz, hs]
  refine (E.bind_nil (a := AV.ptr b (off + j * (sz + 1))) ?_).trans rfl
  have hd : decide (0 ≤ (j : Int) ∧ (j : Int) < (len : Int)) = true := by simp; omega
  rw [hd]
  refine (E.bind_nil (a := ()) rfl).trans ?_
  rw [Int.toNat_natCast]; rfl
theorem op_indexAddr_ms (hs : K.sym = false) {t e : TypeId} {x i : Operand} {b off len : Nat} {k : IntKind} {n : Int} {j sz : Nat} (ho : o.op = .indexAddr t x i) (hu : K.P.underlying t = some (.slice e)) (hz : tSize K.P e = some (sz + 1)) (hx : evalO K R x = some (.ms b off len (sz + 1))) (hi : evalO K R i = some (.v (.int k n))) (hn : n = (j : Int)) (hj : j < len) : aOp K f ⟨R, own, H⟩ o [] = some (.val (.ptr b (off + j * (sz + 1))) own H, [], []) := by
  subst hn
  simp only [aOp, ho, hx, hi, aKeepE, aIndexAddr, asI, hu, hz, hs]
  refine (E.bind_nil (a := AV.ptr b (off + j * (sz + 1))) ?_).trans rfl
  have hd : decide (0 ≤ (j : Int) ∧ (j : Int) < (len : Int)) = true := by simp; omega
  rw [hd]
  refine (E.bind_nil (a := ()) (by simp [E.chk])).trans ?_
  refine (E.bind_nil (a := ()) rfl).trans ?_
  rw [Int.toNat_natCast]; rfl
theorem op_max2 {a b : Operand} {k k' : IntKind} {x y : Int} {ts : Array TypeId} {t : TypeId} (ho : o.op = .call { callee := .builtin .max, args := #[a, b], argTypes := ts }) (ht : ts.toList = [t, t]) (ha : evalO K R a = some (.v (.int k x))) (hb : evalO K R b = some (.v (.int k' y))) : aOp K f ⟨R, own, H⟩ o [] = some (.val (.v (.int k (if y > x then y else x))) own H, [], []) := by
  have hm : mapO (evalO K R) [a, b] = some [.v (.int k x), .v (.int k' y)] := by simp [mapO, ha, hb]
  simp only [aOp, ho, ht, hm, aBuiltin, aKeep, aMinMax, aMinMax.go]; rfl
theorem op_min2 {a b : Operand} {k k' : IntKind} {x y : Int} {ts : Array TypeId} {t : TypeId} (ho : o.op = .call { callee := .builtin .min, args := #[a, b], argTypes := ts }) (ht : ts.toList = [t, t]) (ha : evalO K R a = some (.v (.int k x))) (hb : evalO K R b = some (.v (.int k' y))) : aOp K f ⟨R, own, H⟩ o [] = some (.val (.v (.int k (if y < x then y else x))) own H, [], []) := by
  have hm : mapO (evalO K R) [a, b] = some [.v (.int k x), .v (.int k' y)] := by simp [mapO, ha, hb]
  simp only [aOp, ho, ht, hm, aBuiltin, aKeep, aMinMax, aMinMax.go]; rfl
theorem op_buildSlice {t : TypeId} {len d : Nat} {ps : Array (Nat × Operand)} {qs : List (Nat × AV)} {an : AN} (ho : o.op = .buildSlice t len ps) (hd : o.dst = some d) (hq : mapO (fun p : Nat × Operand => (evalO K R p.2).map fun x => (p.1, x)) ps.toList = some qs) (hb : aBuildSlice K (K.chg f d) own H t len qs = some an) : aOp K f ⟨R, own, H⟩ o [] = some (an, [], []) := by
  simp only [aOp, ho, hd, hq, Option.getD_some, hb]; rfl
/-- A slice of one element, of one cell. -/
theorem build_one {t e : TypeId} {x z : AV} (hu : K.P.underlying t = some (.slice e)) (hz : tSize K.P e = some 1) (h0 : tZero K.P e = some z) (hz1 : z.cells.length = 1) (hx : x.cells = [x]) (h1 : x.one = true) (hc : x.unown.closed = true) (hxu : x.unown.cells = [x.unown]) : aBuildSlice K false own H t 1 [(0, x)] = some (.val (.sl [x.unown] .full) own H) := by
  obtain ⟨z0, hz0⟩ : ∃ z0, z.cells = [z0] := List.length_eq_one_iff.1 hz1
  simp only [aBuildSlice, hu, hz, h0]
  rw [if_neg (by simp [hz1])]
  simp only [rep, hz0, List.append_nil, List.cons_append, List.nil_append]
  simp [afill, hx, allOne, h1, hxu, putAll, setAt, AV.closedL, hc, chunk, elOf]
theorem op_append_new (hs : K.sym = false) {t t2 e d : TypeId} {a x : Operand} {ts : Array TypeId} {ys : List AV} {tl u : Tail} {info : TypeInfo} {z : AV} {n : Nat} (ho : o.op = .call { callee := .builtin .append, args := #[a, x], argTypes := ts }) (hd : o.dst = some d) (ht : ts.toList = [t, t2]) (hu : K.P.underlying t = some (.slice e)) (hu2 : K.P.underlying t2 = some (.slice e))
    (hi : K.P.info? e = some info) (hz : tSize K.P e = some (n + 1)) (h0 : tZero K.P e = some z) (hz1 : z.cells.length = n + 1) (hg : K.chg f d = true) (ha : evalO K R a = some (.sl [] tl)) (htl : tl = .nil ∨ tl = .full) (hx : evalO K R x = some (.sl ys u)) (hy : ys.all (fun y => y.cells.length == n + 1) = true) (hne : ys ≠ []) (hr : roomOk ys.length info.bytes = true) :
    aOp K f ⟨R, own, H⟩ o [] = some (.val (.ms H.length 0 ys.length (n + 1)) own (H ++ [AB.cells (e, false) (ys.flatMap AV.cells)]), [], []) := by
  have hm : mapO (evalO K R) [a, x] = some [.sl [] tl, .sl ys u] := by simp [mapO, ha, hx]
  have hzb : (z.cells.length == n + 1) = true := by simp [hz1]
  simp only [aOp, ho, ht, hm, aBuiltin, hu2, aAppend, hu, hi, hz, h0, asEls, hy, if_true, hzb, hd, Option.getD_some, hg, hs]
  refine (E.bind_nil (a := ()) (by simp [E.chk, hr])).trans ?_
  refine (E.bind_nil (a := ()) (by simp [E.chk])).trans ?_
  refine (E.bind_nil (a := ()) (by rcases htl with rfl | rfl <;> simp [E.chk])).trans ?_
  cases ys with
  | nil => exact absurd rfl hne
  | cons y r => simp only [List.length_nil, Nat.zero_add, List.flatMap_nil, List.nil_append]; rfl
theorem op_append_ms (hs : K.sym = false) {t t2 e d : TypeId} {a x : Operand} {ts : Array TypeId} {ys : List AV} {u : Tail} {info : TypeInfo} {z : AV} {n b len : Nat} {w : Bool} {cs : List AV} (ho : o.op = .call { callee := .builtin .append, args := #[a, x], argTypes := ts }) (hd : o.dst = some d) (ht : ts.toList = [t, t2]) (hu : K.P.underlying t = some (.slice e)) (hu2 : K.P.underlying t2 = some (.slice e))
    (hi : K.P.info? e = some info) (hz : tSize K.P e = some (n + 1)) (h0 : tZero K.P e = some z) (hz1 : z.cells.length = n + 1) (ha : evalO K R a = some (.ms b 0 len (n + 1))) (hb : nth H b = some (.cells (e, w) cs)) (hl : cs.length = len * (n + 1)) (hx : evalO K R x = some (.sl ys u)) (hy : ys.all (fun y => y.cells.length == n + 1) = true) (hne : ys ≠ []) (hr : roomOk (len + ys.length) info.bytes = true) :
    aOp K f ⟨R, own, H⟩ o [] = some (.val (.ms H.length 0 (len + ys.length) (n + 1)) own (setAt H b .dead ++ [AB.cells (e, false) (cs ++ ys.flatMap AV.cells)]), [], []) := by
  have hm : mapO (evalO K R) [a, x] = some [.ms b 0 len (n + 1), .sl ys u] := by simp [mapO, ha, hx]
  have hzb : (z.cells.length == n + 1) = true := by simp [hz1]
  simp only [aOp, ho, ht, hm, aBuiltin, hu2, aAppend, hu, hi, hz, h0, asEls, hy, if_true, hzb, hb, hs]
  refine (E.bind_nil (a := ()) (by simp [E.chk])).trans ?_
  refine (E.bind_nil (a := ()) (by simp [E.chk])).trans ?_
  refine (E.bind_nil (a := ()) (by simp [E.chk, hl])).trans ?_
  refine (E.bind_nil (a := ()) (by simp [E.chk, hr])).trans ?_
  cases ys with
  | nil => exact absurd rfl hne
  | cons y r => rfl
end Go.Tm
