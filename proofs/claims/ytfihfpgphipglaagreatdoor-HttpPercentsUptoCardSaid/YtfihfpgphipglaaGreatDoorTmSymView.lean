/- The tree machine over unknown values: lists of ints, wherever they lie. -/
import Derived.Test.YtfihfpgphipglaaGreatDoorTmSymOps
set_option linter.unusedVariables false
set_option linter.unusedSimpArgs false
set_option linter.unusedSectionVars false
namespace Go.Tm
abbrev i64 (n : Int) : AV := .v (.int .i64 n)
/-- A slice of ints that reads as this list: kept, or in changeable memory. -/
def View (H : List AB) (x : AV) (xs : List Int) : Prop :=
  (∃ tl, x = .sl (xs.map i64) tl ∧ tl.un = tl) ∨ ∃ b off tt cs, x = .ms b off xs.length 1 ∧ nth H b = some (.cells tt cs) ∧ off + xs.length ≤ cs.length ∧ ∀ (j : Nat) (h : j < xs.length), cs[off + j]? = some (i64 xs[j])
theorem View.unown {H : List AB} {x : AV} {xs : List Int} (h : View H x xs) : x.unown = x := by
  rcases h with ⟨tl, rfl, e⟩ | ⟨b, off, tt, cs, rfl, _⟩
  · rw [unown_sl, e]
  · rfl
theorem View.kept {H : List AB} {x : AV} {xs : List Int} (h : View H x xs) (hc : x.closed = true) (H' : List AB) : View H' x xs := by
  rcases h with ⟨tl, rfl, e⟩ | ⟨b, off, tt, cs, rfl, _⟩
  · exact .inl ⟨tl, rfl, e⟩
  · cases hc
section
variable {K : Cfg} {f : FuncId} {ops : Array Oper} {R : List AV} {own : Nat → Nat} {H : List AB} {Q : AX → St → Prop}
theorem op_len_view {o : Oper} {t e : TypeId} {x : Operand} {v : AV} {xs : List Int} {ts : Array TypeId} (hv : View H v xs) (ho : o.op = .call { callee := .builtin .len, args := #[x], argTypes := ts }) (ht : ts.toList = [t]) (hu : K.P.underlying t = some (.slice e)) (hx : evalO K R x = some v) : aOp K f ⟨R, own, H⟩ o [] = some (.val (.v (goInt xs.length)) own H, [], []) := by
  rcases hv with ⟨tl, rfl, _⟩ | ⟨b, off, tt, cs, rfl, _⟩
  · have := op_len_sl (K := K) (f := f) (own := own) (H := H) ho ht hu hx
    rwa [List.length_map] at this
  · exact op_len_ms ho ht hu hx
/-- An element is read. -/
theorem Wo.elem (hs : K.sym = false) {o1 o2 : Oper} {l : List Oper} {t e : TypeId} {x i : Operand} {v : AV} {xs : List Int} {k : IntKind} {n : Int} {j d1 d2 : Nat} (hv : View H v xs) (hj : j < xs.length) (hn : n = (j : Int))
    (g1 : o1.guard = none) (e1 : o1.dst = some d1) (ho1 : o1.op = .indexAddr t x i) (g2 : o2.guard = none) (e2 : o2.dst = some d2) (ho2 : o2.op = .load e (.tmp d1)) (hu : K.P.underlying t = some (.slice e)) (hz : tSize K.P e = some 1) (ha : tAgg K.P e = some false)
    (hx : evalO K R x = some v) (hi : evalO K R i = some (.v (.int k n))) (hd : d1 < R.length) (h : ∀ a, Wo K f ops l (setAt (setAt R d1 a) d2 (i64 xs[j])) own H Q) : Wo K f ops (o1 :: o2 :: l) R own H Q := by
  have get : ∀ a, evalO K (setAt R d1 a) (.tmp d1) = some a := fun a => by
    show nth (setAt R d1 a) d1 = some a
    have : ∀ (l : List AV) (i : Nat) (a : AV), i < l.length → nth (setAt l i a) i = some a := by
      intro l
      induction l with
      | nil => intro i a h; cases h
      | cons y r ih => intro i a h; cases i with
        | zero => rfl
        | succ i => exact ih i a (by simpa using h)
    exact this R d1 a hd
  rcases hv with ⟨tl, rfl, _⟩ | ⟨b, off, tt, cs, rfl, hb, hle, hc⟩
  · refine Wo.doVal g1 e1 (op_indexAddr_sl (sz := 0) hs ho1 hu hz hx hi hn (j := j) (el := i64 xs[j]) (by simp [List.getElem?_map, List.getElem?_eq_getElem hj]) rfl) ?_
    exact Wo.doVal g2 e2 (op_load_rp ho2 (get _) (take_one ha hz)) (h _)
  · refine Wo.doVal g1 e1 (op_indexAddr_ms (sz := 0) hs ho1 hu hz hx hi hn hj) ?_
    refine Wo.doVal g2 e2 (op_load_ptr ho2 (get _) hb (v := i64 xs[j]) ?_) (h _)
    have hq := hc j hj
    obtain ⟨hlt, hq⟩ := List.getElem?_eq_some_iff.1 hq
    have : cs.drop (off + j * (0 + 1)) = i64 xs[j] :: cs.drop (off + j + 1) := by
      rw [show off + j * (0 + 1) = off + j by omega, List.drop_eq_getElem_cons hlt, hq]
    rw [this]
    exact take_one ha hz
end
section
variable {K : Cfg} {f : FuncId} {o : Oper} {R : List AV} {own : Nat → Nat} {H : List AB}
/-- One cell stored. -/
theorem op_store1 {t : TypeId} {a x : Operand} {b off : Nat} {e : TypeId × Bool} {cs : List AV} {n : Int} (ho : o.op = .store t a x) (hz : tSize K.P t = some 1) (ha : evalO K R a = some (.ptr b off)) (hx : evalO K R x = some (i64 n)) (hb : nth H b = some (.cells e cs)) (hle : off + 1 ≤ cs.length) : aOp K f ⟨R, own, H⟩ o [] = some (.skip (setAt H b (.cells e (setAt cs off (i64 n)))), [], []) := by
  have h : aStore K H t (.ptr b off) (i64 n) = some (setAt H b (.cells e (setAt cs off (i64 n)))) := by
    simp only [aStore, hz, hb]
    rw [if_pos ⟨rfl, hle, rfl⟩]; rfl
  simp only [aOp, ho, ha, hx, h]; rfl
theorem op_slice_lo_ms (hs : K.sym = false) {t e : TypeId} {x l : Operand} {b off len j : Nat} {k : IntKind} {n : Int} (ho : o.op = .slice t x (some l) none none) (hu : K.P.underlying t = some (.slice e)) (hz : tSize K.P e = some 1) (hx : evalO K R x = some (.ms b off len 1)) (hl : evalO K R l = some (.v (.int k n))) (hn : n = (j : Int)) (hj : j ≤ len) : aOp K f ⟨R, own, H⟩ o [] = some (.val (if j = len then .sl [] .unk else .ms b (off + j * 1) (len - j) 1) own H, [], []) := by
  subst hn
  simp only [aOp, ho, hx, hl, Option.elim, Option.map]
  have hb : aBounds K len (some (.v (.int k (j : Int)))) none none [] = some ((j, len, none), [], []) := by
    simp only [aBounds, optI, asI, Option.map, hs]
    refine (E.bind_nil (a := ()) (by
      show E.chk false (decide (0 ≤ (j : Int) ∧ (j : Int) ≤ (len : Int) ∧ (len : Int) ≤ (len : Int) ∧ (len : Int) ≤ (len : Int))) [] = _
      rw [decide_eq_true (by omega)]; rfl)).trans ?_
    simp; rfl
  have h : aSlice K H t (.ms b off len 1) (some (.v (.int k (j : Int)))) none none [] = some (if j = len then .sl [] .unk else .ms b (off + j * 1) (len - j) 1, [], []) := by
    simp only [aSlice, hu, hz, hs]
    refine (E.bind_nil (a := ()) (by simp [E.chk])).trans ?_
    refine (E.bind_nil hb).trans ?_
    simp only [Option.getD_none]
    split <;> rfl
  exact (E.bind_nil h).trans rfl
theorem op_slice_hi_ms (hs : K.sym = false) {t e : TypeId} {x l : Operand} {b off len j : Nat} {k : IntKind} {n : Int} (ho : o.op = .slice t x none (some l) none) (hu : K.P.underlying t = some (.slice e)) (hz : tSize K.P e = some 1) (hx : evalO K R x = some (.ms b off len 1)) (hl : evalO K R l = some (.v (.int k n))) (hn : n = (j : Int)) (hj : j ≤ len) : aOp K f ⟨R, own, H⟩ o [] = some (.val (if 0 = len then .sl [] .unk else .ms b off j 1) own H, [], []) := by
  subst hn
  simp only [aOp, ho, hx, hl, Option.elim, Option.map]
  have hb : aBounds K len none (some (.v (.int k (j : Int)))) none [] = some ((0, j, none), [], []) := by
    simp only [aBounds, optI, asI, Option.map, hs]
    refine (E.bind_nil (a := ()) (by
      show E.chk false (decide (0 ≤ (0 : Int) ∧ (0 : Int) ≤ (j : Int) ∧ (j : Int) ≤ (len : Int) ∧ (len : Int) ≤ (len : Int))) [] = _
      rw [decide_eq_true (by omega)]; rfl)).trans ?_
    simp; rfl
  have h : aSlice K H t (.ms b off len 1) none (some (.v (.int k (j : Int)))) none [] = some (if 0 = len then .sl [] .unk else .ms b off j 1, [], []) := by
    simp only [aSlice, hu, hz, hs]
    refine (E.bind_nil (a := ()) (by simp [E.chk])).trans ?_
    refine (E.bind_nil hb).trans ?_
    simp only [Option.getD_none]
    split <;> rfl
  exact (E.bind_nil h).trans rfl
theorem op_slice_lo_ms' (hs : K.sym = false) {t e : TypeId} {x l : Operand} {b off len j : Nat} {k : IntKind} {n : Int} (ho : o.op = .slice t x (some l) none none) (hu : K.P.underlying t = some (.slice e)) (hz : tSize K.P e = some 1) (hx : evalO K R x = some (.ms b off len 1)) (hl : evalO K R l = some (.v (.int k n))) (hn : n = (j : Int)) (hj : j < len) : aOp K f ⟨R, own, H⟩ o [] = some (.val (.ms b (off + j) (len - j - 1 + 1) 1) own H, [], []) := by
  have h := op_slice_lo_ms (f := f) (own := own) (H := H) hs ho hu hz hx hl hn (Nat.le_of_lt hj)
  rw [if_neg (by omega), Nat.mul_one] at h
  rw [h, show len - j - 1 + 1 = len - j by omega]
theorem op_slice_hi_ms' (hs : K.sym = false) {t e : TypeId} {x l : Operand} {b off len j : Nat} {k : IntKind} {n : Int} (ho : o.op = .slice t x none (some l) none) (hu : K.P.underlying t = some (.slice e)) (hz : tSize K.P e = some 1) (hx : evalO K R x = some (.ms b off len 1)) (hl : evalO K R l = some (.v (.int k n))) (hn : n = (j : Int)) (hj : j ≤ len) (h0 : 0 < len) : aOp K f ⟨R, own, H⟩ o [] = some (.val (.ms b off j 1) own H, [], []) := by
  have h := op_slice_hi_ms (f := f) (own := own) (H := H) hs ho hu hz hx hl hn hj
  rwa [if_neg (by omega)] at h
/-- A stretch of cells cleared. -/
theorem op_clear_ms {t e : TypeId} {x : Operand} {ts : Array TypeId} {b off len : Nat} {tt : TypeId × Bool} {cs : List AV} {z : AV} (ho : o.op = .call { callee := .builtin .clear, args := #[x], argTypes := ts }) (ht : ts.toList = [t]) (hu : K.P.underlying t = some (.slice e)) (h0 : tZero K.P e = some z) (hz : z.cells.length = 1) (hx : evalO K R x = some (.ms b off (len + 1) 1)) (hb : nth H b = some (.cells tt cs)) (hle : off + (len + 1) ≤ cs.length) : aOp K f ⟨R, own, H⟩ o [] = some (.val .undef own (setAt H b (.cells tt (putAll cs off (rep z.cells (len + 1))))), [], []) := by
  have hm : mapO (evalO K R) [x] = some [.ms b off (len + 1) 1] := by simp [mapO, hx]
  have h : aClear K H t (.ms b off (len + 1) 1) = some (setAt H b (.cells tt (putAll cs off (rep z.cells (len + 1))))) := by
    simp only [aClear, hu, hb, h0]
    rw [if_pos ⟨hz, by omega, by omega⟩]
  simp only [aOp, ho, ht, hm, aBuiltin, h]; rfl
end
/-- A call that tells a value, and leaves memory as it was: however it is called. -/
theorem Tells.plain {K : Cfg} {f : FuncId} {fn : Func} {c : Code} {args args' : List AV} {m : Nat} {H : List AB} {v : Value} (hf : K.P.funcs[f]? = some fn) (hc : fn.body = some c) (ha : args.map AV.unown = args') (hm : fn.ntmps - args.length = m) (e1 : K.libv f = none) (e2 : K.lib f = none)
    (h : ∀ H0, (H0 = H ∨ AV.closedL args = true) → Wc K f c (enter m args') (fun _ => 0) H0 (EndQ K fn fun r H' => r = .v v ∧ H' = H0)) : Tells K f args H fun r H' => r = .v v ∧ H' = H := by
  cases e3 : K.vals f && AV.closedL args with
  | false =>
    exact Tells.mem hf hc ha hm e1 e2 e3 (h H (.inl rfl))
  | true =>
    have hcl : AV.closedL args = true := by
      cases hq : AV.closedL args with
      | true => rfl
      | false => rw [hq] at e3; simp at e3
    refine Tells.vals hf hc ha hm e1 e2 e3 (W.mono (h [] (.inr hcl)) fun x hx => ?_)
    obtain ⟨he, r, hr, rfl, hH⟩ := hx
    exact ⟨he, _, hr, .v v, rfl, rfl, rfl, rfl⟩
end Go.Tm
