/- TmTab, TmTab2, TmStepV, joined. -/
import Derived.Test.YtaefgigfoifjaaaGreatDoorTmQd
import Derived.Test.YtaefgigfoifjaaaGreatDoorTmBld
set_option linter.unusedVariables false
set_option linter.unusedSimpArgs false
set_option linter.unusedSectionVars false
section
namespace Go.Tm
theorem jU : (∀ x, (AV.v x).unown = .v x) ∧ (∀ x, (AV.str x).unown = .str x) ∧ (∀ x, (AV.agg x).unown = .agg x) ∧ (∀ b o, (AV.ptr b o).unown = .ptr b o) ∧ (∀ b, (AV.map b).unown = .map b) ∧ (∀ a b c d, (AV.ms a b c d).unown = .ms a b c d) ∧ (∀ f a b, (AV.func f a b).unown = .func f a b) ∧ (∀ x, (AV.rp x).unown = .rp x) ∧ (∀ x, (AV.tup x).unown = .tup x) ∧ (∀ t x, (AV.iface t x).unown = .iface t x) ∧ (∀ x, (AV.sl x .nil).unown = .sl x .nil) ∧ (∀ x, (AV.sl x .full).unown = .sl x .full) ∧ (∀ x, (AV.sl x .unk).unown = .sl x .unk) := ⟨fun _ => rfl, fun _ => rfl, fun _ => rfl, fun _ _ => rfl, fun _ => rfl, fun _ _ _ _ => rfl, fun _ _ _ => rfl, fun _ => rfl, fun _ => rfl, fun _ _ => rfl, fun _ => rfl, fun _ => rfl, fun _ => rfl⟩
theorem eqI {x y : Int} (h : x = y) : (x == y) = true := by simp [h]
theorem neI {x y : Int} (h : x ≠ y) : (x == y) = false := by simp [h]
theorem bneI {x y : Int} (h : x ≠ y) : (x != y) = true := by simp [h]
theorem bnqI {x y : Int} (h : x = y) : (x != y) = false := by simp [h]
structure TE where
 t : Nat
 u : Option TypeDesc
 sz : Nat
 ag : Bool
 z : Option AV
 fs : List (Nat × Nat)
def TE.ok (K : Cfg) (e : TE) : Prop :=
 (∀ d, e.u = some d → K.P.underlying e.t = some d) ∧ tSize K.P e.t = some e.sz ∧ tAgg K.P e.t = some e.ag ∧ (∀ z, e.z = some z → tZero K.P e.t = some z) ∧
 (e.fs ≠ [] → ∃ fl : List Field, K.P.underlying e.t = some (.struct fl.toArray) ∧ fl.map (fun f => (f.offset, f.type)) = e.fs)
def TE.okL (K : Cfg) : List TE → Prop
 | [] => True
 | e :: r => e.ok K ∧ TE.okL K r
def tlook : List TE → Nat → Option TE
 | [], _ => none
 | e :: r, t => match Nat.beq e.t t with
  | true => some e
  | false => tlook r t
theorem tlook_ok {K : Cfg} : ∀ {l : List TE} {t : Nat} {e : TE}, TE.okL K l → tlook l t = some e → e.ok K ∧ e.t = t
 | [], _, _, _, h => by cases h
 | a :: r, t, e, ho, h => by
  unfold tlook at h
  cases hb : Nat.beq a.t t with
  | true => rw [hb] at h; cases h; exact ⟨ho.1, Nat.eq_of_beq_eq_true hb⟩
  | false => rw [hb] at h; exact tlook_ok ho.2 h
def nilCmp : Option TypeDesc → BinOp → AV → AV → Option Bool
 | some (.pointer _), .eql, .ptr _ _, .v (.pointer none) => some false
 | some (.pointer _), .neq, .ptr _ _, .v (.pointer none) => some true
 | some (.map _ _), .eql, .map _, .v (.map none) => some false
 | some (.map _ _), .neq, .map _, .v (.map none) => some true
 | some (.func _ _ _), .eql, .func _ _ _, .v .nilFunc => some false
 | some (.func _ _ _), .neq, .func _ _ _, .v .nilFunc => some true
 | _, _, _, _ => none
def addN : Nat → Nat → Option Nat
 | 0, m => some m
 | n + 1, 0 => some (n + 1)
 | n + 1, m + 1 => some (n + 1 + (m + 1))
theorem addN_ok : ∀ {n m k : Nat}, addN n m = some k → n + m = k
 | 0, m, k, h => by cases h; exact Nat.zero_add _
 | n + 1, 0, k, h => by cases h; rfl
 | n + 1, m + 1, k, h => by cases h; rfl
def easyOp : BinOp → Bool
 | .and | .or | .xor | .andNot | .shl | .shr | .quo | .rem => false
 | _ => true
def strCmp (op : BinOp) (p q : List UInt8) : Option Bool :=
 match op with
 | .eql => some (p == q)
 | .neq => some (!(p == q))
 | .lss => some (Op.bytesLess p q)
 | .leq => some (Op.bytesLess p q || p == q)
 | .gtr => some (!(Op.bytesLess p q || p == q))
 | .geq => some (!(Op.bytesLess p q))
 | _ => none
class Tab (K : Cfg) where
 T : List TE
 ok : TE.okL K T
 sym : K.sym = false
section
variable {K : Cfg} [tb : Tab K]
def uOf (K : Cfg) [tb : Tab K] (t : Nat) : Option TypeDesc := (tlook tb.T t).bind (·.u)
def szOf (K : Cfg) [tb : Tab K] (t : Nat) : Option Nat := (tlook tb.T t).map (·.sz)
def agOf (K : Cfg) [tb : Tab K] (t : Nat) : Option Bool := (tlook tb.T t).map (·.ag)
def zOf (K : Cfg) [tb : Tab K] (t : Nat) : Option AV := (tlook tb.T t).bind (·.z)
def fsOf (K : Cfg) [tb : Tab K] (t : Nat) : Option (List (Nat × Nat)) := (tlook tb.T t).map (·.fs)
theorem uOf_ok {t : Nat} {d : TypeDesc} (h : uOf K t = some d) : K.P.underlying t = some d := by
 unfold uOf at h
 cases hl : tlook tb.T t with
 | none => rw [hl] at h; cases h
 | some e =>
  rw [hl] at h
  obtain ⟨ho, rfl⟩ := tlook_ok tb.ok hl
  exact ho.1 d h
theorem szOf_ok {t n : Nat} (h : szOf K t = some n) : tSize K.P t = some n := by
 unfold szOf at h
 cases hl : tlook tb.T t with
 | none => rw [hl] at h; cases h
 | some e =>
  rw [hl] at h
  obtain ⟨ho, rfl⟩ := tlook_ok tb.ok hl
  rw [ho.2.1]; exact h
theorem agOf_ok {t : Nat} {b : Bool} (h : agOf K t = some b) : tAgg K.P t = some b := by
 unfold agOf at h
 cases hl : tlook tb.T t with
 | none => rw [hl] at h; cases h
 | some e =>
  rw [hl] at h
  obtain ⟨ho, rfl⟩ := tlook_ok tb.ok hl
  rw [ho.2.2.1]; exact h
theorem zOf_ok {t : Nat} {z : AV} (h : zOf K t = some z) : tZero K.P t = some z := by
 unfold zOf at h
 cases hl : tlook tb.T t with
 | none => rw [hl] at h; cases h
 | some e =>
  rw [hl] at h
  obtain ⟨ho, rfl⟩ := tlook_ok tb.ok hl
  exact ho.2.2.2.1 z h
theorem fsOf_ok {t i off ft : Nat} {fs : List (Nat × Nat)} (h : fsOf K t = some fs) (hi : fs[i]? = some (off, ft)) : ∃ fl : Array Field, K.P.underlying t = some (.struct fl) ∧ ∃ fd, fl[i]? = some fd ∧ fd.offset = off ∧ fd.type = ft := by
 unfold fsOf at h
 cases hl : tlook tb.T t with
 | none => rw [hl] at h; cases h
 | some e =>
  rw [hl] at h
  obtain rfl : e.fs = fs := Option.some.inj h
  obtain ⟨ho, rfl⟩ := tlook_ok tb.ok hl
  obtain ⟨fl, h1, h2⟩ := ho.2.2.2.2 (fun q => by rw [q] at hi; cases hi)
  rw [← h2, List.getElem?_map] at hi
  cases hf : fl[i]? with
  | none => rw [hf] at hi; cases hi
  | some fd =>
   rw [hf] at hi
   cases hi
   exact ⟨_, h1, fd, by simpa using hf, rfl, rfl⟩
def takeT (K : Cfg) [Tab K] (t : Nat) (cs : List AV) : Option AV :=
 match agOf K t, szOf K t with
 | some true, some n => match Nat.ble n cs.length with
  | true => some (.agg (cs.take n))
  | false => none
 | some false, some _ => match cs with
  | x :: _ => some x
  | [] => none
 | _, _ => none
theorem takeT_ok {t : Nat} {cs : List AV} {v : AV} (h : takeT K t cs = some v) : takeVar K.P t cs = some v := by
 unfold takeT at h
 unfold takeVar
 cases ha : agOf K t with
 | none => rw [ha] at h; cases h
 | some a =>
  cases hz : szOf K t with
  | none => rw [ha, hz] at h; cases a <;> cases h
  | some n =>
   rw [ha, hz] at h
   rw [agOf_ok ha, szOf_ok hz]
   cases a with
   | true =>
    simp only at h ⊢
    cases hb : Nat.ble n cs.length with
    | true => rw [hb] at h; rw [if_pos (Nat.le_of_ble_eq_true hb)]; exact h
    | false => rw [hb] at h; cases h
   | false => exact h
end
section
variable {K : Cfg} [tb : Tab K] {f : FuncId} {ops : Array Oper} {Q : AX → St → Prop} {R : List AV} {own : Nat → Nat} {H : List AB} {l : List Oper} {a : Tmp} {c : TypeId} {d : String} {e : Array Edge}
theorem kp {x y z : Operand} {t : Bool} {v w : AV} (ht : t = true) (hc : evalO K R x = some (.v (.bool t))) (hx : evalO K R y = some v) (hy : evalO K R z = some w) (h : Wo K f ops l (setAt R a v) own H Q) : Wo K f ops (⟨some a, .pick x y z, c, d, e, none⟩ :: l) R own H Q := jp tb.sym ht hc hx hy h
theorem kq {x y z : Operand} {t : Bool} {v w : AV} (ht : t = false) (hc : evalO K R x = some (.v (.bool t))) (hx : evalO K R y = some v) (hy : evalO K R z = some w) (h : Wo K f ops l (setAt R a w) own H Q) : Wo K f ops (⟨some a, .pick x y z, c, d, e, none⟩ :: l) R own H Q := jq tb.sym ht hc hx hy h
theorem ky {op : Op} {j : Nat} {want b : Bool} {dd : Option Tmp} (hy : aYield R ops j = some b) (hb : (b == want) = true) (h : Wo K f ops (⟨dd, op, c, d, e, none⟩ :: l) R own H Q) : Wo K f ops (⟨dd, op, c, d, e, some (j, want)⟩ :: l) R own H Q := jy tb.sym hy hb h
theorem kz {op : Op} {j : Nat} {want b : Bool} (hy : aYield R ops j = some b) (hb : (b == want) = false) (h : Wo K f ops l (setAt R a .undef) own H Q) : Wo K f ops (⟨some a, op, c, d, e, some (j, want)⟩ :: l) R own H Q := jz tb.sym hy hb h
omit tb in
theorem kj {op : BinOp} {t u : TypeId} {x y : Operand} {p q r : Value} (ho : easyOp op = true) (hx : evalO K R x = some (.v p)) (hy : evalO K R y = some (.v q)) (hr : pureRun K.P (do eqGuard op t x y p q; binOp op t p q) = some r) (hf : flat r = true) (h : Wo K f ops l (setAt R a (.v r)) own H Q) : Wo K f ops (⟨some a, .binOp op t x y u, c, d, e, none⟩ :: l) R own H Q := jb hx hy hr hf h
omit tb in
theorem ku {t : TypeId} {x : Operand} {p : Bool} (hx : evalO K R x = some (.v (.bool p))) (h : Wo K f ops l (setAt R a (.v (.bool !p))) own H Q) : Wo K f ops (⟨some a, .unOp .not t x, c, d, e, none⟩ :: l) R own H Q := ju hx rfl rfl h
theorem kk {t : TypeId} {x : Operand} {s : List UInt8} (hx : evalO K R x = some (.str s)) (hu : uOf K t = some .string) (h : Wo K f ops l (setAt R a (.v (goInt s.length))) own H Q) : Wo K f ops (⟨some a, .call { callee := .builtin .len, args := #[x], argTypes := #[t] }, c, d, e, none⟩ :: l) R own H Q := jk (uOf_ok hu) hx h
theorem kk2 {t u : TypeId} {x : Operand} {xs : List AV} {tl : Tail} (hx : evalO K R x = some (.sl xs tl)) (hu : uOf K t = some (.slice u)) (h : Wo K f ops l (setAt R a (.v (goInt xs.length))) own H Q) : Wo K f ops (⟨some a, .call { callee := .builtin .len, args := #[x], argTypes := #[t] }, c, d, e, none⟩ :: l) R own H Q := jl (uOf_ok hu) hx h
theorem kk3 {t u : TypeId} {x : Operand} {b o n z : Nat} (hx : evalO K R x = some (.ms b o n z)) (hu : uOf K t = some (.slice u)) (h : Wo K f ops l (setAt R a (.v (goInt n))) own H Q) : Wo K f ops (⟨some a, .call { callee := .builtin .len, args := #[x], argTypes := #[t] }, c, d, e, none⟩ :: l) R own H Q := Wo.doVal rfl rfl (op_len_ms rfl rfl (uOf_ok hu) hx) h
omit tb in
theorem kn {x : Operand} {b i : Nat} (hx : evalO K R x = some (.ptr b i)) (h : Wo K f ops l (setAt R a (.ptr b i)) own H Q) : Wo K f ops (⟨some a, .nilCheck x, c, d, e, none⟩ :: l) R own H Q := Wo.doVal rfl rfl (op_nilCheck rfl hx) h
theorem fieldAddr_ok {t i off ft b o n : Nat} {fs : List (Nat × Nat)} (hf : fsOf K t = some fs) (hi : fs[i]? = some (off, ft)) (hz : szOf K ft = some (n + 1)) : aFieldAddr K t (.ptr b o) i = some (.ptr b (o + off)) := by
 obtain ⟨fl, h1, fd, h2, rfl, rfl⟩ := fsOf_ok hf hi
 unfold aFieldAddr
 rw [h1]
 simp only [h2, szOf_ok hz]
theorem kf {t i off ft b o n m : Nat} {fs : List (Nat × Nat)} {x : Operand} (hx : evalO K R x = some (.ptr b o)) (hf : fsOf K t = some fs) (hi : fs[i]? = some (off, ft)) (hz : szOf K ft = some (n + 1)) (hm : addN o off = some m) (h : Wo K f ops l (setAt R a (.ptr b m)) own H Q) : Wo K f ops (⟨some a, .fieldAddr t x i, c, d, e, none⟩ :: l) R own H Q := by
 obtain rfl : o + off = m := addN_ok hm
 exact Wo.doVal rfl rfl (op_fieldAddr rfl hx (fieldAddr_ok hf hi hz)) h
theorem kl {t : TypeId} {x : Operand} {b off : Nat} {tt : TypeId × Bool} {cs : List AV} {v u : AV} (hx : evalO K R x = some (.ptr b off)) (hb : nth H b = some (.cells tt cs)) (hv : takeT K t (cs.drop off) = some v) (hu : v.unown = u) (h : Wo K f ops l (setAt R a u) own H Q) : Wo K f ops (⟨some a, .load t x, c, d, e, none⟩ :: l) R own H Q := by
 subst hu
 exact Wo.doVal rfl rfl (op_load_ptr rfl hx hb (takeT_ok hv)) h
theorem klr {t : TypeId} {x : Operand} {cs : List AV} {v u : AV} (hx : evalO K R x = some (.rp cs)) (hv : takeT K t cs = some v) (hu : v.unown = u) (h : Wo K f ops l (setAt R a u) own H Q) : Wo K f ops (⟨some a, .load t x, c, d, e, none⟩ :: l) R own H Q := by
 subst hu
 exact Wo.doVal rfl rfl (op_load_rp rfl hx (takeT_ok hv)) h
omit tb in
theorem ke {x : Operand} {i : Nat} {xs : List AV} {v u : AV} (hx : evalO K R x = some (.tup xs)) (hv : nth xs i = some v) (hu : v.unown = u) (h : Wo K f ops l (setAt R a u) own H Q) : Wo K f ops (⟨some a, .extract x i, c, d, e, none⟩ :: l) R own H Q := by
 subst hu
 exact Wo.doVal rfl rfl (op_extract rfl hx hv) h
theorem fieldT_ok {t i off ft : Nat} {fs : List (Nat × Nat)} {cs : List AV} {v : AV} (hf : fsOf K t = some fs) (hi : fs[i]? = some (off, ft)) (hv : takeT K ft (cs.drop off) = some v) : aField K t (.agg cs) i = some v := by
 obtain ⟨fl, h1, fd, h2, rfl, rfl⟩ := fsOf_ok hf hi
 unfold aField
 rw [h1]
 simp only [h2, takeT_ok hv]
theorem kg {t i off ft : Nat} {fs : List (Nat × Nat)} {x : Operand} {cs : List AV} {v u : AV} (hx : evalO K R x = some (.agg cs)) (hf : fsOf K t = some fs) (hi : fs[i]? = some (off, ft)) (hv : takeT K ft (cs.drop off) = some v) (hu : v.unown = u) (h : Wo K f ops l (setAt R a u) own H Q) : Wo K f ops (⟨some a, .field t x i, c, d, e, none⟩ :: l) R own H Q := by
 subst hu
 refine Wo.doVal rfl rfl (x := v.unown) (own' := own) (H' := H) ?_ h
 simp only [aOp, hx, aKeep, fieldT_ok hf hi hv]; rfl
theorem kc {s u : TypeId} {x : Operand} {k0 k1 k2 : IntKind} {n : Int} (hx : evalO K R x = some (.v (.int k0 n))) (h1 : uOf K s = some (.int k1)) (h2 : uOf K u = some (.int k2)) (h : Wo K f ops l (setAt R a (.v (.int k2 (k2.wrap n)))) own H Q) : Wo K f ops (⟨some a, .convert s u x, c, d, e, none⟩ :: l) R own H Q := Wo.conv (uOf_ok h1) (uOf_ok h2) hx h
omit tb in
theorem ks {op : BinOp} {t u : TypeId} {x y : Operand} {p q : List UInt8} {r : Bool} (hx : evalO K R x = some (.str p)) (hy : evalO K R y = some (.str q)) (hr : strCmp op p q = some r) (h : Wo K f ops l (setAt R a (.v (.bool r))) own H Q) : Wo K f ops (⟨some a, .binOp op t x y u, c, d, e, none⟩ :: l) R own H Q := by
 refine Wo.doVal rfl rfl (op_bin_str (r := .v (.bool r)) rfl hx hy ?_) h
 cases op <;> simp only [strCmp, reduceCtorEq, Option.some.injEq] at hr <;> subst hr <;> rfl
theorem ka {t u : TypeId} {x y : Operand} {p q : List UInt8} (hx : evalO K R x = some (.str p)) (hy : evalO K R y = some (.str q)) (hl : p.length + q.length ≤ 9223372036854775807) (h : Wo K f ops l (setAt R a (.str (p ++ q))) own H Q) : Wo K f ops (⟨some a, .binOp .add t x y u, c, d, e, none⟩ :: l) R own H Q := by
 refine Wo.doVal rfl rfl (op_bin_str (r := .str (p ++ q)) rfl hx hy ?_) h
 unfold aStrOp
 rw [decide_eq_true hl]
 exact (E.bind_nil (a := ()) (by rw [tb.sym]; rfl)).trans rfl
theorem kN {op : BinOp} {t u : TypeId} {x y : Operand} {p q : AV} {r : Bool} (hx : evalO K R x = some p) (hy : evalO K R y = some q) (hr : nilCmp (uOf K t) op p q = some r) (h : Wo K f ops l (setAt R a (.v (.bool r))) own H Q) : Wo K f ops (⟨some a, .binOp op t x y u, c, d, e, none⟩ :: l) R own H Q := by
 refine Wo.doVal rfl rfl (op_binv (r := .v (.bool r)) rfl hx hy ?_) h
 unfold nilCmp at hr
 split at hr <;> first | (cases hr; rename_i hu; simp only [aBinOp, aNilEq, uOf_ok hu]; rfl) | cases hr
omit tb in
theorem kF {fn : Fn} {x y : Array Operand} {xs ys us vs : List AV} (hx : mapO (evalO K R) x.toList = some xs) (hy : mapO (evalO K R) y.toList = some ys) (hu : xs.map AV.unown = us) (hv : ys.map AV.unown = vs) (h : Wo K f ops l (setAt R a (.func fn us vs)) own H Q) : Wo K f ops (⟨some a, .makeFunc fn x y, c, d, e, none⟩ :: l) R own H Q := by
 subst hu hv
 exact Wo.doVal rfl rfl (op_makeFunc rfl hx hy) h
theorem kb {t el : TypeId} {x : Operand} {v z : AV} (hx : evalO K R x = some v) (hu : uOf K t = some (.slice el)) (hz : szOf K el = some 1) (h0 : zOf K el = some z) (hz1 : z.cells.length = 1) (hg : K.chg f a = false) (h1 : v.unown = v) (h2 : v.cells = [v]) (h3 : v.one = true) (h4 : v.closed = true) (h : Wo K f ops l (setAt R a (.sl [v] .full)) own H Q) : Wo K f ops (⟨some a, .buildSlice t 1 #[(0, x)], c, d, e, none⟩ :: l) R own H Q := by
 refine Wo.doVal rfl rfl (op_buildSlice (qs := [(0, v)]) rfl rfl ?_ ?_) h
 ·simp [mapO, hx]
 ·rw [hg]
  have := build_one (K := K) (own := own) (H := H) (uOf_ok hu) (szOf_ok hz) (zOf_ok h0) hz1 h2 h3 (by rw [h1]; exact h4) (by rw [h1]; exact h2)
  rw [h1] at this
  exact this
theorem kA {t : TypeId} {z : AV} (hz : zOf K t = some z) (hb : K.big t = none) (h : ∀ b H', b = H.length → H' = H ++ [.cells (t, true) z.cells] → nth H' b = some (.cells (t, true) z.cells) → Wo K f ops l (setAt R a (.ptr b 0)) own H' Q) : Wo K f ops (⟨some a, .alloc t, c, d, e, none⟩ :: l) R own H Q := by
 refine Wo.doVal rfl rfl (op_alloc rfl (zOf_ok hz) hb) (h _ _ rfl rfl ?_)
 have : ∀ (l : List AB) (x : AB), nth (l ++ [x]) l.length = some x := fun l x => by
  induction l with
  | nil => rfl
  | cons y r ih => exact ih
 exact this _ _
omit tb in
theorem kB {t : TypeId} {x : Operand} {v : AV} {cs : List AV} (hx : evalO K R x = some v) (h1 : allOne v.cells = true) (hc : v.unown.cells = cs) (h : ∀ b H', b = H.length → H' = H ++ [.cells (t, true) cs] → nth H' b = some (.cells (t, true) cs) → Wo K f ops l (setAt R a (.ptr b 0)) own H' Q) : Wo K f ops (⟨some a, .box t x, c, d, e, none⟩ :: l) R own H Q := by
 subst hc
 refine Wo.doVal rfl rfl (op_box rfl hx h1) (h _ _ rfl rfl ?_)
 have : ∀ (l : List AB) (x : AB), nth (l ++ [x]) l.length = some x := fun l x => by
  induction l with
  | nil => rfl
  | cons y r ih => exact ih
 exact this _ _
theorem kS {t : TypeId} {x y : Operand} {b off n : Nat} {tt : TypeId × Bool} {cs cs' : List AV} {v u : AV} (hx : evalO K R x = some (.ptr b off)) (hy : evalO K R y = some v) (hz : szOf K t = some n) (hb : nth H b = some (.cells tt cs)) (hn : v.cells.length = n) (hl : Nat.ble (off + n) cs.length = true) (h1 : allOne v.cells = true) (hu : v.unown = u) (hc : putAll cs off u.cells = cs') (h : ∀ H', H' = setAt H b (.cells tt cs') → nth H' b = some (.cells tt cs') → (∀ j, j ≠ b → nth H' j = nth H j) → H'.length = H.length → Wo K f ops l R own H' Q) : Wo K f ops (⟨none, .store t x y, c, d, e, none⟩ :: l) R own H Q := by
 subst hu hc
 have hs : aStore K H t (.ptr b off) v = some (setAt H b (.cells tt (putAll cs off v.unown.cells))) := by
  simp only [aStore, szOf_ok hz, hb]
  rw [if_pos ⟨hn, Nat.le_of_ble_eq_true hl, h1⟩]
 refine Wo.doSkip rfl rfl (op_store rfl hx hy hs) (h _ rfl ?_ ?_ ?_)
 ·have : ∀ {l : List AB} {i : Nat} {a b : AB}, nth l i = some a → nth (setAt l i b) i = some b := fun {l} => by
   induction l with
   | nil => intro i a b h; cases h
   | cons y r ih => intro i a b h; cases i with
    | zero => rfl
    | succ i => exact ih h
  exact this hb
 ·have : ∀ {l : List AB} {i j : Nat} {b : AB}, j ≠ i → nth (setAt l i b) j = nth l j := fun {l} => by
   induction l with
   | nil => intro i j b h; rfl
   | cons y r ih => intro i j b h; cases i with
    | zero => cases j with
     | zero => exact absurd rfl h
     | succ j => rfl
    | succ i => cases j with
     | zero => rfl
     | succ j => exact ih (by omega)
  exact fun j hj => this hj
 ·have : ∀ (l : List AB) (i : Nat) (b : AB), (setAt l i b).length = l.length := fun l => by
   induction l with
   | nil => intros; rfl
   | cons y r ih => intro i b; cases i with
    | zero => rfl
    | succ i => exact congrArg (· + 1) (ih i b)
  exact this _ _ _
theorem ki {t : TypeId} {x i : Operand} {s : List UInt8} {k : IntKind} {n : Int} {j : Nat} (hx : evalO K R x = some (.str s)) (hi : evalO K R i = some (.v (.int k n))) (hu : uOf K t = some .string) (hn : n = (j : Int)) (hj : j < s.length) (h : Wo K f ops l (setAt R a (u8v s[j])) own H Q) : Wo K f ops (⟨some a, .index t x i, c, d, e, none⟩ :: l) R own H Q := Wo.doVal rfl rfl (op_index_str tb.sym rfl (uOf_ok hu) hx hi hn hj) h
theorem ki0 {t : TypeId} {x i : Operand} {b : UInt8} {s : List UInt8} {k : IntKind} (hx : evalO K R x = some (.str (b :: s))) (hi : evalO K R i = some (.v (.int k 0))) (hu : uOf K t = some .string) (h : Wo K f ops l (setAt R a (u8v b)) own H Q) : Wo K f ops (⟨some a, .index t x i, c, d, e, none⟩ :: l) R own H Q := ki (j := 0) hx hi hu rfl (by simp) h
omit tb in
theorem kC {g : FuncId} {as ts : Array _} {args us : List AV} (ha : mapO (evalO K R) as.toList = some args) (hu : args.map AV.unown = us) (h : Tells K g us H fun r H' => Wo K f ops l (setAt R a r.unown) own H' Q) : Wo K f ops (⟨some a, .call { callee := .value (.func g), args := as, argTypes := ts }, c, d, e, none⟩ :: l) R own H Q := by
 subst hu
 exact Wo.doCall rfl rfl (op_call rfl ha) h
omit tb in
theorem kV {x : Operand} {g : FuncId} {fs cs : List AV} {as ts : Array _} {args us : List AV} (hx : evalO K R x = some (.func (.func g) fs cs)) (ha : mapO (evalO K R) as.toList = some args) (hu : (fs ++ args ++ cs).map AV.unown = us) (h : Tells K g us H fun r H' => Wo K f ops l (setAt R a r.unown) own H' Q) : Wo K f ops (⟨some a, .call { callee := .value x, args := as, argTypes := ts }, c, d, e, none⟩ :: l) R own H Q := by
 subst hu
 exact Wo.doCall rfl rfl (op_callv rfl hx ha) h
theorem kD {x : Operand} {p q : Code} {t : Bool} (hc : evalO K R x = some (.v (.bool t))) (h1 : t = true → Wc K f p R own H Q) (h2 : t = false → Wc K f q R own H Q) : Wc K f (.cond x p q) R own H Q := Wc.cond tb.sym hc h1 h2
theorem kR {Q : AX → St → Prop} {x : Operand} {p q : Code} {t : Bool} (hc : evalO K R x = some (.v (.bool t))) (ht : t = true) (h : Wc K f p R own H Q) : Wc K f (.cond x p q) R own H Q := jR tb.sym hc ht h
theorem kT {Q : AX → St → Prop} {x : Operand} {p q : Code} {t : Bool} (hc : evalO K R x = some (.v (.bool t))) (ht : t = false) (h : Wc K f q R own H Q) : Wc K f (.cond x p q) R own H Q := jS tb.sym hc ht h
end
end Go.Tm
end
section
namespace Go.Tm
theorem op_append_mine {K : Cfg} {f : FuncId} {o : Oper} {R : List AV} {own : Nat → Nat} {H : List AB} (hs : K.sym = false) {t t2 e d : TypeId} {a x : Operand} {ts : Array TypeId} {xs ys : List AV} {tl u : Tail} {info : TypeInfo} {z : AV} {n : Nat} (ho : o.op = .call { callee := .builtin .append, args := #[a, x], argTypes := ts }) (hd : o.dst = some d) (ht : ts.toList = [t, t2]) (hu : K.P.underlying t = some (.slice e)) (hu2 : K.P.underlying t2 = some (.slice e))
  (hi : K.P.info? e = some info) (hz : tSize K.P e = some (n + 1)) (h0 : tZero K.P e = some z) (hz1 : z.cells.length = n + 1) (hg : K.chg f d = false) (ha : evalO K R a = some (.sl xs tl)) (htl : tl = .nil ∨ ∃ st, tl = .own st (own st) (n + 1) ∧ own st ≠ 0) (hx : evalO K R x = some (.sl ys u)) (hxs : xs.all (fun y => y.cells.length == n + 1) = true) (hy : ys.all (fun y => y.cells.length == n + 1) = true) (hne : ys ≠ []) (hcl : AV.closedL (ys.flatMap AV.cells) = true) (hr : roomOk (xs.length + ys.length) info.bytes = true) :
  ∃ own', aOp K f ⟨R, own, H⟩ o [] = some (.val (.sl (xs ++ ys) (.own d (own d + 1) (n + 1))) own' H, [], []) ∧ own' d = own d + 1 := by
 have hm : mapO (evalO K R) [a, x] = some [.sl xs tl, .sl ys u] := by simp [mapO, ha, hx]
 have hzb : (z.cells.length == n + 1) = true := by simp [hz1]
 simp only [aOp, ho, ht, hm, aBuiltin, hu2, aAppend, hu, hi, hz, h0, asEls, hy, if_true, hzb, hd, Option.getD_some, hg, hs]
 cases ys with
 | nil => exact absurd rfl hne
 | cons y r =>
  rcases htl with rfl | ⟨st, rfl, hst⟩
  ·refine ⟨fun i => if i = d then own d + 1 else own i, ?_, by simp⟩
   refine (E.bind_nil (a := ()) (by rw [hr]; rfl)).trans ?_
   refine (E.bind_nil (a := ()) (by rw [hxs]; rfl)).trans ?_
   refine (E.bind_nil (a := ()) (by rw [hcl]; rfl)).trans ?_
   exact (E.bind_nil (a := ()) (by simp [E.chk])).trans rfl
  ·refine ⟨fun i => if i = d then own d + 1 else if i = st then own st + 1 else own i, ?_, by simp⟩
   refine (E.bind_nil (a := ()) (by rw [hr]; rfl)).trans ?_
   refine (E.bind_nil (a := ()) (by rw [hxs]; rfl)).trans ?_
   refine (E.bind_nil (a := ()) (by rw [hcl]; rfl)).trans ?_
   refine (E.bind_nil (a := ()) (by
    show E.chk false (own st == own st && own st != 0 && (n + 1 == n + 1)) [] = _
    rw [show (own st == own st && own st != 0 && (n + 1 == n + 1)) = true by simp [hst]]; rfl)).trans rfl
theorem Wc.midQ {K : Cfg} {f : FuncId} {R : List AV} {own : Nat → Nat} {H : List AB} {Q : AX → St → Prop} {c : Code} (P : St → Prop) (h : Wc K f c R own H fun e s => e = .normal ∧ P s) (hn : ∀ R own H, P ⟨R, own, H⟩ → Q .normal ⟨R, own, H⟩) : Wc K f c R own H Q :=
 W.mono h fun x hx => by
  obtain ⟨e, R, own, H⟩ := x
  obtain ⟨rfl, hp⟩ := hx
  exact hn R own H hp
def Own (n : Nat) (tl : Tail) (own : Nat → Nat) : Prop := tl = .nil ∨ ∃ st, tl = .own st (own st) n ∧ own st ≠ 0
section
variable {K : Cfg} [tb : Tab K] {f : FuncId} {ops : Array Oper} {Q : AX → St → Prop} {R : List AV} {own : Nat → Nat} {H : List AB} {l : List Oper} {a : Tmp} {c : TypeId} {d : String} {e : Array Edge}
theorem kO {t el : TypeId} {x y : Operand} {xs ys : List AV} {tl u : Tail} {z : AV} {n bytes : Nat} (hx : evalO K R x = some (.sl xs tl)) (hy : evalO K R y = some (.sl ys u)) (hu : uOf K t = some (.slice el)) (hz : szOf K el = some (n + 1)) (h0 : zOf K el = some z) (hz1 : z.cells.length = n + 1) (hg : K.chg f a = false)
  (hi : (K.P.info? el).map (·.bytes) = some bytes) (ht : Own (n + 1) tl own) (hxs : ∀ v ∈ xs, v.cells.length = n + 1) (hys : ∀ v ∈ ys, v.cells.length = n + 1) (hne : ys ≠ []) (hcl : AV.closedL (ys.flatMap AV.cells) = true) (hr : (xs.length + ys.length) * bytes ≤ 140737488355328 ∧ xs.length + ys.length ≤ 140737488355328)
  (h : ∀ own' tl', Own (n + 1) tl' own' → Wo K f ops l (setAt R a (.sl (xs ++ ys) tl')) own' H Q) : Wo K f ops (⟨some a, .call { callee := .builtin .append, args := #[x, y], argTypes := #[t, t] }, c, d, e, none⟩ :: l) R own H Q := by
 cases hinf : K.P.info? el with
 | none => rw [hinf] at hi; cases hi
 | some info =>
  rw [hinf] at hi
  have hb : info.bytes = bytes := Option.some.inj hi
  obtain ⟨own', h1, h2⟩ := op_append_mine (f := f) (own := own) (H := H) (o := ⟨some a, .call { callee := .builtin .append, args := #[x, y], argTypes := #[t, t] }, c, d, e, none⟩) tb.sym rfl rfl rfl (uOf_ok hu) (uOf_ok hu) hinf (szOf_ok hz) (zOf_ok h0) hz1 hg hx ht hy (List.all_eq_true.2 fun v hv => by simp [hxs v hv]) (List.all_eq_true.2 fun v hv => by simp [hys v hv]) hne hcl (by rw [hb]; simp only [roomOk, decide_eq_true_eq]; omega)
  exact Wo.doVal rfl rfl h1 (h own' _ (.inr ⟨a, by rw [h2], by rw [h2]; omega⟩))
theorem kx {t el : TypeId} {x i : Operand} {xs : List AV} {tl : Tail} {k : IntKind} {n : Int} {j sz : Nat} {v : AV} {cs : List AV} (hx : evalO K R x = some (.sl xs tl)) (hi : evalO K R i = some (.v (.int k n))) (hu : uOf K t = some (.slice el)) (hz : szOf K el = some (sz + 1)) (hn : n = (j : Int)) (hj : xs[j]? = some v) (hc : v.cells = cs) (hl : cs.length = sz + 1) (h : Wo K f ops l (setAt R a (.rp cs)) own H Q) : Wo K f ops (⟨some a, .indexAddr t x i, c, d, e, none⟩ :: l) R own H Q := by
 subst hc
 exact Wo.doVal rfl rfl (op_indexAddr_sl tb.sym rfl (uOf_ok hu) (szOf_ok hz) hx hi hn hj hl) h
theorem kfr {t i off ft n : Nat} {fs : List (Nat × Nat)} {x : Operand} {cs ds : List AV} (hx : evalO K R x = some (.rp cs)) (hf : fsOf K t = some fs) (hi : fs[i]? = some (off, ft)) (hz : szOf K ft = some (n + 1)) (hd : cs.drop off = ds) (h : Wo K f ops l (setAt R a (.rp ds)) own H Q) : Wo K f ops (⟨some a, .fieldAddr t x i, c, d, e, none⟩ :: l) R own H Q := by
 subst hd
 have hr : aFieldAddr K t (.rp cs) i = some (.rp (cs.drop off)) := by
  obtain ⟨fl, h1, fd, h2, rfl, rfl⟩ := fsOf_ok hf hi
  unfold aFieldAddr
  rw [h1]
  simp only [h2, szOf_ok hz]
 exact Wo.doVal rfl rfl (op_fieldAddr rfl hx hr) h
theorem mapO_u8 : ∀ l : List UInt8, mapO (fun y => match y with | AV.v (.int .u8 n) => some (UInt8.ofNat n.toNat) | _ => none) (l.map u8v) = some l := by
 intro l
 induction l with
 | nil => rfl
 | cons b r ih =>
  simp only [List.map_cons, mapO]
  rw [ih]
  show some (UInt8.ofNat (Int.toNat (b.toNat : Int)) :: r) = _
  rw [Int.toNat_natCast, UInt8.ofNat_toNat]
theorem kcs {s u el : TypeId} {x : Operand} {bs : List UInt8} {tl : Tail} (hx : evalO K R x = some (.sl (bs.map u8v) tl)) (h1 : uOf K s = some (.slice el)) (h2 : uOf K u = some .string) (h3 : uOf K el = some (.int .u8)) (h : Wo K f ops l (setAt R a (.str bs)) own H Q) : Wo K f ops (⟨some a, .convert s u x, c, d, e, none⟩ :: l) R own H Q := by
 refine Wo.doVal rfl rfl (op_conv_val (r := .str bs) rfl hx ?_ ?_ ?_) h
 ·simp only [aUnsafe, uOf_ok h1, uOf_ok h2]
 ·simp only [aConvertM, uOf_ok h1, uOf_ok h2]
 ·simp only [aConvert, uOf_ok h1, uOf_ok h2, uOf_ok h3]
  exact congrArg (Option.map AV.str) (mapO_u8 bs)
theorem kt {t : TypeId} {x i : Operand} {s : List UInt8} {k : IntKind} {n : Int} {b : Nat} (hx : evalO K R x = some (.str s)) (hi : evalO K R i = some (.v (.int k n))) (hu : uOf K t = some .string) (hn : n = (b : Int)) (hb : b ≤ s.length) (h : Wo K f ops l (setAt R a (.str (s.take b))) own H Q) : Wo K f ops (⟨some a, .slice t x none (some i) none, c, d, e, none⟩ :: l) R own H Q := Wo.doVal rfl rfl (op_slice_str_hi tb.sym rfl (uOf_ok hu) hx hi hn hb) h
theorem kd {t : TypeId} {x i : Operand} {s : List UInt8} {k : IntKind} {n : Int} {b : Nat} (hx : evalO K R x = some (.str s)) (hi : evalO K R i = some (.v (.int k n))) (hu : uOf K t = some .string) (hn : n = (b : Int)) (hb : b ≤ s.length) (h : Wo K f ops l (setAt R a (.str (s.drop b))) own H Q) : Wo K f ops (⟨some a, .slice t x (some i) none none, c, d, e, none⟩ :: l) R own H Q := Wo.doVal rfl rfl (op_slice_str_lo tb.sym rfl (uOf_ok hu) hx hi hn hb) h
omit tb in
theorem kZ {t : TypeId} {ps : Array (Nat × Operand)} {qs : List (Nat × AV)} {r : AV} (hq : mapO (fun p : Nat × Operand => (evalO K R p.2).map fun x => (p.1, x)) ps.toList = some qs) (hb : aBuild K t qs = some r) (h : Wo K f ops l (setAt R a r.unown) own H Q) : Wo K f ops (⟨some a, .build t ps, c, d, e, none⟩ :: l) R own H Q := Wo.doVal rfl rfl (op_build rfl hq hb) h
omit tb in
theorem kbs {t : TypeId} {n : Nat} {ps : Array (Nat × Operand)} {qs : List (Nat × AV)} {r : AV} (hq : mapO (fun p : Nat × Operand => (evalO K R p.2).map fun x => (p.1, x)) ps.toList = some qs) (hb : aBuildSlice K (K.chg f a) own H t n qs = some (.val r own H)) (h : Wo K f ops l (setAt R a r) own H Q) : Wo K f ops (⟨some a, .buildSlice t n ps, c, d, e, none⟩ :: l) R own H Q := Wo.doVal rfl rfl (op_buildSlice rfl rfl hq hb) h
end
/-! Operations on words, behind the steps. -/
section
variable {K : Cfg} {f : FuncId} {ops : Array Oper} {Q : AX → St → Prop} {R : List AV} {own : Nat → Nat} {H : List AB} {l : List Oper} {a : Tmp} {c : TypeId} {d : String} {e : Array Edge} {t u : TypeId} {x y : Operand} {k : IntKind}
theorem flat_u8 : ∀ bs : List UInt8, (bs.map u8v).flatMap AV.cells = bs.map u8v
 | [] => rfl
 | b :: r => by simp only [List.map_cons, List.flatMap_cons, flat_u8 r]; rfl
theorem closed_u8 : ∀ bs : List UInt8, AV.closedL (bs.map u8v) = true
 | [] => rfl
 | b :: r => by simp only [List.map_cons, AV.closedL, closed_u8 r]; rfl
theorem ones_u8 {bs : List UInt8} : ∀ v ∈ bs.map u8v, v.cells.length = 0 + 1 := fun v hv => by obtain ⟨b, _, rfl⟩ := List.mem_map.1 hv; rfl
end
end Go.Tm
end
section
namespace Go.Tm
def stepV (K : Cfg) [tb : Tab K] (f : FuncId) (a : Tmp) (R : List AV) : Op → Option AV
 | .move x => evalO K R x
 | .assign x => evalO K R x
 | .binOp op t x y _ => match evalO K R x, evalO K R y with
  | some (.v p), some (.v q) => match easyOp op with
   | true => match pureRun K.P (do eqGuard op t x y p q; binOp op t p q) with
    | some r => match flat r with
     | true => some (.v r)
     | false => none
    | none => none
   | false => none
  | some (.str p), some (.str q) => match strCmp op p q with
   | some b => some (.v (.bool b))
   | none => none
  | some p, some q => match nilCmp (uOf K t) op p q with
   | some b => some (.v (.bool b))
   | none => none
  | _, _ => none
 | .unOp .not _ x => match evalO K R x with
  | some (.v (.bool b)) => some (.v (.bool !b))
  | _ => none
 | .pick x y z => match evalO K R x, evalO K R y, evalO K R z with
  | some (.v (.bool true)), some u, some _ => some u
  | some (.v (.bool false)), some _, some u => some u
  | _, _, _ => none
 | .nilCheck x => match evalO K R x with
  | some (.ptr b i) => some (.ptr b i)
  | _ => none
 | .fieldAddr t x i => match fsOf K t with
  | some fs => match nth fs i with
   | some (off, ft) => match szOf K ft, evalO K R x with
    | some (_ + 1), some (.ptr b o) => match addN o off with
     | some m => some (.ptr b m)
     | none => none
    | some (_ + 1), some (.rp cs) => some (.rp (cs.drop off))
    | _, _ => none
   | none => none
  | none => none
 | .load t x => match evalO K R x with
  | some (.rp cs) => match takeT K t cs with
   | some v => some v.unown
   | none => none
  | _ => none
 | .extract x i => match evalO K R x with
  | some (.tup xs) => match nth xs i with
   | some v => some v.unown
   | none => none
  | _ => none
 | .field t x i => match fsOf K t, evalO K R x with
  | some fs, some (.agg cs) => match nth fs i with
   | some (off, ft) => match takeT K ft (cs.drop off) with
    | some v => some v.unown
    | none => none
   | none => none
  | _, _ => none
 | .convert s u x => match uOf K s, uOf K u, evalO K R x with
  | some (.int _), some (.int k2), some (.v (.int _ n)) => some (.v (.int k2 (k2.wrap n)))
  | _, _, _ => none
 | .index t x i => match uOf K t, evalO K R x, evalO K R i with
  | some .string, some (.str (b :: _)), some (.v (.int _ (.ofNat 0))) => some (u8v b)
  | _, _, _ => none
 | .call cc => match cc.callee, cc.args.toList, cc.argTypes.toList with
  | .builtin .len, [x], [t] => match uOf K t, evalO K R x with
   | some .string, some (.str s) => some (.v (goInt s.length))
   | some (.slice _), some (.sl xs _) => some (.v (goInt xs.length))
   | some (.slice _), some (.ms _ _ n _) => some (.v (goInt n))
   | _, _ => none
  | _, _, _ => none
 | .makeFunc fn x y => match mapO (evalO K R) x.toList, mapO (evalO K R) y.toList with
  | some xs, some ys => some (.func fn (xs.map AV.unown) (ys.map AV.unown))
  | _, _ => none
 | .buildSlice t n ps => match n, ps.toList, uOf K t, K.chg f a with
  | 1, [(0, x)], some (.slice el), false => match szOf K el, (zOf K el).map fun z => z.cells.length, evalO K R x with
   | some 1, some 1, some (.v y) => some (.sl [.v y] .full)
   | some 1, some 1, some (.str y) => some (.sl [.str y] .full)
   | _, _, _ => none
  | _, _, _, _ => none
 | _ => none
theorem nth_get {α : Type} : ∀ (l : List α) (i : Nat), nth l i = l[i]?
 | [], i => by simp [nth]
 | x :: r, 0 => by simp [nth]
 | x :: r, i + 1 => by simp only [nth, List.getElem?_cons_succ]; exact nth_get r i
theorem op_len_any {K : Cfg} {f : FuncId} {o : Oper} {R : List AV} {own : Nat → Nat} {H : List AB} {cc : Call} {x : Operand} {t : TypeId} {v : AV} {z : Value} (ho : o.op = .call cc) (h1 : cc.callee = .builtin .len) (h2 : cc.args.toList = [x]) (h3 : cc.argTypes.toList = [t]) (hx : evalO K R x = some v) (hr : aLen K t H v = some (.v z)) : aOp K f ⟨R, own, H⟩ o [] = some (.val (.v z) own H, [], []) := by
 have hm : mapO (evalO K R) [x] = some [v] := by simp [mapO, hx]
 simp only [aOp, ho, h1, h2, h3, hm, aBuiltin, aKeep, hr]; rfl
section
variable {K : Cfg} [tb : Tab K] {f : FuncId} {ops : Array Oper} {Q : AX → St → Prop} {R : List AV} {own : Nat → Nat} {H : List AB} {l : List Oper} {a : Tmp} {c : TypeId} {d : String} {e : Array Edge}
theorem bld {t el : TypeId} {x : Operand} {ps : Array (Nat × Operand)} {v : AV} (hps : ps.toList = [(0, x)]) (hx : evalO K R x = some v) (hu : uOf K t = some (.slice el)) (hz : szOf K el = some 1) (h0 : (zOf K el).map (fun z => z.cells.length) = some 1) (hg : K.chg f a = false) (h1 : v.unown = v) (h2 : v.cells = [v]) (h3 : v.one = true) (h4 : v.closed = true) (h : Wo K f ops l (setAt R a (.sl [v] .full)) own H Q) : Wo K f ops (⟨some a, .buildSlice t 1 ps, c, d, e, none⟩ :: l) R own H Q := by
 obtain rfl : ps = #[(0, x)] := by cases ps; simp_all
 cases hz0 : zOf K el with
 | none => rw [hz0] at h0; cases h0
 | some z =>
  rw [hz0] at h0
  exact kb hx hu hz hz0 (Option.some.inj h0) hg h1 h2 h3 h4 h
theorem kv {op : Op} {v : AV} (h : stepV K f a R op = some v) (hn : Wo K f ops l (setAt R a v) own H Q) : Wo K f ops (⟨some a, op, c, d, e, none⟩ :: l) R own H Q := by
 unfold stepV at h
 split at h
 ·exact jm h hn
 ·exact jn h hn
 ·split at h
  ·rename_i hx hy
   split at h
   ·split at h
    ·rename_i r hr
     split at h
     ·rename_i hf
      cases h
      exact jb hx hy hr hf hn
     ·cases h
    ·cases h
   ·cases h
  ·rename_i hx hy
   split at h
   ·rename_i hr
    cases h
    exact ks hx hy hr hn
   ·cases h
  ·rename_i hx hy
   split at h
   ·rename_i hr
    cases h
    exact kN hx hy hr hn
   ·cases h
  ·cases h
 ·split at h
  ·rename_i hx
   cases h
   exact ku hx hn
  ·cases h
 ·split at h
  ·rename_i hc hx hy
   cases h
   exact kp rfl hc hx hy hn
  ·rename_i hc hx hy
   cases h
   exact kq rfl hc hx hy hn
  ·cases h
 ·split at h
  ·rename_i hx
   cases h
   exact kn hx hn
  ·cases h
 ·split at h
  ·rename_i hf
   split at h
   ·rename_i hi
    rw [nth_get] at hi
    split at h
    ·rename_i hz hx
     split at h
     ·rename_i hm
      cases h
      exact kf hx hf hi hz hm hn
     ·cases h
    ·rename_i hz hx
     cases h
     exact kfr hx hf hi hz rfl hn
    ·cases h
   ·cases h
  ·cases h
 ·split at h
  ·rename_i hx
   split at h
   ·rename_i hv
    cases h
    exact klr hx hv rfl hn
   ·cases h
  ·cases h
 ·split at h
  ·rename_i hx
   split at h
   ·rename_i hv
    cases h
    exact ke hx hv rfl hn
   ·cases h
  ·cases h
 ·split at h
  ·rename_i hf hx
   split at h
   ·rename_i hi
    rw [nth_get] at hi
    split at h
    ·rename_i hv
     cases h
     exact kg hx hf hi hv rfl hn
    ·cases h
   ·cases h
  ·cases h
 ·split at h
  ·rename_i h1 h2 hx
   cases h
   exact kc hx h1 h2 hn
  ·cases h
 ·split at h
  ·rename_i h1 hx hi
   cases h
   exact ki0 hx hi h1 hn
  ·cases h
 ·rename_i cc
  split at h
  ·rename_i x t h1 h2 h3
   split at h
   ·rename_i hu hx
    cases h
    exact Wo.doVal rfl rfl (op_len_any rfl h1 h2 h3 hx (by unfold aLen; rw [uOf_ok hu])) hn
   ·rename_i hu hx
    cases h
    exact Wo.doVal rfl rfl (op_len_any rfl h1 h2 h3 hx (by unfold aLen; rw [uOf_ok hu])) hn
   ·rename_i hu hx
    cases h
    exact Wo.doVal rfl rfl (op_len_any rfl h1 h2 h3 hx (by unfold aLen; rw [uOf_ok hu])) hn
   ·cases h
  ·cases h
 ·split at h
  ·rename_i hx hy
   cases h
   exact kF hx hy rfl rfl hn
  ·cases h
 ·rename_i t n ps
  split at h
  ·rename_i x el hps hu hg
   split at h
   ·rename_i hz h0 hx
    cases h
    exact bld hps hx hu hz h0 hg rfl rfl rfl rfl hn
   ·rename_i hz h0 hx
    cases h
    exact bld hps hx hu hz h0 hg rfl rfl rfl rfl hn
   ·cases h
  ·cases h
 ·cases h
end
class Red (p : Prop) (q : outParam Prop) : Prop where
 imp : q → p
theorem jZ {p q : Prop} [h : Red p q] (x : q) : p := h.imp x
section
variable {K : Cfg} {f : FuncId} {R : List AV} {own : Nat → Nat} {H : List AB} {s : St} {Q : AX → St → Prop}
instance {a b : Code} : Red (Wc K f (.seq a b) R own H Q) (Wc K f a R own H (SeqQ K f b Q)) := ⟨Wc.seq⟩
instance {id : Nat} {ops : Array Oper} : Red (Wc K f (.region id ops false) R own H Q) (Wo K f ops ops.toList R own H Q) := ⟨Wc.region⟩
instance {ops : Array Oper} : Red (Wo K f ops [] R own H Q) (Q .normal ⟨R, own, H⟩) := ⟨Wo.nil⟩
instance : Red (Wc K f .skip R own H Q) (Q .normal ⟨R, own, H⟩) := ⟨Wc.skip⟩
instance {id : Nat} : Red (Wc K f (.exit id) R own H Q) (Q (.exit id) ⟨R, own, H⟩) := ⟨Wc.exit⟩
instance : Red (Wc K f .ret R own H Q) (Q .ret ⟨R, own, H⟩) := ⟨Wc.retn⟩
instance {b : Code} {i : Nat} : Red (SeqQ K f b Q (.exit i) s) (Q (.exit i) s) := ⟨SeqQ.exit⟩
instance {b : Code} : Red (SeqQ K f b Q .ret s) (Q .ret s) := ⟨SeqQ.ret⟩
instance {id : Nat} : Red (BlkQ id Q .normal s) (Q .normal s) := ⟨BlkQ.normal⟩
instance {id : Nat} : Red (BlkQ id Q .ret s) (Q .ret s) := ⟨BlkQ.ret⟩
instance {id : Nat} : Red (BlkQ id Q (.exit id) s) (Q .normal s) := ⟨BlkQ.hit⟩
instance {I : Nat → St → Prop} {m i : Nat} : Red (LoopQ I m Q (.exit i) s) (Q (.exit i) s) := ⟨LoopQ.exit⟩
instance {I : Nat → St → Prop} {m : Nat} : Red (LoopQ I m Q .ret s) (Q .ret s) := ⟨LoopQ.ret⟩
end
theorem jX {K : Cfg} {f : FuncId} {own : Nat → Nat} {H : List AB} {Q : AX → St → Prop} {b : Code} {R R' : List AV} (e : R = R') (h : Wc K f b R' own H Q) : SeqQ K f b Q .normal ⟨R, own, H⟩ := SeqQ.norm e h
theorem jW {K : Cfg} {f : FuncId} {own : Nat → Nat} {H : List AB} {Q : AX → St → Prop} {b : Code} {R : List AV} (h : SeqQ K f b Q .normal ⟨R, own, H⟩) : SeqQ K f b Q .normal ⟨R, own, H⟩ := h
end Go.Tm
end
