/- http's walk over the tree machine: bytes appended in the frame's own memory; numbers. -/
import Derived.Test.YtfihfpgphipglaaGreatDoorHpC
set_option linter.unusedVariables false
set_option linter.unusedSimpArgs false
set_option linter.unusedSectionVars false
namespace Go.Tm
section
variable {K : Cfg} {f : FuncId} {o : Oper} {R : List AV} {own : Nat → Nat} {H : List AB}
theorem op_append_own (hs : K.sym = false) {t t2 e d : TypeId} {a x : Operand} {ts : Array TypeId} {xs ys : List AV} {tl u : Tail} {info : TypeInfo} {z : AV} {n : Nat} (ho : o.op = .call { callee := .builtin .append, args := #[a, x], argTypes := ts }) (hd : o.dst = some d) (ht : ts.toList = [t, t2]) (hu : K.P.underlying t = some (.slice e)) (hu2 : K.P.underlying t2 = some (.slice e))
  (hi : K.P.info? e = some info) (hz : tSize K.P e = some (n + 1)) (h0 : tZero K.P e = some z) (hz1 : z.cells.length = n + 1) (hg : K.chg f d = false) (ha : evalO K R a = some (.sl xs tl)) (htl : tl = .nil ∨ ∃ st, tl = .own st (own st) (n + 1) ∧ own st ≠ 0) (hx : evalO K R x = some (.sl ys u)) (hxs : xs.all (fun y => y.cells.length == n + 1) = true) (hy : ys.all (fun y => y.cells.length == n + 1) = true) (hne : ys ≠ []) (hcl : AV.closedL (ys.flatMap AV.cells) = true) (hr : roomOk (xs.length + ys.length) info.bytes = true) :
  ∃ own', aOp K f ⟨R, own, H⟩ o [] = some (.val (.sl (xs ++ ys) (.own d (own d + 1) (n + 1))) own' H, [], []) ∧ own' d = own d + 1 := by
 have hm : mapO (evalO K R) [a, x] = some [.sl xs tl, .sl ys u] := by simp [mapO, ha, hx]
 have hzb : (z.cells.length == n + 1) = true := by simp [hz1]
 simp only [aOp, ho, ht, hm, aBuiltin, hu2, aAppend, hu, hi, hz, h0, asEls, hy, if_true, hzb, hd, Option.getD_some, hg, hs]
 cases ys with
 | nil => exact absurd rfl hne
 | cons y r =>
  rcases htl with rfl | ⟨st, rfl, hst⟩
  ·refine ⟨fun i => if i = d then own d + 1 else own i, ?_, by simp⟩
   refine (E.bind_nil (a := ()) (by rw [hr]; rfl)).trans ?_
   refine (E.bind_nil (a := ()) (by rw [hxs]; rfl)).trans ?_
   refine (E.bind_nil (a := ()) (by rw [hcl]; rfl)).trans ?_
   exact (E.bind_nil (a := ()) (by simp [E.chk])).trans rfl
  ·refine ⟨fun i => if i = d then own d + 1 else if i = st then own st + 1 else own i, ?_, by simp⟩
   refine (E.bind_nil (a := ()) (by rw [hr]; rfl)).trans ?_
   refine (E.bind_nil (a := ()) (by rw [hxs]; rfl)).trans ?_
   refine (E.bind_nil (a := ()) (by rw [hcl]; rfl)).trans ?_
   refine (E.bind_nil (a := ()) (by
    show E.chk false (own st == own st && own st != 0 && (n + 1 == n + 1)) [] = _
    rw [show (own st == own st && own st != 0 && (n + 1 == n + 1)) = true by simp [hst]]; rfl)).trans rfl
end
end Go.Tm
namespace Go.Proofs
open Go.Tm
section
variable {x : Value}
def Mine (tl : Tail) (own : Nat → Nat) : Prop := tl = .nil ∨ ∃ st, tl = .own st (own st) 1 ∧ own st ≠ 0
theorem ones (bs : List UInt8) : (bs.map u8v).all (fun y => y.cells.length == 0 + 1) = true := by
 rw [List.all_eq_true]
 intro y hy
 obtain ⟨b, _, rfl⟩ := List.mem_map.1 hy
 rfl
theorem flat_u8 : ∀ bs : List UInt8, (bs.map u8v).flatMap AV.cells = bs.map u8v
 | [] => rfl
 | b :: r => by simp only [List.map_cons, List.flatMap_cons, flat_u8 r]; rfl
theorem closed_u8 : ∀ bs : List UInt8, AV.closedL (bs.map u8v) = true
 | [] => rfl
 | b :: r => by simp only [List.map_cons, AV.closedL, closed_u8 r]; rfl
theorem app_own {f : FuncId} {o : Oper} {R : List AV} {own : Nat → Nat} {H : List AB} {d : TypeId} {a c : Operand} {ts : Array TypeId} {bs ys : List UInt8} {tl u : Tail} (ho : o.op = .call { callee := .builtin .append, args := #[a, c], argTypes := ts }) (hd : o.dst = some d) (ht : ts.toList = [67, 67]) (hg : (Kp x).chg f d = false) (ha : evalO (Kp x) R a = some (.sl (bs.map u8v) tl)) (htl : Mine tl own) (hx : evalO (Kp x) R c = some (.sl (ys.map u8v) u)) (hne : ys ≠ []) (hr : bs.length + ys.length ≤ 140737488355328) :
  ∃ own', aOp (Kp x) f ⟨R, own, H⟩ o [] = some (.val (.sl ((bs ++ ys).map u8v) (.own d (own d + 1) 1)) own' H, [], []) ∧ Mine (.own d (own d + 1) 1) own' := by
 obtain ⟨info, hi, hb⟩ := in5 (x := x)
 obtain ⟨own', h1, h2⟩ := op_append_own (K := Kp x) (f := f) (H := H) (n := 0) rfl ho hd ht u67 u67 hi sz5 z5 rfl hg ha htl hx (ones bs) (ones ys) (by simpa using hne) (by rw [flat_u8]; exact closed_u8 ys) (by rw [hb, List.length_map, List.length_map]; exact room_ok hr)
 refine ⟨own', by rw [List.map_append]; exact h1, .inr ⟨d, by rw [h2], by rw [h2]; omega⟩⟩
theorem Wo.app_own {f : FuncId} {ops : Array Oper} {Q : AX → St → Prop} {l : List Oper} {o : Oper} {R : List AV} {own : Nat → Nat} {H : List AB} {d : TypeId} {a c : Operand} {ts : Array TypeId} {bs ys : List UInt8} {tl u : Tail} (hgd : o.guard = none) (hd : o.dst = some d) (ho : o.op = .call { callee := .builtin .append, args := #[a, c], argTypes := ts }) (ht : ts.toList = [67, 67]) (hg : (Kp x).chg f d = false) (ha : evalO (Kp x) R a = some (.sl (bs.map u8v) tl)) (htl : Mine tl own) (hx : evalO (Kp x) R c = some (.sl (ys.map u8v) u)) (hne : ys ≠ []) (hr : bs.length + ys.length ≤ 140737488355328)
  (h : ∀ own', Mine (.own d (own d + 1) 1) own' → Wo (Kp x) f ops l (setAt R d (.sl ((bs ++ ys).map u8v) (.own d (own d + 1) 1))) own' H Q) : Wo (Kp x) f ops (o :: l) R own H Q := by
 obtain ⟨own', h1, h2⟩ := Go.Proofs.app_own (x := x) (f := f) (H := H) ho hd ht hg ha htl hx hne hr
 exact Wo.doVal hgd hd h1 (h own' h2)
theorem Wy.app_own {f : FuncId} {Q : St → Prop} {o : Oper} {R : List AV} {own : Nat → Nat} {H : List AB} {d : TypeId} {a c : Operand} {ts : Array TypeId} {bs ys : List UInt8} {tl u : Tail} (hd : o.dst = some d) (ho : o.op = .call { callee := .builtin .append, args := #[a, c], argTypes := ts }) (ht : ts.toList = [67, 67]) (hg : (Kp x).chg f d = false) (ha : evalO (Kp x) R a = some (.sl (bs.map u8v) tl)) (htl : Mine tl own) (hx : evalO (Kp x) R c = some (.sl (ys.map u8v) u)) (hne : ys ≠ []) (hr : bs.length + ys.length ≤ 140737488355328) (hk : Nat.ble (touch (Kp x) f o) 2 = true)
  (h : ∀ own', Mine (.own d (own d + 1) 1) own' → Q ⟨setAt R d (.sl ((bs ++ ys).map u8v) (.own d (own d + 1) 1)), own', H⟩) : Wy (Kp x) f o ⟨R, own, H⟩ Q := by
 obtain ⟨own', h1, h2⟩ := Go.Proofs.app_own (x := x) (f := f) (H := H) ho hd ht hg ha htl hx hne hr
 exact Wy.val hd h1 hk (h own' h2)
theorem wk {n k : Nat} (h : n + k < 2 ^ 63) : IntKind.i64.wrap ((n : Int) + (k : Int)) = ((n + k : Nat) : Int) := by rw [IntKind.wrap_i64]; omega
theorem op_conv_text {K : Cfg} {f : FuncId} {o : Oper} {R : List AV} {own : Nat → Nat} {H : List AB} {s d e : TypeId} {c : Operand} {bs : List UInt8} {tl : Tail} (ho : o.op = .convert s d c) (h1 : K.P.underlying s = some (.slice e)) (h2 : K.P.underlying d = some .string) (h3 : K.P.underlying e = some (.int .u8)) (hx : evalO K R c = some (.sl (bs.map u8v) tl)) : aOp K f ⟨R, own, H⟩ o [] = some (.val (.str bs) own H, [], []) := by
 have hm : mapO (fun y => match y with | AV.v (.int .u8 n) => some (UInt8.ofNat n.toNat) | _ => none) (bs.map u8v) = some bs := by
  clear hx
  induction bs with
  | nil => rfl
  | cons b r ih =>
   simp only [List.map_cons, mapO]
   rw [ih]
   show some (UInt8.ofNat (Int.toNat (b.toNat : Int)) :: r) = _
   rw [Int.toNat_natCast, UInt8.ofNat_toNat]
 refine op_conv_val (r := .str bs) ho hx ?_ ?_ ?_
 ·simp only [aUnsafe, h1, h2]
 ·simp only [aConvertM, h1, h2]
 ·simp only [aConvert, h1, h2, h3]
  exact congrArg (Option.map AV.str) hm
end
end Go.Proofs
