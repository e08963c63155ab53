/- Functions of one byte: run at each of the 256; conditions; middles. (The generic part of HpByt.) -/
import Derived.Test.YtaefgigfoifjaaaGreatDoorTmBld
set_option linter.unusedVariables false
set_option linter.unusedSimpArgs false
set_option linter.unusedSectionVars false
namespace Go.Tm
variable {K : Cfg} {f : FuncId} {o : Oper} {R : List AV} {own : Nat → Nat} {H : List AB}
theorem all_byte {p : Nat → Bool} (h : (List.range 256).all p = true) {n : Nat} (hn : n < 256) : p n = true := List.all_eq_true.1 h n (List.mem_range.2 hn)
theorem byte_tells (hs : K.sym = false) (har : K.ar = Ar.real) {n : Nat} {bs : List AV} {P : Nat → Option (AV × List AB) → Bool} {Q : Nat → AV → Prop} (e1 : K.libv f = none) (e2 : K.lib f = none) (e3 : K.vals f = true) (hcl : AV.closedL bs = true) (h : ((List.range 256).all fun c => P c (callF K (n + 1) f (bs ++ [.v (.int .u8 c)]) [])) = true) (hP : ∀ c r, P c r = true → ∃ v, r = some (v, []) ∧ Q c v) (c : UInt8) (H : List AB) : Tells K f (bs ++ [u8v c]) H fun r H' => H' = H ∧ Q c.toNat r := by
 obtain ⟨v, hv, hq⟩ := hP _ _ (all_byte h c.toNat_lt)
 have hc2 : AV.closedL (bs ++ [u8v c]) = true := by
  have : ∀ l : List AV, AV.closedL l = true → AV.closedL (l ++ [u8v c]) = true := by
   intro l
   induction l with
   | nil => intro _; rfl
   | cons a r ih =>
    intro q
    simp only [AV.closedL, Bool.and_eq_true, List.cons_append] at q ⊢
    exact ⟨q.1, ih q.2⟩
  exact this bs hcl
 refine (Tells.runv hs har e1 e2 (by rw [e3, hc2]; rfl) hv).mono ?_
 rintro r H' ⟨rfl, rfl⟩
 exact ⟨rfl, hq⟩
theorem op_conv_int {s d : TypeId} {x : Operand} {k0 k1 k2 : IntKind} {n m : Int} (ho : o.op = .convert s d x) (h1 : K.P.underlying s = some (.int k1)) (h2 : K.P.underlying d = some (.int k2)) (hx : evalO K R x = some (.v (.int k0 n))) (hw : k2.wrap n = m) : aOp K f ⟨R, own, H⟩ o [] = some (.val (.v (.int k2 m)) own H, [], []) := by
 refine op_conv_val (r := .v (.int k2 m)) ho hx ?_ ?_ ?_
 ·simp only [aUnsafe, h1, h2]
 ·simp only [aConvertM, h1, h2]
 ·simp only [aConvert, h1, h2, hw]
theorem op_conv_chars {s d e : TypeId} {x : Operand} {l : List UInt8} (ho : o.op = .convert s d x) (h1 : K.P.underlying s = some .string) (h2 : K.P.underlying d = some (.slice e)) (h3 : K.P.underlying e = some (.int .u8)) (hx : evalO K R x = some (.str l)) : aOp K f ⟨R, own, H⟩ o [] = some (.val (.sl (l.map u8v) .unk) own H, [], []) := by
 refine op_conv_val (r := .sl (l.map u8v) .unk) ho hx ?_ ?_ ?_
 ·simp only [aUnsafe, h1, h2]
 ·simp only [aConvertM, h1, h2]
 ·simp only [aConvert, h1, h2, h3]
theorem Wo.mid {Q : AX → St → Prop} {ops : Array Oper} {l : List Oper} (P : St → Prop) (h : Wo K f ops l R own H fun e s => e = .normal ∧ P s) (hn : ∀ R own H, P ⟨R, own, H⟩ → Q .normal ⟨R, own, H⟩) : Wo K f ops l R own H Q :=
 W.mono h fun s hs => by
  obtain ⟨R, own, H⟩ := s
  exact hn R own H hs.2
theorem dead_norm {R R' : List AV} {F : (Nat → AV) → List AV} (e : R = R') (h : ∃ d, R' = F d) : ∃ d, R = F d := by subst e; exact h
theorem Wo.isGuarded {Q : AX → St → Prop} {ops : Array Oper} {l : List Oper} {a : Option Tmp} {b : Op} {c : TypeId} {d : String} {e : Array Edge} {g : Nat × Bool} (h : Wo K f ops (⟨a, b, c, d, e, some g⟩ :: l) R own H Q) : Wo K f ops (⟨a, b, c, d, e, some g⟩ :: l) R own H Q := h
theorem Wo.isMove {Q : AX → St → Prop} {ops : Array Oper} {l : List Oper} {a : Option Tmp} {x : Operand} {c : TypeId} {d : String} {e : Array Edge} (h : Wo K f ops (⟨a, .move x, c, d, e, none⟩ :: l) R own H Q) : Wo K f ops (⟨a, .move x, c, d, e, none⟩ :: l) R own H Q := h
theorem Wo.isAssign {Q : AX → St → Prop} {ops : Array Oper} {l : List Oper} {a : Option Tmp} {x : Operand} {c : TypeId} {d : String} {e : Array Edge} (h : Wo K f ops (⟨a, .assign x, c, d, e, none⟩ :: l) R own H Q) : Wo K f ops (⟨a, .assign x, c, d, e, none⟩ :: l) R own H Q := h
theorem Wo.isPick {Q : AX → St → Prop} {ops : Array Oper} {l : List Oper} {a : Option Tmp} {x y z : Operand} {c : TypeId} {d : String} {e : Array Edge} (h : Wo K f ops (⟨a, .pick x y z, c, d, e, none⟩ :: l) R own H Q) : Wo K f ops (⟨a, .pick x y z, c, d, e, none⟩ :: l) R own H Q := h
theorem Wo.isBin {Q : AX → St → Prop} {ops : Array Oper} {l : List Oper} {a : Option Tmp} {p : BinOp} {t u : TypeId} {x y : Operand} {c : TypeId} {d : String} {e : Array Edge} (h : Wo K f ops (⟨a, .binOp p t x y u, c, d, e, none⟩ :: l) R own H Q) : Wo K f ops (⟨a, .binOp p t x y u, c, d, e, none⟩ :: l) R own H Q := h
theorem Wo.isUn {Q : AX → St → Prop} {ops : Array Oper} {l : List Oper} {a : Option Tmp} {p : UnOp} {t : TypeId} {x : Operand} {c : TypeId} {d : String} {e : Array Edge} (h : Wo K f ops (⟨a, .unOp p t x, c, d, e, none⟩ :: l) R own H Q) : Wo K f ops (⟨a, .unOp p t x, c, d, e, none⟩ :: l) R own H Q := h
theorem Wo.isConv {Q : AX → St → Prop} {ops : Array Oper} {l : List Oper} {a : Option Tmp} {t u : TypeId} {x : Operand} {c : TypeId} {d : String} {e : Array Edge} (h : Wo K f ops (⟨a, .convert t u x, c, d, e, none⟩ :: l) R own H Q) : Wo K f ops (⟨a, .convert t u x, c, d, e, none⟩ :: l) R own H Q := h
theorem Wo.isLen {Q : AX → St → Prop} {ops : Array Oper} {l : List Oper} {a : Option Tmp} {xs : Array Operand} {ts : Array TypeId} {c : TypeId} {d : String} {e : Array Edge} (h : Wo K f ops (⟨a, .call { callee := .builtin .len, args := xs, argTypes := ts }, c, d, e, none⟩ :: l) R own H Q) : Wo K f ops (⟨a, .call { callee := .builtin .len, args := xs, argTypes := ts }, c, d, e, none⟩ :: l) R own H Q := h
theorem Wc.idc {Q : AX → St → Prop} {c : Operand} {a b : Code} (h : Wc K f (.cond c a b) R own H Q) : Wc K f (.cond c a b) R own H Q := h
theorem Wc.condT (hs : K.sym = false) {Q : AX → St → Prop} {c : Operand} {a b : Code} {t : Bool} (hc : evalO K R c = some (.v (.bool t))) (ht : t = true) (h : Wc K f a R own H Q) : Wc K f (.cond c a b) R own H Q := Wc.cond hs hc (fun _ => h) (fun q => absurd (ht.symm.trans q) (by simp))
theorem Wc.condF (hs : K.sym = false) {Q : AX → St → Prop} {c : Operand} {a b : Code} {t : Bool} (hc : evalO K R c = some (.v (.bool t))) (ht : t = false) (h : Wc K f b R own H Q) : Wc K f (.cond c a b) R own H Q := Wc.cond hs hc (fun q => absurd (ht.symm.trans q) (by simp)) (fun _ => h)
def isInt (k : IntKind) (n : Nat) : Option (AV × List AB) → Bool
 | some (.v (.int k' m), []) => decide (k' = k) && decide (m = (n : Int))
 | _ => false
theorem isInt_of {k : IntKind} {n : Nat} {r : Option (AV × List AB)} (h : isInt k n r = true) : ∃ v, r = some (v, []) ∧ v = .v (.int k n) := by
 unfold isInt at h
 split at h
 ·simp only [Bool.and_eq_true, decide_eq_true_eq] at h
  obtain ⟨rfl, rfl⟩ := h
  exact ⟨_, rfl, rfl⟩
 ·cases h
def isBool (b : Bool) : Option (AV × List AB) → Bool
 | some (.v (.bool b'), []) => decide (b' = b)
 | _ => false
theorem isBool_of {b : Bool} {r : Option (AV × List AB)} (h : isBool b r = true) : ∃ v, r = some (v, []) ∧ v = .v (.bool b) := by
 unfold isBool at h
 split at h
 ·simp only [decide_eq_true_eq] at h
  subst h
  exact ⟨_, rfl, rfl⟩
 ·cases h
def isI (n : Int) : Option (AV × List AB) → Bool
 | some (.v (.int .i64 m), []) => decide (m = n)
 | _ => false
theorem isI_of {n : Int} {r : Option (AV × List AB)} (h : isI n r = true) : ∃ v, r = some (v, []) ∧ v = .v (.int .i64 n) := by
 unfold isI at h
 split at h
 ·simp only [decide_eq_true_eq] at h
  subst h
  exact ⟨_, rfl, rfl⟩
 ·cases h
end Go.Tm
