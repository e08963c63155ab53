/- TmFast, TmFast2, TmFast3, joined. -/
import Derived.Test.YtaefgigfoifjaaaGreatDoorTmS22
set_option linter.unusedVariables false
set_option linter.unusedSimpArgs false
set_option linter.unusedSectionVars false
section
namespace Go.Tm

/-! ### Registers as a tree: all leaves at one depth -/
inductive RT where
  | leaf (v : AV)
  | node (l r : RT)

noncomputable def RT.get (t : RT) : Nat → AV :=
  RT.rec (motive := fun _ => Nat → AV) (fun v _ => v) (fun _ _ gl gr n => Bool.rec (motive := fun _ => AV) (gr (Nat.div n 2)) (gl (Nat.div n 2)) (Nat.beq (Nat.mod n 2) 0)) t
noncomputable def RT.put (t : RT) : Nat → AV → RT :=
  RT.rec (motive := fun _ => Nat → AV → RT) (fun _ _ x => .leaf x) (fun l r pl pr n x => Bool.rec (motive := fun _ => RT) (.node l (pr (Nat.div n 2) x)) (.node (pl (Nat.div n 2) x) r) (Nat.beq (Nat.mod n 2) 0)) t
noncomputable def RT.putK {R : Type} (t : RT) : Nat → AV → (RT → R) → R :=
  RT.rec (motive := fun _ => Nat → AV → (RT → R) → R) (fun _ _ x k => k (.leaf x)) (fun l r pl pr n x k => Bool.rec (motive := fun _ => R) (pr (Nat.div n 2) x fun r => k (.node l r)) (pl (Nat.div n 2) x fun l => k (.node l r)) (Nat.beq (Nat.mod n 2) 0)) t
noncomputable def RT.full (d : Nat) : RT := Nat.rec (motive := fun _ => RT) (.leaf .undef) (fun _ t => .node t t) d

theorem RT.putK_eq {R : Type} : ∀ (t : RT) (n : Nat) (x : AV) (k : RT → R), RT.putK t n x k = k (RT.put t n x) := by
  intro t
  induction t with
  | leaf v => intro n x k; rfl
  | node l r hl hr =>
    intro n x k
    show Bool.rec (motive := fun _ => R) (RT.putK r (Nat.div n 2) x fun r => k (.node l r)) (RT.putK l (Nat.div n 2) x fun l => k (.node l r)) (Nat.beq (Nat.mod n 2) 0) = k (Bool.rec (motive := fun _ => RT) (.node l (RT.put r (Nat.div n 2) x)) (.node (RT.put l (Nat.div n 2) x) r) (Nat.beq (Nat.mod n 2) 0))
    cases Nat.beq (Nat.mod n 2) 0 with
    | true => exact hl _ _ _
    | false => exact hr _ _ _

def RT.Full : Nat → RT → Prop
  | 0, .leaf _ => True
  | d + 1, .node l r => RT.Full d l ∧ RT.Full d r
  | _, _ => False

theorem RT.full_full : ∀ d, RT.Full d (RT.full d)
  | 0 => trivial
  | d + 1 => ⟨RT.full_full d, RT.full_full d⟩
theorem RT.get_full : ∀ d i, (RT.full d).get i = .undef
  | 0, _ => rfl
  | d + 1, i => by
    show Bool.rec (motive := fun _ => AV) ((RT.full d).get (Nat.div i 2)) ((RT.full d).get (Nat.div i 2)) (Nat.beq (Nat.mod i 2) 0) = _
    cases Nat.beq (Nat.mod i 2) 0 <;> exact RT.get_full d _
theorem RT.put_full : ∀ {d : Nat} {t : RT} (n : Nat) (x : AV), RT.Full d t → RT.Full d (RT.put t n x)
  | 0, .leaf _, _, _, _ => trivial
  | d + 1, .node l r, n, x, h => by
    show RT.Full (d + 1) (Bool.rec (motive := fun _ => RT) (.node l (RT.put r (Nat.div n 2) x)) (.node (RT.put l (Nat.div n 2) x) r) (Nat.beq (Nat.mod n 2) 0))
    cases Nat.beq (Nat.mod n 2) 0 with
    | true => exact ⟨RT.put_full _ _ h.1, h.2⟩
    | false => exact ⟨h.1, RT.put_full _ _ h.2⟩
  | 0, .node _ _, _, _, h => h.elim
  | _ + 1, .leaf _, _, _, h => h.elim

theorem RT.get_put : ∀ {d : Nat} {t : RT} (n : Nat) (x : AV) (i : Nat), RT.Full d t → n < 2 ^ d → i < 2 ^ d → (RT.put t n x).get i = if i = n then x else t.get i
  | 0, .leaf _, n, x, i, _, hn, hi => by
    have : i = n := by
      simp at hn hi
      omega
    rw [if_pos this]
    rfl
  | d + 1, .node l r, n, x, i, h, hn, hi => by
    have e1 : Nat.div n 2 < 2 ^ d := by show n / 2 < _; rw [Nat.pow_succ] at hn; omega
    have e2 : Nat.div i 2 < 2 ^ d := by show i / 2 < _; rw [Nat.pow_succ] at hi; omega
    have hget : ∀ (l r : RT), (RT.node l r).get i = Bool.rec (motive := fun _ => AV) (r.get (Nat.div i 2)) (l.get (Nat.div i 2)) (Nat.beq (Nat.mod i 2) 0) := fun _ _ => rfl
    show RT.get (Bool.rec (motive := fun _ => RT) (.node l (RT.put r (Nat.div n 2) x)) (.node (RT.put l (Nat.div n 2) x) r) (Nat.beq (Nat.mod n 2) 0)) i = _
    rw [hget l r]
    cases hb : Nat.beq (Nat.mod n 2) 0 with
    | true =>
      have hb' : n % 2 = 0 := Nat.eq_of_beq_eq_true hb
      show RT.get (.node (RT.put l (Nat.div n 2) x) r) i = _
      rw [hget]
      cases hc : Nat.beq (Nat.mod i 2) 0 with
      | true =>
        have hc' : i % 2 = 0 := Nat.eq_of_beq_eq_true hc
        show RT.get (RT.put l (Nat.div n 2) x) (Nat.div i 2) = if i = n then x else l.get (Nat.div i 2)
        rw [RT.get_put _ x _ h.1 e1 e2]
        have e : (Nat.div i 2 = Nat.div n 2) = (i = n) := propext ⟨fun (q : i / 2 = n / 2) => by omega, fun q => by rw [q]⟩
        simp only [e]
      | false =>
        have hc' : ¬ i % 2 = 0 := Nat.ne_of_beq_eq_false hc
        show r.get (Nat.div i 2) = if i = n then x else r.get (Nat.div i 2)
        rw [if_neg (by omega)]
    | false =>
      have hb' : ¬ n % 2 = 0 := Nat.ne_of_beq_eq_false hb
      show RT.get (.node l (RT.put r (Nat.div n 2) x)) i = _
      rw [hget]
      cases hc : Nat.beq (Nat.mod i 2) 0 with
      | true =>
        have hc' : i % 2 = 0 := Nat.eq_of_beq_eq_true hc
        show l.get (Nat.div i 2) = if i = n then x else l.get (Nat.div i 2)
        rw [if_neg (by omega)]
      | false =>
        have hc' : ¬ i % 2 = 0 := Nat.ne_of_beq_eq_false hc
        show RT.get (RT.put r (Nat.div n 2) x) (Nat.div i 2) = if i = n then x else r.get (Nat.div i 2)
        rw [RT.get_put _ x _ h.2 e1 e2]
        have e : (Nat.div i 2 = Nat.div n 2) = (i = n) := propext ⟨fun (q : i / 2 = n / 2) => by omega, fun q => by rw [q]⟩
        simp only [e]
  | 0, .node _ _, _, _, _, h, _, _ => h.elim
  | _ + 1, .leaf _, _, _, _, h, _, _ => h.elim

def RTok (regs : List AV) (r : RT) : Prop := ∃ d, RT.Full d r ∧ regs.length ≤ 2 ^ d ∧ ∀ i, i < regs.length → nth regs i = some (r.get i)

/-! ### Made ready -/
noncomputable def forceN {R : Type} (n : Nat) (k : Nat → R) : R := Nat.rec (motive := fun _ => R) (k 0) (fun m _ => k (Nat.succ m)) n
noncomputable def forceI {R : Type} (n : Int) (k : Int → R) : R :=
  match n with
  | .ofNat m => forceN m fun m => k (.ofNat m)
  | .negSucc m => forceN m fun m => k (.negSucc m)
theorem forceN_eq {R : Type} (n : Nat) (k : Nat → R) : forceN n k = k n := by cases n <;> rfl
theorem forceI_eq {R : Type} (n : Int) (k : Int → R) : forceI n k = k n := by cases n <;> simp [forceI, forceN_eq]
/-! ### Numbers -/
def lim : IntKind → Nat
  | .i8 => 128
  | .i16 => 32768
  | .i32 => 2147483648
  | .i64 => 9223372036854775808
  | .u8 => 256
  | .u16 => 65536
  | .u32 => 4294967296
  | .u64 => 18446744073709551616
def wrapF (k : IntKind) (n : Int) : Int :=
  match n with
  | .ofNat m => match k.signed with
    | false => .ofNat (Nat.mod m (lim k))
    | true => match Nat.blt m (lim k) with
      | true => .ofNat m
      | false => k.wrap (.ofNat m)
  | .negSucc m => k.wrap (.negSucc m)
theorem wrapF_eq (k : IntKind) (n : Int) : wrapF k n = k.wrap n := by
  unfold wrapF
  cases n with
  | negSucc m => rfl
  | ofNat m =>
    simp only
    cases hs : k.signed with
    | false => cases k <;> first | exact absurd hs (by decide) | (simp [IntKind.wrap, IntKind.bits, IntKind.signed, lim]; rfl)
    | true =>
      simp only
      cases hb : Nat.blt m (lim k) with
      | true =>
        have hb' : m < lim k := Nat.le_of_ble_eq_true hb
        cases k <;> first | exact absurd hs (by decide) | (simp [IntKind.wrap, IntKind.bits, IntKind.signed, lim] at hb' ⊢; omega)
      | false => rfl
def ltF (a b : Int) : Bool :=
  match a with
  | .ofNat x => match b with
    | .ofNat y => Nat.blt x y
    | .negSucc _ => false
  | .negSucc x => match b with
    | .ofNat _ => true
    | .negSucc y => Nat.blt y x
theorem ltF_eq (a b : Int) : ltF a b = decide (a < b) := by
  rw [Bool.eq_iff_iff, decide_eq_true_eq]
  cases a with
  | ofNat x => cases b with
    | ofNat y => simp [ltF]
    | negSucc y => simp [ltF]; omega
  | negSucc x => cases b with
    | ofNat y => simp [ltF]; omega
    | negSucc y => simp [ltF]; omega
def eqF (a b : Int) : Bool :=
  match a with
  | .ofNat x => match b with
    | .ofNat y => Nat.beq x y
    | .negSucc _ => false
  | .negSucc x => match b with
    | .ofNat _ => false
    | .negSucc y => Nat.beq x y
theorem eqF_eq (a b : Int) : eqF a b = (a == b) := by
  rw [Bool.eq_iff_iff, beq_iff_eq]
  cases a with
  | ofNat x => cases b with
    | ofNat y => simp only [eqF, Int.ofNat.injEq]; exact Nat.beq_eq ▸ Iff.rfl
    | negSucc y => simp [eqF]
  | negSucc x => cases b with
    | ofNat y => simp [eqF]
    | negSucc y => simp only [eqF, Int.negSucc.injEq]; exact Nat.beq_eq ▸ Iff.rfl
end Go.Tm
end
section
namespace Go.Tm

def kIdx : IntKind → Nat
  | .i8 => 0
  | .i16 => 1
  | .i32 => 2
  | .i64 => 3
  | .u8 => 4
  | .u16 => 5
  | .u32 => 6
  | .u64 => 7
def kEq (k k' : IntKind) : Bool := Nat.beq (kIdx k) (kIdx k')
def minF (a b : Nat) : Nat := match Nat.ble a b with
  | true => a
  | false => b

noncomputable def vInt (k : IntKind) (n : Int) : Option Value := match k.signed with
  | true => forceI n fun n => some (.int k n)
  | false => some (.int k n)
noncomputable def iAdd (k : IntKind) (a b : Int) : Option Value := vInt k (wrapF k (Int.add a b))
noncomputable def iSub (k : IntKind) (a b : Int) : Option Value := vInt k (wrapF k (Int.sub a b))
noncomputable def iMul (k : IntKind) (a b : Int) : Option Value := vInt k (wrapF k (Int.mul a b))
def nat2 (a b : Int) (g : Nat → Nat → Option Value) : Option Value := match a with
  | .ofNat x => match b with
    | .ofNat y => g x y
    | _ => none
  | _ => none
noncomputable def iQuo (k : IntKind) (a b : Int) : Option Value := nat2 a b fun x y => match y with
  | 0 => none
  | q + 1 => vInt k (wrapF k (.ofNat (Nat.div x (Nat.succ q))))
noncomputable def iRem (k : IntKind) (a b : Int) : Option Value := nat2 a b fun x y => match y with
  | 0 => none
  | q + 1 => vInt k (.ofNat (Nat.mod x (Nat.succ q)))
noncomputable def bitsU (k : IntKind) (g : Nat → Nat → Nat) (x y : Nat) : Option Value := some (.int k (.ofNat (Nat.mod (g x y) (lim k))))
noncomputable def bitsS (k : IntKind) (g : Nat → Nat → Nat) (x y : Nat) : Option Value := match Nat.blt x (lim k) with
  | true => match Nat.blt y (lim k) with
    | true => vInt k (.ofNat (g x y))
    | false => none
  | false => none
noncomputable def small2 (k : IntKind) (a b : Int) (g : Nat → Nat → Nat) : Option Value := match k.signed with
  | true => nat2 a b (bitsS k g)
  | false => nat2 a b (bitsU k g)
noncomputable def iAnd (k : IntKind) (a b : Int) : Option Value := small2 k a b Nat.land
noncomputable def iOr (k : IntKind) (a b : Int) : Option Value := small2 k a b Nat.lor
noncomputable def iXor (k : IntKind) (a b : Int) : Option Value := small2 k a b Nat.xor
noncomputable def iShl (k : IntKind) (a b : Int) : Option Value := nat2 a b fun x y => vInt k (wrapF k (.ofNat (Nat.mul x (Nat.pow 2 (minF y k.bits)))))
noncomputable def iShr (k : IntKind) (a b : Int) : Option Value := nat2 a b fun x y => vInt k (.ofNat (Nat.div x (Nat.pow 2 (minF y k.bits))))
def vBool (b : Bool) : Option Value := match b with
  | true => some (.bool true)
  | false => some (.bool false)
def iEql (_ : IntKind) (a b : Int) : Option Value := vBool (eqF a b)
def iNeq (_ : IntKind) (a b : Int) : Option Value := vBool (!eqF a b)
def iLss (_ : IntKind) (a b : Int) : Option Value := vBool (ltF a b)
def iLeq (_ : IntKind) (a b : Int) : Option Value := vBool (!ltF b a)
def iGtr (_ : IntKind) (a b : Int) : Option Value := vBool (ltF b a)
def iGeq (_ : IntKind) (a b : Int) : Option Value := vBool (!ltF a b)
def iNone (_ : IntKind) (_ _ : Int) : Option Value := none
def isShift : BinOp → Bool
  | .shl => true
  | .shr => true
  | _ => false
noncomputable def intOp : BinOp → IntKind → Int → Int → Option Value
  | .add => iAdd
  | .sub => iSub
  | .mul => iMul
  | .quo => iQuo
  | .rem => iRem
  | .and => iAnd
  | .or => iOr
  | .xor => iXor
  | .shl => iShl
  | .shr => iShr
  | .andNot => iNone
  | .eql => iEql
  | .neq => iNeq
  | .lss => iLss
  | .leq => iLeq
  | .gtr => iGtr
  | .geq => iGeq
noncomputable def fInt (op : BinOp) (k k' : IntKind) (a b : Int) : Option Value :=
  match kEq k k' with
  | true => intOp op k a b
  | false => match isShift op with
    | true => intOp op k a b
    | false => none

/-! Words of 32 bits. -/
def isU32 : IntKind → Bool
  | .u32 => true
  | _ => false
def arOp : BinOp → Ar → Option (Nat → Nat → Nat)
  | .add, A => some A.add
  | .xor, A => some A.xor
  | .and, A => some A.and
  | .or, A => some A.or
  | .shl, A => some A.shl
  | .shr, A => some A.shr
  | _, _ => none
noncomputable def fIntA (A : Ar) (op : BinOp) (k k' : IntKind) (a b : Int) : Option Value :=
  match isU32 k with
  | false => fInt op k k' a b
  | true => match arOp op A with
    | none => fInt op k k' a b
    | some g => match kEq k k' with
      | true => nat2 a b fun x y => some (.int .u32 (.ofNat (g x y)))
      | false => match isShift op with
        | true => nat2 a b fun x y => some (.int .u32 (.ofNat (g x y)))
        | false => none

/-! ### Operations -/
abbrev Ev := Operand → Option AV
abbrev OpF := Cfg → FuncId → Option Tmp → Ev → (Nat → Nat) → List AB → Option AN

def runE {α : Type} (x : E α) : Option α :=
  match x [] with
  | some (a, [], []) => some a
  | _ => none

def aOpE (K : Cfg) (f : FuncId) (dst : Option Tmp) (ev : Ev) (own : Nat → Nat) (H : List AB) (op : Op) : E AN :=
  let keep := aKeep ⟨[], own, H⟩
  let keepE := aKeepE ⟨[], own, H⟩
  match op with
  | .move x | .assign x => match ev x with
    | some x => pure (.val x own H)
    | none => E.fail
  | .pick c a b => match ev c, ev a, ev b with
    | some (.v (.bool c)), some a, some b => do
      let t ← E.branch K.sym c
      pure (.val (if t then a else b) own H)
    | _, _, _ => E.fail
  | .alloc elem => match tZero K.P elem with
    | some z => pure (.val (.ptr H.length 0) own (H ++ [newBlk K.P (K.big elem) elem z]))
    | none => E.fail
  | .box elem x => match ev x with
    | some x => if allOne x.cells then pure (.val (.ptr H.length 0) own (H ++ [.cells (elem, true) x.unown.cells])) else E.fail
    | none => E.fail
  | .build t parts => match mapO (fun p : Nat × Operand => (ev p.2).map fun x => (p.1, x)) parts.toList with
    | some ps => keep (aBuild K t ps)
    | none => E.fail
  | .buildSlice t len parts => match mapO (fun p : Nat × Operand => (ev p.2).map fun x => (p.1, x)) parts.toList with
    | some ps => E.of (aBuildSlice K (K.chg f (dst.getD 0)) own H t len ps)
    | none => E.fail
  | .load t a => match ev a with
    | some a => keep (aLoad K H t a)
    | none => E.fail
  | .store t a x => match ev a, ev x with
    | some a, some x => match aStore K H t a x with
      | some H => pure (.skip H)
      | none => E.fail
    | _, _ => E.fail
  | .nilCheck x => match ev x with
    | some (.ptr b i) => pure (.val (.ptr b i) own H)
    | some (.rp cs) => pure (.val (.rp cs) own H)
    | some (.iface t y) => pure (.val (.iface t y) own H)
    | some (.func (.func g) a b) => pure (.val (.func (.func g) a b) own H)
    | _ => E.fail
  | .binOp op t x y _ => match ev x, ev y with
    | some a, some b => keepE (aBinOp K op t x y a b)
    | _, _ => E.fail
  | .unOp op _ x => match ev x with
    | some x => keep (aUnOp K op x)
    | none => E.fail
  | .convert a b x => match ev x with
    | some x => keep (match aUnsafe K H a b x with | some y => some y | none => match aConvertM K H a b x with | some y => some y | none => aConvert K a b x)
    | none => E.fail
  | .makeMap _ none => pure (.val (.map H.length) own (H ++ [.map [] 0]))
  | .makeMap t (some r) => match ev r, K.P.underlying t with
    | some (.v (.int _ _)), some (.map _ _) => pure (.val (.map H.length) own (H ++ [.map [] 0]))
    | _, _ => E.fail
  | .makeSlice t l c => match ev l, ev c with
    | some l, some c => E.of (aMakeSlice K (K.chg f (dst.getD 0)) (dst.getD 0) own H t l c)
    | _, _ => E.fail
  | .lookup t m k ok => match ev m, ev k with
    | some m, some k => keep (aLookup K H t m k ok)
    | _, _ => E.fail
  | .mapUpdate t m k x | .insert t m k x => match ev m, ev k, ev x with
    | some m, some k, some x => match aMapUpdate K H t m k x with
      | some H => pure (.skip H)
      | none => E.fail
    | _, _, _ => E.fail
  | .mapEntry t m k => match ev m, ev k with
    | some m, some k => match aMapEntry K H t m k with
      | some (r, H) => pure (.val r.unown own H)
      | none => E.fail
    | _, _ => E.fail
  | .entryStore _ m st x => match ev m, ev st, ev x with
    | some m, some st, some x => match aEntryStore H m st x with
      | some H => pure (.skip H)
      | none => E.fail
    | _, _, _ => E.fail
  | .range t x => match ev x, K.P.underlying t with
    | some (.str l), some .string => pure (.val (.ptr H.length 0) own (H ++ [.iter l 0]))
    | some (.v (.map none)), some (.map _ _) => pure (.val (.ptr H.length 0) own (H ++ [.iterM none 0 []]))
    | some (.map b), some (.map _ _) => match nth H b with
      | some (.map _ clock) => pure (.val (.ptr H.length 0) own (H ++ [.iterM (some b) clock []]))
      | _ => E.fail
    | _, _ => E.fail
  | .next it isStr => match ev it with
    | some it => match aNext H it isStr with
      | some (r, H) => pure (.val r.unown own H)
      | none => E.fail
    | none => E.fail
  | .entry it => match ev it with
    | some it => keep (aEntry H it)
    | none => E.fail
  | .typeAssert x _ t ok => match ev x with
    | some x => keep (aTypeAssert K x t ok)
    | none => E.fail
  | .makeInterface t x => match ev x, K.P.underlying t with
    | some _, some (.interface _) => E.fail
    | some x, some _ => pure (.val (.iface t x.unown) own H)
    | _, _ => E.fail
  | .makeFunc fn first captured => match mapO ev first.toList, mapO ev captured.toList with
    | some a, some b => pure (.val (.func fn (a.map AV.unown) (b.map AV.unown)) own H)
    | _, _ => E.fail
  | .slice t x lo hi mx => match ev x, lo.elim (some none) (fun a => (ev a).map some), hi.elim (some none) (fun a => (ev a).map some), mx.elim (some none) (fun a => (ev a).map some) with
    | some x, some lo, some hi, some mx => do let r ← aSlice K H t x lo hi mx; pure (.val r own H)
    | _, _, _, _ => E.fail
  | .fieldAddr t x i => match ev x with
    | some x => keep (aFieldAddr K t x i)
    | none => E.fail
  | .field t x i => match ev x with
    | some x => keep (aField K t x i)
    | none => E.fail
  | .indexAddr t x i => match ev x, ev i with
    | some x, some i => keepE (aIndexAddr K t x i)
    | _, _ => E.fail
  | .index t x i => match ev x, ev i with
    | some x, some i => keepE (aIndex K t x i)
    | _, _ => E.fail
  | .extract t i => match ev t with
    | some t => keep (aExtract i t)
    | none => E.fail
  | .call c => match mapO ev c.args.toList with
    | none => E.fail
    | some args => match c.callee with
      | .builtin b => aBuiltin K f ⟨[], own, H⟩ (dst.getD 0) b c.argTypes.toList args
      | .invoke r name => match ev r with
        | some (.iface t x) => match aMethod K t x name with
          | some (g, x) => pure (.call g ((x :: args).map AV.unown))
          | none => E.fail
        | _ => E.fail
      | .value g => match ev g with
        | some (.func (.func g) first captured) => pure (.call g ((first ++ args ++ captured).map AV.unown))
        | _ => E.fail
  | _ => E.fail

def xSlow (op : Op) : OpF := fun K f dst ev own H => runE (aOpE K f dst ev own H op)
def unownK (x : AV) (k : AV → Option AN) : Option AN :=
  match x with
  | .sl xs t => match t with
    | .own _ _ _ => k (.sl xs .unk)
    | t => k (.sl xs t)
  | x => k x
noncomputable def xKeep (x : Option AV) (own : Nat → Nat) (H : List AB) : Option AN :=
  Option.rec (motive := fun _ => Option AN) none (fun x => unownK x fun x => some (.val x own H)) x
noncomputable def ev1 (ev : Ev) (x : Operand) (k : AV → Option AN) : Option AN := Option.rec (motive := fun _ => Option AN) none k (ev x)

noncomputable def xMove (x : Operand) : OpF := fun _ _ _ ev own H => ev1 ev x fun x => some (.val x own H)

def takeF (P : Program) (t : TypeId) (off : Nat) (cs : List AV) : Option AV :=
  match tAgg P t with
  | none => none
  | some b => match b with
    | true => takeVar P t (cs.drop off)
    | false => match tSize P t with
      | none => none
      | some _ => nth cs off
/-! Trees of pieces. -/
noncomputable def BT.get1 (t : BT) : Nat → Option AV :=
  BT.rec (motive := fun _ => Nat → Option AV) (fun cs off => nth cs off) (fun m _ _ gl gr off => Bool.rec (motive := fun _ => Option AV) (gl off) (forceN (Nat.sub off m) gr) (Nat.ble m off)) t
noncomputable def pieceF (cs : List AV) (off n : Nat) : Option (List AV) :=
  match Nat.beq off 0 with
  | true => match Nat.beq cs.length n with
    | true => some cs
    | false => match Nat.ble n cs.length with
      | true => some (cs.take n)
      | false => none
  | false => match Nat.ble (Nat.add off n) cs.length with
    | true => some ((cs.drop off).take n)
    | false => none
noncomputable def BT.rdF (t : BT) : Nat → Nat → Option (List AV) :=
  BT.rec (motive := fun _ => Nat → Nat → Option (List AV)) pieceF (fun m _ _ gl gr off n => Bool.rec (motive := fun _ => Option (List AV)) (Bool.rec (motive := fun _ => Option (List AV)) none (gl off n) (Nat.ble (Nat.add off n) m)) (forceN (Nat.sub off m) fun o => gr o n) (Nat.ble m off)) t
def setF (cs : List AV) (o : Nat) (x : AV) : Option (List AV) :=
  match nth cs o with
  | none => none
  | some _ => some (setAt cs o x)
noncomputable def BT.wr1K {R : Type} (t : BT) : Nat → AV → (BT → Option R) → Option R :=
  BT.rec (motive := fun _ => Nat → AV → (BT → Option R) → Option R) (fun cs off x k => match setF cs off x with
    | some l => k (.leaf l)
    | none => none) (fun m l r gl gr off x k => Bool.rec (motive := fun _ => Option R) (gl off x fun l => k (.node m l r)) (forceN (Nat.sub off m) fun o => gr o x fun r => k (.node m l r)) (Nat.ble m off)) t
noncomputable def putF {R : Type} (cs : List AV) (off n : Nat) (xs : List AV) (k : BT → Option R) : Option R :=
  match Nat.beq off 0 with
  | true => match Nat.beq cs.length n with
    | true => k (.leaf xs)
    | false => match Nat.ble n cs.length with
      | true => k (.leaf (putAll cs off xs))
      | false => none
  | false => match Nat.ble (Nat.add off n) cs.length with
    | true => k (.leaf (putAll cs off xs))
    | false => none
noncomputable def BT.wrK {R : Type} (t : BT) : Nat → Nat → List AV → (BT → Option R) → Option R :=
  BT.rec (motive := fun _ => Nat → Nat → List AV → (BT → Option R) → Option R) putF (fun m l r gl gr off n xs k => Bool.rec (motive := fun _ => Option R) (Bool.rec (motive := fun _ => Option R) none (gl off n xs fun l => k (.node m l r)) (Nat.ble (Nat.add off n) m))
    (forceN (Nat.sub off m) fun o => gr o n xs fun r => k (.node m l r)) (Nat.ble m off)) t
noncomputable def takeR (P : Program) (t : TypeId) (off : Nat) (r : BT) : Option AV :=
  match tAgg P t with
  | none => none
  | some b => match b with
    | true => match tSize P t with
      | none => none
      | some n => match r.rdF off n with
        | none => none
        | some cs => some (.agg cs)
    | false => match tSize P t with
      | none => none
      | some _ => r.get1 off
noncomputable def loadF (K : Cfg) (H : List AB) (t : TypeId) (a : AV) : Option AV :=
  match a with
  | .ptr b off => match nth H b with
    | none => none
    | some o => match o with
      | .cells _ cs => takeF K.P t off cs
      | .rope _ _ r => takeR K.P t off r
      | _ => none
  | .rp cs => takeVar K.P t cs
  | _ => none
noncomputable def xLoad (t : TypeId) (a : Operand) : OpF := fun K _ _ ev own H => ev1 ev a fun a => xKeep (loadF K H t a) own H

noncomputable def store1 (K : Cfg) (H : List AB) (t : TypeId) (a x : AV) : Option (List AB) :=
  match tSize K.P t with
  | none => none
  | some n => match Nat.beq n 1 with
    | false => none
    | true => match a with
      | .ptr b off => match nth H b with
        | none => none
        | some o => match o with
          | .cells e cs => match setF cs off x.unown with
            | none => none
            | some cs => some (setAt H b (.cells e cs))
          | .rope e m r => r.wr1K off x.unown fun r => some (setAt H b (.rope e m r))
          | _ => none
      | _ => none
def oneF (x : AV) (k : Bool) : Bool := match x with
  | .agg _ => false
  | .tup _ => false
  | _ => k
def allOneF : List AV → Bool
  | [] => true
  | x :: r => oneF x (allOneF r)
noncomputable def storeA (K : Cfg) (H : List AB) (t : TypeId) (a : AV) (cs : List AV) : Option (List AB) :=
  match a with
  | .ptr b off => match nth H b with
    | none => none
    | some o => match o with
      | .rope e m r => match tSize K.P t with
        | none => none
        | some n => match Nat.beq cs.length n with
          | false => none
          | true => match allOneF cs with
            | false => none
            | true => r.wrK off n cs fun r => some (setAt H b (.rope e m r))
      | _ => aStore K H t a (.agg cs)
  | _ => aStore K H t a (.agg cs)
noncomputable def storeF (K : Cfg) (H : List AB) (t : TypeId) (a x : AV) : Option (List AB) :=
  match x with
  | .agg cs => storeA K H t a cs
  | .tup _ => aStore K H t a x
  | x => store1 K H t a x
noncomputable def xStore (t : TypeId) (a x : Operand) : OpF := fun K _ _ ev _ H => ev1 ev a fun a => ev1 ev x fun x => match storeF K H t a x with
  | some H => some (.skip H)
  | none => none

def strEqF : List UInt8 → List UInt8 → Bool
  | [], [] => true
  | x :: r, y :: q => match Nat.beq x.toNat y.toNat with
    | true => strEqF r q
    | false => false
  | _, _ => false

def binSlow (K : Cfg) (op : BinOp) (t : TypeId) (xo yo : Operand) (a b : AV) : Option AV := runE (aBinOp K op t xo yo a b)
noncomputable def binV (K : Cfg) (op : BinOp) (t : TypeId) (xo yo : Operand) (a b : Value) : Option AV :=
  match a with
  | .int k m => match b with
    | .int k' n => match fIntA K.ar op k k' m n with
      | some v => some (.v v)
      | none => binSlow K op t xo yo (.v (.int k m)) (.v (.int k' n))
    | b => binSlow K op t xo yo (.v (.int k m)) (.v b)
  | a => binSlow K op t xo yo (.v a) (.v b)
def binS (K : Cfg) (op : BinOp) (a b : List UInt8) : Option AV :=
  match op with
  | .eql => some (.v (.bool (strEqF a b)))
  | .neq => some (.v (.bool (!strEqF a b)))
  | op => runE (aStrOp K op a b)
noncomputable def binF (K : Cfg) (op : BinOp) (t : TypeId) (xo yo : Operand) (a b : AV) : Option AV :=
  match a with
  | .v x => match b with
    | .v y => binV K op t xo yo x y
    | b => binSlow K op t xo yo (.v x) b
  | .str s => match b with
    | .str u => binS K op s u
    | b => binSlow K op t xo yo (.str s) b
  | a => binSlow K op t xo yo a b
noncomputable def xBin (op : BinOp) (t : TypeId) (x y : Operand) : OpF := fun K _ _ ev own H => ev1 ev x fun a => ev1 ev y fun b => xKeep (binF K op t x y a b) own H
noncomputable def unInt (A : Ar) (op : UnOp) (k : IntKind) (n : Int) : Option AV := match op with
  | .xor => match isU32 k with
    | true => match n with
      | .ofNat m => some (.v (.int .u32 (.ofNat (A.not m))))
      | .negSucc _ => none
    | false => match k.signed with
      | false => match n with
        | .ofNat m => some (.v (.int k (.ofNat (Nat.mod (Nat.xor (Nat.sub (lim k) 1) m) (lim k)))))
        | .negSucc _ => none
      | true => none
  | _ => none
noncomputable def unF (K : Cfg) (op : UnOp) (x : AV) : Option AV := match x with
  | .v w => match w with
    | .int k n => match unInt K.ar op k n with
      | some y => some y
      | none => aUnOp K op (.v (.int k n))
    | w => aUnOp K op (.v w)
  | x => aUnOp K op x
noncomputable def xUn (op : UnOp) (x : Operand) : OpF := fun K _ _ ev own H => ev1 ev x fun x => xKeep (unF K op x) own H

noncomputable def convU (A : Ar) (k : IntKind) (n : Int) : Option AV :=
  match isU32 k with
  | true => match n with
    | .ofNat m => some (.v (.int .u32 (.ofNat (A.cv m))))
    | .negSucc m => some (.v (.int k (wrapF k (.negSucc m))))
  | false => match k.signed with
    | true => forceI (wrapF k n) fun n => some (.v (.int k n))
    | false => some (.v (.int k (wrapF k n)))
noncomputable def convInt (K : Cfg) (a b : TypeId) (n : Int) : Option AV :=
  match K.P.underlying a with
  | some (.int _) => match K.P.underlying b with
    | some (.int k) => convU K.ar k n
    | _ => none
  | _ => none
def convSlow (K : Cfg) (H : List AB) (a b : TypeId) (x : AV) : Option AV := match aUnsafe K H a b x with
  | some y => some y
  | none => match aConvertM K H a b x with
    | some y => some y
    | none => aConvert K a b x
noncomputable def convF (K : Cfg) (H : List AB) (a b : TypeId) (x : AV) : Option AV :=
  match x with
  | .v w => match w with
    | .int k n => match convInt K a b n with
      | some y => some y
      | none => convSlow K H a b (.v (.int k n))
    | w => convSlow K H a b (.v w)
  | x => convSlow K H a b x
noncomputable def xConvert (a b : TypeId) (x : Operand) : OpF := fun K _ _ ev own H => ev1 ev x fun x => xKeep (convF K H a b x) own H

noncomputable def xFieldAddr (t : TypeId) (x : Operand) (i : Nat) : OpF := fun K _ _ ev own H => ev1 ev x fun x => xKeep (aFieldAddr K t x i) own H
noncomputable def xField (t : TypeId) (x : Operand) (i : Nat) : OpF := fun K _ _ ev own H => ev1 ev x fun x => xKeep (aField K t x i) own H
noncomputable def xExtract (t : Operand) (i : Nat) : OpF := fun _ _ _ ev own H => ev1 ev t fun t => xKeep (aExtract i t) own H

def intOf (x : AV) (k : Int → Option AV) : Option AV :=
  match x with
  | .v w => match w with
    | .int _ n => k n
    | _ => none
  | _ => none
def within (i : Int) (n : Nat) (k : Nat → Option AV) : Option AV :=
  match i with
  | .ofNat m => match Nat.blt m n with
    | true => k m
    | false => none
  | .negSucc _ => none
noncomputable def arrAddr (K : Cfg) (len : Nat) (elem : TypeId) (x : AV) (i : Int) : Option AV :=
  match tSize K.P elem with
  | none => none
  | some n => match n with
    | 0 => none
    | n + 1 => match x with
      | .ptr b off => within i len fun m => forceN (Nat.add off (Nat.mul m (Nat.succ n))) fun o => some (.ptr b o)
      | .rp cs => within i len fun m => some (.rp (cs.drop (Nat.mul m (Nat.succ n))))
      | _ => none
noncomputable def sliceAddr (K : Cfg) (elem : TypeId) (x : AV) (i : Int) : Option AV :=
  match tSize K.P elem with
  | none => none
  | some n => match n with
    | 0 => none
    | n + 1 => match x with
      | .ms b off len sz => match Nat.beq (Nat.succ n) sz with
        | true => within i len fun m => forceN (Nat.add off (Nat.mul m sz)) fun o => some (.ptr b o)
        | false => none
      | .sl xs _ => match i with
        | .ofNat m => match nth xs m with
          | none => none
          | some el => match Nat.beq el.cells.length (Nat.succ n) with
            | true => some (.rp el.cells)
            | false => none
        | .negSucc _ => none
      | _ => none
noncomputable def indexAddrF (K : Cfg) (t : TypeId) (x i : AV) : Option AV := intOf i fun i =>
  match K.P.underlying t with
  | none => none
  | some d => match d with
    | .array len elem => arrAddr K len elem x i
    | .slice elem => sliceAddr K elem x i
    | _ => none
noncomputable def xIndexAddr (t : TypeId) (x i : Operand) : OpF := fun K _ _ ev own H => ev1 ev x fun x => ev1 ev i fun i => xKeep (indexAddrF K t x i) own H
noncomputable def indexF (K : Cfg) (t : TypeId) (x i : AV) : Option AV := intOf i fun n =>
  match K.P.underlying t with
  | none => none
  | some d => match d with
    | .array len elem => match x with
      | .agg cs => match tSize K.P elem with
        | none => none
        | some sz => within n len fun m => takeF K.P elem (Nat.mul m sz) cs
      | _ => none
    | .string => match x with
      | .str s => match n with
        | .ofNat m => match nth s m with
          | none => none
          | some b => some (.v (.int .u8 (.ofNat b.toNat)))
        | .negSucc _ => none
      | _ => none
    | _ => none
noncomputable def xIndex (t : TypeId) (x i : Operand) : OpF := fun K _ _ ev own H => ev1 ev x fun x => ev1 ev i fun i => xKeep (indexF K t x i) own H

abbrev CaF := List TypeId → List AV → OpF
def builtinSlow (b : Builtin) : CaF := fun ts args K f dst _ own H => runE (aBuiltin K f ⟨[], own, H⟩ (dst.getD 0) b ts args)
noncomputable def lenF (K : Cfg) (t : TypeId) (H : List AB) (x : AV) : Option AV :=
  match K.P.underlying t with
  | none => none
  | some d => match d with
    | .string => match x with
      | .str s => forceN s.length fun n => some (.v (.int .i64 (.ofNat n)))
      | _ => none
    | .slice _ => match x with
      | .sl xs _ => forceN xs.length fun n => some (.v (.int .i64 (.ofNat n)))
      | .ms _ _ len _ => some (.v (goInt len))
      | _ => none
    | _ => aLen K t H x
noncomputable def callLen : CaF := fun ts args K _ _ _ own H => match ts with
  | [] => none
  | t :: _ => match args with
    | [] => none
    | a :: r => match r with
      | [] => xKeep (lenF K t H a) own H
      | _ :: _ => none
def isLen : Builtin → Bool
  | .len => true
  | _ => false
noncomputable def callBuiltin (b : Builtin) : CaF := match isLen b with
  | true => callLen
  | false => builtinSlow b
noncomputable def callInvoke (r : Operand) (name : String) : CaF := fun _ args K _ _ ev _ _ => ev1 ev r fun x => match x with
  | .iface t x => match aMethod K t x name with
    | some g => some (.call g.1 ((g.2 :: args).map AV.unown))
    | none => none
  | _ => none
noncomputable def callValue (g : Operand) : CaF := fun _ args _ _ _ ev _ _ => ev1 ev g fun x => match x with
  | .func fn first captured => match fn with
    | .func g => some (.call g ((first ++ args ++ captured).map AV.unown))
    | _ => none
  | _ => none
noncomputable def callee : Callee → CaF
  | .builtin b => callBuiltin b
  | .invoke r name => callInvoke r name
  | .value g => callValue g
noncomputable def xCall (c : Call) : OpF := fun K f dst ev own H => match mapO ev c.args.toList with
  | none => none
  | some args => callee c.callee c.argTypes.toList args K f dst ev own H

noncomputable def xAlloc (elem : TypeId) : OpF := fun K f dst ev own H => match K.big elem with
  | none => xSlow (.alloc elem) K f dst ev own H
  | some x => match bigOk K.P elem x.1 x.2 with
    | true => some (.val (.ptr H.length 0) own (H ++ [.rope (elem, true) x.1 x.2]))
    | false => none
noncomputable def opF : Op → OpF
  | .alloc elem => xAlloc elem
  | .move x => xMove x
  | .assign x => xMove x
  | .load t a => xLoad t a
  | .store t a x => xStore t a x
  | .binOp op t x y _ => xBin op t x y
  | .unOp op _ x => xUn op x
  | .convert a b x => xConvert a b x
  | .fieldAddr t x i => xFieldAddr t x i
  | .field t x i => xField t x i
  | .indexAddr t x i => xIndexAddr t x i
  | .index t x i => xIndex t x i
  | .extract t i => xExtract t i
  | .call c => xCall c
  | o => xSlow o

/-! ### Regions and code -/
inductive FX where
  | mk (e : AX) (r : RT) (own : Nat → Nat) (H : List AB)
abbrev FO := FuncId → List AV → List AB → Option (AV × List AB)
abbrev FR := Option FX
abbrev FK := RT → (Nat → Nat) → List AB → FR

noncomputable def regF (n : Nat) (r : RT) (t : Nat) : Option AV := Bool.rec (motive := fun _ => Option AV) none (some (r.get t)) (Nat.blt t n)
noncomputable def evF (K : Cfg) (n : Nat) (r : RT) : Ev := fun x =>
  Operand.rec (motive := fun _ => Option AV) (regF n r) (fun v => AV.ofV v) (fun g => (K.gl g).map AV.rp) (fun f => some (.func (.func f) [] [])) x

noncomputable def putD (n : Nat) (r : RT) (dst : Option Tmp) (x : AV) (k : RT → FR) : FR :=
  Option.rec (motive := fun _ => FR) (k r) (fun d => Bool.rec (motive := fun _ => FR) none (RT.putK r d x k) (Nat.blt d n)) dst

noncomputable def doF (n : Nat) (call : FO) (dst : Option Tmp) (r : RT) (own : Nat → Nat) (H : List AB) (k : FK) (an : AN) : FR :=
  match an with
  | .val x own H => putD n r dst x fun r => k r own H
  | .skip H => putD n r dst .undef fun r => k r own H
  | .call g args => match call g args H with
    | none => none
    | some x => putD n r dst x.1.unown fun r => k r own x.2

noncomputable def stepF (K : Cfg) (n : Nat) (call : FO) (f : FuncId) (o : Oper) (r : RT) (own : Nat → Nat) (H : List AB) (k : FK) : FR :=
  Option.rec (motive := fun _ => FR) none (doF n call o.dst r own H k) (opF o.op K f o.dst (evF K n r) own H)

def boolOf (x : AV) : Option Bool := match x with
  | .v w => match w with
    | .bool b => some b
    | _ => none
  | _ => none
noncomputable def yieldF (n : Nat) (r : RT) (d : Option Tmp) : Option Bool :=
  match d with
  | some d => match Nat.blt d n with
    | true => boolOf (r.get d)
    | false => none
  | none => none
def bEq (a b : Bool) : Bool := match a with
  | true => b
  | false => !b

noncomputable def guardF (K : Cfg) (n : Nat) (call : FO) (f : FuncId) (ops : Array Oper) (o : Oper) (r : RT) (own : Nat → Nat) (H : List AB) (k : FK) (g : Nat × Bool) : FR :=
  match yieldF n r ((ops[g.1]?).bind (·.dst)) with
  | none => putD n r o.dst .undef fun r => k r own H
  | some b => match bEq b g.2 with
    | true => stepF K n call f o r own H k
    | false => putD n r o.dst .undef fun r => k r own H
noncomputable def operF (K : Cfg) (n : Nat) (call : FO) (f : FuncId) (ops : Array Oper) (o : Oper) (r : RT) (own : Nat → Nat) (H : List AB) (k : FK) : FR :=
  Option.rec (motive := fun _ => FR) (stepF K n call f o r own H k) (guardF K n call f ops o r own H k) o.guard
noncomputable def listF (K : Cfg) (n : Nat) (call : FO) (f : FuncId) (ops : Array Oper) (k : FK) (l : List Oper) : FK :=
  List.rec (motive := fun _ => FK) k (fun o _ next r own H => operF K n call f ops o r own H next) l

noncomputable def RT.toL (n : Nat) (r : RT) : List AV := (List.range n).map r.get
noncomputable def RT.ofLK (l : List AV) : Nat → RT → (RT → FR) → FR :=
  List.rec (motive := fun _ => Nat → RT → (RT → FR) → FR) (fun _ t k => k t) (fun x _ next i t k => RT.putK t i x fun t => next (Nat.succ i) t k) l
noncomputable def RT.ofL : List AV → Nat → RT → RT
  | [], _, t => t
  | x :: l, i, t => RT.ofL l (Nat.succ i) (RT.put t i x)

/-! ### Regions whose order is drawn: over states as they were -/
noncomputable def opL (K : Cfg) (f : FuncId) (s : St) (o : Oper) : Option AN := opF o.op K f o.dst (evalO K s.regs) s.own s.H
noncomputable def trDoF (K : Cfg) (call : FO) (f : FuncId) (i : Nat) (o : Oper) (bef : Nat) (s : St) : Option Tr :=
  match opL K f s o with
  | none => none
  | some an => match an with
    | .val x own H => some { i, o, bef, s, s' := { regs := putReg s.regs o.dst x, own, H }, x, k := Nat.min (touch K f o) 2, run := true }
    | .skip H => some { i, o, bef, s, s' := { regs := putReg s.regs o.dst .undef, own := s.own, H }, x := .undef, k := 2, run := true }
    | .call g args => match call g args s.H with
      | none => none
      | some r => some { i, o, bef, s, s' := { regs := putReg s.regs o.dst r.1.unown, own := s.own, H := r.2 }, x := r.1.unown, k := if touch K f o == 3 && isPure K g args then 0 else 2, run := true }
noncomputable def trF (K : Cfg) (call : FO) (f : FuncId) (ops : Array Oper) (i : Nat) (o : Oper) (bef : Nat) (s : St) : Option Tr :=
  match o.guard with
  | none => trDoF K call f i o bef s
  | some g => match aYield s.regs ops g.1 with
    | none => some (aTrSkip i o bef s)
    | some b => match b == g.2 with
      | true => trDoF K call f i o bef s
      | false => some (aTrSkip i o bef s)
noncomputable def fitF (K : Cfg) (f : FuncId) (t : Tr) (H : List AB) : Bool :=
  match opL K f { t.s with H } t.o with
  | none => false
  | some an => match an with
    | .val x _ _ => same x t.x
    | _ => false
noncomputable def pairF (K : Cfg) (f : FuncId) (ops : Array Oper) (a b : Tr) : Bool :=
  match b.bef.testBit a.i with
  | true => true
  | false => match apartTr ops a b with
    | false => false
    | true => match a.k, b.k with
      | 0, _ => true
      | _, 0 => true
      | 1, 1 => true
      | 1, 2 => fitF K f a b.s.H && fitF K f a b.s'.H
      | 2, 1 => fitF K f b a.s.H && fitF K f b a.s'.H
      | _, _ => false
noncomputable def pairsF (K : Cfg) (f : FuncId) (ops : Array Oper) : List Tr → Tr → Bool
  | [], _ => true
  | a :: r, b => match pairF K f ops a b with
    | true => pairsF K f ops r b
    | false => false
noncomputable def drawnF (K : Cfg) (call : FO) (f : FuncId) (ops : Array Oper) : List Oper → List Nat → List Tr → St → Option St
  | [], _, _, s => some s
  | o :: rest, befs, acc, s => match befOf befs o.after.toList 0 with
    | none => none
    | some m => match trF K call f ops acc.length o m s with
      | none => none
      | some t => match pairsF K f ops acc t with
        | true => drawnF K call f ops rest (befs ++ [m]) (acc ++ [t]) t.s'
        | false => none

/-! ### A region whose order is drawn, looked at once: then its operations one behind the other -/
def kOf : Nat → Nat
  | 3 => 0
  | k => Nat.min k 2
def compat : Nat → Nat → Bool
  | 0, _ => true
  | _, 0 => true
  | 1, 1 => true
  | _, _ => false
def apartO (ops : Array Oper) (a b : Oper) : Bool :=
  (match a.dst with | some d => !(namesOf ops b).contains d | none => true) && (match b.dst with | some d => !(namesOf ops a).contains d | none => true)
def pairsStat (K : Cfg) (f : FuncId) (ops : Array Oper) (m : Nat) (o : Oper) : Nat → List Oper → Bool
  | _, [] => true
  | i, a :: r => match m.testBit i with
    | true => pairsStat K f ops m o (i + 1) r
    | false => match apartO ops a o with
      | false => false
      | true => match compat (kOf (touch K f a)) (kOf (touch K f o)) with
        | true => pairsStat K f ops m o (i + 1) r
        | false => false
def statGo (K : Cfg) (f : FuncId) (ops : Array Oper) : List Oper → List Nat → List Oper → Bool
  | [], _, _ => true
  | o :: rest, befs, acc => match befOf befs o.after.toList 0 with
    | none => false
    | some m => match pairsStat K f ops m o 0 acc with
      | true => statGo K f ops rest (befs ++ [m]) (acc ++ [o])
      | false => false
noncomputable def doD (K : Cfg) (n : Nat) (call : FO) (tk : Nat) (dst : Option Tmp) (r : RT) (own : Nat → Nat) (H : List AB) (k : FK) (an : AN) : FR :=
  match an with
  | .val x own H => match Nat.ble tk 2 with
    | true => putD n r dst x fun r => k r own H
    | false => none
  | .skip H => match Nat.beq tk 2 with
    | true => putD n r dst .undef fun r => k r own H
    | false => none
  | .call g args => match Nat.beq tk 3 with
    | true => match isPure K g args with
      | true => match call g args H with
        | none => none
        | some x => putD n r dst x.1.unown fun r => k r own x.2
      | false => none
    | false => none
noncomputable def stepD (K : Cfg) (n : Nat) (call : FO) (f : FuncId) (o : Oper) (r : RT) (own : Nat → Nat) (H : List AB) (k : FK) : FR :=
  Option.rec (motive := fun _ => FR) none (doD K n call (touch K f o) o.dst r own H k) (opF o.op K f o.dst (evF K n r) own H)
noncomputable def guardD (K : Cfg) (n : Nat) (call : FO) (f : FuncId) (ops : Array Oper) (o : Oper) (r : RT) (own : Nat → Nat) (H : List AB) (k : FK) (g : Nat × Bool) : FR :=
  match yieldF n r ((ops[g.1]?).bind (·.dst)) with
  | none => putD n r o.dst .undef fun r => k r own H
  | some b => match bEq b g.2 with
    | true => stepD K n call f o r own H k
    | false => putD n r o.dst .undef fun r => k r own H
noncomputable def operD (K : Cfg) (n : Nat) (call : FO) (f : FuncId) (ops : Array Oper) (o : Oper) (r : RT) (own : Nat → Nat) (H : List AB) (k : FK) : FR :=
  Option.rec (motive := fun _ => FR) (stepD K n call f o r own H k) (guardD K n call f ops o r own H k) o.guard
noncomputable def listD (K : Cfg) (n : Nat) (call : FO) (f : FuncId) (ops : Array Oper) (k : FK) (l : List Oper) : FK :=
  List.rec (motive := fun _ => FK) k (fun o _ next r own H => operD K n call f ops o r own H next) l

abbrev CodeF := Cfg → FO → FuncId → Nat → Nat → FK
def cSkip : CodeF := fun _ _ _ _ _ r own H => some (.mk .normal r own H)
noncomputable def cList (ops : Array Oper) : CodeF := fun K call f _ n => listF K n call f ops (fun r own H => some (.mk .normal r own H)) ops.toList
noncomputable def cDrawnSlow (ops : Array Oper) : CodeF := fun K call f _ n r own H =>
  match drawnF K call f ops ops.toList [] [] ⟨RT.toL n r, own, H⟩ with
  | none => none
  | some s => RT.ofLK s.regs 0 r fun r => some (.mk .normal r s.own s.H)
noncomputable def cDrawn (ops : Array Oper) : CodeF := fun K call f k n r own H =>
  match statGo K f ops ops.toList [] [] with
  | true => match listD K n call f ops (fun r own H => some (.mk .normal r own H)) ops.toList r own H with
    | some x => some x
    | none => cDrawnSlow ops K call f k n r own H
  | false => cDrawnSlow ops K call f k n r own H
noncomputable def cSeq (a b : CodeF) : CodeF := fun K call f k n r own H => match a K call f k n r own H with
  | none => none
  | some x => match x with
    | .mk e r own H => match e with
      | .normal => b K call f k n r own H
      | .exit i => some (.mk (.exit i) r own H)
      | .ret => some (.mk .ret r own H)
noncomputable def cCond (c : Operand) (a b : CodeF) : CodeF := fun K call f k n r own H => match evF K n r c with
  | none => none
  | some x => match boolOf x with
    | none => none
    | some t => match t with
      | true => a K call f k n r own H
      | false => b K call f k n r own H
noncomputable def cBlock (id : Nat) (a : CodeF) : CodeF := fun K call f k n r own H => match a K call f k n r own H with
  | none => none
  | some x => match x with
    | .mk e r own H => match e with
      | .exit i => match Nat.beq i id with
        | true => some (.mk .normal r own H)
        | false => some (.mk (.exit i) r own H)
      | .normal => some (.mk .normal r own H)
      | .ret => some (.mk .ret r own H)
noncomputable def iterF (body : FK) : Nat → FK
  | 0, _, _, _ => none
  | k + 1, r, own, H => match body r own H with
    | none => none
    | some x => match x with
      | .mk e r own H => match e with
        | .normal => iterF body k r own H
        | .exit i => some (.mk (.exit i) r own H)
        | .ret => some (.mk .ret r own H)
noncomputable def cLoop (a : CodeF) : CodeF := fun K call f k n => iterF (a K call f k n) k
def cExit (id : Nat) : CodeF := fun _ _ _ _ _ r own H => some (.mk (.exit id) r own H)
def cRet : CodeF := fun _ _ _ _ _ r own H => some (.mk .ret r own H)
def cFail : CodeF := fun _ _ _ _ _ _ _ _ => none
noncomputable def roundF (a b : CodeF) (K : Cfg) (call : FO) (f : FuncId) (k n : Nat) (l : List AV) (r : RT) (H : List AB) : FR :=
  RT.ofLK l 0 r fun r1 => match a K call f k n r1 (fun _ => 0) H with
    | none => none
    | some x => match x with
      | .mk e r1 _ H1 => match e with
        | .normal => RT.ofLK ((RT.toL n r1).map AV.unown) 0 r1 fun r2 => b K call f k n r2 (fun _ => 0) H1
        | _ => none
noncomputable def roundsF (round : List AV → RT → List AB → FR) (regs : List AV) (ps : List Nat) : List (List AV) → RT → List AB → FR
  | [], r, H => some (.mk .normal r (fun _ => 0) H)
  | x :: l, r, H => match Nat.beq x.length ps.length with
    | false => none
    | true => match round (putAt regs ps x) r H with
      | none => none
      | some y => match y with
        | .mk e _ _ H => match e with
          | .normal => roundsF round regs ps l r H
          | .exit i => some (.mk (.exit i) r (fun _ => 0) H)
          | .ret => some (.mk .ret r (fun _ => 0) H)
noncomputable def cRange (g : Operand) (ps : List Nat) (simple : Bool) (a b : CodeF) : CodeF := fun K call f k n r _ H =>
  match evF K n r g with
  | none => none
  | some x => match aSeq K x H with
    | none => none
    | some xss => match simple with
      | false => none
      | true => match roundsF (roundF a b K call f k n) ((RT.toL n r).map AV.unown) ps xss r H with
        | none => none
        | some y => match y with
          | .mk e _ _ H => RT.ofLK ((RT.toL n r).map AV.unown) 0 r fun r => some (.mk e r (fun _ => 0) H)
noncomputable def codeF : Code → CodeF
  | .skip => cSkip
  | .region _ ops d => match d with
    | true => cDrawn ops
    | false => cList ops
  | .seq a b => cSeq (codeF a) (codeF b)
  | .cond c a b => cCond c (codeF a) (codeF b)
  | .block id a => cBlock id (codeF a)
  | .loop a => cLoop (codeF a)
  | .exit id => cExit id
  | .ret => cRet
  | .rangeFunc g ps a b => cRange g ps.toList (simpleA a && roundy a && roundy b) (codeF a) (codeF b)
  | _ => cFail

noncomputable def resultF (K : Cfg) (H : List AB) (n : Nat) (r : RT) (x : ResultVar) : Option AV := match x with
  | .tmp t => regF n r t
  | .cell a t => match regF n r a with
    | some a => match aLoad K H t a with
      | some x => some x.unown
      | none => none
    | none => none
noncomputable def resultsF (K : Cfg) (H : List AB) (n : Nat) (r : RT) (rs : List ResultVar) : Option AV :=
  match mapO (resultF K H n r) rs with
  | none => none
  | some xs => match xs with
    | [] => some (.tup [])
    | x :: l => match l with
      | [] => some x
      | y :: l => some (.tup (x :: y :: l))
noncomputable def endF (K : Cfg) (n : Nat) (rs : List ResultVar) (x : FX) : Option (AV × List AB) :=
  match x with
  | .mk e r _ H => match e with
    | .exit _ => none
    | _ => match resultsF K H n r rs with
      | none => none
      | some v => some (v, H)
noncomputable def runF (K : Cfg) (call : FO) (k : Nat) (f : FuncId) (fn : Func) (c : Code) (n d : Nat) (args : List AV) (H : List AB) : Option (AV × List AB) :=
  match RT.ofLK (args.map AV.unown) 0 (RT.full d) fun r => codeF c K call f k n r (fun _ => 0) H with
  | none => none
  | some x => endF K n fn.results.toList x
noncomputable def bodyF (K : Cfg) (call : FO) (k : Nat) (f : FuncId) (args : List AV) (H : List AB) : Option (AV × List AB) :=
  match K.P.funcs[f]? with
  | none => none
  | some fn => match fn.body with
    | none => none
    | some c => match Nat.ble args.length fn.ntmps with
      | true => runF K call k f fn c fn.ntmps (Nat.succ (Nat.log2 fn.ntmps)) args H
      | false => none
noncomputable def callWF (K : Cfg) (call : FO) (k : Nat) (f : FuncId) (args : List AV) (H : List AB) : Option (AV × List AB) :=
  match K.libv f with
  | some g => match g args with
    | some r => some (r, H)
    | none => none
  | none => match K.lib f with
    | some g => g args H
    | none => match K.vals f && AV.closedL args with
      | true => match bodyF K call k f args [] with
        | none => none
        | some x => match snap x.2 6 x.1 with
          | none => none
          | some r => match r.closed with
            | true => some (r, H)
            | false => none
      | false => bodyF K call k f args H
noncomputable def callF (K : Cfg) : Nat → FO
  | 0 => fun _ _ _ => none
  | n + 1 => callWF K (callF K n) (n + 1)
end Go.Tm
end
section
namespace Go.Tm

theorem runE_some {α : Type} {x : E α} {a : α} (h : runE x = some a) : x [] = some (a, [], []) := by
  unfold runE at h
  split at h
  · rename_i q; cases h; exact q
  · cases h
theorem bind_nil {α β : Type} {x : E α} {f : α → E β} {a : α} {b : β} (h1 : x [] = some (a, [], [])) (h2 : f a [] = some (b, [], [])) : (x >>= f) [] = some (b, [], []) := by
  show E.bind x f [] = _
  simp [E.bind, h1, h2]
theorem chk_nil {s b : Bool} (hs : s = false) (hb : b = true) : E.chk s b [] = some ((), [], []) := by subst hs hb; rfl
theorem branch_nil {s b : Bool} (hs : s = false) : E.branch s b [] = some (b, [], []) := by subst hs; rfl
theorem of_nil {α : Type} {o : Option α} {a : α} (h : o = some a) : E.of o [] = some (a, [], []) := by subst h; rfl

/-! ### Numbers -/
theorem kEq_ok {k k' : IntKind} (h : kEq k k' = true) : k = k' := by cases k <;> cases k' <;> first | rfl | exact absurd h (by decide)
theorem minF_eq (a b : Nat) : minF a b = min a b := by
  unfold minF
  cases h : Nat.ble a b with
  | true => have : a ≤ b := Nat.le_of_ble_eq_true h
            simp only; omega
  | false => have : ¬ a ≤ b := fun q => by rw [Nat.ble_eq_true_of_le q] at h; cases h
             simp only; omega
theorem blt_true {a b : Nat} (h : Nat.blt a b = true) : a < b := Nat.le_of_ble_eq_true h
theorem blt_false {a b : Nat} (h : Nat.blt a b = false) : ¬ a < b := fun q => by
  have : Nat.blt a b = true := Nat.ble_eq_true_of_le q
  rw [h] at this; cases this
theorem blt_of {a b : Nat} (h : a < b) : Nat.blt a b = true := Nat.ble_eq_true_of_le h
theorem wrap_small {k : IntKind} {m : Nat} (h : m < lim k) : k.wrap (.ofNat m) = .ofNat m := by
  rw [← wrapF_eq]
  unfold wrapF
  simp only [blt_of h]
  cases k.signed with
  | true => rfl
  | false =>
    show Int.ofNat (m % lim k) = _
    rw [Nat.mod_eq_of_lt h]
theorem vInt_eq (k : IntKind) (n : Int) : vInt k n = some (.int k n) := by unfold vInt; cases k.signed <;> simp [forceI_eq]
theorem vBool_eq (b : Bool) : vBool b = some (.bool b) := by cases b <;> rfl
theorem lim_pow (k : IntKind) : ∃ e, lim k = 2 ^ e ∧ e ≤ k.bits := by
  cases k
  · exact ⟨7, rfl, by decide⟩
  · exact ⟨15, rfl, by decide⟩
  · exact ⟨31, rfl, by decide⟩
  · exact ⟨63, rfl, by decide⟩
  · exact ⟨8, rfl, by decide⟩
  · exact ⟨16, rfl, by decide⟩
  · exact ⟨32, rfl, by decide⟩
  · exact ⟨64, rfl, by decide⟩
theorem nat2_some {a b : Int} {g : Nat → Nat → Option Value} {v : Value} (h : nat2 a b g = some v) : ∃ x y, a = .ofNat x ∧ b = .ofNat y ∧ g x y = some v := by
  unfold nat2 at h
  cases a <;> cases b <;> simp at h
  exact ⟨_, _, rfl, rfl, h⟩
theorem small2_some {k : IntKind} {a b : Int} {g : Nat → Nat → Nat} {v : Value} (h : small2 k a b g = some v) : ∃ x y, a = .ofNat x ∧ b = .ofNat y ∧
    ((x < lim k ∧ y < lim k ∧ v = .int k (.ofNat (g x y))) ∨ (k.signed = false ∧ v = .int k (.ofNat (g x y % lim k)))) := by
  unfold small2 at h
  cases hs : k.signed with
  | false =>
    simp only [hs] at h
    obtain ⟨x, y, rfl, rfl, h1⟩ := nat2_some h
    cases h1
    exact ⟨x, y, rfl, rfl, .inr ⟨rfl, rfl⟩⟩
  | true =>
    simp only [hs] at h
    obtain ⟨x, y, rfl, rfl, h1⟩ := nat2_some h
    refine ⟨x, y, rfl, rfl, .inl ?_⟩
    unfold bitsS at h1
    cases hx : Nat.blt x (lim k) with
    | false => simp only [hx] at h1; cases h1
    | true => cases hy : Nat.blt y (lim k) with
      | false => simp only [hx, hy] at h1; cases h1
      | true =>
        simp only [hx, hy, vInt_eq, Option.some.injEq] at h1
        exact ⟨blt_true hx, blt_true hy, h1.symm⟩
theorem lim_bits {k : IntKind} (h : k.signed = false) : lim k = 2 ^ k.bits := by cases k <;> first | rfl | exact absurd h (by decide)
theorem ofInt_mod {k : IntKind} (h : k.signed = false) (x : Nat) : (BitVec.ofInt k.bits (.ofNat x)).toNat = x % lim k := by
  rw [BitVec.toNat_ofInt, lim_bits h]
  show ((x : Int) % (2 ^ k.bits : Nat)).toNat = _
  rw [← Int.natCast_emod, Int.toNat_natCast]
theorem lim_pos (k : IntKind) : 0 < lim k := by cases k <;> decide
theorem bits_mod {k : IntKind} (h : k.signed = false) {g : Nat → Nat → Nat} (hg : ∀ x y n : Nat, g x y % 2 ^ n = g (x % 2 ^ n) (y % 2 ^ n)) (x y : Nat) : k.wrap (Int.ofNat (g (x % lim k) (y % lim k))) = Int.ofNat (g x y % lim k) := by
  have e : g (x % lim k) (y % lim k) = g x y % lim k := by rw [lim_bits h, hg]
  rw [e]
  exact wrap_small (Nat.mod_lt _ (lim_pos k))
theorem ofInt_nat {k : IntKind} {x : Nat} (h : x < lim k) : (BitVec.ofInt k.bits (.ofNat x)).toNat = x := by
  obtain ⟨e, he, hb⟩ := lim_pow k
  have hlt : x < 2 ^ k.bits := Nat.lt_of_lt_of_le (he ▸ h) (Nat.pow_le_pow_right (by decide) hb)
  rw [BitVec.toNat_ofInt]
  show ((x : Int) % (2 ^ k.bits : Nat)).toNat = x
  rw [← Int.natCast_emod, Int.toNat_natCast, Nat.mod_eq_of_lt hlt]

theorem guard_int (P : Program) (op : BinOp) (t : TypeId) (xo yo : Operand) (k k' : IntKind) (a b : Int) :
    pureRun P (do eqGuard op t xo yo (.int k a) (.int k' b); binOp op t (.int k a) (.int k' b)) = pureRun P (binOp op t (.int k a) (.int k' b)) := by
  cases op <;> rfl

def binSame (op : BinOp) (k : IntKind) (a b : Int) : Sem Value := match op with
  | .add | .sub | .mul => Op.intArith op k a b
  | .quo | .rem => Op.intDiv op k a b
  | .and | .or | .xor | .andNot => Op.intBits op k a b
  | _ => Op.intCmp op a b
theorem bin_same {P : Program} {op : BinOp} {t : TypeId} {k : IntKind} {a b : Int} (h : isShift op = false) : pureRun P (binOp op t (.int k a) (.int k b)) = pureRun P (binSame op k a b) := by
  have hk : ¬ (k ≠ k) := by simp
  cases op <;> first
    | exact absurd h (by decide)
    | (unfold binOp; simp only [if_neg hk]; rfl)

theorem intOp_ok {P : Program} {op : BinOp} {t : TypeId} {k k' : IntKind} {a b : Int} {v : Value} (hk : k = k' ∨ isShift op = true) (h : intOp op k a b = some v) :
    pureRun P (binOp op t (.int k a) (.int k' b)) = some v ∧ flat v = true := by
  cases op with
  | shl =>
    obtain ⟨x, y, rfl, rfl, h1⟩ := nat2_some h; clear h; rename _ => h
    rw [vInt_eq] at h
    cases h
    refine ⟨?_, rfl⟩
    show pureRun P (Op.shift .shl k (.ofNat x) k' (.ofNat y)) = _
    unfold Op.shift
    rw [if_neg (by simp)]
    show some (Value.int k (k.wrap ((x : Int) * 2 ^ (min y k.bits)))) = _
    rw [wrapF_eq, minF_eq]
    congr 3
  | shr =>
    obtain ⟨x, y, rfl, rfl, h1⟩ := nat2_some h; clear h; rename _ => h
    rw [vInt_eq] at h
    cases h
    refine ⟨?_, rfl⟩
    show pureRun P (Op.shift .shr k (.ofNat x) k' (.ofNat y)) = _
    unfold Op.shift
    rw [if_neg (by simp)]
    show some (Value.int k ((x : Int).fdiv (2 ^ (min y k.bits)))) = _
    rw [minF_eq]
    congr 2
    show _ = ((x / 2 ^ (min y k.bits) : Nat) : Int)
    rw [Int.fdiv_eq_ediv_of_nonneg _ (by exact Int.le_of_lt (Int.pow_pos (by decide)))]
    push_cast
    rfl
  | add =>
    obtain rfl : k = k' := hk.elim id (fun q => by cases q)
    have h : vInt k _ = some v := h
    rw [vInt_eq] at h
    cases h
    refine ⟨?_, rfl⟩
    rw [bin_same rfl, wrapF_eq]
    rfl
  | sub =>
    obtain rfl : k = k' := hk.elim id (fun q => by cases q)
    have h : vInt k _ = some v := h
    rw [vInt_eq] at h
    cases h
    refine ⟨?_, rfl⟩
    rw [bin_same rfl, wrapF_eq]
    rfl
  | mul =>
    obtain rfl : k = k' := hk.elim id (fun q => by cases q)
    have h : vInt k _ = some v := h
    rw [vInt_eq] at h
    cases h
    refine ⟨?_, rfl⟩
    rw [bin_same rfl, wrapF_eq]
    rfl
  | quo =>
    obtain rfl : k = k' := hk.elim id (fun q => by cases q)
    obtain ⟨x, y, rfl, rfl, h1⟩ := nat2_some h; clear h; rename _ => h
    cases y with
    | zero => cases h
    | succ q =>
      simp only [vInt_eq] at h
      cases h
      refine ⟨?_, rfl⟩
      rw [bin_same rfl, wrapF_eq]
      show pureRun P (Op.intDiv .quo k (.ofNat x) (.ofNat (q + 1))) = _
      unfold Op.intDiv
      rw [if_neg (by simp; omega)]
      rfl
  | rem =>
    obtain rfl : k = k' := hk.elim id (fun q => by cases q)
    obtain ⟨x, y, rfl, rfl, h1⟩ := nat2_some h; clear h; rename _ => h
    cases y with
    | zero => cases h
    | succ q =>
      simp only [vInt_eq] at h
      cases h
      refine ⟨?_, rfl⟩
      rw [bin_same rfl]
      show pureRun P (Op.intDiv .rem k (.ofNat x) (.ofNat (q + 1))) = _
      unfold Op.intDiv
      rw [if_neg (by simp; omega)]
      rfl
  | and =>
    obtain rfl : k = k' := hk.elim id (fun q => by cases q)
    obtain ⟨x, y, rfl, rfl, h1⟩ := small2_some h; clear h
    rcases h1 with ⟨hx, hy, rfl⟩ | ⟨hsg, rfl⟩
    · refine ⟨?_, rfl⟩
      rw [bin_same rfl]
      show some (Value.int k (k.wrap ((BitVec.ofInt k.bits (.ofNat x) &&& BitVec.ofInt k.bits (.ofNat y)).toNat))) = _
      rw [BitVec.toNat_and, ofInt_nat hx, ofInt_nat hy]
      obtain ⟨e, he, _⟩ := lim_pow k
      have : x &&& y < lim k := he ▸ Nat.and_lt_two_pow x (he ▸ hy)
      exact congrArg (fun z => some (Value.int k z)) (wrap_small this)
    · refine ⟨?_, rfl⟩
      rw [bin_same rfl]
      show some (Value.int k (k.wrap ((BitVec.ofInt k.bits (.ofNat x) &&& BitVec.ofInt k.bits (.ofNat y)).toNat))) = _
      rw [BitVec.toNat_and, ofInt_mod hsg, ofInt_mod hsg]
      exact congrArg (fun z => some (Value.int k z)) (bits_mod (g := fun a b => a &&& b) hsg (fun a b n => Nat.and_mod_two_pow) x y)
  | or =>
    obtain rfl : k = k' := hk.elim id (fun q => by cases q)
    obtain ⟨x, y, rfl, rfl, h1⟩ := small2_some h; clear h
    rcases h1 with ⟨hx, hy, rfl⟩ | ⟨hsg, rfl⟩
    · refine ⟨?_, rfl⟩
      rw [bin_same rfl]
      show some (Value.int k (k.wrap ((BitVec.ofInt k.bits (.ofNat x) ||| BitVec.ofInt k.bits (.ofNat y)).toNat))) = _
      rw [BitVec.toNat_or, ofInt_nat hx, ofInt_nat hy]
      obtain ⟨e, he, _⟩ := lim_pow k
      have : x ||| y < lim k := he ▸ Nat.or_lt_two_pow (he ▸ hx) (he ▸ hy)
      exact congrArg (fun z => some (Value.int k z)) (wrap_small this)
    · refine ⟨?_, rfl⟩
      rw [bin_same rfl]
      show some (Value.int k (k.wrap ((BitVec.ofInt k.bits (.ofNat x) ||| BitVec.ofInt k.bits (.ofNat y)).toNat))) = _
      rw [BitVec.toNat_or, ofInt_mod hsg, ofInt_mod hsg]
      exact congrArg (fun z => some (Value.int k z)) (bits_mod (g := fun a b => a ||| b) hsg (fun a b n => Nat.or_mod_two_pow) x y)
  | xor =>
    obtain rfl : k = k' := hk.elim id (fun q => by cases q)
    obtain ⟨x, y, rfl, rfl, h1⟩ := small2_some h; clear h
    rcases h1 with ⟨hx, hy, rfl⟩ | ⟨hsg, rfl⟩
    · refine ⟨?_, rfl⟩
      rw [bin_same rfl]
      show some (Value.int k (k.wrap ((BitVec.ofInt k.bits (.ofNat x) ^^^ BitVec.ofInt k.bits (.ofNat y)).toNat))) = _
      rw [BitVec.toNat_xor, ofInt_nat hx, ofInt_nat hy]
      obtain ⟨e, he, _⟩ := lim_pow k
      have : x ^^^ y < lim k := he ▸ Nat.xor_lt_two_pow (he ▸ hx) (he ▸ hy)
      exact congrArg (fun z => some (Value.int k z)) (wrap_small this)
    · refine ⟨?_, rfl⟩
      rw [bin_same rfl]
      show some (Value.int k (k.wrap ((BitVec.ofInt k.bits (.ofNat x) ^^^ BitVec.ofInt k.bits (.ofNat y)).toNat))) = _
      rw [BitVec.toNat_xor, ofInt_mod hsg, ofInt_mod hsg]
      exact congrArg (fun z => some (Value.int k z)) (bits_mod (g := fun a b => a ^^^ b) hsg (fun a b n => Nat.xor_mod_two_pow) x y)
  | andNot => cases h
  | eql =>
    obtain rfl : k = k' := hk.elim id (fun q => by cases q)
    have h : vBool _ = some v := h
    rw [vBool_eq] at h
    cases h
    refine ⟨?_, rfl⟩
    rw [bin_same rfl, eqF_eq]
    rfl
  | neq =>
    obtain rfl : k = k' := hk.elim id (fun q => by cases q)
    have h : vBool _ = some v := h
    rw [vBool_eq] at h
    cases h
    refine ⟨?_, rfl⟩
    rw [bin_same rfl, eqF_eq]
    rfl
  | lss =>
    obtain rfl : k = k' := hk.elim id (fun q => by cases q)
    have h : vBool _ = some v := h
    rw [vBool_eq] at h
    cases h
    refine ⟨?_, rfl⟩
    rw [bin_same rfl, ltF_eq]
    rfl
  | leq =>
    obtain rfl : k = k' := hk.elim id (fun q => by cases q)
    have h : vBool _ = some v := h
    rw [vBool_eq] at h
    cases h
    refine ⟨?_, rfl⟩
    rw [bin_same rfl, ltF_eq]
    show some (Value.bool (decide (a ≤ b))) = _
    congr 2
    rw [Bool.eq_iff_iff]
    simp
  | gtr =>
    obtain rfl : k = k' := hk.elim id (fun q => by cases q)
    have h : vBool _ = some v := h
    rw [vBool_eq] at h
    cases h
    refine ⟨?_, rfl⟩
    rw [bin_same rfl, ltF_eq]
    rfl
  | geq =>
    obtain rfl : k = k' := hk.elim id (fun q => by cases q)
    have h : vBool _ = some v := h
    rw [vBool_eq] at h
    cases h
    refine ⟨?_, rfl⟩
    rw [bin_same rfl, ltF_eq]
    show some (Value.bool (decide (a ≥ b))) = _
    congr 2
    rw [Bool.eq_iff_iff]
    simp

theorem fInt_ok {P : Program} {op : BinOp} {t : TypeId} {xo yo : Operand} {k k' : IntKind} {a b : Int} {v : Value} (h : fInt op k k' a b = some v) :
    pureRun P (do eqGuard op t xo yo (.int k a) (.int k' b); binOp op t (.int k a) (.int k' b)) = some v ∧ flat v = true := by
  rw [guard_int]
  unfold fInt at h
  cases hk : kEq k k' with
  | true => rw [hk] at h; exact intOp_ok (.inl (kEq_ok hk)) h
  | false =>
    simp only [hk] at h
    cases hs : isShift op with
    | true => rw [hs] at h; exact intOp_ok (.inr hs) h
    | false => simp [hs] at h

theorem strEqF_eq : ∀ (a b : List UInt8), strEqF a b = (a == b)
  | [], [] => rfl
  | [], _ :: _ => rfl
  | _ :: _, [] => rfl
  | x :: r, y :: q => by
    unfold strEqF
    cases h : Nat.beq x.toNat y.toNat with
    | true =>
      have e : x = y := UInt8.toNat_inj.1 (by simpa using h)
      subst e
      simp [strEqF_eq r q]
    | false =>
      have e : x ≠ y := fun e => by subst e; simp at h
      simp [e]
end Go.Tm
end
