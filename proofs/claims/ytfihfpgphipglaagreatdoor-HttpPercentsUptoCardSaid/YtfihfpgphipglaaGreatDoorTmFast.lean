/- The tree machine in haste: the same evaluator, made for the kernel: registers as a tree, small functions with closed arms, numbers made ready. -/
import Derived.Test.YtfihfpgphipglaaGreatDoorTmS22
set_option linter.unusedVariables false
set_option linter.unusedSimpArgs false
set_option linter.unusedSectionVars false
namespace Go.Tm

/-! ### Registers as a tree: all leaves at one depth -/
inductive RT where
  | leaf (v : AV)
  | node (l r : RT)

noncomputable def RT.get (t : RT) : Nat → AV :=
  RT.rec (motive := fun _ => Nat → AV) (fun v _ => v) (fun _ _ gl gr n => Bool.rec (motive := fun _ => AV) (gr (Nat.div n 2)) (gl (Nat.div n 2)) (Nat.beq (Nat.mod n 2) 0)) t
noncomputable def RT.put (t : RT) : Nat → AV → RT :=
  RT.rec (motive := fun _ => Nat → AV → RT) (fun _ _ x => .leaf x) (fun l r pl pr n x => Bool.rec (motive := fun _ => RT) (.node l (pr (Nat.div n 2) x)) (.node (pl (Nat.div n 2) x) r) (Nat.beq (Nat.mod n 2) 0)) t
noncomputable def RT.putK {R : Type} (t : RT) : Nat → AV → (RT → R) → R :=
  RT.rec (motive := fun _ => Nat → AV → (RT → R) → R) (fun _ _ x k => k (.leaf x)) (fun l r pl pr n x k => Bool.rec (motive := fun _ => R) (pr (Nat.div n 2) x fun r => k (.node l r)) (pl (Nat.div n 2) x fun l => k (.node l r)) (Nat.beq (Nat.mod n 2) 0)) t
noncomputable def RT.full (d : Nat) : RT := Nat.rec (motive := fun _ => RT) (.leaf .undef) (fun _ t => .node t t) d

theorem RT.putK_eq {R : Type} : ∀ (t : RT) (n : Nat) (x : AV) (k : RT → R), RT.putK t n x k = k (RT.put t n x) := by
  intro t
  induction t with
  | leaf v => intro n x k; rfl
  | node l r hl hr =>
    intro n x k
    show Bool.rec (motive := fun _ => R) (RT.putK r (Nat.div n 2) x fun r => k (.node l r)) (RT.putK l (Nat.div n 2) x fun l => k (.node l r)) (Nat.beq (Nat.mod n 2) 0) = k (Bool.rec (motive := fun _ => RT) (.node l (RT.put r (Nat.div n 2) x)) (.node (RT.put l (Nat.div n 2) x) r) (Nat.beq (Nat.mod n 2) 0))
    cases Nat.beq (Nat.mod n 2) 0 with
    | true => exact hl _ _ _
    | false => exact hr _ _ _

/-- All leaves at this depth. -/
def RT.Full : Nat → RT → Prop
  | 0, .leaf _ => True
  | d + 1, .node l r => RT.Full d l ∧ RT.Full d r
  | _, _ => False

theorem RT.full_full : ∀ d, RT.Full d (RT.full d)
  | 0 => trivial
  | d + 1 => ⟨RT.full_full d, RT.full_full d⟩
theorem RT.get_full : ∀ d i, (RT.full d).get i = .undef
  | 0, _ => rfl
  | d + 1, i => by
    show Bool.rec (motive := fun _ => AV) ((RT.full d).get (Nat.div i 2)) ((RT.full d).get (Nat.div i 2)) (Nat.beq (Nat.mod i 2) 0) = _
    cases Nat.beq (Nat.mod i 2) 0 <;> exact RT.get_full d _
theorem RT.put_full : ∀ {d : Nat} {t : RT} (n : Nat) (x : AV), RT.Full d t → RT.Full d (RT.put t n x)
  | 0, .leaf _, _, _, _ => trivial
  | d + 1, .node l r, n, x, h => by
    show RT.Full (d + 1) (Bool.rec (motive := fun _ => RT) (.node l (RT.put r (Nat.div n 2) x)) (.node (RT.put l (Nat.div n 2) x) r) (Nat.beq (Nat.mod n 2) 0))
    cases Nat.beq (Nat.mod n 2) 0 with
    | true => exact ⟨RT.put_full _ _ h.1, h.2⟩
    | false => exact ⟨h.1, RT.put_full _ _ h.2⟩
  | 0, .node _ _, _, _, h => h.elim
  | _ + 1, .leaf _, _, _, h => h.elim

theorem RT.get_put : ∀ {d : Nat} {t : RT} (n : Nat) (x : AV) (i : Nat), RT.Full d t → n < 2 ^ d → i < 2 ^ d → (RT.put t n x).get i = if i = n then x else t.get i
  | 0, .leaf _, n, x, i, _, hn, hi => by
    have : i = n := by
      simp at hn hi
      omega
    rw [if_pos this]
    rfl
  | d + 1, .node l r, n, x, i, h, hn, hi => by
    have e1 : Nat.div n 2 < 2 ^ d := by show n / 2 < _; rw [Nat.pow_succ] at hn; omega
    have e2 : Nat.div i 2 < 2 ^ d := by show i / 2 < _; rw [Nat.pow_succ] at hi; omega
    have hget : ∀ (l r : RT), (RT.node l r).get i = Bool.rec (motive := fun _ => AV) (r.get (Nat.div i 2)) (l.get (Nat.div i 2)) (Nat.beq (Nat.mod i 2) 0) := fun _ _ => rfl
    show RT.get (Bool.rec (motive := fun _ => RT) (.node l (RT.put r (Nat.div n 2) x)) (.node (RT.put l (Nat.div n 2) x) r) (Nat.beq (Nat.mod n 2) 0)) i = _
    rw [hget l r]
    cases hb : Nat.beq (Nat.mod n 2) 0 with
    | true =>
      have hb' : n % 2 = 0 := Nat.eq_of_beq_eq_true hb
      show RT.get (.node (RT.put l (Nat.div n 2) x) r) i = _
      rw [hget]
      cases hc : Nat.beq (Nat.mod i 2) 0 with
      | true =>
        have hc' : i % 2 = 0 := Nat.eq_of_beq_eq_true hc
        show RT.get (RT.put l (Nat.div n 2) x) (Nat.div i 2) = if i = n then x else l.get (Nat.div i 2)
        rw [RT.get_put _ x _ h.1 e1 e2]
        have e : (Nat.div i 2 = Nat.div n 2) = (i = n) := propext ⟨fun (q : i / 2 = n / 2) => by omega, fun q => by rw [q]⟩
        simp only [e]
      | false =>
        have hc' : ¬ i % 2 = 0 := Nat.ne_of_beq_eq_false hc
        show r.get (Nat.div i 2) = if i = n then x else r.get (Nat.div i 2)
        rw [if_neg (by omega)]
    | false =>
      have hb' : ¬ n % 2 = 0 := Nat.ne_of_beq_eq_false hb
      show RT.get (.node l (RT.put r (Nat.div n 2) x)) i = _
      rw [hget]
      cases hc : Nat.beq (Nat.mod i 2) 0 with
      | true =>
        have hc' : i % 2 = 0 := Nat.eq_of_beq_eq_true hc
        show l.get (Nat.div i 2) = if i = n then x else l.get (Nat.div i 2)
        rw [if_neg (by omega)]
      | false =>
        have hc' : ¬ i % 2 = 0 := Nat.ne_of_beq_eq_false hc
        show RT.get (RT.put r (Nat.div n 2) x) (Nat.div i 2) = if i = n then x else r.get (Nat.div i 2)
        rw [RT.get_put _ x _ h.2 e1 e2]
        have e : (Nat.div i 2 = Nat.div n 2) = (i = n) := propext ⟨fun (q : i / 2 = n / 2) => by omega, fun q => by rw [q]⟩
        simp only [e]
  | 0, .node _ _, _, _, _, h, _, _ => h.elim
  | _ + 1, .leaf _, _, _, _, h, _, _ => h.elim

/-- The tree holds the registers. -/
def RTok (regs : List AV) (r : RT) : Prop := ∃ d, RT.Full d r ∧ regs.length ≤ 2 ^ d ∧ ∀ i, i < regs.length → nth regs i = some (r.get i)

/-! ### Made ready -/
noncomputable def forceN {R : Type} (n : Nat) (k : Nat → R) : R := Nat.rec (motive := fun _ => R) (k 0) (fun m _ => k (Nat.succ m)) n
noncomputable def forceI {R : Type} (n : Int) (k : Int → R) : R :=
  match n with
  | .ofNat m => forceN m fun m => k (.ofNat m)
  | .negSucc m => forceN m fun m => k (.negSucc m)
theorem forceN_eq {R : Type} (n : Nat) (k : Nat → R) : forceN n k = k n := by cases n <;> rfl
theorem forceI_eq {R : Type} (n : Int) (k : Int → R) : forceI n k = k n := by cases n <;> simp [forceI, forceN_eq]
/-! ### Numbers -/
def lim : IntKind → Nat
  | .i8 => 128
  | .i16 => 32768
  | .i32 => 2147483648
  | .i64 => 9223372036854775808
  | .u8 => 256
  | .u16 => 65536
  | .u32 => 4294967296
  | .u64 => 18446744073709551616
def wrapF (k : IntKind) (n : Int) : Int :=
  match n with
  | .ofNat m => match k.signed with
    | false => .ofNat (Nat.mod m (lim k))
    | true => match Nat.blt m (lim k) with
      | true => .ofNat m
      | false => k.wrap (.ofNat m)
  | .negSucc m => k.wrap (.negSucc m)
theorem wrapF_eq (k : IntKind) (n : Int) : wrapF k n = k.wrap n := by
  unfold wrapF
  cases n with
  | negSucc m => rfl
  | ofNat m =>
    simp only
    cases hs : k.signed with
    | false => cases k <;> first | exact absurd hs (by decide) | (simp [IntKind.wrap, IntKind.bits, IntKind.signed, lim]; rfl)
    | true =>
      simp only
      cases hb : Nat.blt m (lim k) with
      | true =>
        have hb' : m < lim k := Nat.le_of_ble_eq_true hb
        cases k <;> first | exact absurd hs (by decide) | (simp [IntKind.wrap, IntKind.bits, IntKind.signed, lim] at hb' ⊢; omega)
      | false => rfl
def ltF (a b : Int) : Bool :=
  match a with
  | .ofNat x => match b with
    | .ofNat y => Nat.blt x y
    | .negSucc _ => false
  | .negSucc x => match b with
    | .ofNat _ => true
    | .negSucc y => Nat.blt y x
theorem ltF_eq (a b : Int) : ltF a b = decide (a < b) := by
  rw [Bool.eq_iff_iff, decide_eq_true_eq]
  cases a with
  | ofNat x => cases b with
    | ofNat y => simp [ltF]
    | negSucc y => simp [ltF]; omega
  | negSucc x => cases b with
    | ofNat y => simp [ltF]; omega
    | negSucc y => simp [ltF]; omega
def eqF (a b : Int) : Bool :=
  match a with
  | .ofNat x => match b with
    | .ofNat y => Nat.beq x y
    | .negSucc _ => false
  | .negSucc x => match b with
    | .ofNat _ => false
    | .negSucc y => Nat.beq x y
theorem eqF_eq (a b : Int) : eqF a b = (a == b) := by
  rw [Bool.eq_iff_iff, beq_iff_eq]
  cases a with
  | ofNat x => cases b with
    | ofNat y => simp only [eqF, Int.ofNat.injEq]; exact Nat.beq_eq ▸ Iff.rfl
    | negSucc y => simp [eqF]
  | negSucc x => cases b with
    | ofNat y => simp [eqF]
    | negSucc y => simp only [eqF, Int.negSucc.injEq]; exact Nat.beq_eq ▸ Iff.rfl
end Go.Tm
