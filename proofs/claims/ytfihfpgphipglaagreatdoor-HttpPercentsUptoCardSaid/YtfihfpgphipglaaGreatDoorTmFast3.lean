/- The tree machine in haste: what it tells, the tree machine tells. -/
import Derived.Test.YtfihfpgphipglaaGreatDoorTmFast2
set_option linter.unusedVariables false
set_option linter.unusedSimpArgs false
set_option linter.unusedSectionVars false
namespace Go.Tm

theorem runE_some {α : Type} {x : E α} {a : α} (h : runE x = some a) : x [] = some (a, [], []) := by
  unfold runE at h
  split at h
  · rename_i q; cases h; exact q
  · cases h
theorem bind_nil {α β : Type} {x : E α} {f : α → E β} {a : α} {b : β} (h1 : x [] = some (a, [], [])) (h2 : f a [] = some (b, [], [])) : (x >>= f) [] = some (b, [], []) := by
  show E.bind x f [] = _
  simp [E.bind, h1, h2]
theorem chk_nil {s b : Bool} (hs : s = false) (hb : b = true) : E.chk s b [] = some ((), [], []) := by subst hs hb; rfl
theorem branch_nil {s b : Bool} (hs : s = false) : E.branch s b [] = some (b, [], []) := by subst hs; rfl
theorem of_nil {α : Type} {o : Option α} {a : α} (h : o = some a) : E.of o [] = some (a, [], []) := by subst h; rfl

/-! ### Numbers -/
theorem kEq_ok {k k' : IntKind} (h : kEq k k' = true) : k = k' := by cases k <;> cases k' <;> first | rfl | exact absurd h (by decide)
theorem minF_eq (a b : Nat) : minF a b = min a b := by
  unfold minF
  cases h : Nat.ble a b with
  | true => have : a ≤ b := Nat.le_of_ble_eq_true h
            simp only; omega
  | false => have : ¬ a ≤ b := fun q => by rw [Nat.ble_eq_true_of_le q] at h; cases h
             simp only; omega
theorem blt_true {a b : Nat} (h : Nat.blt a b = true) : a < b := Nat.le_of_ble_eq_true h
theorem blt_false {a b : Nat} (h : Nat.blt a b = false) : ¬ a < b := fun q => by
  have : Nat.blt a b = true := Nat.ble_eq_true_of_le q
  rw [h] at this; cases this
theorem blt_of {a b : Nat} (h : a < b) : Nat.blt a b = true := Nat.ble_eq_true_of_le h
theorem wrap_small {k : IntKind} {m : Nat} (h : m < lim k) : k.wrap (.ofNat m) = .ofNat m := by
  rw [← wrapF_eq]
  unfold wrapF
  simp only [blt_of h]
  cases k.signed with
  | true => rfl
  | false =>
    show Int.ofNat (m % lim k) = _
    rw [Nat.mod_eq_of_lt h]
theorem vInt_eq (k : IntKind) (n : Int) : vInt k n = some (.int k n) := by unfold vInt; cases k.signed <;> simp [forceI_eq]
theorem vBool_eq (b : Bool) : vBool b = some (.bool b) := by cases b <;> rfl
theorem lim_pow (k : IntKind) : ∃ e, lim k = 2 ^ e ∧ e ≤ k.bits := by
  cases k
  · exact ⟨7, rfl, by decide⟩
  · exact ⟨15, rfl, by decide⟩
  · exact ⟨31, rfl, by decide⟩
  · exact ⟨63, rfl, by decide⟩
  · exact ⟨8, rfl, by decide⟩
  · exact ⟨16, rfl, by decide⟩
  · exact ⟨32, rfl, by decide⟩
  · exact ⟨64, rfl, by decide⟩
theorem nat2_some {a b : Int} {g : Nat → Nat → Option Value} {v : Value} (h : nat2 a b g = some v) : ∃ x y, a = .ofNat x ∧ b = .ofNat y ∧ g x y = some v := by
  unfold nat2 at h
  cases a <;> cases b <;> simp at h
  exact ⟨_, _, rfl, rfl, h⟩
theorem small2_some {k : IntKind} {a b : Int} {g : Nat → Nat → Nat} {v : Value} (h : small2 k a b g = some v) : ∃ x y, a = .ofNat x ∧ b = .ofNat y ∧
    ((x < lim k ∧ y < lim k ∧ v = .int k (.ofNat (g x y))) ∨ (k.signed = false ∧ v = .int k (.ofNat (g x y % lim k)))) := by
  unfold small2 at h
  cases hs : k.signed with
  | false =>
    simp only [hs] at h
    obtain ⟨x, y, rfl, rfl, h1⟩ := nat2_some h
    cases h1
    exact ⟨x, y, rfl, rfl, .inr ⟨rfl, rfl⟩⟩
  | true =>
    simp only [hs] at h
    obtain ⟨x, y, rfl, rfl, h1⟩ := nat2_some h
    refine ⟨x, y, rfl, rfl, .inl ?_⟩
    unfold bitsS at h1
    cases hx : Nat.blt x (lim k) with
    | false => simp only [hx] at h1; cases h1
    | true => cases hy : Nat.blt y (lim k) with
      | false => simp only [hx, hy] at h1; cases h1
      | true =>
        simp only [hx, hy, vInt_eq, Option.some.injEq] at h1
        exact ⟨blt_true hx, blt_true hy, h1.symm⟩
theorem lim_bits {k : IntKind} (h : k.signed = false) : lim k = 2 ^ k.bits := by cases k <;> first | rfl | exact absurd h (by decide)
theorem ofInt_mod {k : IntKind} (h : k.signed = false) (x : Nat) : (BitVec.ofInt k.bits (.ofNat x)).toNat = x % lim k := by
  rw [BitVec.toNat_ofInt, lim_bits h]
  show ((x : Int) % (2 ^ k.bits : Nat)).toNat = _
  rw [← Int.natCast_emod, Int.toNat_natCast]
theorem lim_pos (k : IntKind) : 0 < lim k := by cases k <;> decide
/-- Bits of numbers without a sign. -/
theorem bits_mod {k : IntKind} (h : k.signed = false) {g : Nat → Nat → Nat} (hg : ∀ x y n : Nat, g x y % 2 ^ n = g (x % 2 ^ n) (y % 2 ^ n)) (x y : Nat) : k.wrap (Int.ofNat (g (x % lim k) (y % lim k))) = Int.ofNat (g x y % lim k) := by
  have e : g (x % lim k) (y % lim k) = g x y % lim k := by rw [lim_bits h, hg]
  rw [e]
  exact wrap_small (Nat.mod_lt _ (lim_pos k))
theorem ofInt_nat {k : IntKind} {x : Nat} (h : x < lim k) : (BitVec.ofInt k.bits (.ofNat x)).toNat = x := by
  obtain ⟨e, he, hb⟩ := lim_pow k
  have hlt : x < 2 ^ k.bits := Nat.lt_of_lt_of_le (he ▸ h) (Nat.pow_le_pow_right (by decide) hb)
  rw [BitVec.toNat_ofInt]
  show ((x : Int) % (2 ^ k.bits : Nat)).toNat = x
  rw [← Int.natCast_emod, Int.toNat_natCast, Nat.mod_eq_of_lt hlt]

theorem guard_int (P : Program) (op : BinOp) (t : TypeId) (xo yo : Operand) (k k' : IntKind) (a b : Int) :
    pureRun P (do eqGuard op t xo yo (.int k a) (.int k' b); binOp op t (.int k a) (.int k' b)) = pureRun P (binOp op t (.int k a) (.int k' b)) := by
  cases op <;> rfl

/-- What numbers of one kind do. -/
def binSame (op : BinOp) (k : IntKind) (a b : Int) : Sem Value := match op with
  | .add | .sub | .mul => Op.intArith op k a b
  | .quo | .rem => Op.intDiv op k a b
  | .and | .or | .xor | .andNot => Op.intBits op k a b
  | _ => Op.intCmp op a b
theorem bin_same {P : Program} {op : BinOp} {t : TypeId} {k : IntKind} {a b : Int} (h : isShift op = false) : pureRun P (binOp op t (.int k a) (.int k b)) = pureRun P (binSame op k a b) := by
  have hk : ¬ (k ≠ k) := by simp
  cases op <;> first
    | exact absurd h (by decide)
    | (unfold binOp; simp only [if_neg hk]; rfl)

theorem intOp_ok {P : Program} {op : BinOp} {t : TypeId} {k k' : IntKind} {a b : Int} {v : Value} (hk : k = k' ∨ isShift op = true) (h : intOp op k a b = some v) :
    pureRun P (binOp op t (.int k a) (.int k' b)) = some v ∧ flat v = true := by
  cases op with
  | shl =>
    obtain ⟨x, y, rfl, rfl, h1⟩ := nat2_some h; clear h; rename _ => h
    rw [vInt_eq] at h
    cases h
    refine ⟨?_, rfl⟩
    show pureRun P (Op.shift .shl k (.ofNat x) k' (.ofNat y)) = _
    unfold Op.shift
    rw [if_neg (by simp)]
    show some (Value.int k (k.wrap ((x : Int) * 2 ^ (min y k.bits)))) = _
    rw [wrapF_eq, minF_eq]
    congr 3
  | shr =>
    obtain ⟨x, y, rfl, rfl, h1⟩ := nat2_some h; clear h; rename _ => h
    rw [vInt_eq] at h
    cases h
    refine ⟨?_, rfl⟩
    show pureRun P (Op.shift .shr k (.ofNat x) k' (.ofNat y)) = _
    unfold Op.shift
    rw [if_neg (by simp)]
    show some (Value.int k ((x : Int).fdiv (2 ^ (min y k.bits)))) = _
    rw [minF_eq]
    congr 2
    show _ = ((x / 2 ^ (min y k.bits) : Nat) : Int)
    rw [Int.fdiv_eq_ediv_of_nonneg _ (by exact Int.le_of_lt (Int.pow_pos (by decide)))]
    push_cast
    rfl
  | add =>
    obtain rfl : k = k' := hk.elim id (fun q => by cases q)
    have h : vInt k _ = some v := h
    rw [vInt_eq] at h
    cases h
    refine ⟨?_, rfl⟩
    rw [bin_same rfl, wrapF_eq]
    rfl
  | sub =>
    obtain rfl : k = k' := hk.elim id (fun q => by cases q)
    have h : vInt k _ = some v := h
    rw [vInt_eq] at h
    cases h
    refine ⟨?_, rfl⟩
    rw [bin_same rfl, wrapF_eq]
    rfl
  | mul =>
    obtain rfl : k = k' := hk.elim id (fun q => by cases q)
    have h : vInt k _ = some v := h
    rw [vInt_eq] at h
    cases h
    refine ⟨?_, rfl⟩
    rw [bin_same rfl, wrapF_eq]
    rfl
  | quo =>
    obtain rfl : k = k' := hk.elim id (fun q => by cases q)
    obtain ⟨x, y, rfl, rfl, h1⟩ := nat2_some h; clear h; rename _ => h
    cases y with
    | zero => cases h
    | succ q =>
      simp only [vInt_eq] at h
      cases h
      refine ⟨?_, rfl⟩
      rw [bin_same rfl, wrapF_eq]
      show pureRun P (Op.intDiv .quo k (.ofNat x) (.ofNat (q + 1))) = _
      unfold Op.intDiv
      rw [if_neg (by simp; omega)]
      rfl
  | rem =>
    obtain rfl : k = k' := hk.elim id (fun q => by cases q)
    obtain ⟨x, y, rfl, rfl, h1⟩ := nat2_some h; clear h; rename _ => h
    cases y with
    | zero => cases h
    | succ q =>
      simp only [vInt_eq] at h
      cases h
      refine ⟨?_, rfl⟩
      rw [bin_same rfl]
      show pureRun P (Op.intDiv .rem k (.ofNat x) (.ofNat (q + 1))) = _
      unfold Op.intDiv
      rw [if_neg (by simp; omega)]
      rfl
  | and =>
    obtain rfl : k = k' := hk.elim id (fun q => by cases q)
    obtain ⟨x, y, rfl, rfl, h1⟩ := small2_some h; clear h
    rcases h1 with ⟨hx, hy, rfl⟩ | ⟨hsg, rfl⟩
    · refine ⟨?_, rfl⟩
      rw [bin_same rfl]
      show some (Value.int k (k.wrap ((BitVec.ofInt k.bits (.ofNat x) &&& BitVec.ofInt k.bits (.ofNat y)).toNat))) = _
      rw [BitVec.toNat_and, ofInt_nat hx, ofInt_nat hy]
      obtain ⟨e, he, _⟩ := lim_pow k
      have : x &&& y < lim k := he ▸ Nat.and_lt_two_pow x (he ▸ hy)
      exact congrArg (fun z => some (Value.int k z)) (wrap_small this)
    · refine ⟨?_, rfl⟩
      rw [bin_same rfl]
      show some (Value.int k (k.wrap ((BitVec.ofInt k.bits (.ofNat x) &&& BitVec.ofInt k.bits (.ofNat y)).toNat))) = _
      rw [BitVec.toNat_and, ofInt_mod hsg, ofInt_mod hsg]
      exact congrArg (fun z => some (Value.int k z)) (bits_mod (g := fun a b => a &&& b) hsg (fun a b n => Nat.and_mod_two_pow) x y)
  | or =>
    obtain rfl : k = k' := hk.elim id (fun q => by cases q)
    obtain ⟨x, y, rfl, rfl, h1⟩ := small2_some h; clear h
    rcases h1 with ⟨hx, hy, rfl⟩ | ⟨hsg, rfl⟩
    · refine ⟨?_, rfl⟩
      rw [bin_same rfl]
      show some (Value.int k (k.wrap ((BitVec.ofInt k.bits (.ofNat x) ||| BitVec.ofInt k.bits (.ofNat y)).toNat))) = _
      rw [BitVec.toNat_or, ofInt_nat hx, ofInt_nat hy]
      obtain ⟨e, he, _⟩ := lim_pow k
      have : x ||| y < lim k := he ▸ Nat.or_lt_two_pow (he ▸ hx) (he ▸ hy)
      exact congrArg (fun z => some (Value.int k z)) (wrap_small this)
    · refine ⟨?_, rfl⟩
      rw [bin_same rfl]
      show some (Value.int k (k.wrap ((BitVec.ofInt k.bits (.ofNat x) ||| BitVec.ofInt k.bits (.ofNat y)).toNat))) = _
      rw [BitVec.toNat_or, ofInt_mod hsg, ofInt_mod hsg]
      exact congrArg (fun z => some (Value.int k z)) (bits_mod (g := fun a b => a ||| b) hsg (fun a b n => Nat.or_mod_two_pow) x y)
  | xor =>
    obtain rfl : k = k' := hk.elim id (fun q => by cases q)
    obtain ⟨x, y, rfl, rfl, h1⟩ := small2_some h; clear h
    rcases h1 with ⟨hx, hy, rfl⟩ | ⟨hsg, rfl⟩
    · refine ⟨?_, rfl⟩
      rw [bin_same rfl]
      show some (Value.int k (k.wrap ((BitVec.ofInt k.bits (.ofNat x) ^^^ BitVec.ofInt k.bits (.ofNat y)).toNat))) = _
      rw [BitVec.toNat_xor, ofInt_nat hx, ofInt_nat hy]
      obtain ⟨e, he, _⟩ := lim_pow k
      have : x ^^^ y < lim k := he ▸ Nat.xor_lt_two_pow (he ▸ hx) (he ▸ hy)
      exact congrArg (fun z => some (Value.int k z)) (wrap_small this)
    · refine ⟨?_, rfl⟩
      rw [bin_same rfl]
      show some (Value.int k (k.wrap ((BitVec.ofInt k.bits (.ofNat x) ^^^ BitVec.ofInt k.bits (.ofNat y)).toNat))) = _
      rw [BitVec.toNat_xor, ofInt_mod hsg, ofInt_mod hsg]
      exact congrArg (fun z => some (Value.int k z)) (bits_mod (g := fun a b => a ^^^ b) hsg (fun a b n => Nat.xor_mod_two_pow) x y)
  | andNot => cases h
  | eql =>
    obtain rfl : k = k' := hk.elim id (fun q => by cases q)
    have h : vBool _ = some v := h
    rw [vBool_eq] at h
    cases h
    refine ⟨?_, rfl⟩
    rw [bin_same rfl, eqF_eq]
    rfl
  | neq =>
    obtain rfl : k = k' := hk.elim id (fun q => by cases q)
    have h : vBool _ = some v := h
    rw [vBool_eq] at h
    cases h
    refine ⟨?_, rfl⟩
    rw [bin_same rfl, eqF_eq]
    rfl
  | lss =>
    obtain rfl : k = k' := hk.elim id (fun q => by cases q)
    have h : vBool _ = some v := h
    rw [vBool_eq] at h
    cases h
    refine ⟨?_, rfl⟩
    rw [bin_same rfl, ltF_eq]
    rfl
  | leq =>
    obtain rfl : k = k' := hk.elim id (fun q => by cases q)
    have h : vBool _ = some v := h
    rw [vBool_eq] at h
    cases h
    refine ⟨?_, rfl⟩
    rw [bin_same rfl, ltF_eq]
    show some (Value.bool (decide (a ≤ b))) = _
    congr 2
    rw [Bool.eq_iff_iff]
    simp
  | gtr =>
    obtain rfl : k = k' := hk.elim id (fun q => by cases q)
    have h : vBool _ = some v := h
    rw [vBool_eq] at h
    cases h
    refine ⟨?_, rfl⟩
    rw [bin_same rfl, ltF_eq]
    rfl
  | geq =>
    obtain rfl : k = k' := hk.elim id (fun q => by cases q)
    have h : vBool _ = some v := h
    rw [vBool_eq] at h
    cases h
    refine ⟨?_, rfl⟩
    rw [bin_same rfl, ltF_eq]
    show some (Value.bool (decide (a ≥ b))) = _
    congr 2
    rw [Bool.eq_iff_iff]
    simp

theorem fInt_ok {P : Program} {op : BinOp} {t : TypeId} {xo yo : Operand} {k k' : IntKind} {a b : Int} {v : Value} (h : fInt op k k' a b = some v) :
    pureRun P (do eqGuard op t xo yo (.int k a) (.int k' b); binOp op t (.int k a) (.int k' b)) = some v ∧ flat v = true := by
  rw [guard_int]
  unfold fInt at h
  cases hk : kEq k k' with
  | true => rw [hk] at h; exact intOp_ok (.inl (kEq_ok hk)) h
  | false =>
    simp only [hk] at h
    cases hs : isShift op with
    | true => rw [hs] at h; exact intOp_ok (.inr hs) h
    | false => simp [hs] at h

theorem strEqF_eq : ∀ (a b : List UInt8), strEqF a b = (a == b)
  | [], [] => rfl
  | [], _ :: _ => rfl
  | _ :: _, [] => rfl
  | x :: r, y :: q => by
    unfold strEqF
    cases h : Nat.beq x.toNat y.toNat with
    | true =>
      have e : x = y := UInt8.toNat_inj.1 (by simpa using h)
      subst e
      simp [strEqF_eq r q]
    | false =>
      have e : x ≠ y := fun e => by subst e; simp at h
      simp [e]
end Go.Tm
