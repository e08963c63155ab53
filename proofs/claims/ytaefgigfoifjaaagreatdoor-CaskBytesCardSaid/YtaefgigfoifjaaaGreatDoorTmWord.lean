/- Operations on words, at natural numbers below the word's bound: and, or, xor, shifts, negation. -/
import Derived.Test.YtaefgigfoifjaaaGreatDoorTmQd
set_option linter.unusedVariables false
set_option linter.unusedSimpArgs false
set_option linter.unusedSectionVars false
namespace Go.Tm
section
variable {P : Program} (t : TypeId) (p q : Operand) (k : IntKind)
theorem wrap_u (hk : k.signed = false) {n : Nat} (h : n < 2 ^ k.bits) : k.wrap n = n := by
 unfold IntKind.wrap
 simp only [hk, Bool.false_and, Bool.false_eq_true, if_false]
 have : ((2 ^ k.bits : Nat) : Int) = (2 ^ k.bits : Int) := by simp
 rw [← this, ← Int.natCast_emod, Nat.mod_eq_of_lt h]
theorem wrap_mod (hk : k.signed = false) (n : Nat) : k.wrap n = ((n % 2 ^ k.bits : Nat) : Int) := by
 unfold IntKind.wrap
 simp only [hk, Bool.false_and, Bool.false_eq_true, if_false]
 have : ((2 ^ k.bits : Nat) : Int) = (2 ^ k.bits : Int) := by simp
 rw [← this, ← Int.natCast_emod]
theorem ofIntW_nat {w n : Nat} (h : n < 2 ^ w) : (BitVec.ofInt w (n : Int)).toNat = n := by
 rw [BitVec.toNat_ofInt, ← Int.natCast_emod, Nat.mod_eq_of_lt h]; rfl
theorem xor_run (hk : k.signed = false) {a b : Nat} (ha : a < 2 ^ k.bits) (hb : b < 2 ^ k.bits) : pureRun P (do eqGuard .xor t p q (.int k a) (.int k b); binOp .xor t (.int k a) (.int k b)) = some (.int k ((a ^^^ b : Nat) : Int)) := by
 have e : pureRun P (do eqGuard .xor t p q (.int k a) (.int k b); binOp .xor t (.int k a) (.int k b)) = pureRun P (Op.intBits .xor k a b) := by
  show pureRun P (if k ≠ k then _ else Op.intBits .xor k a b) = _
  rw [if_neg (by simp)]
 rw [e]
 show some (Value.int k (k.wrap ((BitVec.ofInt k.bits (a : Int) ^^^ BitVec.ofInt k.bits (b : Int)).toNat : Nat))) = _
 rw [BitVec.toNat_xor, ofIntW_nat ha, ofIntW_nat hb, wrap_u k hk (Nat.xor_lt_two_pow ha hb)]
theorem or_run (hk : k.signed = false) {a b : Nat} (ha : a < 2 ^ k.bits) (hb : b < 2 ^ k.bits) : pureRun P (do eqGuard .or t p q (.int k a) (.int k b); binOp .or t (.int k a) (.int k b)) = some (.int k ((a ||| b : Nat) : Int)) := by
 have e : pureRun P (do eqGuard .or t p q (.int k a) (.int k b); binOp .or t (.int k a) (.int k b)) = pureRun P (Op.intBits .or k a b) := by
  show pureRun P (if k ≠ k then _ else Op.intBits .or k a b) = _
  rw [if_neg (by simp)]
 rw [e]
 show some (Value.int k (k.wrap ((BitVec.ofInt k.bits (a : Int) ||| BitVec.ofInt k.bits (b : Int)).toNat : Nat))) = _
 rw [BitVec.toNat_or, ofIntW_nat ha, ofIntW_nat hb, wrap_u k hk (Nat.or_lt_two_pow ha hb)]
theorem and_run (hk : k.signed = false) {a b : Nat} (ha : a < 2 ^ k.bits) (hb : b < 2 ^ k.bits) : pureRun P (do eqGuard .and t p q (.int k a) (.int k b); binOp .and t (.int k a) (.int k b)) = some (.int k ((a &&& b : Nat) : Int)) := by
 have e : pureRun P (do eqGuard .and t p q (.int k a) (.int k b); binOp .and t (.int k a) (.int k b)) = pureRun P (Op.intBits .and k a b) := by
  show pureRun P (if k ≠ k then _ else Op.intBits .and k a b) = _
  rw [if_neg (by simp)]
 rw [e]
 show some (Value.int k (k.wrap ((BitVec.ofInt k.bits (a : Int) &&& BitVec.ofInt k.bits (b : Int)).toNat : Nat))) = _
 rw [BitVec.toNat_and, ofIntW_nat ha, ofIntW_nat hb, wrap_u k hk (Nat.and_lt_two_pow _ hb)]
theorem shrN_run (yk : IntKind) {a n : Nat} (hn : n ≤ k.bits) : pureRun P (do eqGuard .shr t p q (.int k a) (.int yk n); binOp .shr t (.int k a) (.int yk n)) = some (.int k ((a / 2 ^ n : Nat) : Int)) := by
 have e : pureRun P (do eqGuard .shr t p q (.int k a) (.int yk n); binOp .shr t (.int k a) (.int yk n)) = pureRun P (Op.shift .shr k a yk n) := rfl
 rw [e]
 unfold Op.shift
 rw [if_neg (by omega), Int.toNat_natCast, Nat.min_eq_left hn]
 show some (Value.int k ((a : Int).fdiv (2 ^ n))) = _
 have : ((2 ^ n : Nat) : Int) = (2 ^ n : Int) := by simp
 rw [← this, Int.fdiv_eq_ediv_of_nonneg _ (Int.natCast_nonneg _), Int.natCast_ediv]
theorem shlN_run (hk : k.signed = false) (yk : IntKind) {a n : Nat} (hn : n ≤ k.bits) (h : a * 2 ^ n < 2 ^ k.bits) : pureRun P (do eqGuard .shl t p q (.int k a) (.int yk n); binOp .shl t (.int k a) (.int yk n)) = some (.int k ((a * 2 ^ n : Nat) : Int)) := by
 have e : pureRun P (do eqGuard .shl t p q (.int k a) (.int yk n); binOp .shl t (.int k a) (.int yk n)) = pureRun P (Op.shift .shl k a yk n) := rfl
 rw [e]
 unfold Op.shift
 rw [if_neg (by omega), Int.toNat_natCast, Nat.min_eq_left hn]
 show some (Value.int k (k.wrap ((a : Int) * 2 ^ n))) = _
 have : (a : Int) * 2 ^ n = ((a * 2 ^ n : Nat) : Int) := by simp
 rw [this, wrap_u k hk h]
theorem rem_run {a b : Nat} (hb : 0 < b) : pureRun P (do eqGuard .rem t p q (.int k a) (.int k b); binOp .rem t (.int k a) (.int k b)) = some (.int k ((a % b : Nat) : Int)) := by
 have e : pureRun P (do eqGuard .rem t p q (.int k a) (.int k b); binOp .rem t (.int k a) (.int k b)) = pureRun P (Op.intDiv .rem k a b) := by
  show pureRun P (if k ≠ k then _ else Op.intDiv .rem k a b) = _
  rw [if_neg (by simp)]
 rw [e]
 unfold Op.intDiv
 rw [if_neg (by omega)]
 rfl
theorem quo_run {a b : Nat} (hb : 0 < b) (hw : k.wrap ((a / b : Nat) : Int) = ((a / b : Nat) : Int)) : pureRun P (do eqGuard .quo t p q (.int k a) (.int k b); binOp .quo t (.int k a) (.int k b)) = some (.int k ((a / b : Nat) : Int)) := by
 have e : pureRun P (do eqGuard .quo t p q (.int k a) (.int k b); binOp .quo t (.int k a) (.int k b)) = pureRun P (Op.intDiv .quo k a b) := by
  show pureRun P (if k ≠ k then _ else Op.intDiv .quo k a b) = _
  rw [if_neg (by simp)]
 rw [e]
 unfold Op.intDiv
 rw [if_neg (by omega)]
 show some (Value.int k (k.wrap ((a / b : Nat) : Int))) = _
 rw [hw]
end
theorem or_add {a b i : Nat} (h : a < 2 ^ i) : a ||| b * 2 ^ i = a + b * 2 ^ i := by
 rw [Nat.or_comm, ← Nat.shiftLeft_eq, ← Nat.shiftLeft_add_eq_or_of_lt h, Nat.add_comm]
end Go.Tm
