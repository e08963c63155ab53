/- Layer 2, plain: numbers, texts, flags, frames as bytes; a reader; what was written is read again. -/
set_option linter.unusedVariables false
set_option linter.unusedSimpArgs false
set_option linter.unusedSectionVars false
namespace Go.Proofs.Ck
abbrev Bs := List UInt8
def numB (n : Nat) : Bs := if h : n < 128 then [UInt8.ofNat n] else UInt8.ofNat (n % 128 + 128) :: numB (n / 128)
termination_by n
decreasing_by omega
def textB (s : Bs) : Bs := numB s.length ++ s
def flagB (b : Bool) : Bs := [if b then 1 else 0]
structure Rd where
 s : Bs
 err : Nat
def Rd.fail (r : Rd) (e : Nat) : Rd := if r.err = 0 ∧ e ≠ 0 then ⟨[], e⟩ else r
def rawR (r : Rd) (n : Nat) : Bs × Rd := if r.err ≠ 0 then ([], r) else if r.s.length < n then ([], ⟨[], 10⟩) else (r.s.take n, ⟨r.s.drop n, 0⟩)
def numGo (i a : Nat) : Bs → Nat × Rd
 | [] => (0, ⟨[], 10⟩)
 | b :: t => if (i = 9 ∧ 1 < b.toNat) ∨ (0 < i ∧ b.toNat = 0) then (0, ⟨[], 11⟩)
  else if b.toNat < 128 then (a + b.toNat * 2 ^ (7 * i), ⟨t, 0⟩)
  else numGo (i + 1) (a + (b.toNat - 128) * 2 ^ (7 * i)) t
def numR (r : Rd) : Nat × Rd := if r.err ≠ 0 then (0, r) else numGo 0 0 r.s
def manyR (r : Rd) : Nat × Rd :=
 let (n, r') := numR r
 if r'.err ≠ 0 then (0, r') else if r'.s.length < n then (0, ⟨[], 10⟩) else (n, r')
def textR (r : Rd) : Bs × Rd := let (n, r') := manyR r; rawR r' n
def flagR (r : Rd) : Bool × Rd :=
 let (b, r') := rawR r 1
 match b with
 | [] => (false, r')
 | c :: _ => if 1 < c.toNat then (false, r'.fail 11) else (c.toNat == 1, r')
def doneR (r : Rd) : Nat := if r.err = 0 ∧ r.s ≠ [] then 11 else r.err
theorem u8 {n : Nat} (h : n < 256) : (UInt8.ofNat n).toNat = n := by
 rw [UInt8.toNat_ofNat']; omega
theorem numGo_numB : ∀ (k n i a : Nat) (rest : Bs), n < 2 ^ (7 * k) → i + k ≤ 9 → (0 < i → 0 < n) → 0 < k → numGo i a (numB n ++ rest) = (a + n * 2 ^ (7 * i), ⟨rest, 0⟩)
 | 0, _, _, _, _, _, _, _, h => by omega
 | k + 1, n, i, a, rest, hn, hi, h0, _ => by
  unfold numB
  by_cases h : n < 128
  ·rw [dif_pos h, List.cons_append, List.nil_append, numGo, u8 (by omega), if_neg (by rintro (⟨q, _⟩ | ⟨q, q2⟩) <;> omega), if_pos h]
  ·rw [dif_neg h, List.cons_append, numGo, u8 (by omega), if_neg (by rintro (⟨q, _⟩ | ⟨_, q⟩) <;> omega), if_neg (by omega)]
   have hp : (2 : Nat) ^ (7 * (k + 1)) = 128 * 2 ^ (7 * k) := by rw [show 7 * (k + 1) = 7 * k + 7 by omega, Nat.pow_add, Nat.mul_comm]
   have hk : 0 < k := by
    rcases Nat.eq_zero_or_pos k with rfl | q
    ·simp at hn; omega
    ·exact q
   rw [numGo_numB k (n / 128) (i + 1) _ rest (by rw [hp] at hn; exact Nat.div_lt_of_lt_mul hn) (by omega) (fun _ => by omega) hk]
   have hq : (2 : Nat) ^ (7 * (i + 1)) = 128 * 2 ^ (7 * i) := by rw [show 7 * (i + 1) = 7 * i + 7 by omega, Nat.pow_add, Nat.mul_comm]
   generalize 2 ^ (7 * i) = p at *
   rw [hq, Nat.add_sub_cancel, Nat.add_assoc, ← Nat.mul_assoc, ← Nat.add_mul, show n % 128 + n / 128 * 128 = n by omega]
theorem numR_numB {n : Nat} (h : n < 2 ^ 63) (rest : Bs) : numR ⟨numB n ++ rest, 0⟩ = (n, ⟨rest, 0⟩) := by
 have h9 : n < 2 ^ (7 * 9) := Nat.lt_of_lt_of_eq h (by decide)
 unfold numR
 rw [if_neg (by simp)]
 simp only
 rw [numGo_numB 9 n 0 0 rest h9 (by omega) (by omega) (by omega)]
 simp
theorem rawR_app (b rest : Bs) : rawR ⟨b ++ rest, 0⟩ b.length = (b, ⟨rest, 0⟩) := by
 have hlt : ¬ ((b ++ rest).length < b.length) := by simp
 simp only [ne_eq, not_true_eq_false, if_false, if_neg hlt, rawR, List.take_left, List.drop_left]
theorem textR_textB {s : Bs} (h : s.length < 2 ^ 63) (rest : Bs) : textR ⟨textB s ++ rest, 0⟩ = (s, ⟨rest, 0⟩) := by
 unfold textR manyR textB
 have hlt : ¬ ((s ++ rest).length < s.length) := by simp
 rw [List.append_assoc, numR_numB h]
 simp only [ne_eq, not_true_eq_false, if_false, if_neg hlt, rawR, List.take_left, List.drop_left]
theorem flagR_flagB (b : Bool) (rest : Bs) : flagR ⟨flagB b ++ rest, 0⟩ = (b, ⟨rest, 0⟩) := by
 cases b <;> simp [flagR, flagB, rawR]
/-! The check. -/
def crcBit (c : Nat) : Nat := (c / 2) ^^^ (if c % 2 = 1 then 3988292384 else 0)
def crcBits : Nat → Nat → Nat
 | 0, c => c
 | k + 1, c => crcBits k (crcBit c)
def crcGo (c : Nat) : Bs → Nat
 | [] => c
 | b :: t => crcGo (crcBits 8 (c ^^^ b.toNat)) t
theorem crcBit_lt {c : Nat} (h : c < 2 ^ 32) : crcBit c < 2 ^ 32 := by
 unfold crcBit
 refine Nat.xor_lt_two_pow (by omega) ?_
 split <;> decide
theorem crcBits_lt : ∀ (k : Nat) {c : Nat}, c < 2 ^ 32 → crcBits k c < 2 ^ 32
 | 0, _, h => h
 | k + 1, _, h => crcBits_lt k (crcBit_lt h)
theorem u8_lt32 (b : UInt8) : b.toNat < 2 ^ 32 := by have := b.toNat_lt; omega
theorem crcGo_lt : ∀ (s : Bs) {c : Nat}, c < 2 ^ 32 → crcGo c s < 2 ^ 32
 | [], _, h => h
 | b :: t, _, h => crcGo_lt t (crcBits_lt 8 (Nat.xor_lt_two_pow h (u8_lt32 b)))
theorem or128 : ∀ c, c < 256 → c ||| 128 = c % 128 + 128 := by
 intro c h
 have := (show ((List.range 256).all fun c => (c ||| 128) == c % 128 + 128) = true by decide +kernel)
 simpa using List.all_eq_true.1 this c (List.mem_range.2 h)
def checkP (s : Bs) : Nat := crcGo 4294967295 s ^^^ 4294967295
theorem checkP_lt (s : Bs) : checkP s < 2 ^ 32 := Nat.xor_lt_two_pow (crcGo_lt s (by decide)) (by decide)
def fourB (n : Nat) : Bs := [UInt8.ofNat (n / 16777216), UInt8.ofNat (n / 65536), UInt8.ofNat (n / 256), UInt8.ofNat n]
def frameB (b : Bs) : Bs := textB b ++ fourB (checkP b)
def unframeP (s : Bs) : Bs × Nat × Nat :=
 let (n, r) := numR ⟨s, 0⟩
 if r.err ≠ 0 then ([], 0, r.err)
 else if 65536 < n then ([], 0, 12)
 else
  let (body, r1) := rawR r n
  let (ck, r2) := rawR r1 4
  if r2.err ≠ 0 then ([], 0, r2.err)
  else if ck ≠ fourB (checkP body) then ([], 0, 13)
  else (body, s.length - r2.s.length, 0)
theorem unframe_frame {b : Bs} (h : b.length ≤ 65536) (rest : Bs) : unframeP (frameB b ++ rest) = (b, (frameB b).length, 0) := by
 unfold unframeP frameB textB
 rw [List.append_assoc, List.append_assoc, numR_numB (by omega)]
 have h4 : (fourB (checkP b)).length = 4 := rfl
 obtain ⟨ck, hck⟩ : ∃ ck, ck = fourB (checkP b) := ⟨_, rfl⟩
 rw [← hck] at h4
 rw [← hck]
 simp only [ne_eq, not_true_eq_false, if_false]
 rw [if_neg (by omega), rawR_app]
 have h4r := rawR_app ck rest
 rw [h4] at h4r
 simp only [h4r, ← hck, not_true_eq_false, if_false]
 congr 2
 simp only [List.length_append]
 omega
/-! A change's record. -/
structure Chg where
 key : Bs
 value : Bs
 dead : Bool
def bodyB (x : Chg) : Bs := textB x.key ++ (flagB x.dead ++ (if x.dead then [] else textB x.value))
def recordP (x : Chg) : Bs × Nat :=
 if x.key = [] then ([], 1)
 else if 255 < x.key.length ∨ (x.dead = false ∧ 60000 < x.value.length) then ([], 12)
 else (frameB (bodyB x), 0)
def changeR (body : Bs) : Chg × Rd :=
 let (k, r1) := textR ⟨body, 0⟩
 let (d, r2) := flagR r1
 if d then (⟨k, [], d⟩, r2) else let (v, r3) := textR r2; (⟨k, v, d⟩, r3)
def Chg.norm (x : Chg) : Chg := ⟨x.key, if x.dead then [] else x.value, x.dead⟩
theorem changeR_bodyB {x : Chg} (hk : x.key.length < 2 ^ 63) (hv : x.value.length < 2 ^ 63) : changeR (bodyB x) = (x.norm, ⟨[], 0⟩) := by
 unfold changeR bodyB
 rw [textR_textB hk]
 simp only
 rw [flagR_flagB]
 simp only
 cases hd : x.dead with
 | true => simp [Chg.norm, hd]
 | false =>
  have := textR_textB hv []
  rw [List.append_nil] at this
  simp [Chg.norm, hd, this]
theorem numB_len : ∀ (k n : Nat), n < 2 ^ (7 * k) → 0 < k → (numB n).length ≤ k
 | 0, _, _, h => by omega
 | k + 1, n, hn, _ => by
  unfold numB
  by_cases h : n < 128
  ·rw [dif_pos h]; simp
  ·rw [dif_neg h, List.length_cons]
   have hp : (2 : Nat) ^ (7 * (k + 1)) = 128 * 2 ^ (7 * k) := by rw [show 7 * (k + 1) = 7 * k + 7 by omega, Nat.pow_add, Nat.mul_comm]
   have hk : 0 < k := by
    rcases Nat.eq_zero_or_pos k with rfl | q
    ·simp at hn; omega
    ·exact q
   have := numB_len k (n / 128) (by rw [hp] at hn; exact Nat.div_lt_of_lt_mul hn) hk
   omega
theorem bodyB_len {x : Chg} (hk : x.key.length ≤ 255) (hv : x.dead = false → x.value.length ≤ 60000) : (bodyB x).length ≤ 65536 := by
 have h1 := numB_len 2 x.key.length (by simp; omega) (by omega)
 unfold bodyB textB flagB
 cases hd : x.dead with
 | true => simp; omega
 | false =>
  have := hv hd
  have h2 := numB_len 3 x.value.length (by simp; omega) (by omega)
  simp
  omega
theorem record_read {x : Chg} {s : Bs} (h : recordP x = (s, 0)) : s = frameB (bodyB x) ∧ x.key ≠ [] ∧ x.key.length ≤ 255 ∧ (x.dead = false → x.value.length ≤ 60000) ∧ (bodyB x).length ≤ 65536 := by
 unfold recordP at h
 by_cases h1 : x.key = []
 ·rw [if_pos h1] at h; simp at h
 ·rw [if_neg h1] at h
  by_cases h2 : 255 < x.key.length ∨ (x.dead = false ∧ 60000 < x.value.length)
  ·rw [if_pos h2] at h; simp at h
  ·rw [if_neg h2] at h
   have hk : x.key.length ≤ 255 := by omega
   have hv : x.dead = false → x.value.length ≤ 60000 := fun q => by
    rcases Nat.lt_or_ge 60000 x.value.length with h3 | h3
    ·exact absurd (.inr ⟨q, h3⟩) h2
    ·exact h3
   exact ⟨by simpa using h.symm, h1, hk, hv, bodyB_len hk hv⟩
end Go.Proofs.Ck
