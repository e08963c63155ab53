/- All calls of a stream's bytes: how many, and how large, they are; bytes that come in pieces. -/
import Derived.Test.YtfihfpgphipglaaGreatDoorHcSame
set_option linter.unusedVariables false
set_option linter.unusedSimpArgs false
set_option linter.unusedSectionVars false
namespace Go.Proofs.Hc
open Go.Tm
theorem nextP_pos {b : Bs} {s : Nat} (h : nextP b = .broke s) : 0 < s := by
 unfold nextP at h
 split at h
 ·cases h; omega
 ·split at h
  ·cases h
  ·split at h
   ·cases h; omega
   ·unfold headP at h
    split at h
    ·unfold bodyP at h
     split at h
     ·rename_i st hh
      cases h
      rcases headersP_status hh with rfl | rfl <;> omega
     ·split at h <;> cases h
    ·split at h
     ·cases h; omega
     ·split at h
      ·cases h
      ·unfold bodyP at h
       split at h
       ·rename_i st hh
        cases h
        rcases headersP_status hh with rfl | rfl <;> omega
       ·split at h <;> cases h
theorem decAll_len {l p : List Bs} (h : decAll l = some p) : p.length = l.length := by
 rw [decAll_eq] at h
 split at h
 ·cases h; simp
 ·cases h
theorem decPairs_len {l : List Bs} {p : List Hd} (h : decPairs l = some p) : p.length = l.length := by
 rw [decPairs_eq] at h
 split at h
 ·cases h; simp
 ·cases h
theorem firstP_len {line : Bs} {f : First} (h : firstP line = some f) : f.path.length ≤ line.length + 1 ∧ f.query.length ≤ line.length + 1 := by
 unfold firstP at h
 split at h
 ·cases h
 ·split at h
  ·rename_i p q hp hq
   cases h
   have h1 := decAll_len hp
   have h2 := decPairs_len hq
   have l1 := cut_len line [32]
   have l2 := cut_len (Lib.cut line [32]).2.1 [32]
   have l3 := cut_len (targetOf line) [63]
   have l4 := split_len ((pathOf line).drop 1) 47
   rw [List.length_drop] at l4
   have e1 : (targetOf line).length ≤ line.length := by unfold targetOf; omega
   have e2 : (pathOf line).length ≤ line.length := by unfold pathOf; omega
   have e3 : (queryOf line).length ≤ line.length := by unfold queryOf; omega
   refine ⟨by simp only; omega, ?_⟩
   simp only
   rw [h2]
   unfold queryParts
   split
   ·simp
   ·have := split_len (queryOf line) 38
    omega
  ·cases h
theorem headersP_len : ∀ (k : Nat) (s : Bs) (out l : List Hd) (n m : Nat) (b : Bool), s.length = k → headersP s out n b = .ok l m → l.length ≤ out.length + s.length := by
 intro k
 induction k using Nat.strongRecOn with
 | ind k ih =>
  intro s out l n m b hk h
  by_cases hs : s = []
  ·subst hs; rw [heads_nil] at h; cases h; simp
  ·rw [heads_step hs] at h
   have hl := cut_shorter hs (show crlf ≠ [] by decide)
   split at h
   ·cases h
   ·split at h
    ·cases h
    ·split at h
     ·split at h
      ·cases h
      ·split at h
       ·cases h
       ·have := ih _ (by rw [← hk]; exact hl) _ _ _ _ _ _ rfl h
        simp only [List.length_append, List.length_cons, List.length_nil] at this
        omega
     ·have := ih _ (by rw [← hk]; exact hl) _ _ _ _ _ _ rfl h
      simp only [List.length_append, List.length_cons, List.length_nil] at this
      omega
def Small (n : Nat) (c : Req) : Prop := c.path.length ≤ n + 1 ∧ c.query.length ≤ n + 1 ∧ c.headers.length ≤ n
theorem Small.mono {n m : Nat} {c : Req} (h : Small n c) (hn : n ≤ m) : Small m c := ⟨by have := h.1; omega, by have := h.2.1; omega, by have := h.2.2; omega⟩
theorem bodyP_small {f : First} {rest : Bs} {e n : Nat} {c : Req} {r : Bs} (hf : f.path.length ≤ n + 1 ∧ f.query.length ≤ n + 1) (hr : rest.length ≤ n) (h : bodyP f rest e = .got c r) : Small n c := by
 unfold bodyP at h
 split at h
 ·cases h
 ·rename_i l k hh
  split at h
  ·cases h
  ·cases h
   have := headersP_len _ _ _ _ _ _ _ rfl hh
   simp only [List.length_nil, List.length_take] at this
   exact ⟨hf.1, hf.2, by simp only; omega⟩
theorem nextP_small {b : Bs} {c : Req} {r : Bs} (h : nextP b = .got c r) : Small b.length c := by
 unfold nextP at h
 split at h
 ·cases h
 ·split at h
  ·cases h
  ·split at h
   ·cases h
   ·rename_i f hf
    have hl := firstP_len hf
    have hl2 : f.path.length ≤ b.length + 1 ∧ f.query.length ≤ b.length + 1 := by
     simp only [List.length_take] at hl
     omega
    unfold headP at h
    split at h
    ·exact bodyP_small hl2 (by simp only [List.length_drop]; omega) h
    ·split at h
     ·cases h
     ·split at h
      ·cases h
      ·exact bodyP_small hl2 (by simp only [List.length_drop]; omega) h
theorem seqP_facts : ∀ (n : Nat) (b : Bs), b.length = n → (seqP b).1.length ≤ b.length ∧ (seqP b).2.2.length ≤ b.length ∧ (∀ c ∈ (seqP b).1, Small b.length c) ∧ ∀ s, (seqP b).2.1 = some s → 0 < s := by
 intro n
 induction n using Nat.strongRecOn with
 | ind n ih =>
  intro b hn
  cases h : nextP b with
  | wait => rw [seqP_wait h]; simp
  | broke s => rw [seqP_broke h]; exact ⟨by simp, by simp, by simp, fun t q => by cases q; exact nextP_pos h⟩
  | got c r =>
   have hl := nextP_len h
   obtain ⟨h1, h2, h3, h4⟩ := ih r.length (by omega) r rfl
   rw [seqP_got h]
   refine ⟨by simp only [List.length_cons]; omega, by simp only; omega, fun d hd => ?_, h4⟩
   rcases List.mem_cons.1 hd with rfl | hd
   ·exact nextP_small h
   ·exact (h3 d hd).mono (by omega)
def endOfP : Option Nat → Int
 | none => -1
 | some s => (s : Nat)
def allP (b : Bs) : List Req × Int := ((seqP b).1, endOfP (seqP b).2.1)
def reqV (c : Req) : AV := callV c.toFirst c.headers (outTl c.headers) c.body
theorem seqP_feed {t p : Bs} {out : List Req} {buf : Bs} (h : seqP t = (out, none, buf)) : seqP (t ++ p) = (out ++ (seqP (buf ++ p)).1, (seqP (buf ++ p)).2) := by
 rw [seqP_append _ t p rfl, h]
theorem allP_broke {t p : Bs} {out : List Req} {s : Nat} {r : Bs} (h : seqP t = (out, some s, r)) : allP (t ++ p) = (out, ((s : Nat) : Int)) := by
 unfold allP
 rw [seqP_append _ t p rfl, h]
 rfl
end Go.Proofs.Hc
