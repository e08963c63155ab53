/- The http's requests in plain words: a line, headers, the next request of a stream's bytes, all of a stream's; how they go on where bytes come behind. -/
import Derived.Test.YtfihfpgphipglaaGreatDoorHcBase
import Derived.Lib.IndexMore
import Derived.Lib.IndexBytes
import Derived.Lib.IndexLaws
import Derived.Lib.Split
import Derived.Lib.SplitLaws
import Derived.Lib.Case
import Derived.Lib.SlTrimSet
import Derived.Lib.Atoi
import Derived.Lib.ItoaNum
set_option linter.unusedVariables false
set_option linter.unusedSimpArgs false
set_option linter.unusedSectionVars false
namespace Go.Proofs.Hc
open Go Go.Proofs Go.Lib
abbrev Bs := List UInt8
def crlf : Bs := [13, 10]
def crlf2 : Bs := [13, 10, 13, 10]
def version : Bs := [72, 84, 84, 80, 47, 49, 46, 49]
def clen : Bs := [99, 111, 110, 116, 101, 110, 116, 45, 108, 101, 110, 103, 116, 104]
def tenc : Bs := [116, 114, 97, 110, 115, 102, 101, 114, 45, 101, 110, 99, 111, 100, 105, 110, 103]
structure First where
 method : Bs
 path : List Bs
 query : List (Bs × Bs)
structure Req extends First where
 headers : List (Bs × Bs)
 body : Bs
def capB (c : Nat) : Bool := decide (65 ≤ c) && decide (c ≤ 90)
def seenB (c : Nat) : Bool := decide (32 < c) && decide (c ≤ 126)
def nameB (c : Nat) : Bool := letter c || digit c || decide (c = 45)
def valueB (c : Nat) : Bool := (decide (32 ≤ c) && decide (c ≤ 126)) || decide (c = 9)
def allB (p : Nat → Bool) (s : Bs) : Bool := s.all fun c => p c.toNat
def decAll : List Bs → Option (List Bs)
 | [] => some []
 | x :: r => match dec x, decAll r with
  | some a, some l => some (a :: l)
  | _, _ => none
def decPairs : List Bs → Option (List (Bs × Bs))
 | [] => some []
 | p :: r => match dec (cut p [61]).1, dec (cut p [61]).2.1, decPairs r with
  | some a, some b, some l => some ((a, b) :: l)
  | _, _, _ => none
def methodOf (line : Bs) : Bs := (cut line [32]).1
def targetOf (line : Bs) : Bs := (cut (cut line [32]).2.1 [32]).1
def endOf (line : Bs) : Bs := (cut (cut line [32]).2.1 [32]).2.1
def lineBad (line : Bs) : Bool := methodOf line == [] || (decide ((methodOf line).length > 16) || (!allB capB (methodOf line) || (!hasPrefix (targetOf line) [47] || (!allB seenB (targetOf line) || !(endOf line == version)))))
def pathOf (line : Bs) : Bs := (cut (targetOf line) [63]).1
def queryOf (line : Bs) : Bs := (cut (targetOf line) [63]).2.1
def queryParts (line : Bs) : List Bs := if queryOf line = [] then [] else split (queryOf line) [38]
def firstP (line : Bs) : Option First :=
 if lineBad line = true then none else
 match decAll (split ((pathOf line).drop 1) [47]), decPairs (queryParts line) with
 | some p, some q => some ⟨methodOf line, p, q⟩
 | _, _ => none
def headerBad (line : Bs) : Bool := !(cut line [58]).2.2 || ((cut line [58]).1 == [] || (decide ((cut line [58]).1.length > 64) || (!allB nameB (cut line [58]).1 || !allB valueB (cut line [58]).2.1)))
def headerP (line : Bs) : Option (Bs × Bs) :=
 if headerBad line = true then none else some (toLowerA (cut line [58]).1, trimS (cut line [58]).2.1 [32, 9])
inductive Hs where
 | bad (status : Nat)
 | ok (l : List (Bs × Bs)) (n : Nat)
theorem cut_shorter {s sep : Bs} (hs : s ≠ []) (hp : sep ≠ []) : (cut s sep).2.1.length < s.length := by
 have h0 : 0 < s.length := List.length_pos_iff.2 hs
 have h1 : 0 < sep.length := List.length_pos_iff.2 hp
 unfold cut
 split
 ·simp only [List.length_drop]; omega
 ·simpa using h0
def lenBad (seen : Bool) (v : Bs) : Bool := seen || (v == [] || (decide (v.length > 9) || !allB digit v))
def lenOf (v : Bs) : Nat := (decNat v).getD 0
def headersP (s : Bs) (out : List (Bs × Bs)) (n : Nat) (seen : Bool) : Hs :=
 if hs : s = [] then .ok out n else
 match headerP (cut s crlf).1 with
 | none => .bad 400
 | some h =>
  if h.1 = tenc then .bad 400
  else if h.1 = clen then
   if lenBad seen h.2 = true then .bad 400
   else if lenOf h.2 > 30000 then .bad 413
   else headersP (cut s crlf).2.1 (out ++ [h]) (lenOf h.2) true
  else headersP (cut s crlf).2.1 (out ++ [h]) n seen
termination_by s.length
decreasing_by
 ·exact cut_shorter hs (by decide)
 ·exact cut_shorter hs (by decide)
inductive Nx where
 | wait
 | broke (status : Nat)
 | got (c : Req) (rest : Bs)
def bodyP (f : First) (rest : Bs) (e : Nat) : Nx :=
 match headersP (rest.take e) [] 0 false with
 | .bad st => .broke st
 | .ok l n => if (rest.drop (e + 2)).length < n then .wait else .got ⟨f, l, (rest.drop (e + 2)).take n⟩ ((rest.drop (e + 2)).drop n)
def headP (f : First) (rest : Bs) : Nx :=
 if hasPrefix rest crlf = true then bodyP f rest 0
 else if (index rest crlf2 < 0 ∧ 8194 ≤ rest.length) ∨ (0 ≤ index rest crlf2 ∧ 8192 < index rest crlf2 + 2) then .broke 400
 else if index rest crlf2 < 0 then .wait
 else bodyP f rest ((index rest crlf2).toNat + 2)
def nextP (b : Bs) : Nx :=
 if (index b crlf < 0 ∧ 2050 ≤ b.length) ∨ 2048 < index b crlf then .broke 414
 else if index b crlf < 0 then .wait
 else match firstP (b.take (index b crlf).toNat) with
  | none => .broke 400
  | some f => headP f (b.drop ((index b crlf).toNat + 2))
/-! Bytes that come behind. -/
theorem prefix_append {t a b : Bs} (h : t.length ≤ a.length) : t.isPrefixOf (a ++ b) = t.isPrefixOf a := by
 induction t generalizing a with
 | nil => cases a <;> cases b <;> rfl
 | cons x r ih =>
  cases a with
  | nil => simp at h
  | cons y q =>
   simp only [List.cons_append, List.isPrefixOf]
   rw [ih (by simpa using h)]
theorem index_cons (y : UInt8) (q t : Bs) : index (y :: q) t = if t.isPrefixOf (y :: q) then 0 else if index q t == -1 then -1 else index q t + 1 := by rw [index]
theorem index_append {t : Bs} (ht : t ≠ []) : ∀ {a : Bs} (b : Bs), 0 ≤ index a t → index (a ++ b) t = index a t
 | [], b, h => by
  cases t with
  | nil => exact absurd rfl ht
  | cons x r => exact absurd h (by simp [index])
 | y :: q, b, h => by
  have hroom := index_room (y :: q) t h
  have ih := index_append ht (a := q) b
  have hp : t.isPrefixOf (y :: (q ++ b)) = t.isPrefixOf (y :: q) := prefix_append (a := y :: q) (by omega)
  rw [List.cons_append, index_cons, index_cons, hp] at *
  split at h
  ·rename_i e; rw [if_pos e, if_pos e]
  ·rename_i e
   rw [if_neg e, if_neg e]
   split at h
   ·exact absurd h (by decide)
   ·rename_i e2
    have hge := index_ge q t
    have hne : index q t ≠ -1 := by simpa using e2
    rw [ih (by omega)]
theorem index_append_none {t : Bs} (ht : t ≠ []) : ∀ {a : Bs} (b : Bs), index a t < 0 → index (a ++ b) t < 0 ∨ (a.length : Int) < index (a ++ b) t + t.length
 | [], b, _ => by
  have h0 : 0 < t.length := List.length_pos_iff.2 ht
  have := index_ge b t
  rw [List.nil_append]
  simp only [List.length_nil]
  omega
 | y :: q, b, h => by
  have h0 : 0 < t.length := List.length_pos_iff.2 ht
  rw [List.cons_append]
  unfold index at h ⊢
  split at h
  ·exact absurd h (by decide)
  ·rename_i e
   have hq : index q t < 0 := by
    split at h
    ·rename_i e2; simp at e2; omega
    ·have := index_ge q t; omega
   have ih := index_append_none ht (a := q) b hq
   split
   ·rename_i e3
    refine .inr ?_
    by_cases hl : t.length ≤ (y :: q).length
    ·have := prefix_append (b := b) hl
     rw [List.cons_append] at this
     rw [this] at e3
     exact absurd e3 e
    ·simp only [List.length_cons] at hl ⊢; omega
   ·split
    ·exact .inl (by decide)
    ·rename_i e4
     have hge := index_ge (q ++ b) t
     have hne : index (q ++ b) t ≠ -1 := by simpa using e4
     rcases ih with ih | ih
     ·omega
     ·refine .inr ?_
      simp only [List.length_cons]; omega
theorem bodyP_len {f : First} {rest : Bs} {e : Nat} {c : Req} {r : Bs} (h : bodyP f rest e = .got c r) : r.length ≤ rest.length := by
 unfold bodyP at h
 split at h
 ·cases h
 ·split at h
  ·cases h
  ·cases h
   simp only [List.length_drop]; omega
theorem headP_len {f : First} {rest : Bs} {c : Req} {r : Bs} (h : headP f rest = .got c r) : r.length ≤ rest.length := by
 unfold headP at h
 split at h
 ·exact bodyP_len h
 ·split at h
  ·cases h
  ·split at h
   ·cases h
   ·exact bodyP_len h
theorem nextP_len {b : Bs} {c : Req} {r : Bs} (h : nextP b = .got c r) : r.length + 2 ≤ b.length := by
 unfold nextP at h
 split at h
 ·cases h
 ·split at h
  ·cases h
  ·rename_i h0
   split at h
   ·cases h
   ·have := headP_len h
    have hroom := index_room b crlf (by omega)
    rw [show crlf.length = 2 from rfl] at hroom
    rw [List.length_drop] at this
    omega
def seqP (b : Bs) : List Req × Option Nat × Bs :=
 match h : nextP b with
 | .wait => ([], none, b)
 | .broke s => ([], some s, [])
 | .got c r => (c :: (seqP r).1, (seqP r).2)
termination_by b.length
decreasing_by
 all_goals have := nextP_len h; omega
end Go.Proofs.Hc
