/- The ring's claims, plain: what ring.Claim, ring.Balanced and ring.Transfers reckon, as functions on lists of ints. No program here. -/
import Derived.Sort.Statements
import Derived.Shelf.SlSortCmp.Insertion
import Derived.Lib.SlicesCompact
set_option linter.unusedVariables false
set_option linter.unusedSimpArgs false
set_option linter.unusedSectionVars false
namespace Go.Proofs.RgPlain
open Go.Lib Go.Sort Go.Proofs
def isOwn (o : List Int) (n : Int) (i : Nat) : Bool := decide (0 < n) && decide (o.getD i 0 = n)
def ownedTo (o : List Int) (n : Int) (k : Nat) : List Int := ((List.range k).filter (isOwn o n)).map fun i : Nat => (i : Int)
def owned (o : List Int) (n : Int) : List Int := ownedTo o n 8
theorem ownedTo_succ (o : List Int) (n : Int) (k : Nat) : ownedTo o n (k + 1) = if isOwn o n k then ownedTo o n k ++ [(k : Int)] else ownedTo o n k := by
 unfold ownedTo
 rw [List.range_succ, List.filter_append, List.map_append]
 by_cases h : isOwn o n k = true <;> simp [h]
theorem ownedTo_len (o : List Int) (n : Int) (k : Nat) : (ownedTo o n k).length ≤ k := by
 unfold ownedTo
 rw [List.length_map]
 exact Nat.le_trans (List.length_filter_le _ _) (by simp)
def cnt (o : List Int) (n : Int) : Nat := (owned o n).length
def cmpI (x y : Int) : Int := if x < y then -1 else if y < x then 1 else 0
def cfo (o : List Int) (x y : Int) : Int := if cmpI (cnt o y) (cnt o x) = 0 then cmpI x y else cmpI (cnt o y) (cnt o x)
def leO (o : List Int) (x y : Int) : Bool := decide (cnt o y < cnt o x ∨ (cnt o x = cnt o y ∧ x ≤ y))
theorem lt_iff (o : List Int) (x y : Int) : ltOf (cfo o) x y = decide (cnt o y < cnt o x ∨ (cnt o x = cnt o y ∧ x < y)) := by
 unfold ltOf cfo cmpI
 by_cases h1 : (cnt o y : Int) < cnt o x
 ·have h1' : cnt o y < cnt o x := by omega
  simp [h1']
 ·by_cases h2 : (cnt o x : Int) < cnt o y
  ·have h2' : cnt o x < cnt o y := by omega
   have h1' : ¬ cnt o y < cnt o x := by omega
   have h3 : ¬ cnt o x = cnt o y := by omega
   simp [h1', h2', h3]
  ·have h3 : cnt o x = cnt o y := by omega
   by_cases h4 : x < y
   ·simp [h3, h4]
   ·by_cases h5 : y < x <;> simp [h3, h4, h5]
theorem swo (o : List Int) : SWO (ltOf (cfo o)) where
 irrefl x := by rw [lt_iff]; simp
 trans x y z h1 h2 := by rw [lt_iff] at *; simp at *; omega
 ntrans x y z h1 h2 := by rw [lt_iff] at *; simp at *; omega
theorem leO_trans (o : List Int) : ∀ a b c, leO o a b = true → leO o b c = true → leO o a c = true := by
 intro a b c h1 h2
 unfold leO at *
 simp at *
 omega
theorem leO_total (o : List Int) : ∀ a b, (leO o a b || leO o b a) = true := by
 intro a b
 unfold leO
 simp
 omega
theorem leO_anti (o : List Int) (a b : Int) (h1 : leO o a b = true) (h2 : leO o b a = true) : a = b := by
 unfold leO at *
 simp at *
 omega
theorem sorted_one (o : List Int) (d d' : Array Int) (hp : PermIn 0 d.size d d') (hs : SortedIn (ltOf (cfo o)) 0 d.size d') : d'.toList = d.toList.mergeSort (leO o) := by
 obtain ⟨h1, _, h3⟩ := hp
 have hperm : d'.toList.Perm d.toList := by
  have e1 : (d'.extract 0 d.size).toList = d'.toList := by rw [← h1]; simp
  have e2 : (d.extract 0 d.size).toList = d.toList := by simp
  rw [e1, e2] at h3
  exact h3
 refine List.Perm.eq_of_pairwise (le := fun a b => leO o a b = true) (fun a b _ _ p q => leO_anti o a b p q) ?_ ?_ (hperm.trans (List.mergeSort_perm _ _).symm)
 ·rw [List.pairwise_iff_getElem]
  intro i j hi hj hij
  have hi' : i < d'.size := by simpa using hi
  have hj' : j < d'.size := by simpa using hj
  have := hs i j (Nat.zero_le _) hij (by omega)
  rw [lt_iff, getElem!_pos d' i hi', getElem!_pos d' j hj'] at this
  simp only [Array.getElem_toList]
  unfold leO
  simp at this ⊢
  omega
 ·exact List.pairwise_mergeSort (leO_trans o) (leO_total o) _
def those (ms : List Int) : List Int := compact ((ms.filter fun n => decide (0 < n)).mergeSort fun x y => decide (x ≤ y))
def upd (φ : Int → Int) (n v : Int) : Int → Int := fun k => if k = n then v else φ k
def startL (k : Nat) : List Int → Nat → (Int → Int) → (Int → Int)
 | [], _, φ => φ
 | n :: r, i, φ => startL k r (i + 1) (if i < 8 % k then upd (upd φ n ((8 / k : Nat) : Int)) n (((8 / k : Nat) : Int) + 1) else upd φ n ((8 / k : Nat) : Int))
def keep : List Int → Nat → (Int → Int) → List Int → List Int → (Int → Int) × List Int × List Int
 | [], _, φ, out, op => (φ, out, op)
 | n :: r, p, φ, out, op => if φ n ≤ 0 then keep r (p + 1) φ out (op ++ [(p : Int)]) else keep r (p + 1) (upd φ n (φ n - 1)) (out.set p n) op
def give (p : Nat) : List Int → (Int → Int) → List Int → (Int → Int) × List Int
 | [], φ, out => (φ, out)
 | n :: r, φ, out => if φ n ≤ 0 then give p r φ out else (upd φ n (φ n - 1), out.set p n)
def fill (l : List Int) : List Int → (Int → Int) → List Int → List Int
 | [], _, out => out
 | p :: r, φ, out => fill l r (give p.toNat l φ out).1 (give p.toNat l φ out).2
def zeros : List Int := List.replicate 8 0
def claim (o ms : List Int) : List Int :=
 if those ms = [] then zeros else
 let k := keep o 0 (startL (those ms).length ((those ms).mergeSort (leO o)) 0 fun _ => 0) zeros []
 fill (those ms) k.2.2 k.1 k.2.1
def spread (o : List Int) : List Int → Nat → Int → Int → Int × Int
 | [], _, a, b => (a, b)
 | n :: r, i, a, b => spread o r (i + 1) (if i = 0 then cnt o n else min a (cnt o n)) (if i = 0 then cnt o n else max b (cnt o n))
def balanced (o ms : List Int) : Bool :=
 if o.any fun n => (decide (0 < n) && !decide (n ∈ those ms)) || (decide (n ≤ 0) && decide (0 < (those ms).length)) then false
 else decide ((spread o (those ms) 0 0 0).2 - (spread o (those ms) 0 0 0).1 ≤ 1)
def moves (a b : List Int) (i : Nat) : Bool := decide (a.getD i 0 ≠ b.getD i 0) && (decide (0 < a.getD i 0) && decide (0 < b.getD i 0))
def transfersTo (a b : List Int) (k : Nat) : List (Int × Int × Int) := ((List.range k).filter (moves a b)).map fun i : Nat => ((i : Int), a.getD i 0, b.getD i 0)
def transfers (a b : List Int) : List (Int × Int × Int) := transfersTo a b 8
end Go.Proofs.RgPlain
