/- The tree machine: a row of bytes that a library's function fills, told by its contract. -/
import Derived.Test.YtaefgigfoifjaaaGreatDoorTmTold
import Derived.Test.YtaefgigfoifjaaaGreatDoorTmBld
import Derived.Shelf.Strconv.Itoa3
set_option linter.unusedVariables false
set_option linter.unusedSimpArgs false
set_option linter.unusedSectionVars false
namespace Go.Tm
open Go.Sort
section
variable {F : Fr} {g : Gh} {κ : Nat → Option Tok} {w : World} {H : List AB}
theorem putRow_heap (enc : UInt8 → Value) (w : World) (blk off : Nat) (d : Array UInt8) {rcs : Array Value} {e : TypeId} {fz : Nat × Nat} (h : w.heap[blk]? = some (.cells rcs e fz)) : (putRow enc w blk off d).heap[blk]? = some (.cells (putCells enc off d rcs) e fz) := by
 simp only [putRow, mapBlock, Array.getElem?_modify, if_true, h, Option.map_some, onCells]
theorem putRow_same (enc : UInt8 → Value) (w : World) (blk off : Nat) (d : Array UInt8) : SameBut w (putRow enc w blk off d) blk :=
 ⟨rfl, rfl, rfl, Go.Sort.size_putRow _ _ _ _ _, fun b hb => by simp only [putRow, mapBlock, Array.getElem?_modify, if_neg (Ne.symm hb)], Nat.le_refl _⟩
theorem putAll_ln : ∀ (xs cs : List AV) (o : Nat), (putAll cs o xs).length = cs.length
 | [], _, _ => rfl
 | x :: r, cs, o => by rw [putAll, putAll_ln r, setAt_eq, List.length_set]
theorem putAll_get : ∀ (xs cs : List AV) (o k : Nat), o + xs.length ≤ cs.length → (putAll cs o xs)[k]? = if o ≤ k ∧ k < o + xs.length then xs[k - o]? else cs[k]?
 | [], cs, o, k, _ => by simp only [putAll, List.length_nil]; rw [if_neg (by omega)]
 | x :: r, cs, o, k, h => by
  simp only [List.length_cons] at h
  rw [putAll, putAll_get r (setAt cs o x) (o + 1) k (by rw [setAt_eq, List.length_set]; omega), setAt_eq]
  by_cases h1 : k = o
  ·subst h1
   rw [if_neg (by omega), if_pos ⟨Nat.le_refl _, by simp⟩, List.getElem?_set_self (by omega)]
   simp
  ·rw [List.getElem?_set_ne (Ne.symm h1)]
   by_cases h2 : o + 1 ≤ k ∧ k < o + 1 + r.length
   ·rw [if_pos h2, if_pos ⟨by omega, by simp; omega⟩, show k - o = (k - (o + 1)) + 1 by omega, List.getElem?_cons_succ]
   ·rw [if_neg h2, if_neg (by simp; omega)]
theorem allOne_putAll {xs cs : List AV} {o : Nat} (hle : o + xs.length ≤ cs.length) (h1 : allOne cs = true) (h2 : allOne xs = true) : allOne (putAll cs o xs) = true := by
 unfold allOne at *
 rw [List.all_eq_true] at *
 intro x hx
 obtain ⟨k, hk⟩ := List.mem_iff_getElem?.1 hx
 rw [putAll_get _ _ _ _ hle] at hk
 split at hk
 ·exact h2 x (List.mem_of_getElem? hk)
 ·exact h1 x (List.mem_of_getElem? hk)
theorem allOne_u8 (ys : List UInt8) : allOne (ys.map u8v) = true := by
 unfold allOne
 rw [List.all_eq_true]
 intro x hx
 obtain ⟨z, _, rfl⟩ := List.mem_map.1 hx
 rfl
theorem SW.rowedB (h : SW F g κ H w) {b rb off : Nat} {tt : TypeId × Bool} {cs : List AV} (hb : H[b]? = some (.cells tt cs)) (hr : g.ρ b = some rb) (ys : List UInt8) (hle : off + ys.length ≤ cs.length) :
  SW F g κ (setAt H b (.cells tt (putAll cs off (ys.map u8v)))) (putRow (fun (b : UInt8) => Value.int .u8 (b.toNat : Int)) w rb off ys.toArray) := by
 have h1 := h
 obtain ⟨rb', o, q1, q2, q3, q4, q5, q6⟩ := h1.blk b _ hb rfl
 rw [hr] at q1; cases q1
 cases o with
 | cells rcs e fz =>
  obtain ⟨p1, p2, p3, p4, p5, p6⟩ := q3
  refine (h1.change (A' := .cells tt (putAll cs off (ys.map u8v))) hb rfl hr (putRow_same _ _ rb off ys.toArray) fun _ => ⟨_, putRow_heap _ _ rb off ys.toArray q2, ⟨p1, ?_, ?_, ?_, p5, ?_⟩, ?_⟩)
  ·rw [putAll_ln]; simpa [putCells] using p2
  ·intro i x r hx hr'
   rw [putAll_get _ _ _ _ (by simpa using hle)] at hx
   simp only [putCells, Array.toList_mapIdx, List.getElem?_mapIdx] at hr'
   cases hq : rcs.toList[i]? with
   | none => rw [hq] at hr'; cases hr'
   | some v =>
    rw [hq] at hr'
    simp only [Option.map_some, Option.some.injEq] at hr'
    by_cases hin : off ≤ i ∧ i < off + ys.length
    ·rw [if_pos (by simpa using hin)] at hr'
     rw [if_pos (by simpa using hin), List.getElem?_map] at hx
     have hlt : i - off < ys.length := by omega
     rw [List.getElem?_eq_getElem hlt] at hx
     cases hx
     subst hr'
     rw [getElem!_pos _ _ (by simpa using hlt)]
     exact .v rfl
    ·rw [if_neg (by simpa using hin)] at hr'
     rw [if_neg (by simpa using hin)] at hx
     subst hr'
     exact p3 i x v hx hq
  ·exact allOne_putAll (by simpa using hle) p4 (allOne_u8 ys)
  ·intro q; rw [putAll_ln]; simpa [putCells] using p6 q
  ·intro rcs' e' fz' q
   cases q
   simpa [putCells] using q6 rcs e fz rfl
 | _ => simp [BRo] at q3
theorem SW.holdsB (h : SW F g κ H w) {b rb off : Nat} {tt : TypeId × Bool} {cs : List AV} (hb : H[b]? = some (.cells tt cs)) (hr : g.ρ b = some rb) (xs : List UInt8) (hle : off + xs.length ≤ cs.length) (hc : ∀ (j : Nat) (h : j < xs.length), cs[off + j]? = some (u8v xs[j])) :
  Holds (fun (b : UInt8) => Value.int .u8 (b.toNat : Int)) w rb off xs.toArray ∧ rb < w.heap.size := by
 obtain ⟨rb', o, q1, q2, q3, q4, q5, q6⟩ := h.blk b _ hb rfl
 rw [hr] at q1; cases q1
 cases o with
 | cells rcs e fz =>
  obtain ⟨p1, p2, p3, p4, p5, p6⟩ := q3
  subst p1
  refine ⟨fun j hj => ?_, lt_of_some q2⟩
  have hj' : j < xs.length := by simpa using hj
  have hlt : off + j < rcs.toList.length := by simp; omega
  have hget := List.getElem?_eq_getElem hlt
  have := p3 (off + j) _ _ (hc j hj') hget
  generalize rcs.toList[off + j] = r at *
  have hr : r = .int .u8 (xs[j].toNat : Int) := by
   cases this; rfl
  subst hr
  refine ⟨?_, ?_⟩
  ·simp only [World.cell?, q2]
   rw [Array.getElem?_toList] at hget
   rw [getElem!_pos _ _ (by simpa using hj')]; simp [hget]
  ·simp only [World.frozen?, q2]
   simp
 | _ => simp [BRo] at q3
end
end Go.Tm
