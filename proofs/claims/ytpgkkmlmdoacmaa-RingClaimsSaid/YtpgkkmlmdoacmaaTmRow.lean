/- The tree machine: a row of ints that a library's function turns in place, told by its contract; a comparison that lays blocks and turns nothing. -/
import Derived.Test.YtpgkkmlmdoacmaaTmLib
import Derived.Test.YtpgkkmlmdoacmaaTmQd
import Derived.Shelf.SlSortCmp.Kit1
set_option linter.unusedVariables false
set_option linter.unusedSimpArgs false
set_option linter.unusedSectionVars false
namespace Go.Tm
open Go.Sort Go.Proofs
section
variable {F : Fr} {g : Gh} {κ : Nat → Option Tok} {w : World} {H : List AB}
theorem putRow_heap (enc : Int → Value) (w : World) (blk off : Nat) (d : Array Int) {rcs : Array Value} {e : TypeId} {fz : Nat × Nat} (h : w.heap[blk]? = some (.cells rcs e fz)) : (putRow enc w blk off d).heap[blk]? = some (.cells (putCells enc off d rcs) e fz) := by
 simp only [putRow, mapBlock, Array.getElem?_modify, if_true, h, Option.map_some, onCells]
theorem putRow_same (enc : Int → Value) (w : World) (blk off : Nat) (d : Array Int) : SameBut w (putRow enc w blk off d) blk :=
 ⟨rfl, rfl, rfl, Go.Sort.size_putRow _ _ _ _ _, fun b hb => by simp only [putRow, mapBlock, Array.getElem?_modify, if_neg (Ne.symm hb)], Nat.le_refl _⟩
theorem SW.ahead (h : SW F g κ H w) : ∀ n, SW F g κ H (Go.Sort.ahead w n)
 | 0 => h
 | n + 1 => by rw [← ahead_drew]; exact (SW.ahead h n).drew
theorem SW.grown (h : SW F g κ H w) (os : Array Obj) : SW F g κ H (Go.Sort.grow w os) := by
 have key : ∀ (l : List Obj) (w : World), SW F g κ H w → SW F g κ H (Go.Sort.grow w l.toArray) := by
  intro l
  induction l with
  | nil => intro w h; rw [show (([] : List Obj).toArray) = #[] from rfl, grow_empty]; exact h
  | cons o l ih =>
   intro w h
   have e : Go.Sort.grow w (o :: l).toArray = Go.Sort.grow (w.alloc o) l.toArray := by
    rw [alloc_eq_grow, grow_grow]
    congr 1
    apply Array.ext'
    simp
   rw [e]
   refine ih _ ?_
   refine ⟨fun b i v k => ?_, fun k b q => ?_, fun k A hk hl => ?_, h.inj, fun s t ht => ?_, h.tinj, h.kept.alloc o, h.old, h.le⟩
   ·rw [World.cell?_alloc_lt _ _ _ (h.imm_lt k)]; exact h.imm b i v k
   ·have := h.dom k b q; simp; omega
   ·obtain ⟨rb, o', h1, h2, h3⟩ := h.blk k A hk hl
    exact ⟨rb, o', h1, by rw [heap_alloc_lt (lt_of_some h2)]; exact h2, h3⟩
   ·obtain ⟨h1, ⟨rcs, e, h2, h3⟩, h4⟩ := h.tok s t ht
    exact ⟨h1, ⟨rcs, e, by rw [heap_alloc_lt (lt_of_some h2)]; exact h2, h3⟩, h4⟩
 exact key os.toList w h

theorem putAll_ln : ∀ (xs cs : List AV) (o : Nat), (putAll cs o xs).length = cs.length
 | [], _, _ => rfl
 | x :: r, cs, o => by rw [putAll, putAll_ln r, setAt_eq, List.length_set]
theorem putAll_get : ∀ (xs cs : List AV) (o k : Nat), o + xs.length ≤ cs.length → (putAll cs o xs)[k]? = if o ≤ k ∧ k < o + xs.length then xs[k - o]? else cs[k]?
 | [], cs, o, k, _ => by simp only [putAll, List.length_nil]; rw [if_neg (by omega)]
 | x :: r, cs, o, k, h => by
  simp only [List.length_cons] at h
  rw [putAll, putAll_get r (setAt cs o x) (o + 1) k (by rw [setAt_eq, List.length_set]; omega), setAt_eq]
  by_cases h1 : k = o
  ·subst h1
   rw [if_neg (by omega), if_pos ⟨Nat.le_refl _, by simp⟩, List.getElem?_set_self (by omega)]
   simp
  ·rw [List.getElem?_set_ne (Ne.symm h1)]
   by_cases h2 : o + 1 ≤ k ∧ k < o + 1 + r.length
   ·rw [if_pos h2, if_pos ⟨by omega, by simp; omega⟩, show k - o = (k - (o + 1)) + 1 by omega, List.getElem?_cons_succ]
   ·rw [if_neg h2, if_neg (by simp; omega)]
theorem allOne_putAll {xs cs : List AV} {o : Nat} (hle : o + xs.length ≤ cs.length) (h1 : allOne cs = true) (h2 : allOne xs = true) : allOne (putAll cs o xs) = true := by
 unfold allOne at *
 rw [List.all_eq_true] at *
 intro x hx
 obtain ⟨k, hk⟩ := List.mem_iff_getElem?.1 hx
 rw [putAll_get _ _ _ _ hle] at hk
 split at hk
 ·exact h2 x (List.mem_of_getElem? hk)
 ·exact h1 x (List.mem_of_getElem? hk)
theorem allOne_i64 (ys : List Int) : allOne (ys.map i64) = true := by
 unfold allOne
 rw [List.all_eq_true]
 intro x hx
 obtain ⟨z, _, rfl⟩ := List.mem_map.1 hx
 rfl
theorem SW.rowed (h : SW F g κ H w) {b rb off : Nat} {tt : TypeId × Bool} {cs : List AV} (hb : H[b]? = some (.cells tt cs)) (hr : g.ρ b = some rb) (ys : List Int) (hle : off + ys.length ≤ cs.length) (n : Nat) (os : Array Obj) :
  SW F g κ (setAt H b (.cells tt (putAll cs off (ys.map i64)))) (Go.Sort.grow (putRow (Value.int .i64) (Go.Sort.ahead w n) rb off ys.toArray) os) := by
 have h1 := h.ahead n
 obtain ⟨rb', o, q1, q2, q3, q4, q5, q6⟩ := h1.blk b _ hb rfl
 rw [hr] at q1; cases q1
 cases o with
 | cells rcs e fz =>
  obtain ⟨p1, p2, p3, p4, p5, p6⟩ := q3
  refine SW.grown (h1.change (A' := .cells tt (putAll cs off (ys.map i64))) hb rfl hr (putRow_same _ _ rb off ys.toArray) fun _ => ⟨_, putRow_heap _ _ rb off ys.toArray q2, ⟨p1, ?_, ?_, ?_, p5, ?_⟩, ?_⟩) os
  ·rw [putAll_ln]; simpa [putCells] using p2
  ·intro i x r hx hr'
   rw [putAll_get _ _ _ _ (by simpa using hle)] at hx
   simp only [putCells, Array.toList_mapIdx, List.getElem?_mapIdx] at hr'
   cases hq : rcs.toList[i]? with
   | none => rw [hq] at hr'; cases hr'
   | some v =>
    rw [hq] at hr'
    simp only [Option.map_some, Option.some.injEq] at hr'
    by_cases hin : off ≤ i ∧ i < off + ys.length
    ·rw [if_pos (by simpa using hin)] at hr'
     rw [if_pos (by simpa using hin), List.getElem?_map] at hx
     have hlt : i - off < ys.length := by omega
     rw [List.getElem?_eq_getElem hlt] at hx
     cases hx
     subst hr'
     rw [getElem!_pos _ _ (by simpa using hlt)]
     exact .v rfl
    ·rw [if_neg (by simpa using hin)] at hr'
     rw [if_neg (by simpa using hin)] at hx
     subst hr'
     exact p3 i x v hx hq
  ·exact allOne_putAll (by simpa using hle) p4 (allOne_i64 ys)
  ·intro q; rw [putAll_ln]; simpa [putCells] using p6 q
  ·intro rcs' e' fz' q
   cases q
   simpa [putCells] using q6 rcs e fz rfl
 | _ => simp [BRo] at q3
theorem SW.holds (h : SW F g κ H w) {b rb off : Nat} {tt : TypeId × Bool} {cs : List AV} (hb : H[b]? = some (.cells tt cs)) (hr : g.ρ b = some rb) (xs : List Int) (hle : off + xs.length ≤ cs.length) (hc : ∀ (j : Nat) (h : j < xs.length), cs[off + j]? = some (i64 xs[j])) :
  Holds (Value.int .i64) w rb off xs.toArray ∧ rb < w.heap.size := by
 obtain ⟨rb', o, q1, q2, q3, q4, q5, q6⟩ := h.blk b _ hb rfl
 rw [hr] at q1; cases q1
 cases o with
 | cells rcs e fz =>
  obtain ⟨p1, p2, p3, p4, p5, p6⟩ := q3
  subst p1
  refine ⟨fun j hj => ?_, lt_of_some q2⟩
  have hj' : j < xs.length := by simpa using hj
  have hlt : off + j < rcs.toList.length := by simp; omega
  have hget := List.getElem?_eq_getElem hlt
  have := p3 (off + j) _ _ (hc j hj') hget
  generalize rcs.toList[off + j] = r at *
  have hr : r = .int .i64 xs[j] := by
   cases this; rfl
  subst hr
  refine ⟨?_, ?_⟩
  ·simp only [World.cell?, q2]
   rw [Array.getElem?_toList] at hget
   rw [getElem!_pos _ _ (by simpa using hj')]; simp [hget]
  ·simp only [World.frozen?, q2]
   simp
 | _ => simp [BRo] at q3
theorem VR.dr {d : Bool} {x : AV} {r : Value} (k : VR g x r) : VR { g with dr := d } x r := by
 induction k with
 | v h => exact .v h
 | str => exact .str
 | agg hl _ ih => exact .agg hl ih
 | tup hl _ ih => exact .tup hl ih
 | nil => exact .nil
 | sl rs ht hs hc h1 hn hf hi _ ih => exact .sl rs ht hs hc h1 hn hf hi ih
 | ms hb hn => exact .ms hb hn
 | ptr hb => exact .ptr hb
 | rp rs hc h1 hi _ ih => exact .rp rs hc h1 hi ih
 | map hb => exact .map hb
 | iface _ ih => exact .iface ih
 | func l1 l2 _ _ i1 i2 => exact .func l1 l2 i1 i2
theorem VRs.dr {d : Bool} {cs : List AV} {rs : List Value} (k : VRs g cs rs) : VRs { g with dr := d } cs rs := ⟨k.1, fun i x r a b => (k.2 i x r a b).dr⟩
theorem BRo.dr {d : Bool} {A : AB} {o : Obj} (k : BRo g A o) : BRo { g with dr := d } A o := by
 cases A <;> cases o <;> simp only [BRo] at k ⊢ <;> try exact k
 ·exact ⟨k.1, k.2.1, fun i x r a b => (k.2.2.1 i x r a b).dr, k.2.2.2⟩
 ·exact ⟨k.1, k.2.1, k.2.2.1, fun i x r a b => (k.2.2.2.1 i x r a b).dr, k.2.2.2.2⟩
 ·exact ⟨k.1, k.2.1, fun i x y b e p q => ⟨((k.2.2 i x y b e p q).1).dr, ((k.2.2 i x y b e p q).2.1).dr, (k.2.2 i x y b e p q).2.2⟩⟩
theorem Glob.drw {K K' : Cfg} (hgl : K'.gl = K.gl) (hi : K'.ints = K.ints) (hd : K'.dr = true) (h : Glob K g) (d : Bool) : Glob K' { g with dr := d } :=
 ⟨fun i cs q => (h.gl i cs (by rw [← hgl]; exact q)).dr, fun i q => h.ints i (by rw [← hi]; exact q), fun _ => hd⟩
def onlyB (H : List AB) (b : Nat) : List AB := H.mapIdx fun i A => if i = b then A else .dead
theorem onlyB_get {H : List AB} {b k : Nat} {A : AB} (h : (onlyB H b)[k]? = some A) (hl : A.live = true) : k = b ∧ H[b]? = some A := by
 unfold onlyB at h
 rw [List.getElem?_mapIdx] at h
 cases hq : H[k]? with
 | none => rw [hq] at h; cases h
 | some B =>
  rw [hq] at h
  simp only [Option.map_some, Option.some.injEq] at h
  split at h
  ·rename_i e; subst e; subst h; exact ⟨rfl, hq⟩
  ·subst h; cases hl
theorem onlyB_at {H : List AB} {b : Nat} {A : AB} (h : H[b]? = some A) : (onlyB H b)[b]? = some A := by
 unfold onlyB
 rw [List.getElem?_mapIdx, h]
 simp
theorem SW.only (h : SW F g noTok H w) (b : Nat) (d : Bool) : SW ⟨w, Live { g with dr := d } (onlyB H b), { g with dr := d }⟩ { g with dr := d } noTok (onlyB H b) w := by
 refine ⟨h.imm, fun k c q => ⟨by have := (h.dom k c q).1; unfold onlyB; rw [List.length_mapIdx]; exact this, (h.dom k c q).2⟩, fun k A hk hl => ?_, fun k k' A A' rb hk hl hk' hl' _ _ => ?_, fun s t q => by simp [noTok] at q, fun s s' t t' q => by simp [noTok] at q, .refl _ w _, fun b i v _ _ q => q, .refl _⟩
 ·obtain ⟨rfl, hb⟩ := onlyB_get hk hl
  obtain ⟨rb, o, h1, h2, h3, h4, h5⟩ := h.blk k A hb hl
  exact ⟨rb, o, h1, h2, h3.dr, .inl ⟨k, A, hk, hl, h1⟩, h5⟩
 ·rw [(onlyB_get hk hl).1, (onlyB_get hk' hl').1]
theorem BRo.ints {t : TypeId} {l : List Int} {o : Obj} (h : BRo g (.cells (t, true) (l.map i64)) o) : o = .cells (l.map (Value.int .i64)).toArray t (0, 0) := by
 cases o with
 | cells rcs e fz =>
  obtain ⟨p1, p2, p3, p4, p5, p6⟩ := h
  have hsz := p6 rfl
  simp only [List.length_map] at hsz
  subst p1
  have : rcs = (l.map (Value.int .i64)).toArray := by
   apply Array.ext_getElem?
   intro k
   by_cases hk : k < rcs.size
   ·have hk' : k < l.length := by omega
    have := p3 k _ rcs[k] (by rw [List.getElem?_map, List.getElem?_eq_getElem hk']; rfl) (by rw [Array.getElem?_toList, Array.getElem?_eq_getElem hk])
    rw [Array.getElem?_eq_getElem hk]
    simp [List.getElem?_eq_getElem hk']
    generalize rcs[k] = r at *
    cases this; rfl
   ·rw [Array.getElem?_eq_none (by omega), Array.getElem?_eq_none (by simp; omega)]
  rw [this, p5]
 | _ => simp [BRo] at h
theorem cmp_lays {K Kd : Cfg} (hP : Kd.P = K.P) (hgl : Kd.gl = K.gl) (hi : Kd.ints = K.ints) (hd : Kd.dr = true) {f b b2 rb rb2 off : Nat} {tt : TypeId × Bool} {cs : List AV} {t2 : TypeId} {l : List Int} {cf : Int → Int → Int} {size : Nat}
  (hen : ∀ args w, (callFunc f args).run K.P w = .ok (.enter f args) w)
  (hc : ∀ H1 : List AB, H1[b2]? = some (.cells (t2, true) (l.map i64)) → ∀ x y, CallOk Kd f [i64 x, i64 y, .ptr b2 0] H1 (i64 (cf x y)) H1)
  (hg : Glob K g) (hs : SW F g noTok H w) (hb : H[b]? = some (.cells tt cs)) (hr : g.ρ b = some rb) (hle : off + size ≤ cs.length) (hb2 : H[b2]? = some (.cells (t2, true) (l.map i64))) (hr2 : g.ρ b2 = some rb2) (hne : b2 ≠ b) :
  CmpLays1 K.P f #[.pointer (some ⟨rb2, 0, none⟩)] (Value.int .i64) cf rb off size w := by
 intro m os dk hdk x y
 have hrow := hs.rowed hb hr dk.toList (by simpa [hdk] using hle) m os
 generalize hW : Go.Sort.grow (putRow (Value.int .i64) (Go.Sort.ahead w m) rb off dk.toList.toArray) os = W1 at hrow
 have hW' : sortWorld (Value.int .i64) w rb off m dk os = W1 := by rw [← hW]; simp [sortWorld]
 rw [hW']
 have hb2' : (setAt H b (.cells tt (putAll cs off (dk.toList.map i64))))[b2]? = some (.cells (t2, true) (l.map i64)) := by
  rw [setAt_eq, List.getElem?_set_ne (Ne.symm hne)]; exact hb2
 generalize setAt H b (.cells tt (putAll cs off (dk.toList.map i64))) = H2 at hrow hb2'
 have hon := hrow.only b2 true
 have hat := onlyB_at hb2'
 have hv : VRs { g with dr := true } [i64 x, i64 y, .ptr b2 0] [.int .i64 x, .int .i64 y, .pointer (some ⟨rb2, 0, none⟩)] := VRs.cons (.v rfl) (VRs.cons (.v rfl) (VRs.cons (.ptr hr2) VRs.nil))
 have hdo := hc (onlyB H2 b2) hat x y { g with dr := true } W1 _ (Glob.drw hgl hi hd hg true) hon hv
 rw [hP] at hdo
 rcases hdo with ⟨_, h2⟩ | ⟨v, w', h2, _⟩
 ·refine Calls.mono h2 fun e w' q => ?_
  cases e with
  | returned v =>
   obtain ⟨g', q1, q2⟩ := q
   have hv : v = .int .i64 (cf x y) := by cases q2; rfl
   subst hv
   refine ⟨rfl, w'.drawn - W1.drawn, w'.heap.extract W1.heap.size w'.heap.size, ?_⟩
   have k := q1.kept
   have hdr : W1.drawn ≤ w'.drawn := k.drawn rfl
   have hsz : W1.heap.size ≤ w'.heap.size := k.size
   have hheap : w'.heap = W1.heap ++ w'.heap.extract W1.heap.size w'.heap.size := by
    apply Array.ext_getElem?
    intro j
    by_cases hj : j < W1.heap.size
    ·rw [Array.getElem?_append, if_pos hj]
     by_cases e : j = rb2
     ·subst e
      obtain ⟨r1, o1, a1, a2, a3, _⟩ := hon.blk b2 _ hat rfl
      obtain ⟨r2, o2, b1, b2', b3, _⟩ := q1.blk b2 _ hat rfl
      rw [show ({ g with dr := true } : Gh).ρ b2 = some j from hr2] at a1
      cases a1
      rw [q1.le.blk b2 j hr2] at b1
      cases b1
      rw [a2, b2', a3.ints, b3.ints]
     ·refine k.block j hj ?_
      rintro ⟨k', A, hk, hl, hq⟩
      obtain ⟨rfl, _⟩ := onlyB_get hk hl
      rw [show ({ g with dr := true } : Gh).ρ k' = some rb2 from hr2] at hq
      cases hq
      exact e rfl
    ·rw [Array.getElem?_append, if_neg hj, Array.getElem?_extract]
     by_cases hj2 : j < w'.heap.size
     ·rw [if_pos (by omega)]; congr 1; omega
     ·rw [if_neg (by omega), Array.getElem?_eq_none (by omega)]
   have k1 := k.os; have k2 := k.tape; have k3 := k.output
   clear q1 q2 hon
   cases w' with
   | mk heap tape drawn os output =>
    cases W1 with
    | mk heap1 tape1 drawn1 os1 output1 =>
     simp only at k1 k2 k3 hheap hdr
     subst k1 k2 k3
     unfold Go.Sort.grow World.drewN
     simp only [World.mk.injEq]
     exact ⟨hheap, trivial, by omega, trivial, trivial⟩
  | panicked => exact q.elim
  | outgrown => exact q.elim
 ·rw [hen] at h2; cases h2
end
end Go.Tm
