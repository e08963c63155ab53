/- The tree machine: code; ranges over functions that are told. -/
import Derived.Test.YtaefgigfoifjaaaGreatDoorTmQb
import Derived.TacticsIn
import Derived.OrdersIn
import Derived.LoopNIn
import Derived.RangeFuncSeq
import Derived.Below
set_option linter.unusedVariables false
set_option linter.unusedSimpArgs false
set_option linter.unusedSectionVars false
namespace Go.Tm
open Go.RowKit

def ax : AX → Exit
 | .normal => .normal
 | .exit i => .exit i
 | .ret => .ret

def wd (r : Option Nat) : Fence := { Fence.wide with round := r }
theorem wd_none : wd none = Fence.wide := rfl

section
variable {P : Program} {ops : Array Oper} {Q : Exit → Act → World → Prop} {r : Option Nat}

theorem oper_conv {o : Oper} (hd : r = none ∨ ∀ c, o.op ≠ .defer c) {a : Act} {w : World} {M M' : Act → World → Prop} (hm : ∀ a w, M a w → M' a w) (h : o.wp P a w M Q) : o.wpIn (wd r) 0 P a w M' Q := by
 refine ⟨fun _ _ => trivial, ?_⟩
 have e : o.semAt (wd r).round a.eval = execOp a.eval o := by
  rcases hd with rfl | hd
  ·rfl
  ·exact Oper.semAt_eq _ _ _ hd
 rw [e]
 unfold Oper.wp at h
 generalize (execOp a.eval o).run P w = x at h
 cases x with
 | ok x w' =>
  cases x <;> simp only [Oper.upon] at h <;> simp only [Oper.uponIn] <;> first
   | exact hm _ _ h
   | exact ⟨fun q => absurd q (by simp [wd, Fence.wide]), callsIn_wide.2 (Calls.mono h (fun e w'' q => by cases e <;> first | exact hm _ _ q | exact q))⟩
   | exact ⟨fun q => absurd q (by simp [wd, Fence.wide]), fun c cs _ => let ⟨v, w', r, s⟩ := h c cs; ⟨v, w', hm _ _ r, stepsIn_wide.2 s⟩⟩
 | halt x w' => cases x <;> simp only [Oper.upon] at h <;> simp only [Oper.uponIn] <;> exact h

theorem wpOps_conv (hd : r = none ∨ ∀ (i : Nat) (o : Oper), ops[i]? = some o → ∀ c, o.op ≠ .defer c) (hQ : ∀ a w, ¬ Q .outgrown a w) : ∀ (l : List Nat) (a : Act) (w : World), wpOps P ops Q l a w → wpOpsIn (wd r) 0 P ops Q l a w
 | [], a, w, h => h
 | i :: l, a, w, h => by
  rw [wpOps_cons] at h
  rw [wpOpsIn_cons]
  unfold wpOp at h
  unfold wpOpIn
  cases ho : ops[i]? with
  | none => rw [ho] at h; exact wpOps_conv hd hQ l a w h
  | some o =>
   rw [ho] at h
   simp only at h ⊢
   split
   ·rename_i hw
    rw [if_pos hw] at h
    rcases h with h | ⟨_, a', w', h⟩
    ·exact oper_conv (hd.imp id fun q => q i o ho) (fun a w q => wpOps_conv hd hQ l a w q) h
    ·exact absurd h (hQ a' w')
   ·rename_i hw
    rw [if_neg hw] at h
    exact ⟨fun _ _ => trivial, wpOps_conv hd hQ l _ _ h⟩

theorem region_conv {id : Nat} (hd : r = none ∨ ∀ (i : Nat) (o : Oper), ops[i]? = some o → ∀ c, o.op ≠ .defer c) (hQ : ∀ a w, ¬ Q .outgrown a w) {a : Act} {w : World} (h : wpList P ops Q ops.toList a w) : (Code.region id ops false).wpIn (wd r) 0 P Q a w := by
 refine wpIn_region (wpOps_conv hd hQ _ _ _ ?_)
 rw [List.range_eq_range', ← Array.length_toList, wpOps_eq_wpList ops.toList 0 (by simp)]
 exact h

theorem drawn_conv {id : Nat} (hd : r = none ∨ ∀ (i : Nat) (o : Oper), ops[i]? = some o → ∀ c, o.op ≠ .defer c) (hQ : ∀ a w, ¬ Q .outgrown a w) (hm : P.follows .mixedOrders = true) {a : Act} {w : World} (h : wpAny P .any ops Q ops.size (Array.replicate ops.size false) a { w with drawn := w.drawn + 1 }) : (Code.region id ops true).wpIn (wd r) 0 P Q a w := by
 refine wpIn_region_draw fun t => ?_
 simp only [Region.schedule, hm, Bool.true_or, if_true]
 exact wpOps_conv hd hQ _ _ _ (wpAny_sound ops.size t _ a _ h)
end

def SeqOk (K : Cfg) (gf : FuncId) (q : List AV → List AB → Option (List (List AV))) : Prop :=
 K.dr = false ∧ ∀ (cap : List AV) (H : List AB) (xss : List (List AV)), q cap H = some xss →
  (∀ (args : Array Value) (w : World), (callFunc gf args).run K.P w = .ok (.enter gf args) w) ∧
  ∀ (F : Fr) (g : Gh) (κ : Nat → Option Tok) (w : World) (rcap : List Value), Glob K g → SW F g κ H w → VRs g cap rcap →
  ∀ (l : Nat) (J : Nat → World → Prop) (Jx : World → Prop),
   (∀ i W, J i W → ∀ b o v, g.I b o = some v → W.cell? ⟨b, o, none⟩ = some v) →
   (∀ i W W', J i W → Below W.heap.size W W' → J i W') →
   (∀ i x W args, xss[i]? = some x → J i W → VRs g x args → YieldAt (wd none) 0 K.P l ⟨args⟩ W fun e W' => (e = .returned (.bool true) ∧ J (i + 1) W') ∨ (e = .returned (.bool false) ∧ Jx W')) →
   J 0 w → CallsIn (wd none) 0 K.P gf (#[.func (.yield l) #[] #[]] ++ ⟨rcap⟩) w fun e W' => (∃ v, e = .returned v) ∧ (J xss.length W' ∨ Jx W')

section
variable {F : Fr} {g : Gh} {κ : Nat → Option Tok} {H : List AB} {w : World}

def Other : Obj → Prop
 | .loop _ => True
 | .deferred _ => True
 | _ => False
theorem Other.not {A : AB} {o : Obj} (h : Other o) (k : BRo g A o) : False := by
 cases o <;> first | exact h | (cases A <;> exact k)
theorem SW.mkOther (h : SW F g κ H w) {o : Obj} : SW F g κ H (w.alloc o) := by
 refine ⟨fun b i v k => ?_, fun k b q => ?_, fun k A hk hl => ?_, h.inj, fun s t ht => ?_, h.tinj, h.kept.alloc o, h.old, h.le⟩
 ·rw [World.cell?_alloc_lt _ _ _ (h.imm_lt k)]; exact h.imm b i v k
 ·have := h.dom k b q; simp; omega
 ·obtain ⟨rb, o', h1, h2, h3⟩ := h.blk k A hk hl
  exact ⟨rb, o', h1, by rw [heap_alloc_lt (lt_of_some h2)]; exact h2, h3⟩
 ·obtain ⟨h1, ⟨rcs, e, h2, h3⟩, h4⟩ := h.tok s t ht
  exact ⟨h1, ⟨rcs, e, by rw [heap_alloc_lt (lt_of_some h2)]; exact h2, h3⟩, h4⟩
theorem SW.grow (h : SW F g κ H w) {w' : World} (hb : Below w.heap.size w w') (hd : F.g0.dr = true → w.drawn ≤ w'.drawn) : SW F g κ H w' := by
 have keep : ∀ {b : Nat} {o : Obj}, w.heap[b]? = some o → w'.heap[b]? = some o := fun hb' => by rw [hb.block _ (lt_of_some hb')]; exact hb'
 refine ⟨fun b i v k => ?_, fun k b q => ?_, fun k A hk hl => ?_, h.inj, fun s t ht => ?_, h.tinj, ?_, h.old, h.le⟩
 ·have hc := h.imm b i v k
  simp only [World.cell?, hb.block b (h.imm_lt k)] at hc ⊢
  exact hc
 ·have := h.dom k b q; have := hb.size; omega
 ·obtain ⟨rb, o', h1, h2, h3⟩ := h.blk k A hk hl
  exact ⟨rb, o', h1, keep h2, h3⟩
 ·obtain ⟨h1, ⟨rcs, e, h2, h3⟩, h4⟩ := h.tok s t ht
  exact ⟨h1, ⟨rcs, e, keep h2, h3⟩, h4⟩
 ·have k := h.kept
  exact ⟨hb.os.trans k.os, hb.tape.trans k.tape, hb.output.trans k.output, Nat.le_trans k.size hb.size, fun b hb' hL => (hb.block b (Nat.lt_of_lt_of_le hb' k.size)).trans (k.block b hb' hL), fun q => Nat.le_trans (k.drawn q) (hd q)⟩
theorem SW.putOther (h : SW F g κ H w) {l : Nat} {o o' : Obj} (hl : w.heap[l]? = some o) (ho : Other o) (hF : F.L l ∨ F.w0.heap.size ≤ l) : SW F g κ H (w.putObj l o') := by
 have cellNot : ∀ {i v}, w.cell? ⟨l, i, none⟩ = some v → False := fun {i v} k => by
  unfold World.cell? at k
  rw [hl] at k
  cases o <;> first | exact ho | simp at k
 have keep : ∀ {b : Nat}, b ≠ l → (w.putObj l o').heap[b]? = w.heap[b]? := fun hb => World.putObj_heap_other hb
 refine ⟨fun b i v k => ?_, fun k b q => ?_, fun k A hk hlv => ?_, h.inj, fun s t ht => ?_, h.tinj, ?_, h.old, h.le⟩
 ·have hne : b ≠ l := by rintro rfl; exact cellNot (h.imm b i v k)
  have := h.imm b i v k
  simp only [World.cell?, keep hne] at this ⊢
  exact this
 ·have := h.dom k b q; simpa using this
 ·obtain ⟨rb, o2, h1, h2, h3, h4⟩ := h.blk k A hk hlv
  have hne : rb ≠ l := by rintro rfl; rw [hl] at h2; cases h2; exact ho.not h3
  exact ⟨rb, o2, h1, by rw [keep hne]; exact h2, h3, h4⟩
 ·obtain ⟨h1, ⟨rcs, e, h2, h3⟩, h4⟩ := h.tok s t ht
  have hne : t.blk ≠ l := by intro q; rw [q, hl] at h2; cases h2; exact ho
  exact ⟨h1, ⟨rcs, e, by rw [keep hne]; exact h2, h3⟩, h4⟩
 ·have k := h.kept
  refine ⟨k.os, k.tape, k.output, by simpa using k.size, fun b hb hL => ?_, fun q => Nat.le_trans (k.drawn q) (Nat.le_refl _)⟩
  rw [keep (by rintro rfl; rcases hF with q | q; exact hL q; omega)]
  exact k.block b hb hL
theorem SW.otherKept (h0 : SW F g κ H w) {g' : Gh} {κ' : Nat → Option Tok} {H' : List AB} {w' : World} (h : SW ⟨w, Live g H, g⟩ g' κ' H' w') {l : Nat} {o : Obj} (hl : w.heap[l]? = some o) (ho : Other o) : w'.heap[l]? = some o := by
 rw [h.kept.block l (lt_of_some hl) ?_]
 ·exact hl
 ·rintro ⟨k, A, hk, hlv, hr⟩
  obtain ⟨rb, o2, h1, h2, h3, _⟩ := h0.blk k A hk hlv
  have h1' : g.ρ k = some rb := h1
  rw [hr] at h1'; cases h1'
  rw [hl] at h2; cases h2
  exact ho.not h3
theorem Ref.down (h0 : SW F g κ H w) : Ref F ⟨w, Live g H, g⟩ := by
 refine ⟨fun rb q => ?_, h0.kept, h0.old, h0.le⟩
 rcases q with ⟨k, A, hk, hlv, hr⟩ | q
 ·obtain ⟨rb', o2, h1, _, _, h4, _⟩ := h0.blk k A hk hlv
  rw [hr] at h1; cases h1
  exact h4
 ·right
  have := h0.kept.size
  have q' : w.heap.size ≤ rb := q
  omega
theorem Regs.unown {own : Nat → Nat} {regs : List AV} {tmps : Array Value} (h : Regs g κ own regs tmps) : Regs g noTok (fun _ => 0) (regs.map AV.unown) tmps := by
 refine ⟨by simpa using h.1, fun i x r q1 q2 => ?_⟩
 simp only [List.getElem?_map, Option.map_eq_some_iff] at q1
 obtain ⟨y, hy, rfl⟩ := q1
 exact RV.of_unown (h.2 i y r hy q2).1
theorem Regs.putAt : ∀ {ps : List Nat} {xs : List AV} {rs : List Value} {regs : List AV} {tmps : Array Value}, Regs g noTok (fun _ => 0) regs tmps → VRs g xs rs → Regs g noTok (fun _ => 0) (putAt regs ps xs) ((ps.zip rs).foldl (fun t p => t.setIfInBounds p.1 p.2) tmps)
 | [], xs, rs, regs, tmps, h, _ => by simpa [Tm.putAt] using h
 | p :: ps, [], rs, regs, tmps, h, hv => by
  have : rs = [] := List.length_eq_zero_iff.1 hv.1.symm
  subst this
  simpa [Tm.putAt] using h
 | p :: ps, x :: xs, rs, regs, tmps, h, hv => by
  obtain ⟨r, rs', rfl, h1, h2⟩ := hv.head
  simp only [Tm.putAt, List.zip_cons_cons, List.foldl_cons]
  exact Regs.putAt (h.set (RV.of_unown h1) p) h2
end
end Go.Tm
