/- TmS2, TmS3, TmS4, joined. -/
import Derived.Test.YtaefgigfoifjaaaGreatDoorTmS1
import Derived.WalkKit
set_option linter.unusedVariables false
set_option linter.unusedSimpArgs false
set_option linter.unusedSectionVars false
section
namespace Go.Tm

def AB.live : AB → Bool
 | .dead => false
 | _ => true

def BRo (g : Gh) : AB → Obj → Prop
 | .cells t cs, .cells rcs e fz => fz = (0, 0) ∧ cs.length ≤ rcs.size ∧ (∀ (i : Nat) (x : AV) (r : Value), cs[i]? = some x → rcs.toList[i]? = some r → VR g x r) ∧ allOne cs = true ∧ e = t.1 ∧ (t.2 = true → rcs.size = cs.length)
 | .rope t n r, .cells rcs e fz => (r.toL.length = n ∧ r.wf = true) ∧ (fz = (0, 0) ∧ r.toL.length ≤ rcs.size ∧ (∀ (i : Nat) (x : AV) (s : Value), r.toL[i]? = some x → rcs.toList[i]? = some s → VR g x s) ∧ allOne r.toL = true ∧ e = t.1 ∧ (t.2 = true → rcs.size = r.toL.length))
 | .map es clock, .map res rc => rc = clock ∧ es.length = res.size ∧ ∀ (i : Nat) (k x : AV) (b : Nat) (e : MapEntry), es[i]? = some (k, x, b) → res.toList[i]? = some e → VR g k e.key ∧ VR g x e.val ∧ e.born = b ∧ b < clock
 | .iter s pos, .stringIter rs rp => rs = ⟨⟨s⟩⟩ ∧ rp = pos
 | .iterM b since seen, .mapIter m rs rseen stepped => (match b with | none => m = none | some k => ∃ rb, m = some rb ∧ g.ρ k = some rb) ∧ rs = since ∧ rseen = ⟨seen⟩ ∧ stepped = since
 | _, _ => False

theorem BRo.mono {g h : Gh} (hle : Gh.Le g h) {A : AB} {o : Obj} (k : BRo g A o) : BRo h A o := by
 cases A <;> cases o <;> simp only [BRo] at k ⊢ <;> try exact k
 ·exact ⟨k.1, k.2.1, fun i x r a b => (k.2.2.1 i x r a b).mono hle, k.2.2.2⟩
 ·exact ⟨k.1, k.2.1, k.2.2.1, fun i x r a b => (k.2.2.2.1 i x r a b).mono hle, k.2.2.2.2⟩
 ·exact ⟨k.1, k.2.1, fun i x y b e p q => ⟨((k.2.2 i x y b e p q).1).mono hle, ((k.2.2 i x y b e p q).2.1).mono hle, (k.2.2 i x y b e p q).2.2⟩⟩
 ·rename_i b _ _ _ _ _ _
  refine ⟨?_, k.2⟩
  cases b with
  | none => exact k.1
  | some q => obtain ⟨rb, h1, h2⟩ := k.1; exact ⟨rb, h1, hle.blk _ _ h2⟩

structure Kept (dr : Bool) (w0 : World) (L : Nat → Prop) (w : World) : Prop where
 os : w.os = w0.os
 tape : w.tape = w0.tape
 output : w.output = w0.output
 size : w0.heap.size ≤ w.heap.size
 block : ∀ b, b < w0.heap.size → ¬ L b → w.heap[b]? = w0.heap[b]?
 drawn : dr = true → w0.drawn ≤ w.drawn

theorem Kept.refl (d : Bool) (w : World) (L : Nat → Prop) : Kept d w L w := ⟨rfl, rfl, rfl, Nat.le_refl _, fun _ _ _ => rfl, fun _ => Nat.le_refl _⟩

structure Tok where
 blk : Nat
 n : Nat
 sz : Nat
 cap : Nat

structure Fr where
 w0 : World
 L : Nat → Prop
 g0 : Gh

structure SW (F : Fr) (g : Gh) (κ : Nat → Option Tok) (H : List AB) (w : World) : Prop where
 imm : ∀ b o v, g.I b o = some v → w.cell? ⟨b, o, none⟩ = some v
 dom : ∀ k b, g.ρ k = some b → k < H.length ∧ b < w.heap.size
 blk : ∀ k A, H[k]? = some A → A.live = true → ∃ rb o, g.ρ k = some rb ∧ w.heap[rb]? = some o ∧ BRo g A o ∧ (F.L rb ∨ F.w0.heap.size ≤ rb) ∧ (∀ i, g.I rb i = none) ∧ ∀ rcs e fz, o = .cells rcs e fz → rcs.size = g.N rb
 inj : ∀ k k' A A' rb, H[k]? = some A → A.live = true → H[k']? = some A' → A'.live = true → g.ρ k = some rb → g.ρ k' = some rb → k = k'
 tok : ∀ s t, κ s = some t → F.w0.heap.size ≤ t.blk ∧ (∃ rcs e, w.heap[t.blk]? = some (.cells rcs e (0, 0)) ∧ t.cap * t.sz ≤ rcs.size) ∧ t.n ≤ t.cap ∧ (∀ i, t.n * t.sz ≤ i → g.I t.blk i = none) ∧
  ∀ k A, H[k]? = some A → A.live = true → g.ρ k ≠ some t.blk
 tinj : ∀ s s' t t', κ s = some t → κ s' = some t' → t.blk = t'.blk → s = s'
 kept : Kept F.g0.dr F.w0 F.L w
 old : ∀ b i v, b < F.w0.heap.size → ¬ F.L b → g.I b i = some v → F.g0.I b i = some v
 le : Gh.Le F.g0 g

def RV (g : Gh) (κ : Nat → Option Tok) (own : Nat → Nat) (x : AV) (r : Value) : Prop :=
 VR g x r ∧ ∀ xs s e z, x = .sl xs (.own s e z) → e ≤ own s ∧ (e = own s → e ≠ 0 → ∃ t, κ s = some t ∧ t.n = xs.length ∧ r = .slice (some ⟨t.blk, 0, none⟩) t.n t.cap ∧ t.sz = z)

def Regs (g : Gh) (κ : Nat → Option Tok) (own : Nat → Nat) (regs : List AV) (tmps : Array Value) : Prop :=
 regs.length = tmps.size ∧ ∀ (i : Nat) (x : AV) (r : Value), regs[i]? = some x → tmps[i]? = some r → RV g κ own x r

theorem RV.mono {g h : Gh} (hle : Gh.Le g h) {κ : Nat → Option Tok} {own : Nat → Nat} {x : AV} {r : Value} (k : RV g κ own x r) : RV h κ own x r := ⟨k.1.mono hle, k.2⟩
theorem Regs.mono {g h : Gh} (hle : Gh.Le g h) {κ : Nat → Option Tok} {own : Nat → Nat} {regs : List AV} {tmps : Array Value} (k : Regs g κ own regs tmps) : Regs h κ own regs tmps :=
 ⟨k.1, fun i x r a b => (k.2 i x r a b).mono hle⟩

theorem unown_ne {x : AV} {xs : List AV} {s e z : Nat} : x.unown ≠ .sl xs (.own s e z) := by
 cases x with
 | sl ys tl => cases tl <;> simp [AV.unown]
 | _ => simp [AV.unown]

theorem RV.of_unown {g : Gh} {κ : Nat → Option Tok} {own : Nat → Nat} {x : AV} {r : Value} (h : VR g x r) : RV g κ own x.unown r :=
 ⟨h.unown, fun _ _ _ _ e => absurd e unown_ne⟩

theorem RV.of_other {g : Gh} {κ : Nat → Option Tok} {own : Nat → Nat} {x : AV} {r : Value} (h : VR g x r) (hx : ∀ xs s e z, x ≠ .sl xs (.own s e z)) : RV g κ own x r :=
 ⟨h, fun xs s e z k => absurd k (hx xs s e z)⟩

theorem Regs.set {g : Gh} {κ : Nat → Option Tok} {own : Nat → Nat} {regs : List AV} {tmps : Array Value} (k : Regs g κ own regs tmps) {x : AV} {r : Value} (h : RV g κ own x r) (d : Nat) :
  Regs g κ own (setAt regs d x) (tmps.setIfInBounds d r) := by
 rw [setAt_eq]
 refine ⟨by simp [k.1], fun j y s a b => ?_⟩
 rw [List.getElem?_set] at a
 rw [Array.getElem?_setIfInBounds] at b
 by_cases hij : d = j
 ·subst hij
  simp only [if_true] at a b
  split at a <;> simp at a
  split at b <;> simp at b
  subst a; subst b; exact h
 ·simp only [hij, if_false] at a b
  exact k.2 j y s a b

theorem Regs.put {g : Gh} {κ : Nat → Option Tok} {own : Nat → Nat} {regs : List AV} {a : Act} (k : Regs g κ own regs a.tmps) {x : AV} {r : Value} (h : RV g κ own x r) (dst : Option Tmp) :
  Regs g κ own (putReg regs dst x) (a.put dst r).tmps := by
 cases dst with
 | none => exact k
 | some d => exact k.set h d

/-! ### new blocks -/

def Gh.addBlk (g : Gh) (k b n : Nat) : Gh := { g with ρ := fun i => if i = k then some b else g.ρ i, N := fun i => if i = b then n else g.N i }
def objLen : Obj → Nat
 | .cells rcs _ _ => rcs.size
 | _ => 0
def Gh.addImm (g : Gh) (b : Nat) (rs : List Value) : Gh := { g with I := fun c i => if c = b then rs[i]? else g.I c i }

section
variable {F : Fr} {g : Gh} {κ : Nat → Option Tok} {H : List AB} {w : World}

theorem SW.imm_lt (h : SW F g κ H w) {b i : Nat} {v : Value} (k : g.I b i = some v) : b < w.heap.size := World.block_lt_of_cell? w ⟨b, i, none⟩ (h.imm b i v k)

theorem SW.I_new (h : SW F g κ H w) (i : Nat) : g.I w.heap.size i = none := by
 cases hI : g.I w.heap.size i with
 | none => rfl
 | some v => exact absurd (h.imm_lt hI) (Nat.lt_irrefl _)

theorem SW.le_addBlk (h : SW F g κ H w) (b n : Nat) (hn : ∀ k, g.ρ k = some b → g.N b = n) : Gh.Le g (g.addBlk H.length b n) :=
 ⟨fun _ _ _ k => k, fun k c q => by
  have := (h.dom k c q).1
  simp only [Gh.addBlk]
  rw [if_neg (by omega)]
  exact q, fun k c q => by
  simp only [Gh.addBlk]
  split
  ·rename_i e; subst e; exact (hn k q).symm
  ·rfl, rfl⟩

theorem SW.le_addImm (h : SW F g κ H w) (rs : List Value) : Gh.Le g (g.addImm w.heap.size rs) :=
 ⟨fun b i v k => by
  have := h.imm_lt k
  simp only [Gh.addImm]
  rw [if_neg (by omega)]
  exact k, fun _ _ k => k, fun _ _ _ => rfl, rfl⟩

theorem heap_alloc_lt {w : World} {o : Obj} {b : Nat} (h : b < w.heap.size) : (w.alloc o).heap[b]? = w.heap[b]? := by
 show (w.heap.push o)[b]? = _
 rw [Array.getElem?_push, if_neg (by omega)]
theorem heap_alloc_new {w : World} {o : Obj} : (w.alloc o).heap[w.heap.size]? = some o := by
 show (w.heap.push o)[w.heap.size]? = _
 rw [Array.getElem?_push, if_pos rfl]

theorem lt_of_some {w : World} {b : Nat} {o : Obj} (h : w.heap[b]? = some o) : b < w.heap.size := by
 rcases Nat.lt_or_ge b w.heap.size with h' | h'
 ·exact h'
 ·simp [Array.getElem?_eq_none h'] at h

theorem Kept.alloc {d : Bool} {w0 : World} {L : Nat → Prop} {w : World} (h : Kept d w0 L w) (o : Obj) : Kept d w0 L (w.alloc o) :=
 ⟨h.os, h.tape, h.output, by simp; have := h.size; omega, fun b hb hl => by rw [heap_alloc_lt (by have := h.size; omega)]; exact h.block b hb hl, h.drawn⟩

theorem Kept.drew {d : Bool} {w0 : World} {L : Nat → Prop} {w : World} (h : Kept d w0 L w) : Kept d w0 L w.drew := ⟨h.os, h.tape, h.output, h.size, h.block, fun q => Nat.le_succ_of_le (h.drawn q)⟩

theorem SW.drew (h : SW F g κ H w) : SW F g κ H w.drew :=
 ⟨h.imm, h.dom, h.blk, h.inj, h.tok, h.tinj, h.kept.drew, h.old, h.le⟩

theorem SW.le_new (h : SW F g κ H w) (n : Nat) : Gh.Le g (g.addBlk H.length w.heap.size n) :=
 h.le_addBlk _ n fun k q => absurd (h.dom k _ q).2 (Nat.lt_irrefl _)

theorem get_app {A B : AB} {k : Nat} (hk : (H ++ [A])[k]? = some B) : (k < H.length ∧ H[k]? = some B) ∨ (k = H.length ∧ B = A) := by
 rw [List.getElem?_append] at hk
 split at hk
 ·exact .inl ⟨‹_›, hk⟩
 ·right
  have : k - H.length = 0 := by
   rcases Nat.eq_zero_or_pos (k - H.length) with h0 | h0
   ·exact h0
   ·rw [List.getElem?_eq_none (by simp; omega)] at hk; simp at hk
  rw [this] at hk; simp at hk
  exact ⟨by omega, hk.symm⟩

theorem SW.alloc (h : SW F g κ H w) (A : AB) (o : Obj) (hb : BRo (g.addBlk H.length w.heap.size (objLen o)) A o) :
  SW F (g.addBlk H.length w.heap.size (objLen o)) κ (H ++ [A]) (w.alloc o) := by
 have hle := h.le_new (objLen o)
 have hρ : ∀ k b, k < H.length → ((g.addBlk H.length w.heap.size (objLen o)).ρ k = some b ↔ g.ρ k = some b) := fun k b hk => by
  simp only [Gh.addBlk]; rw [if_neg (by omega)]
 have hlt : ∀ k A rb, H[k]? = some A → A.live = true → g.ρ k = some rb → rb < w.heap.size := fun k A rb hk hl hr => (h.dom k rb hr).2
 have hget : ∀ k B, (H ++ [A])[k]? = some B → (k < H.length ∧ H[k]? = some B) ∨ (k = H.length ∧ B = A) := fun k B hk => get_app hk
 refine ⟨?_, ?_, ?_, ?_, ?_, h.tinj, h.kept.alloc o, h.old, h.le.trans hle⟩
 ·intro b i v k
  have k' : g.I b i = some v := k
  rw [World.cell?_alloc_lt _ _ _ (h.imm_lt k')]
  exact h.imm b i v k'
 ·intro k b hk
  simp only [List.length_append, List.length_singleton, World.size_alloc]
  by_cases e : k = H.length
  ·simp only [Gh.addBlk, if_pos e, Option.some.injEq] at hk; omega
  ·simp only [Gh.addBlk, if_neg e] at hk
   have := h.dom k b hk; omega
 ·intro k B hk hl
  rcases hget k B hk with ⟨hlt', hk'⟩ | ⟨rfl, rfl⟩
  ·obtain ⟨rb, o', h1, h2, h3, h4, h5, h6⟩ := h.blk k B hk' hl
   refine ⟨rb, o', (hρ k rb hlt').2 h1, by rw [heap_alloc_lt (lt_of_some h2)]; exact h2, h3.mono hle, h4, h5, fun rcs e fz q => ?_⟩
   have := lt_of_some h2
   simp only [Gh.addBlk]
   rw [if_neg (by omega)]
   exact h6 rcs e fz q
  ·refine ⟨w.heap.size, o, by simp [Gh.addBlk], heap_alloc_new, hb, .inr h.kept.size, fun i => h.I_new i, fun rcs e fz q => ?_⟩
   subst q
   simp [Gh.addBlk, objLen]
 ·intro k k' B B' rb hk hl hk' hl' hr hr'
  rcases hget k B hk with ⟨h1, h2⟩ | ⟨rfl, rfl⟩ <;> rcases hget k' B' hk' with ⟨h3, h4⟩ | ⟨h3, h4⟩
  ·exact h.inj k k' B B' rb h2 hl h4 hl' ((hρ k rb h1).1 hr) ((hρ k' rb h3).1 hr')
  ·exfalso
   have e1 := hlt k B rb h2 hl ((hρ k rb h1).1 hr)
   rw [h3] at hr'; simp [Gh.addBlk] at hr'; omega
  ·exfalso
   have e1 := hlt k' B' rb h4 hl' ((hρ k' rb h3).1 hr')
   simp [Gh.addBlk] at hr; omega
  ·exact h3.symm
 ·intro s t ht
  obtain ⟨h1, ⟨rcs, e, h2, h3⟩, hn, h4, h5⟩ := h.tok s t ht
  refine ⟨h1, ⟨rcs, e, by rw [heap_alloc_lt (lt_of_some h2)]; exact h2, h3⟩, hn, h4, fun k B hk hl => ?_⟩
  rcases hget k B hk with ⟨h6, h7⟩ | ⟨rfl, rfl⟩
  ·exact fun q => h5 k B h7 hl ((hρ k _ h6).1 q)
  ·intro q
   simp [Gh.addBlk] at q
   have := lt_of_some h2
   omega

theorem SW.allocImm (h : SW F g κ H w) (rcs : Array Value) (e : TypeId) (rs : List Value) (hrs : ∀ (i : Nat) (v : Value), rs[i]? = some v → rcs.toList[i]? = some v)
  (κ' : Nat → Option Tok) (hκ : ∀ s t, κ' s = some t → κ s = some t ∨ (t.blk = w.heap.size ∧ t.cap * t.sz ≤ rcs.size ∧ t.n ≤ t.cap ∧ rs.length ≤ t.n * t.sz))
  (hκ' : ∀ s s' t t', κ' s = some t → κ' s' = some t' → t.blk = w.heap.size → t'.blk = w.heap.size → s = s') :
  SW F (g.addImm w.heap.size rs) κ' H (w.alloc (.cells rcs e)) := by
 have hle := h.le_addImm rs
 have hne : ∀ b i, b ≠ w.heap.size → (g.addImm w.heap.size rs).I b i = g.I b i := fun b i hb => by simp [Gh.addImm, hb]
 refine ⟨?_, fun k b q => by have := h.dom k b q; simp; omega, ?_, h.inj, ?_, ?_, h.kept.alloc _, ?_, h.le.trans hle⟩
 ·intro b i v k
  by_cases hb : b = w.heap.size
  ·subst hb
   simp [Gh.addImm] at k
   rw [World.cell?_alloc_new]
   have := hrs i v k
   simpa using this
  ·rw [hne b i hb] at k
   rw [World.cell?_alloc_lt _ _ _ (h.imm_lt k)]
   exact h.imm b i v k
 ·intro k A hk hl
  obtain ⟨rb, o', h1, h2, h3, h4, h5, h6⟩ := h.blk k A hk hl
  have := lt_of_some h2
  exact ⟨rb, o', h1, by rw [heap_alloc_lt this]; exact h2, h3.mono hle, h4, fun i => by rw [hne rb i (by omega)]; exact h5 i, h6⟩
 ·intro s t ht
  rcases hκ s t ht with hs | ⟨hb, hc, hn, hl⟩
  ·obtain ⟨h1, ⟨rcs', e', h2, h3⟩, hn, h4, h5⟩ := h.tok s t hs
   have := lt_of_some h2
   exact ⟨h1, ⟨rcs', e', by rw [heap_alloc_lt this]; exact h2, h3⟩, hn, fun i hi => by rw [hne _ i (by omega)]; exact h4 i hi, h5⟩
  ·refine ⟨by rw [hb]; exact h.kept.size, ⟨rcs, e, by rw [hb]; exact heap_alloc_new, hc⟩, hn, fun i hi => ?_, fun k A hk hlv q => ?_⟩
   ·rw [hb]; simp [Gh.addImm]; omega
   ·obtain ⟨rb, o', h1, h2, _⟩ := h.blk k A hk hlv
    have q' : g.ρ k = some t.blk := q
    rw [q'] at h1; cases h1
    have := lt_of_some h2; omega
 ·intro s s' t t' ht ht' e
  rcases hκ s t ht with hs | ⟨hb, _⟩ <;> rcases hκ s' t' ht' with hs' | ⟨hb', _⟩
  ·exact h.tinj s s' t t' hs hs' e
  ·obtain ⟨_, ⟨_, _, h2, _⟩, _⟩ := h.tok s t hs
   have := lt_of_some h2; omega
  ·obtain ⟨_, ⟨_, _, h2, _⟩, _⟩ := h.tok s' t' hs'
   have := lt_of_some h2; omega
  ·exact hκ' s s' t t' ht ht' hb hb'
 ·intro b i v hb hl k
  have := h.kept.size
  rw [hne b i (by omega)] at k
  exact h.old b i v hb hl k

structure SameBut (w w' : World) (rb : Nat) : Prop where
 os : w'.os = w.os
 tape : w'.tape = w.tape
 output : w'.output = w.output
 size : w'.heap.size = w.heap.size
 block : ∀ b, b ≠ rb → w'.heap[b]? = w.heap[b]?
 drawn : w.drawn ≤ w'.drawn

theorem SameBut.cell? {w w' : World} {rb : Nat} (h : SameBut w w' rb) {b i : Nat} (hb : b ≠ rb) : w'.cell? ⟨b, i, none⟩ = w.cell? ⟨b, i, none⟩ := by
 simp only [World.cell?, h.block b hb]

theorem SameBut.kept {d : Bool} {w0 : World} {L : Nat → Prop} {w w' : World} {rb : Nat} (h : SameBut w w' rb) (k : Kept d w0 L w) (hr : L rb ∨ w0.heap.size ≤ rb) : Kept d w0 L w' :=
 ⟨h.os.trans k.os, h.tape.trans k.tape, h.output.trans k.output, by rw [h.size]; exact k.size, fun b hb hl => by
  rw [h.block b (by rintro rfl; rcases hr with q | q; exact hl q; omega)]; exact k.block b hb hl, fun q => Nat.le_trans (k.drawn q) h.drawn⟩

theorem SW.change (h : SW F g κ H w) {k : Nat} {A A' : AB} {rb : Nat} (hk : H[k]? = some A) (hl : A.live = true) (hr : g.ρ k = some rb) {w' : World} (hs : SameBut w w' rb)
  (hb : A'.live = true → ∃ o, w'.heap[rb]? = some o ∧ BRo g A' o ∧ ∀ rcs e fz, o = .cells rcs e fz → rcs.size = g.N rb) : SW F g κ (setAt H k A') w' := by
 rw [setAt_eq]
 obtain ⟨rb0, o0, q1, q2, q3, q4, q5, q6⟩ := h.blk k A hk hl
 rw [hr] at q1; cases q1
 have hklt : k < H.length := (List.getElem?_eq_some_iff.1 hk).1
 have hget : ∀ j B, (H.set k A')[j]? = some B → (j ≠ k ∧ H[j]? = some B) ∨ (j = k ∧ B = A') := fun j B hj => by
  rw [List.getElem?_set] at hj
  by_cases e : k = j
  ·subst e; simp [hklt] at hj; exact .inr ⟨rfl, hj.symm⟩
  ·simp [e] at hj; exact .inl ⟨fun q => e q.symm, hj⟩
 refine ⟨?_, ?_, ?_, ?_, ?_, h.tinj, hs.kept h.kept q4, h.old, h.le⟩
 ·intro b i v q
  have hne : b ≠ rb := by rintro rfl; rw [q5 i] at q; simp at q
  rw [hs.cell? hne]; exact h.imm b i v q
 ·intro j b q
  have := h.dom j b q
  rw [hs.size]; simpa using this
 ·intro j B hj hjl
  rcases hget j B hj with ⟨e, hj'⟩ | ⟨rfl, rfl⟩
  ·obtain ⟨rj, oj, p1, p2, p3, p4, p5, p6⟩ := h.blk j B hj' hjl
   have hne : rj ≠ rb := by rintro rfl; exact e (h.inj j k B A rj hj' hjl hk hl p1 hr)
   exact ⟨rj, oj, p1, by rw [hs.block rj hne]; exact p2, p3, p4, p5, p6⟩
  ·obtain ⟨o, o1, o2, o3⟩ := hb hjl
   exact ⟨rb, o, hr, o1, o2, q4, q5, o3⟩
 ·intro j j' B B' r hj hjl hj' hjl' p p'
  rcases hget j B hj with ⟨e, e1⟩ | ⟨rfl, rfl⟩ <;> rcases hget j' B' hj' with ⟨e', e1'⟩ | ⟨e', e1'⟩
  ·exact h.inj j j' B B' r e1 hjl e1' hjl' p p'
  ·subst e'
   exact absurd (h.inj j j' B A r e1 hjl hk hl p p') e
  ·exact absurd (h.inj j' j B' A r e1' hjl' hk hl p' p) e'
  ·exact e'.symm
 ·intro s t ht
  obtain ⟨h1, ⟨rcs, e, h2, h3⟩, hn, h4, h5⟩ := h.tok s t ht
  have hne : t.blk ≠ rb := fun q => h5 k A hk hl (by rw [hr, q])
  refine ⟨h1, ⟨rcs, e, by rw [hs.block _ hne]; exact h2, h3⟩, hn, h4, fun j B hj hjl => ?_⟩
  rcases hget j B hj with ⟨_, hj'⟩ | ⟨rfl, rfl⟩
  ·exact h5 j B hj' hjl
  ·exact h5 j A hk hl

theorem SW.swap (h : SW F g κ H w) {k : Nat} {A A' : AB} (hk : H[k]? = some A) (hl : A.live = true) (hb : ∀ o, BRo g A o → BRo g A' o) : SW F g κ (setAt H k A') w := by
 obtain ⟨rb, o, h1, h2, h3, _, _, h6⟩ := h.blk k A hk hl
 exact h.change hk hl h1 ⟨rfl, rfl, rfl, rfl, fun _ _ => rfl, Nat.le_refl _⟩ fun _ => ⟨o, h2, hb o h3, h6⟩
theorem BRo.unrope {t : TypeId × Bool} {n : Nat} {r : BT} {o : Obj} (h : BRo g (.rope t n r) o) : BRo g (.cells t r.toL) o := by
 cases o with
 | cells rcs e fz => exact h.2
 | _ => simp [BRo] at h
theorem BRo.rope {t : TypeId × Bool} {n : Nat} {r : BT} {o : Obj} (h : BRo g (.cells t r.toL) o) (h1 : r.toL.length = n) (h2 : r.wf = true) : BRo g (.rope t n r) o := by
 cases o with
 | cells rcs e fz => exact ⟨⟨h1, h2⟩, h⟩
 | _ => simp [BRo] at h
theorem SW.ropeOk (h : SW F g κ H w) {k : Nat} {t : TypeId × Bool} {n : Nat} {r : BT} (hk : H[k]? = some (.rope t n r)) : r.toL.length = n ∧ r.wf = true := by
 obtain ⟨rb, o, _, _, h3, _⟩ := h.blk k _ hk rfl
 cases o with
 | cells rcs e fz => exact h3.1
 | _ => simp [BRo] at h3
theorem SW.unrope (h : SW F g κ H w) {k : Nat} {t : TypeId × Bool} {n : Nat} {r : BT} (hk : H[k]? = some (.rope t n r)) : SW F g κ (setAt H k (.cells t r.toL)) w := h.swap hk rfl fun _ q => q.unrope
theorem getSet {k : Nat} {A B : AB} (hk : H[k]? = some A) : (setAt H k B)[k]? = some B := by
 rw [setAt_eq, List.getElem?_set]
 simp [(List.getElem?_eq_some_iff.1 hk).1]
theorem setSet (k : Nat) (A B : AB) : setAt (setAt H k A) k B = setAt H k B := by simp [setAt_eq]

theorem sameBut_setRow (w : World) (rb : Nat) (rcs : Array Value) : SameBut w (w.setRow rb rcs) rb :=
 ⟨rfl, rfl, rfl, by simp [World.setRow], fun b hb => setRow_other w rb b rcs hb, Nat.le_refl _⟩

end
end Go.Tm
end
section
namespace Go.Tm

def Ok {α : Type} (x : E α) (p : List Bool) (a : α) (p' : List Bool) : Prop := ∃ cs, x p = some (a, cs, p') ∧ ∀ b ∈ cs, b = true

section
variable {α β : Type} {p p' : List Bool}
theorem Ok_pure {a b : α} : Ok (Pure.pure a : E α) p b p' ↔ a = b ∧ p = p' := by
 show Ok (E.pure a) p b p' ↔ _
 simp only [Ok, E.pure, Option.some.injEq, Prod.mk.injEq]
 constructor
 ·rintro ⟨cs, ⟨h1, _, h2⟩, _⟩; exact ⟨h1, h2⟩
 ·rintro ⟨h1, h2⟩; exact ⟨[], ⟨h1, rfl, h2⟩, by simp⟩
theorem Ok_fail {a : α} : ¬ Ok (E.fail : E α) p a p' := by simp [Ok, E.fail]
theorem Ok_bind {x : E α} {f : α → E β} {b : β} : Ok (x >>= f) p b p' ↔ ∃ a p1, Ok x p a p1 ∧ Ok (f a) p1 b p' := by
 show Ok (E.bind x f) p b p' ↔ _
 simp only [Ok, E.bind]
 constructor
 ·rintro ⟨cs, h, hc⟩
  cases hx : x p with
  | none => simp [hx] at h
  | some r =>
   obtain ⟨a, c1, p1⟩ := r
   simp only [hx] at h
   cases hf : f a p1 with
   | none => simp [hf] at h
   | some q =>
    obtain ⟨b', c2, p2⟩ := q
    simp only [hf, Option.some.injEq, Prod.mk.injEq] at h
    obtain ⟨rfl, rfl, rfl⟩ := h
    exact ⟨a, p1, ⟨c1, rfl, fun y hy => hc y (by simp [hy])⟩, ⟨c2, hf, fun y hy => hc y (by simp [hy])⟩⟩
 ·rintro ⟨a, p1, ⟨c1, h1, k1⟩, ⟨c2, h2, k2⟩⟩
  refine ⟨c1 ++ c2, by simp [h1, h2], fun y hy => ?_⟩
  rcases List.mem_append.1 hy with q | q
  ·exact k1 y q
  ·exact k2 y q
theorem Ok_of {o : Option α} {a : α} : Ok (E.of o) p a p' ↔ o = some a ∧ p = p' := by
 cases o with
 | none => simp [E.of, Ok, E.fail]
 | some x =>
  simp only [Option.some.injEq]
  exact Ok_pure (p := p) (p' := p') (a := x) (b := a)
theorem Ok_chk {s b : Bool} {u : Unit} : Ok (E.chk s b) p u p' ↔ b = true ∧ p = p' := by
 constructor
 ·rintro ⟨cs, h, hc⟩
  cases s <;> cases b <;> simp [E.chk] at h <;> obtain ⟨rfl, rfl⟩ := h <;> simp_all
 ·rintro ⟨rfl, rfl⟩
  cases s
  ·exact ⟨[], rfl, by simp⟩
  ·exact ⟨[true], rfl, by simp⟩
theorem Ok_branch {s b x : Bool} (h : Ok (E.branch s b) p x p') : x = b := by
 obtain ⟨cs, h1, h2⟩ := h
 cases s with
 | false => simp [E.branch] at h1; exact h1.1.symm
 | true =>
  cases p with
  | nil => simp [E.branch] at h1
  | cons y q =>
   simp [E.branch] at h1
   obtain ⟨rfl, rfl, rfl⟩ := h1
   have := h2 (b == y) (by simp)
   simp at this
   exact this.symm
end

theorem pureRun_run {α : Type} {P : Program} : ∀ {s : Sem α} {a : α}, pureRun P s = some a → ∀ w, s.run P w = .ok a w := by
 intro s
 induction s with
 | pure b => intro a h w; simp [pureRun] at h; subst h; rfl
 | program k ih => intro a h w; simp only [pureRun] at h; simp only [Sem.run]; exact ih P h w
 | _ => intro a h; simp [pureRun] at h

/-! ### the program's types -/
section
variable {P : Program} {w : World}

theorem run_underlying {t : TypeId} {d : TypeDesc} (h : P.underlying t = some d) : (underlying t).run P w = .ok d w := by simp [underlying, h]
theorem run_typeInfo {t : TypeId} {i : TypeInfo} (h : P.info? t = some i) : (typeInfo t).run P w = .ok i w := by simp [typeInfo, h]
theorem run_tSize {t : TypeId} {n : Nat} (h : tSize P t = some n) : (sizeOf t).run P w = .ok n w := by
 simp only [tSize, Option.map_eq_some_iff] at h
 obtain ⟨i, h1, h2⟩ := h
 simp [sizeOf, run_typeInfo h1, h2]
theorem run_tAgg {t : TypeId} {b : Bool} (h : tAgg P t = some b) : (isAgg t).run P w = .ok b w := by
 unfold tAgg at h
 split at h
 ·rename_i fs e; simp at h; subst h; simp [isAgg, run_underlying e]
 ·rename_i n el e; simp at h; subst h; simp [isAgg, run_underlying e]
 ·rename_i d e1 e2 e
  simp at h; subst h
  simp only [isAgg, Sem.run_bind, run_underlying e, Result.andThen_ok]
  cases d <;> first | rfl | (exact absurd e (e1 _)) | (exact absurd e (e2 _ _))
 ·simp at h
theorem run_tZero {t : TypeId} {z : AV} (h : tZero P t = some z) : ∃ v, (zeroValue t).run P w = .ok v w ∧ (∀ g, VR g z v) ∧ allOne z.cells = true := by
 unfold tZero at h
 split at h
 ·rename_i i e
  cases hz : i.zero with
  | none => simp [hz] at h
  | some v =>
   cases ho : AV.ofV v with
   | none => simp [hz, ho] at h
   | some z' =>
    simp only [hz, Option.bind_some, ho] at h
    split at h
    ·simp at h; subst h
     exact ⟨v, by simp [zeroValue, run_typeInfo e, hz], fun g => ofV_VR ho, ‹_›⟩
    ·simp at h
 ·simp at h
end

theorem ofV1_own {r : Value} {xs : List AV} {s e z : Nat} : AV.ofV1 r ≠ some (.sl xs (.own s e z)) := by
 intro h
 unfold AV.ofV1 at h
 split at h
 ·simp at h
 ·simp at h
 ·split at h <;> simp at h
theorem ofV_own {r : Value} {xs : List AV} {s e z : Nat} : AV.ofV r ≠ some (.sl xs (.own s e z)) := by
 intro h
 unfold AV.ofV at h
 split at h
 ·split at h <;> simp at h
 ·simp at h
 ·exact ofV1_own h

/-! ### operands -/
structure Glob (K : Cfg) (g : Gh) : Prop where
 gl : ∀ i cs, K.gl i = some cs → VR g (.rp cs) (.pointer (some ⟨i, 0, none⟩))
 ints : ∀ i ∈ K.ints, ∃ m, g.I i 0 = some (.int .i64 m)
 dr : g.dr = true → K.dr = true

theorem Glob.mono {K : Cfg} {g h : Gh} (hle : Gh.Le g h) (k : Glob K g) : Glob K h := ⟨fun i cs q => (k.gl i cs q).mono hle, fun i hi => let ⟨m, hm⟩ := k.ints i hi; ⟨m, hle.imm _ _ _ hm⟩, fun q => k.dr (hle.dr.symm.trans q)⟩

theorem evalO_RV {K : Cfg} {g : Gh} {κ : Nat → Option Tok} {own : Nat → Nat} {regs : List AV} {a : Act} (hg : Glob K g) (hr : Regs g κ own regs a.tmps) {x : Operand} {v : AV} (h : evalO K regs x = some v) :
  RV g κ own v (a.eval x) := by
 cases x with
 | tmp t =>
  simp only [evalO, nth_eq] at h
  have hi : t < a.tmps.size := by rw [← hr.1]; exact (List.getElem?_eq_some_iff.1 h).1
  simp only [Act.eval, Array.getD, hi, dif_pos]
  exact hr.2 t v _ h (by simp [hi])
 | const c =>
  simp only [evalO] at h
  refine RV.of_other (ofV_VR h) fun xs s e z q => ?_
  subst q
  exact ofV_own h
 | global i =>
  simp only [evalO, Option.map_eq_some_iff] at h
  obtain ⟨cs, h1, rfl⟩ := h
  exact RV.of_other (hg.gl i cs h1) (by simp)
 | func f =>
  simp only [evalO, Option.some.injEq] at h
  subst h
  exact RV.of_other (.func rfl rfl (by simp) (by simp)) (by simp)

theorem evalOs_VRs {K : Cfg} {g : Gh} {κ : Nat → Option Tok} {own : Nat → Nat} {regs : List AV} {a : Act} (hg : Glob K g) (hr : Regs g κ own regs a.tmps) {xs : List Operand} {vs : List AV} (h : mapO (evalO K regs) xs = some vs) :
  VRs g vs (xs.map a.eval) := by
 refine ⟨by rw [mapO_len h]; simp, fun i x r p q => ?_⟩
 simp only [List.getElem?_map, Option.map_eq_some_iff] at q
 obtain ⟨o, ho, rfl⟩ := q
 obtain ⟨y, hy, hz⟩ := mapO_get h i o ho
 rw [hz] at p; cases p
 exact (evalO_RV hg hr hy).1

/-! ### what an operation's answer means -/
def OpOk (F : Fr) (g : Gh) (κ : Nat → Option Tok) (own : Nat → Nat) (H : List AB) (w : World) (run : Result Next) : AN → Prop
 | .val x own' H' => ∃ r w' g' κ', run = .ok (.value r) w' ∧ Gh.Le g g' ∧ SW F g' κ' H' w' ∧ RV g' κ' own' x r ∧ ∀ y s, RV g κ own y s → RV g' κ' own' y s
 | .skip H' => ∃ w' g', run = .ok .skip w' ∧ Gh.Le g g' ∧ SW F g' κ H' w'
 | .call f args => ∃ rargs, run = .ok (.enter f ⟨rargs⟩) w ∧ VRs g args rargs

section
variable {F : Fr} {g : Gh} {κ : Nat → Option Tok} {own : Nat → Nat} {H : List AB} {w : World} {run : Result Next}

theorem OpOk.plain (hs : SW F g κ H w) {x : AV} {r : Value} (hr : run = .ok (.value r) w) (h : RV g κ own x r) : OpOk F g κ own H w run (.val x own H) :=
 ⟨r, w, g, κ, hr, .refl g, hs, h, fun _ _ q => q⟩

theorem OpOk.plainU (hs : SW F g κ H w) {x : AV} {r : Value} (hr : run = .ok (.value r) w) (h : VR g x r) : OpOk F g κ own H w run (.val x.unown own H) :=
 .plain hs hr (.of_unown h)

theorem OpOk.grow {g' : Gh} {H' : List AB} {w' : World} {x : AV} {r : Value} (hle : Gh.Le g g') (hs : SW F g' κ H' w') (hr : run = .ok (.value r) w') (h : RV g' κ own x r) : OpOk F g κ own H w run (.val x own H') :=
 ⟨r, w', g', κ, hr, hle, hs, h, fun _ _ q => q.mono hle⟩
end

/-! ### memory -/
theorem add_none {b o n : Nat} : (⟨b, o, none⟩ : Addr).add n = ⟨b, o + n, none⟩ := by unfold Addr.add; split <;> simp_all

section
variable {F : Fr} {g : Gh} {κ : Nat → Option Tok} {H : List AB} {w : World} {P : Program}

def Lies (g : Gh) (w : World) (cs : List AV) (a : Addr) : Prop :=
 ∃ rs : List Value, VRs g cs rs ∧ ∀ (j : Nat) (v : Value), rs[j]? = some v → w.cell? (a.add j) = some v

theorem VRs.of_fun {cs : List AV} (rs : Nat → Value) (h : ∀ (k : Nat) (y : AV), cs[k]? = some y → VR g y (rs k)) : VRs g cs ((List.range cs.length).map rs) := by
 refine ⟨by simp, fun i x r a b => ?_⟩
 simp only [List.getElem?_map, Option.map_eq_some_iff] at b
 obtain ⟨j, hj, rfl⟩ := b
 have hi : i < cs.length := (List.getElem?_eq_some_iff.1 a).1
 rw [List.getElem?_range hi] at hj
 cases hj
 exact h i x a

theorem lies_imm (hs : SW F g κ H w) {cs : List AV} {b o : Nat} (rs : Nat → Value) (hi : ∀ (k : Nat) (y : AV), cs[k]? = some y → g.I b (o + k) = some (rs k)) (h : ∀ (k : Nat) (y : AV), cs[k]? = some y → VR g y (rs k)) :
  Lies g w cs ⟨b, o, none⟩ := by
 refine ⟨_, VRs.of_fun rs h, fun j v k => ?_⟩
 simp only [List.getElem?_map, Option.map_eq_some_iff] at k
 obtain ⟨i, hj, rfl⟩ := k
 have hlt : j < cs.length := by
  have := (List.getElem?_eq_some_iff.1 hj).1
  simpa using this
 rw [List.getElem?_range hlt] at hj
 cases hj
 rw [add_none]
 exact hs.imm b (o + j) _ (hi j cs[j] (List.getElem?_eq_getElem hlt))

theorem deref_lies (hs : SW F g κ H w) {x : AV} {r : Value} (hx : VR g x r) {cs : List AV} (h : deref H x = some cs) : ∃ a, r = .pointer (some a) ∧ Lies g w cs a := by
 cases hx with
 | @ptr b off rb hb =>
  simp only [deref, nth_eq] at h
  cases hH : H[b]? with
  | none => simp [hH] at h
  | some A =>
   cases A with
   | cells t c =>
    simp [hH] at h; subst h
    obtain ⟨rb', o, h1, h2, h3, _, _, _⟩ := hs.blk b _ hH rfl
    rw [hb] at h1; cases h1
    cases o with
    | cells rcs e fz =>
     simp only [BRo] at h3
     obtain ⟨hf, hle, hv, _, _⟩ := h3
     refine ⟨_, rfl, (rcs.toList.drop off).take (c.length - off), ⟨?_, fun i y s p q => ?_⟩, fun j v k => ?_⟩
     ·simp; omega
     ·rw [List.getElem?_drop] at p
      rw [List.getElem?_take] at q
      split at q
      ·rw [List.getElem?_drop] at q; exact hv _ y s p q
      ·simp at q
     ·rw [List.getElem?_take] at k
      split at k
      ·rw [List.getElem?_drop] at k
       rw [add_none]
       simp only [World.cell?, h2]
       simpa using k
      ·simp at k
    | _ => simp [BRo] at h3
   | rope t m q =>
    simp [hH] at h; subst h
    obtain ⟨rb', o, h1, h2, h3, _, _, _⟩ := hs.blk b _ hH rfl
    rw [hb] at h1; cases h1
    rw [BT.from_eq off (hs.ropeOk hH).2]
    cases o with
    | cells rcs e fz =>
     simp only [BRo] at h3
     obtain ⟨_, hf, hle, hv, _, _⟩ := h3
     refine ⟨_, rfl, (rcs.toList.drop off).take (q.toL.length - off), ⟨?_, fun i y s p q => ?_⟩, fun j v k => ?_⟩
     ·simp; omega
     ·rw [List.getElem?_drop] at p
      rw [List.getElem?_take] at q
      split at q
      ·rw [List.getElem?_drop] at q; exact hv _ y s p q
      ·simp at q
     ·rw [List.getElem?_take] at k
      split at k
      ·rw [List.getElem?_drop] at k
       rw [add_none]
       simp only [World.cell?, h2]
       simpa using k
      ·simp at k
    | _ => simp [BRo] at h3
   | _ => simp [hH] at h
 | @rp cs' b o rs hc h1 hi hv =>
  simp only [deref, Option.some.injEq] at h
  subst h
  exact ⟨_, rfl, lies_imm hs rs hi hv⟩
 | _ => simp [deref] at h

theorem Lies.drop {cs : List AV} {b o : Nat} (h : Lies g w cs ⟨b, o, none⟩) (n : Nat) : Lies g w (cs.drop n) ⟨b, o + n, none⟩ := by
 obtain ⟨rs, h1, h2⟩ := h
 refine ⟨rs.drop n, h1.drop n, fun j v k => ?_⟩
 rw [List.getElem?_drop] at k
 have := h2 _ v k
 rw [add_none] at this ⊢
 rw [Nat.add_assoc]; exact this

theorem run_loadVar {t : TypeId} {cs : List AV} {a : Addr} {x : AV} (hl : Lies g w cs a) (h : takeVar P t cs = some x) : ∃ r, (loadVar t a).run P w = .ok r w ∧ VR g x r := by
 obtain ⟨rs, h1, h2⟩ := hl
 unfold takeVar at h
 split at h
 ·rename_i n ha hn
  split at h
  ·rename_i hle
   simp at h; subst h
   have h3 := h1.take n
   have hlen : (rs.take n).length = n := by rw [← h3.1]; simp [hle]
   refine ⟨.agg ⟨rs.take n⟩, ?_, .agg h3.1 h3.2⟩
   have hrun := run_loadCells_list (P := P) w a (rs.take n) (fun j v k => h2 j v (by
    rw [List.getElem?_take] at k
    split at k
    ·exact k
    ·simp at k))
   rw [hlen] at hrun
   simp [loadVar, run_tAgg ha, run_tSize hn, hrun]
  ·simp at h
 ·rename_i n ha hn
  cases cs with
  | nil => simp at h
  | cons y cs' =>
   simp at h; subst h
   obtain ⟨r, rs', rfl, hv, _⟩ := h1.head
   refine ⟨r, ?_, hv⟩
   have := h2 0 r (by simp)
   have ha0 : a.add 0 = a := by simp [Addr.add]
   rw [ha0] at this
   simp [loadVar, run_tAgg ha, this]
 ·simp at h

theorem run_loadAt {K : Cfg} (hs : SW F g κ H w) {t : TypeId} {x : AV} {r : Value} {y : AV} (hx : VR g x r) (h : aLoad K H t x = some y) : ∃ s, (Instr.loadAt t r).run K.P w = .ok s w ∧ VR g y s := by
 unfold aLoad at h
 cases hd : deref H x with
 | none => simp [hd] at h
 | some cs =>
  simp only [hd] at h
  obtain ⟨a, rfl, hl⟩ := deref_lies hs hx hd
  obtain ⟨s, h1, h2⟩ := run_loadVar hl h
  exact ⟨s, by simp [Instr.loadAt, Instr.sureAddr, h1], h2⟩
end
end Go.Tm
end
section
namespace Go.Tm
section
variable {F : Fr} {g : Gh} {κ : Nat → Option Tok} {own : Nat → Nat} {H : List AB} {w : World} {K : Cfg}

theorem brow {t : TypeId × Bool} {cs : List AV} {rs : List Value} {e : TypeId} (h : VRs g cs rs) (h1 : allOne cs = true) (ht : e = t.1) : BRo g (.cells t cs) (.cells ⟨rs⟩ e) := by
 refine ⟨rfl, by simp [h.1], fun i x r a b => h.2 i x r a (by simpa using b), h1, ht, fun _ => by simp [h.1]⟩

theorem newVar_ok (hs : SW F g κ H w) {x : AV} {r : Value} (hx : VR g x r) (h1 : allOne x.cells = true) (elem : TypeId) :
  ∃ g' w', (newVar elem r).run K.P w = .ok ⟨w.heap.size, 0, none⟩ w' ∧ Gh.Le g g' ∧ SW F g' κ (H ++ [.cells (elem, true) x.cells]) w' ∧ VR g' (.ptr H.length 0) (.pointer (some ⟨w.heap.size, 0, none⟩)) := by
 have hle := hs.le_new (objLen (.cells r.cells elem))
 have hc : VRs g x.cells r.cells.toList := hx.cells (allOne_notTup h1)
 refine ⟨g.addBlk H.length w.heap.size (objLen (.cells r.cells elem)), w.alloc (.cells r.cells elem), by simp [newVar, newRow], hle, ?_, .ptr (by simp [Gh.addBlk])⟩
 exact hs.alloc _ _ (by have := brow (e := elem) (t := (elem, true)) (hc.mono hle) h1 rfl; simpa using this)

theorem alloc_ok (hs : SW F g κ H w) {elem : TypeId} {z : AV} (hz : tZero K.P elem = some z) :
  ∃ r w' g', (Instr.alloc elem true (.tuple #[])).run K.P w = .ok r w' ∧ Gh.Le g g' ∧ SW F g' κ (H ++ [.cells (elem, true) z.cells]) w' ∧ VR g' (.ptr H.length 0) r := by
 obtain ⟨v, hv, hr, h1⟩ := run_tZero (w := w) hz
 obtain ⟨g', w', e1, e2, e3, e4⟩ := newVar_ok (K := K) hs (hr g) h1 elem
 exact ⟨_, w', g', by simp [Instr.alloc, hv, e1], e2, e3, e4⟩

theorem bigOk_eq {t : TypeId} {n : Nat} {r : BT} {z : AV} (hz : tZero K.P t = some z) (h : bigOk K.P t n r = true) : r.toL.length = n ∧ r.wf = true ∧ r.toL = z.cells := by
 unfold bigOk at h
 rw [hz] at h
 simp only [Bool.and_eq_true, decide_eq_true_eq] at h
 exact ⟨h.1.1, h.1.2, zEqL_eq h.2⟩
theorem allocBig_ok (hs : SW F g κ H w) {elem : TypeId} {z : AV} (hz : tZero K.P elem = some z) (big : Option (Nat × BT)) :
  ∃ r w' g', (Instr.alloc elem true (.tuple #[])).run K.P w = .ok r w' ∧ Gh.Le g g' ∧ SW F g' κ (H ++ [newBlk K.P big elem z]) w' ∧ VR g' (.ptr H.length 0) r := by
 obtain ⟨r, w', g', h1, h2, h3, h4⟩ := alloc_ok (K := K) hs hz
 refine ⟨r, w', g', h1, h2, ?_, h4⟩
 unfold newBlk
 cases big with
 | none => exact h3
 | some x =>
  simp only
  cases hb : bigOk K.P elem x.1 x.2 with
  | false => exact h3
  | true =>
   obtain ⟨b1, b2, b3⟩ := bigOk_eq hz hb
   have hk : (H ++ [AB.cells (elem, true) z.cells])[H.length]? = some (.cells (elem, true) z.cells) := by simp
   have := h3.swap (A' := .rope (elem, true) x.1 x.2) hk rfl fun o q => BRo.rope (by rw [b3]; exact q) b1 b2
   have e : setAt (H ++ [AB.cells (elem, true) z.cells]) H.length (.rope (elem, true) x.1 x.2) = H ++ [.rope (elem, true) x.1 x.2] := by
    rw [setAt_eq]; simp
   rwa [e] at this

theorem box_ok (hs : SW F g κ H w) {elem : TypeId} {x : AV} {r : Value} (hx : VR g x r) (h1 : allOne x.cells = true) :
  ∃ r' w' g', (Instr.box elem r).run K.P w = .ok r' w' ∧ Gh.Le g g' ∧ SW F g' κ (H ++ [.cells (elem, true) x.unown.cells]) w' ∧ VR g' (.ptr H.length 0) r' := by
 obtain ⟨g', w', e1, e2, e3, e4⟩ := newVar_ok (K := K) hs hx.unown (by rw [allOne_unown]; exact h1) elem
 exact ⟨_, w', g', by simp [Instr.box, e1], e2, e3, e4⟩

/-! ### stores -/
theorem putAll_eq {α : Type} : ∀ (xs cs : List α) (o : Nat), o + xs.length ≤ cs.length → putAll cs o xs = cs.take o ++ xs ++ cs.drop (o + xs.length)
 | [], cs, o, _ => by simp [putAll]
 | x :: r, cs, o, h => by
  simp only [putAll, setAt_eq]
  rw [putAll_eq r _ _ (by simp at h ⊢; omega)]
  apply List.ext_getElem?
  intro i
  simp only [List.getElem?_append, List.length_append, List.length_take, List.length_set, List.length_cons, List.getElem?_take, List.getElem?_drop, List.getElem?_set, List.getElem?_cons]
  simp only [List.length_cons] at h
  have e1 : min (o + 1) cs.length = o + 1 := by omega
  have e2 : min o cs.length = o := by omega
  rw [e1, e2]
  by_cases h1 : i < o
  ·simp [show i < o + 1 + r.length by omega, show i < o + 1 by omega, h1, show i < o + (r.length + 1) by omega, show ¬ o = i by omega]
  ·by_cases h2 : i = o
   ·subst h2
    simp [show i < i + 1 + r.length by omega, show i < i + (r.length + 1) by omega]
    omega
   ·by_cases h3 : i < o + 1 + r.length
    ·simp [h3, show ¬ i < o + 1 by omega, h1, show i < o + (r.length + 1) by omega, show ¬ (i - o = 0) by omega]
     try rw [show i - (o + 1) = i - o - 1 by omega]
    ·simp [h3, show ¬ i < o + (r.length + 1) by omega]
     rw [if_neg (by omega)]
     try (congr 1; omega)

theorem putAll_len {α : Type} (xs cs : List α) (o : Nat) : (putAll cs o xs).length = cs.length := by
 induction xs generalizing cs o with
 | nil => rfl
 | cons x r ih => simp [putAll, ih, setAt_eq]

theorem allOne_iff {cs : List AV} : allOne cs = true ↔ ∀ x ∈ cs, x.one = true := by simp [allOne]

theorem storeCells_ok (hs : SW F g κ H w) {b off rb : Nat} {t : TypeId × Bool} {cs xs : List AV} {rs : List Value} (hb : g.ρ b = some rb) (hH : H[b]? = some (.cells t cs)) (hx : VRs g xs rs) (h1 : allOne xs = true)
  (hf : off + xs.length ≤ cs.length) :
  ∃ w', (storeCells ⟨rb, off, none⟩ rs 0).run K.P w = .ok () w' ∧ SW F g κ (setAt H b (.cells t (putAll cs off xs))) w' := by
 obtain ⟨rb', o, q1, q2, q3, _, _, q6⟩ := hs.blk b _ hH rfl
 rw [hb] at q1; cases q1
 cases o with
 | cells rcs e fz =>
  simp only [BRo] at q3
  obtain ⟨rfl, hle, hv, ho, ht0, ht⟩ := q3
  have hlen : xs.length = rs.length := hx.1
  refine ⟨_, run_storeCells_at K.P rb off e rs 0 rcs w q2 (by omega) (fun v hv' => hx.allOne h1 v hv'), ?_⟩
  refine hs.change hH rfl hb (sameBut_setRow w rb _) fun _ => ⟨_, setRow_heap w rb rcs _ e (0, 0) q2, ?_, fun rcs' e' fz' q => by
   have := q6 rcs e _ rfl
   cases q
   simp
   omega⟩
  refine ⟨rfl, ?_, ?_, ?_, ht0, ?_⟩
  ·rw [putAll_len]; simp; omega
  ·intro i x r a c
   rw [putAll_eq xs cs off hf] at a
   simp only [Nat.add_zero] at c
   rw [List.getElem?_append, List.getElem?_append] at a c
   simp only [List.length_append, List.length_take, Array.length_toList] at a c
   rw [show min off cs.length = off by omega] at a
   rw [show min off rcs.size = off by omega] at c
   rw [← hlen] at c
   by_cases h2 : i < off + xs.length
   ·simp only [h2, if_true] at a c
    by_cases h3 : i < off
    ·simp only [h3, if_true, List.getElem?_take] at a c
     exact hv i x r a (by simpa using c)
    ·simp only [h3, if_false] at a c
     exact hx.2 _ x r a c
   ·simp only [h2, if_false, List.getElem?_drop] at a c
    exact hv _ x r a (by simpa using c)
  ·rw [putAll_eq xs cs off hf, allOne_iff]
   rw [allOne_iff] at ho h1
   intro x hx'
   simp only [List.mem_append] at hx'
   rcases hx' with (hx' | hx') | hx'
   ·exact ho x (List.mem_of_mem_take hx')
   ·exact h1 x hx'
   ·exact ho x (List.mem_of_mem_drop hx')
  ·intro q
   rw [putAll_len]
   have := ht q
   simp; omega
 | _ => simp [BRo] at q3

theorem storeAt_ok (hs : SW F g κ H w) {t : TypeId} {a x : AV} {ra rx : Value} (ha : VR g a ra) (hx : VR g x rx) {H' : List AB} (h : aStore K H t a x = some H') :
  ∃ w', (Instr.storeAt t ra rx).run K.P w = .ok () w' ∧ SW F g κ H' w' := by
 unfold aStore at h
 split at h
 ·rename_i b off n hn
  rw [nth_eq] at h
  cases hH : H[b]? with
  | none => simp [hH] at h
  | some A =>
   cases A with
   | cells e cs =>
    simp only [hH] at h
    split at h
    ·rename_i hc
     obtain ⟨hc1, hc2, hc3⟩ := hc
     simp at h; subst h
     cases ha with
     | @ptr _ _ rb hb =>
      have hcs : VRs g x.unown.cells rx.cells.toList := hx.unown.cells (allOne_notTup (by rw [allOne_unown]; exact hc3))
      have hlen : x.unown.cells.length = n := by rw [AV.cells_unown]; exact hc1
      obtain ⟨w', e1, e2⟩ := storeCells_ok (K := K) (off := off) hs hb hH hcs (by rw [allOne_unown]; exact hc3) (by omega)
      refine ⟨w', ?_, e2⟩
      have hsz : rx.cells.size = n := by rw [← hlen, hcs.1]; simp
      simp [Instr.storeAt, Instr.sureAddr, storeVar, run_tSize hn, hsz, e1]
    ·simp at h
   | rope e m q =>
    simp only [hH] at h
    split at h
    ·rename_i hc
     obtain ⟨hc1, hc3⟩ := hc
     cases hq : q.wr off x.unown.cells with
     | none => simp [hq] at h
     | some q' =>
      simp only [hq, Option.some.injEq] at h
      subst h
      obtain ⟨o1, o2⟩ := hs.ropeOk hH
      obtain ⟨p1, p2, p3⟩ := BT.wr_eq o2 hq
      cases ha with
      | @ptr _ _ rb hb =>
       have hcs : VRs g x.unown.cells rx.cells.toList := hx.unown.cells (allOne_notTup (by rw [allOne_unown]; exact hc3))
       have hlen : x.unown.cells.length = n := by rw [AV.cells_unown]; exact hc1
       obtain ⟨w', e1, e2⟩ := storeCells_ok (K := K) (off := off) (hs.unrope hH) hb (getSet hH) hcs (by rw [allOne_unown]; exact hc3) p1
       rw [setSet] at e2
       have e3 := e2.swap (A' := .rope e m q') (getSet hH) rfl fun o k => BRo.rope (by rw [p2]; exact k) (by rw [p2, putAll_len']; exact o1) p3
       rw [setSet] at e3
       refine ⟨w', ?_, e3⟩
       have hsz : rx.cells.size = n := by rw [← hlen, hcs.1]; simp
       simp [Instr.storeAt, Instr.sureAddr, storeVar, run_tSize hn, hsz, e1]
    ·simp at h
   | _ => simp [hH] at h
 ·simp at h

/-! ### composites -/
theorem fill_ok {place : Nat → Option (Nat × Nat)} : ∀ {parts : List (Nat × AV)} {rparts : List (Nat × Value)} {cs cs' : List AV} {rs : Array Value},
  parts.length = rparts.length → (∀ (i : Nat) (n m : Nat) (x : AV) (r : Value), parts[i]? = some (n, x) → rparts[i]? = some (m, r) → n = m ∧ VR g x r) → VRs g cs rs.toList → afill place cs parts = some cs' →
  ∃ rs', Instr.fill place rs rparts = some rs' ∧ VRs g cs' rs'.toList
 | [], rparts, cs, cs', rs, hl, _, hv, h => by
  cases rparts with
  | nil => simp [afill] at h; subst h; exact ⟨rs, rfl, hv⟩
  | cons => simp at hl
 | (i, x) :: rest, rparts, cs, cs', rs, hl, hp, hv, h => by
  cases rparts with
  | nil => simp at hl
  | cons q rrest =>
   obtain ⟨m, r⟩ := q
   obtain ⟨rfl, hx⟩ := hp 0 i m x r (by simp) (by simp)
   simp only [afill] at h
   cases hpl : place i with
   | none => simp [hpl] at h
   | some pr =>
    obtain ⟨off, size⟩ := pr
    simp only [hpl] at h
    split at h
    ·rename_i hc
     obtain ⟨c1, c2, c3⟩ := hc
     have hcs : VRs g x.unown.cells r.cells.toList := hx.unown.cells (allOne_notTup (by rw [allOne_unown]; exact c3))
     have hl1 : x.unown.cells.length = size := by rw [AV.cells_unown]; exact c1
     have hl2 : r.cells.size = size := by rw [← hl1, hcs.1]; simp
     have hl3 : cs.length = rs.size := by rw [hv.1]; simp
     have key : ∀ (l : List AV) (rl : List Value) (cs : List AV) (rs : Array Value) (k : Nat), VRs g l rl → VRs g cs rs.toList → off + k + l.length ≤ cs.length →
       VRs g (putAll cs (off + k) l) ((rl.zipIdx k).foldl (fun cs (c, j) => cs.setIfInBounds (off + j) c) rs).toList := by
      intro l
      induction l with
      | nil =>
       intro rl cs rs k h1 h2 _
       cases rl with
       | nil => simpa [putAll] using h2
       | cons => exact absurd h1.1 (by simp)
      | cons y l ih =>
       intro rl cs rs k h1 h2 h3
       obtain ⟨z, rl', rfl, hz, h4⟩ := h1.head
       simp only [putAll, List.zipIdx_cons, List.foldl_cons, setAt_eq]
       have := ih rl' (cs.set (off + k) y) (rs.setIfInBounds (off + k) z) (k + 1) h4 (by rw [Array.toList_setIfInBounds]; exact h2.set hz _) (by simp at h3 ⊢; omega)
       rw [Nat.add_assoc]
       exact this
     have hk := key x.unown.cells r.cells.toList cs rs 0 hcs hv (by omega)
     obtain ⟨rs', e1, e2⟩ := fill_ok (rs := (r.cells.toList.zipIdx 0).foldl (fun cs (c, j) => cs.setIfInBounds (off + j) c) rs) (by simpa using hl) (fun j n m y s a b => hp (j + 1) n m y s (by simpa using a) (by simpa using b)) (by simpa using hk) h
     refine ⟨rs', ?_, e2⟩
     simp only [Instr.fill, hpl]
     rw [if_neg (by simp [hl2]; omega)]
     have harr : r.cells.zipIdx.foldl (fun cs (c, j) => cs.setIfInBounds (off + j) c) rs = (r.cells.toList.zipIdx 0).foldl (fun cs (c, j) => cs.setIfInBounds (off + j) c) rs := by
      rw [← Array.foldl_toList, Array.toList_zipIdx]
     rw [harr]; exact e1
    ·simp at h

theorem mapM_places {w : World} : ∀ (fields : List Field) {places : List (Nat × Nat)}, mapO (fun f : Field => (tSize K.P f.type).map fun n => (f.offset, n)) fields = some places →
  (fields.mapM (fun f => Prod.mk f.offset <$> sizeOf f.type) : Sem (List (Nat × Nat))).run K.P w = .ok places w
 | [], places, h => by simp [mapO] at h; subst h; rfl
 | f :: r, places, h => by
  simp only [mapO] at h
  cases hn : tSize K.P f.type with
  | none => simp [hn] at h
  | some n =>
   cases hr : mapO (fun f : Field => (tSize K.P f.type).map fun n => (f.offset, n)) r with
   | none => simp [hn, hr] at h
   | some ps =>
    simp [hn, hr] at h; subst h
    simp [List.mapM_cons, run_tSize hn, mapM_places r hr]

theorem build_ok {t : TypeId} {parts : List (Nat × AV)} {rparts : Array (Nat × Value)} {x : AV} (hl : parts.length = rparts.size)
  (hp : ∀ (i : Nat) (n m : Nat) (x : AV) (r : Value), parts[i]? = some (n, x) → rparts.toList[i]? = some (m, r) → n = m ∧ VR g x r) (h : aBuild K t parts = some x) :
  ∃ r, (Instr.build t rparts).run K.P w = .ok r w ∧ VR g x r := by
 unfold aBuild at h
 split at h
 ·rename_i z fields hz hu
  cases hm : mapO (fun f : Field => (tSize K.P f.type).map fun n => (f.offset, n)) fields.toList with
  | none => simp [hm] at h
  | some places =>
   simp only [hm, Option.map_eq_some_iff] at h
   obtain ⟨cs, h1, rfl⟩ := h
   obtain ⟨v, hv, hr, hz1⟩ := run_tZero (w := w) hz
   obtain ⟨rs', e1, e2⟩ := fill_ok (g := g) (rs := v.cells) (rparts := rparts.toList) (by simpa using hl) hp ((hr g).cells (allOne_notTup hz1)) h1
   obtain ⟨rl⟩ := rs'
   refine ⟨.agg ⟨rl⟩, ?_, .agg e2.1 e2.2⟩
   have hmp : (fields.mapM (fun f => Prod.mk f.offset <$> sizeOf f.type) : Sem (Array (Nat × Nat))).run K.P w = .ok ⟨places⟩ w := by
    rw [Array.mapM_eq_mapM_toList]
    simp [mapM_places fields.toList hm]
   have e1' : Instr.fill (fun i => places[i]?) v.cells rparts.toList = some ⟨rl⟩ := by
    have : (fun i => places[i]?) = nth places := by funext i; rw [nth_eq]
    rw [this]; exact e1
   simp [Instr.build, hv, run_underlying hu, hmp, e1']
 ·rename_i z n elem hz hu
  split at h
  ·rename_i m hm
   simp only [Option.map_eq_some_iff] at h
   obtain ⟨cs, h1, rfl⟩ := h
   obtain ⟨v, hv, hr, hz1⟩ := run_tZero (w := w) hz
   obtain ⟨rs', e1, e2⟩ := fill_ok (g := g) (rs := v.cells) (rparts := rparts.toList) (by simpa using hl) hp ((hr g).cells (allOne_notTup hz1)) h1
   obtain ⟨rl⟩ := rs'
   exact ⟨.agg ⟨rl⟩, by simp [Instr.build, hv, run_underlying hu, run_tSize hm, e1], .agg e2.1 e2.2⟩
  ·simp at h
 ·simp at h
end
end Go.Tm
end
