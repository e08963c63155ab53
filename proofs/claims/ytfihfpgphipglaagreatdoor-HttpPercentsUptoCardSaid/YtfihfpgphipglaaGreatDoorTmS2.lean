/- The tree machine: what it is for the changeable memory and the registers to stand for a world of the model and a frame's temporaries; what new blocks and changed blocks do to that. -/
import Derived.Test.YtfihfpgphipglaaGreatDoorTmS1
set_option linter.unusedVariables false
set_option linter.unusedSimpArgs false
set_option linter.unusedSectionVars false
namespace Go.Tm

def AB.live : AB → Bool
  | .dead => false
  | _ => true

/-- A block and its object. -/
def BRo (g : Gh) : AB → Obj → Prop
  | .cells t cs, .cells rcs e fz => fz = (0, 0) ∧ cs.length ≤ rcs.size ∧ (∀ (i : Nat) (x : AV) (r : Value), cs[i]? = some x → rcs.toList[i]? = some r → VR g x r) ∧ allOne cs = true ∧ e = t.1 ∧ (t.2 = true → rcs.size = cs.length)
  | .rope t n r, .cells rcs e fz => (r.toL.length = n ∧ r.wf = true) ∧ (fz = (0, 0) ∧ r.toL.length ≤ rcs.size ∧ (∀ (i : Nat) (x : AV) (s : Value), r.toL[i]? = some x → rcs.toList[i]? = some s → VR g x s) ∧ allOne r.toL = true ∧ e = t.1 ∧ (t.2 = true → rcs.size = r.toL.length))
  | .map es clock, .map res rc => rc = clock ∧ es.length = res.size ∧ ∀ (i : Nat) (k x : AV) (b : Nat) (e : MapEntry), es[i]? = some (k, x, b) → res.toList[i]? = some e → VR g k e.key ∧ VR g x e.val ∧ e.born = b ∧ b < clock
  | .iter s pos, .stringIter rs rp => rs = ⟨⟨s⟩⟩ ∧ rp = pos
  | .iterM b since seen, .mapIter m rs rseen stepped => (match b with | none => m = none | some k => ∃ rb, m = some rb ∧ g.ρ k = some rb) ∧ rs = since ∧ rseen = ⟨seen⟩ ∧ stepped = since
  | _, _ => False

theorem BRo.mono {g h : Gh} (hle : Gh.Le g h) {A : AB} {o : Obj} (k : BRo g A o) : BRo h A o := by
  cases A <;> cases o <;> simp only [BRo] at k ⊢ <;> try exact k
  · exact ⟨k.1, k.2.1, fun i x r a b => (k.2.2.1 i x r a b).mono hle, k.2.2.2⟩
  · exact ⟨k.1, k.2.1, k.2.2.1, fun i x r a b => (k.2.2.2.1 i x r a b).mono hle, k.2.2.2.2⟩
  · exact ⟨k.1, k.2.1, fun i x y b e p q => ⟨((k.2.2 i x y b e p q).1).mono hle, ((k.2.2 i x y b e p q).2.1).mono hle, (k.2.2 i x y b e p q).2.2⟩⟩
  · rename_i b _ _ _ _ _ _
    refine ⟨?_, k.2⟩
    cases b with
    | none => exact k.1
    | some q => obtain ⟨rb, h1, h2⟩ := k.1; exact ⟨rb, h1, hle.blk _ _ h2⟩

/-- What was there ahead is as it was, but for some blocks. -/
structure Kept (w0 : World) (L : Nat → Prop) (w : World) : Prop where
  os : w.os = w0.os
  tape : w.tape = w0.tape
  output : w.output = w0.output
  size : w0.heap.size ≤ w.heap.size
  block : ∀ b, b < w0.heap.size → ¬ L b → w.heap[b]? = w0.heap[b]?

theorem Kept.refl (w : World) (L : Nat → Prop) : Kept w L w := ⟨rfl, rfl, rfl, Nat.le_refl _, fun _ _ _ => rfl⟩

/-- The tail of a slice that grows: block, elements so far, cells an element, capacity. -/
structure Tok where
  blk : Nat
  n : Nat
  sz : Nat
  cap : Nat

structure Fr where
  w0 : World
  L : Nat → Prop
  g0 : Gh

structure SW (F : Fr) (g : Gh) (κ : Nat → Option Tok) (H : List AB) (w : World) : Prop where
  imm : ∀ b o v, g.I b o = some v → w.cell? ⟨b, o, none⟩ = some v
  dom : ∀ k b, g.ρ k = some b → k < H.length ∧ b < w.heap.size
  blk : ∀ k A, H[k]? = some A → A.live = true → ∃ rb o, g.ρ k = some rb ∧ w.heap[rb]? = some o ∧ BRo g A o ∧ (F.L rb ∨ F.w0.heap.size ≤ rb) ∧ (∀ i, g.I rb i = none) ∧ ∀ rcs e fz, o = .cells rcs e fz → rcs.size = g.N rb
  inj : ∀ k k' A A' rb, H[k]? = some A → A.live = true → H[k']? = some A' → A'.live = true → g.ρ k = some rb → g.ρ k' = some rb → k = k'
  tok : ∀ s t, κ s = some t → F.w0.heap.size ≤ t.blk ∧ (∃ rcs e, w.heap[t.blk]? = some (.cells rcs e (0, 0)) ∧ t.cap * t.sz ≤ rcs.size) ∧ t.n ≤ t.cap ∧ (∀ i, t.n * t.sz ≤ i → g.I t.blk i = none) ∧
    ∀ k A, H[k]? = some A → A.live = true → g.ρ k ≠ some t.blk
  tinj : ∀ s s' t t', κ s = some t → κ s' = some t' → t.blk = t'.blk → s = s'
  kept : Kept F.w0 F.L w
  old : ∀ b i v, b < F.w0.heap.size → ¬ F.L b → g.I b i = some v → F.g0.I b i = some v
  le : Gh.Le F.g0 g

/-- A register's value. -/
def RV (g : Gh) (κ : Nat → Option Tok) (own : Nat → Nat) (x : AV) (r : Value) : Prop :=
  VR g x r ∧ ∀ xs s e z, x = .sl xs (.own s e z) → e ≤ own s ∧ (e = own s → e ≠ 0 → ∃ t, κ s = some t ∧ t.n = xs.length ∧ r = .slice (some ⟨t.blk, 0, none⟩) t.n t.cap ∧ t.sz = z)

def Regs (g : Gh) (κ : Nat → Option Tok) (own : Nat → Nat) (regs : List AV) (tmps : Array Value) : Prop :=
  regs.length = tmps.size ∧ ∀ (i : Nat) (x : AV) (r : Value), regs[i]? = some x → tmps[i]? = some r → RV g κ own x r

theorem RV.mono {g h : Gh} (hle : Gh.Le g h) {κ : Nat → Option Tok} {own : Nat → Nat} {x : AV} {r : Value} (k : RV g κ own x r) : RV h κ own x r := ⟨k.1.mono hle, k.2⟩
theorem Regs.mono {g h : Gh} (hle : Gh.Le g h) {κ : Nat → Option Tok} {own : Nat → Nat} {regs : List AV} {tmps : Array Value} (k : Regs g κ own regs tmps) : Regs h κ own regs tmps :=
  ⟨k.1, fun i x r a b => (k.2 i x r a b).mono hle⟩

theorem unown_ne {x : AV} {xs : List AV} {s e z : Nat} : x.unown ≠ .sl xs (.own s e z) := by
  cases x with
  | sl ys tl => cases tl <;> simp [AV.unown]
  | _ => simp [AV.unown]

theorem RV.of_unown {g : Gh} {κ : Nat → Option Tok} {own : Nat → Nat} {x : AV} {r : Value} (h : VR g x r) : RV g κ own x.unown r :=
  ⟨h.unown, fun _ _ _ _ e => absurd e unown_ne⟩

theorem RV.of_other {g : Gh} {κ : Nat → Option Tok} {own : Nat → Nat} {x : AV} {r : Value} (h : VR g x r) (hx : ∀ xs s e z, x ≠ .sl xs (.own s e z)) : RV g κ own x r :=
  ⟨h, fun xs s e z k => absurd k (hx xs s e z)⟩

theorem Regs.set {g : Gh} {κ : Nat → Option Tok} {own : Nat → Nat} {regs : List AV} {tmps : Array Value} (k : Regs g κ own regs tmps) {x : AV} {r : Value} (h : RV g κ own x r) (d : Nat) :
    Regs g κ own (setAt regs d x) (tmps.setIfInBounds d r) := by
  rw [setAt_eq]
  refine ⟨by simp [k.1], fun j y s a b => ?_⟩
  rw [List.getElem?_set] at a
  rw [Array.getElem?_setIfInBounds] at b
  by_cases hij : d = j
  · subst hij
    simp only [if_true] at a b
    split at a <;> simp at a
    split at b <;> simp at b
    subst a; subst b; exact h
  · simp only [hij, if_false] at a b
    exact k.2 j y s a b

theorem Regs.put {g : Gh} {κ : Nat → Option Tok} {own : Nat → Nat} {regs : List AV} {a : Act} (k : Regs g κ own regs a.tmps) {x : AV} {r : Value} (h : RV g κ own x r) (dst : Option Tmp) :
    Regs g κ own (putReg regs dst x) (a.put dst r).tmps := by
  cases dst with
  | none => exact k
  | some d => exact k.set h d

/-! ### new blocks -/

def Gh.addBlk (g : Gh) (k b n : Nat) : Gh := { g with ρ := fun i => if i = k then some b else g.ρ i, N := fun i => if i = b then n else g.N i }
def objLen : Obj → Nat
  | .cells rcs _ _ => rcs.size
  | _ => 0
def Gh.addImm (g : Gh) (b : Nat) (rs : List Value) : Gh := { g with I := fun c i => if c = b then rs[i]? else g.I c i }

section
variable {F : Fr} {g : Gh} {κ : Nat → Option Tok} {H : List AB} {w : World}

theorem SW.imm_lt (h : SW F g κ H w) {b i : Nat} {v : Value} (k : g.I b i = some v) : b < w.heap.size := World.block_lt_of_cell? w ⟨b, i, none⟩ (h.imm b i v k)

theorem SW.I_new (h : SW F g κ H w) (i : Nat) : g.I w.heap.size i = none := by
  cases hI : g.I w.heap.size i with
  | none => rfl
  | some v => exact absurd (h.imm_lt hI) (Nat.lt_irrefl _)

theorem SW.le_addBlk (h : SW F g κ H w) (b n : Nat) (hn : ∀ k, g.ρ k = some b → g.N b = n) : Gh.Le g (g.addBlk H.length b n) :=
  ⟨fun _ _ _ k => k, fun k c q => by
    have := (h.dom k c q).1
    simp only [Gh.addBlk]
    rw [if_neg (by omega)]
    exact q, fun k c q => by
    simp only [Gh.addBlk]
    split
    · rename_i e; subst e; exact (hn k q).symm
    · rfl⟩

theorem SW.le_addImm (h : SW F g κ H w) (rs : List Value) : Gh.Le g (g.addImm w.heap.size rs) :=
  ⟨fun b i v k => by
    have := h.imm_lt k
    simp only [Gh.addImm]
    rw [if_neg (by omega)]
    exact k, fun _ _ k => k, fun _ _ _ => rfl⟩

theorem heap_alloc_lt {w : World} {o : Obj} {b : Nat} (h : b < w.heap.size) : (w.alloc o).heap[b]? = w.heap[b]? := by
  show (w.heap.push o)[b]? = _
  rw [Array.getElem?_push, if_neg (by omega)]
theorem heap_alloc_new {w : World} {o : Obj} : (w.alloc o).heap[w.heap.size]? = some o := by
  show (w.heap.push o)[w.heap.size]? = _
  rw [Array.getElem?_push, if_pos rfl]

theorem lt_of_some {w : World} {b : Nat} {o : Obj} (h : w.heap[b]? = some o) : b < w.heap.size := by
  rcases Nat.lt_or_ge b w.heap.size with h' | h'
  · exact h'
  · simp [Array.getElem?_eq_none h'] at h

theorem Kept.alloc {w0 : World} {L : Nat → Prop} {w : World} (h : Kept w0 L w) (o : Obj) : Kept w0 L (w.alloc o) :=
  ⟨h.os, h.tape, h.output, by simp; have := h.size; omega, fun b hb hl => by rw [heap_alloc_lt (by have := h.size; omega)]; exact h.block b hb hl⟩

theorem Kept.drew {w0 : World} {L : Nat → Prop} {w : World} (h : Kept w0 L w) : Kept w0 L w.drew := ⟨h.os, h.tape, h.output, h.size, h.block⟩

theorem SW.drew (h : SW F g κ H w) : SW F g κ H w.drew :=
  ⟨h.imm, h.dom, h.blk, h.inj, h.tok, h.tinj, h.kept.drew, h.old, h.le⟩

theorem SW.le_new (h : SW F g κ H w) (n : Nat) : Gh.Le g (g.addBlk H.length w.heap.size n) :=
  h.le_addBlk _ n fun k q => absurd (h.dom k _ q).2 (Nat.lt_irrefl _)

theorem get_app {A B : AB} {k : Nat} (hk : (H ++ [A])[k]? = some B) : (k < H.length ∧ H[k]? = some B) ∨ (k = H.length ∧ B = A) := by
  rw [List.getElem?_append] at hk
  split at hk
  · exact .inl ⟨‹_›, hk⟩
  · right
    have : k - H.length = 0 := by
      rcases Nat.eq_zero_or_pos (k - H.length) with h0 | h0
      · exact h0
      · rw [List.getElem?_eq_none (by simp; omega)] at hk; simp at hk
    rw [this] at hk; simp at hk
    exact ⟨by omega, hk.symm⟩

/-- A new block of changeable memory. -/
theorem SW.alloc (h : SW F g κ H w) (A : AB) (o : Obj) (hb : BRo (g.addBlk H.length w.heap.size (objLen o)) A o) :
    SW F (g.addBlk H.length w.heap.size (objLen o)) κ (H ++ [A]) (w.alloc o) := by
  have hle := h.le_new (objLen o)
  have hρ : ∀ k b, k < H.length → ((g.addBlk H.length w.heap.size (objLen o)).ρ k = some b ↔ g.ρ k = some b) := fun k b hk => by
    simp only [Gh.addBlk]; rw [if_neg (by omega)]
  have hlt : ∀ k A rb, H[k]? = some A → A.live = true → g.ρ k = some rb → rb < w.heap.size := fun k A rb hk hl hr => (h.dom k rb hr).2
  have hget : ∀ k B, (H ++ [A])[k]? = some B → (k < H.length ∧ H[k]? = some B) ∨ (k = H.length ∧ B = A) := fun k B hk => get_app hk
  refine ⟨?_, ?_, ?_, ?_, ?_, h.tinj, h.kept.alloc o, h.old, h.le.trans hle⟩
  · intro b i v k
    have k' : g.I b i = some v := k
    rw [World.cell?_alloc_lt _ _ _ (h.imm_lt k')]
    exact h.imm b i v k'
  · intro k b hk
    simp only [List.length_append, List.length_singleton, World.size_alloc]
    by_cases e : k = H.length
    · simp only [Gh.addBlk, if_pos e, Option.some.injEq] at hk; omega
    · simp only [Gh.addBlk, if_neg e] at hk
      have := h.dom k b hk; omega
  · intro k B hk hl
    rcases hget k B hk with ⟨hlt', hk'⟩ | ⟨rfl, rfl⟩
    · obtain ⟨rb, o', h1, h2, h3, h4, h5, h6⟩ := h.blk k B hk' hl
      refine ⟨rb, o', (hρ k rb hlt').2 h1, by rw [heap_alloc_lt (lt_of_some h2)]; exact h2, h3.mono hle, h4, h5, fun rcs e fz q => ?_⟩
      have := lt_of_some h2
      simp only [Gh.addBlk]
      rw [if_neg (by omega)]
      exact h6 rcs e fz q
    · refine ⟨w.heap.size, o, by simp [Gh.addBlk], heap_alloc_new, hb, .inr h.kept.size, fun i => h.I_new i, fun rcs e fz q => ?_⟩
      subst q
      simp [Gh.addBlk, objLen]
  · intro k k' B B' rb hk hl hk' hl' hr hr'
    rcases hget k B hk with ⟨h1, h2⟩ | ⟨rfl, rfl⟩ <;> rcases hget k' B' hk' with ⟨h3, h4⟩ | ⟨h3, h4⟩
    · exact h.inj k k' B B' rb h2 hl h4 hl' ((hρ k rb h1).1 hr) ((hρ k' rb h3).1 hr')
    · exfalso
      have e1 := hlt k B rb h2 hl ((hρ k rb h1).1 hr)
      rw [h3] at hr'; simp [Gh.addBlk] at hr'; omega
    · exfalso
      have e1 := hlt k' B' rb h4 hl' ((hρ k' rb h3).1 hr')
      simp [Gh.addBlk] at hr; omega
    · exact h3.symm
  · intro s t ht
    obtain ⟨h1, ⟨rcs, e, h2, h3⟩, hn, h4, h5⟩ := h.tok s t ht
    refine ⟨h1, ⟨rcs, e, by rw [heap_alloc_lt (lt_of_some h2)]; exact h2, h3⟩, hn, h4, fun k B hk hl => ?_⟩
    rcases hget k B hk with ⟨h6, h7⟩ | ⟨rfl, rfl⟩
    · exact fun q => h5 k B h7 hl ((hρ k _ h6).1 q)
    · intro q
      simp [Gh.addBlk] at q
      have := lt_of_some h2
      omega

/-- A new block that never changes any more, but perhaps behind its first cells: there a token may own it. -/
theorem SW.allocImm (h : SW F g κ H w) (rcs : Array Value) (e : TypeId) (rs : List Value) (hrs : ∀ (i : Nat) (v : Value), rs[i]? = some v → rcs.toList[i]? = some v)
    (κ' : Nat → Option Tok) (hκ : ∀ s t, κ' s = some t → κ s = some t ∨ (t.blk = w.heap.size ∧ t.cap * t.sz ≤ rcs.size ∧ t.n ≤ t.cap ∧ rs.length ≤ t.n * t.sz))
    (hκ' : ∀ s s' t t', κ' s = some t → κ' s' = some t' → t.blk = w.heap.size → t'.blk = w.heap.size → s = s') :
    SW F (g.addImm w.heap.size rs) κ' H (w.alloc (.cells rcs e)) := by
  have hle := h.le_addImm rs
  have hne : ∀ b i, b ≠ w.heap.size → (g.addImm w.heap.size rs).I b i = g.I b i := fun b i hb => by simp [Gh.addImm, hb]
  refine ⟨?_, fun k b q => by have := h.dom k b q; simp; omega, ?_, h.inj, ?_, ?_, h.kept.alloc _, ?_, h.le.trans hle⟩
  · intro b i v k
    by_cases hb : b = w.heap.size
    · subst hb
      simp [Gh.addImm] at k
      rw [World.cell?_alloc_new]
      have := hrs i v k
      simpa using this
    · rw [hne b i hb] at k
      rw [World.cell?_alloc_lt _ _ _ (h.imm_lt k)]
      exact h.imm b i v k
  · intro k A hk hl
    obtain ⟨rb, o', h1, h2, h3, h4, h5, h6⟩ := h.blk k A hk hl
    have := lt_of_some h2
    exact ⟨rb, o', h1, by rw [heap_alloc_lt this]; exact h2, h3.mono hle, h4, fun i => by rw [hne rb i (by omega)]; exact h5 i, h6⟩
  · intro s t ht
    rcases hκ s t ht with hs | ⟨hb, hc, hn, hl⟩
    · obtain ⟨h1, ⟨rcs', e', h2, h3⟩, hn, h4, h5⟩ := h.tok s t hs
      have := lt_of_some h2
      exact ⟨h1, ⟨rcs', e', by rw [heap_alloc_lt this]; exact h2, h3⟩, hn, fun i hi => by rw [hne _ i (by omega)]; exact h4 i hi, h5⟩
    · refine ⟨by rw [hb]; exact h.kept.size, ⟨rcs, e, by rw [hb]; exact heap_alloc_new, hc⟩, hn, fun i hi => ?_, fun k A hk hlv q => ?_⟩
      · rw [hb]; simp [Gh.addImm]; omega
      · obtain ⟨rb, o', h1, h2, _⟩ := h.blk k A hk hlv
        have q' : g.ρ k = some t.blk := q
        rw [q'] at h1; cases h1
        have := lt_of_some h2; omega
  · intro s s' t t' ht ht' e
    rcases hκ s t ht with hs | ⟨hb, _⟩ <;> rcases hκ s' t' ht' with hs' | ⟨hb', _⟩
    · exact h.tinj s s' t t' hs hs' e
    · obtain ⟨_, ⟨_, _, h2, _⟩, _⟩ := h.tok s t hs
      have := lt_of_some h2; omega
    · obtain ⟨_, ⟨_, _, h2, _⟩, _⟩ := h.tok s' t' hs'
      have := lt_of_some h2; omega
    · exact hκ' s s' t t' ht ht' hb hb'
  · intro b i v hb hl k
    have := h.kept.size
    rw [hne b i (by omega)] at k
    exact h.old b i v hb hl k

/-- Two worlds that differ in one block alone. -/
structure SameBut (w w' : World) (rb : Nat) : Prop where
  os : w'.os = w.os
  tape : w'.tape = w.tape
  output : w'.output = w.output
  size : w'.heap.size = w.heap.size
  block : ∀ b, b ≠ rb → w'.heap[b]? = w.heap[b]?

theorem SameBut.cell? {w w' : World} {rb : Nat} (h : SameBut w w' rb) {b i : Nat} (hb : b ≠ rb) : w'.cell? ⟨b, i, none⟩ = w.cell? ⟨b, i, none⟩ := by
  simp only [World.cell?, h.block b hb]

theorem SameBut.kept {w0 : World} {L : Nat → Prop} {w w' : World} {rb : Nat} (h : SameBut w w' rb) (k : Kept w0 L w) (hr : L rb ∨ w0.heap.size ≤ rb) : Kept w0 L w' :=
  ⟨h.os.trans k.os, h.tape.trans k.tape, h.output.trans k.output, by rw [h.size]; exact k.size, fun b hb hl => by
    rw [h.block b (by rintro rfl; rcases hr with q | q; exact hl q; omega)]; exact k.block b hb hl⟩

/-- A block of changeable memory is changed, or given up. -/
theorem SW.change (h : SW F g κ H w) {k : Nat} {A A' : AB} {rb : Nat} (hk : H[k]? = some A) (hl : A.live = true) (hr : g.ρ k = some rb) {w' : World} (hs : SameBut w w' rb)
    (hb : A'.live = true → ∃ o, w'.heap[rb]? = some o ∧ BRo g A' o ∧ ∀ rcs e fz, o = .cells rcs e fz → rcs.size = g.N rb) : SW F g κ (setAt H k A') w' := by
  rw [setAt_eq]
  obtain ⟨rb0, o0, q1, q2, q3, q4, q5, q6⟩ := h.blk k A hk hl
  rw [hr] at q1; cases q1
  have hklt : k < H.length := (List.getElem?_eq_some_iff.1 hk).1
  have hget : ∀ j B, (H.set k A')[j]? = some B → (j ≠ k ∧ H[j]? = some B) ∨ (j = k ∧ B = A') := fun j B hj => by
    rw [List.getElem?_set] at hj
    by_cases e : k = j
    · subst e; simp [hklt] at hj; exact .inr ⟨rfl, hj.symm⟩
    · simp [e] at hj; exact .inl ⟨fun q => e q.symm, hj⟩
  refine ⟨?_, ?_, ?_, ?_, ?_, h.tinj, hs.kept h.kept q4, h.old, h.le⟩
  · intro b i v q
    have hne : b ≠ rb := by rintro rfl; rw [q5 i] at q; simp at q
    rw [hs.cell? hne]; exact h.imm b i v q
  · intro j b q
    have := h.dom j b q
    rw [hs.size]; simpa using this
  · intro j B hj hjl
    rcases hget j B hj with ⟨e, hj'⟩ | ⟨rfl, rfl⟩
    · obtain ⟨rj, oj, p1, p2, p3, p4, p5, p6⟩ := h.blk j B hj' hjl
      have hne : rj ≠ rb := by rintro rfl; exact e (h.inj j k B A rj hj' hjl hk hl p1 hr)
      exact ⟨rj, oj, p1, by rw [hs.block rj hne]; exact p2, p3, p4, p5, p6⟩
    · obtain ⟨o, o1, o2, o3⟩ := hb hjl
      exact ⟨rb, o, hr, o1, o2, q4, q5, o3⟩
  · intro j j' B B' r hj hjl hj' hjl' p p'
    rcases hget j B hj with ⟨e, e1⟩ | ⟨rfl, rfl⟩ <;> rcases hget j' B' hj' with ⟨e', e1'⟩ | ⟨e', e1'⟩
    · exact h.inj j j' B B' r e1 hjl e1' hjl' p p'
    · subst e'
      exact absurd (h.inj j j' B A r e1 hjl hk hl p p') e
    · exact absurd (h.inj j' j B' A r e1' hjl' hk hl p' p) e'
    · exact e'.symm
  · intro s t ht
    obtain ⟨h1, ⟨rcs, e, h2, h3⟩, hn, h4, h5⟩ := h.tok s t ht
    have hne : t.blk ≠ rb := fun q => h5 k A hk hl (by rw [hr, q])
    refine ⟨h1, ⟨rcs, e, by rw [hs.block _ hne]; exact h2, h3⟩, hn, h4, fun j B hj hjl => ?_⟩
    rcases hget j B hj with ⟨_, hj'⟩ | ⟨rfl, rfl⟩
    · exact h5 j B hj' hjl
    · exact h5 j A hk hl

/-- A block told otherwise. -/
theorem SW.swap (h : SW F g κ H w) {k : Nat} {A A' : AB} (hk : H[k]? = some A) (hl : A.live = true) (hb : ∀ o, BRo g A o → BRo g A' o) : SW F g κ (setAt H k A') w := by
  obtain ⟨rb, o, h1, h2, h3, _, _, h6⟩ := h.blk k A hk hl
  exact h.change hk hl h1 ⟨rfl, rfl, rfl, rfl, fun _ _ => rfl⟩ fun _ => ⟨o, h2, hb o h3, h6⟩
theorem BRo.unrope {t : TypeId × Bool} {n : Nat} {r : BT} {o : Obj} (h : BRo g (.rope t n r) o) : BRo g (.cells t r.toL) o := by
  cases o with
  | cells rcs e fz => exact h.2
  | _ => simp [BRo] at h
theorem BRo.rope {t : TypeId × Bool} {n : Nat} {r : BT} {o : Obj} (h : BRo g (.cells t r.toL) o) (h1 : r.toL.length = n) (h2 : r.wf = true) : BRo g (.rope t n r) o := by
  cases o with
  | cells rcs e fz => exact ⟨⟨h1, h2⟩, h⟩
  | _ => simp [BRo] at h
theorem SW.ropeOk (h : SW F g κ H w) {k : Nat} {t : TypeId × Bool} {n : Nat} {r : BT} (hk : H[k]? = some (.rope t n r)) : r.toL.length = n ∧ r.wf = true := by
  obtain ⟨rb, o, _, _, h3, _⟩ := h.blk k _ hk rfl
  cases o with
  | cells rcs e fz => exact h3.1
  | _ => simp [BRo] at h3
theorem SW.unrope (h : SW F g κ H w) {k : Nat} {t : TypeId × Bool} {n : Nat} {r : BT} (hk : H[k]? = some (.rope t n r)) : SW F g κ (setAt H k (.cells t r.toL)) w := h.swap hk rfl fun _ q => q.unrope
theorem getSet {k : Nat} {A B : AB} (hk : H[k]? = some A) : (setAt H k B)[k]? = some B := by
  rw [setAt_eq, List.getElem?_set]
  simp [(List.getElem?_eq_some_iff.1 hk).1]
theorem setSet (k : Nat) (A B : AB) : setAt (setAt H k A) k B = setAt H k B := by simp [setAt_eq]

theorem sameBut_setRow (w : World) (rb : Nat) (rcs : Array Value) : SameBut w (w.setRow rb rcs) rb :=
  ⟨rfl, rfl, rfl, by simp [World.setRow], fun b hb => setRow_other w rb b rcs hb⟩

end
end Go.Tm
