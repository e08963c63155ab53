/- The tree machine: calls seen from the frame that calls; an operation in a region; a list of operations. -/
import Derived.Test.YtpgkkmlmdoacmaaTmS14
set_option linter.unusedVariables false
set_option linter.unusedSimpArgs false
set_option linter.unusedSectionVars false
namespace Go.Tm

/-- A call's way: the function's body is entered, or a value comes at once. -/
def Does (P : Program) (f : FuncId) (rargs : Array Value) (w : World) (R : Value → World → Prop) : Prop :=
  ((callFunc f rargs).run P w = .ok (.enter f rargs) w ∧ Calls P f rargs w fun | .returned v, w' => R v w' | _, _ => False) ∨
  ∃ v w', (callFunc f rargs).run P w = .ok (.value v) w' ∧ R v w'

theorem Does.mono {P : Program} {f : FuncId} {rargs : Array Value} {w : World} {R R' : Value → World → Prop} (h : Does P f rargs w R) (hr : ∀ v w', R v w' → R' v w') : Does P f rargs w R' := by
  rcases h with ⟨h1, h2⟩ | ⟨v, w', h1, h2⟩
  · exact .inl ⟨h1, h2.mono fun e w' q => by cases e <;> first | exact hr _ _ q | exact q⟩
  · exact .inr ⟨v, w', h1, hr _ _ h2⟩

/-- The blocks that live. -/
def Live (g : Gh) (H : List AB) (rb : Nat) : Prop := ∃ k A, H[k]? = some A ∧ A.live = true ∧ g.ρ k = some rb

def noTok : Nat → Option Tok := fun _ => none

/-- What a call's answer means. -/
def CallOk (K : Cfg) (f : FuncId) (args : List AV) (H : List AB) (r : AV) (H' : List AB) : Prop :=
  ∀ (g : Gh) (w : World) (rargs : List Value), Glob K g → SW ⟨w, Live g H, g⟩ g noTok H w → VRs g args rargs →
    Does K.P f ⟨rargs⟩ w fun v w' => ∃ g', SW ⟨w, Live g H, g⟩ g' noTok H' w' ∧ VR g' r v

def OrcOk (K : Cfg) (call : Orc) : Prop := ∀ (f : FuncId) (args : List AV) (H : List AB) (p p' : List Bool) (r : AV) (H' : List AB), Ok (call f args H) p (r, H') p' → CallOk K f args H r H'

section
variable {F : Fr} {g : Gh} {κ : Nat → Option Tok} {w : World} {K : Cfg} {H : List AB}

/-- A frame's view of the world, handed down. -/
theorem SW.down (hs : SW F g κ H w) : SW ⟨w, Live g H, g⟩ g noTok H w := by
  refine ⟨hs.imm, hs.dom, fun k A hk hl => ?_, hs.inj, fun s t q => by simp [noTok] at q, fun s s' t t' q => by simp [noTok] at q, .refl _ w _, fun b i v _ _ q => q, .refl g⟩
  obtain ⟨rb, o, h1, h2, h3, h4, h5⟩ := hs.blk k A hk hl
  exact ⟨rb, o, h1, h2, h3, .inl ⟨k, A, hk, hl, h1⟩, h5⟩

/-- And taken back. -/
theorem SW.up (hs : SW F g κ H w) {g' : Gh} {H' : List AB} {w' : World} (h : SW ⟨w, Live g H, g⟩ g' noTok H' w') : SW F g' κ H' w' := by
  have place : ∀ rb, Live g H rb → F.L rb ∨ F.w0.heap.size ≤ rb := by
    rintro rb ⟨k, A, hk, hl, hr⟩
    obtain ⟨rb', o, h1, _, _, h4, _⟩ := hs.blk k A hk hl
    rw [hr] at h1; cases h1
    exact h4
  have hsz := hs.kept.size
  refine ⟨h.imm, h.dom, fun k A hk hl => ?_, h.inj, fun s t ht => ?_, hs.tinj, ?_, fun b i v hb hl q => ?_, hs.le.trans h.le⟩
  · obtain ⟨rb, o, h1, h2, h3, h4, h5⟩ := h.blk k A hk hl
    refine ⟨rb, o, h1, h2, h3, ?_, h5⟩
    rcases h4 with h4 | h4
    · exact place rb h4
    · right
      have h4' : w.heap.size ≤ rb := h4
      omega
  · obtain ⟨h1, ⟨rcs, e, h2, h3⟩, hn, h4, h5⟩ := hs.tok s t ht
    have hlt := lt_of_some h2
    have hnl : ¬ Live g H t.blk := by
      rintro ⟨k, A, hk, hl, hr⟩
      exact h5 k A hk hl hr
    refine ⟨h1, ⟨rcs, e, ?_, h3⟩, hn, fun i hi => ?_, fun k A hk hl hr => ?_⟩
    · rw [h.kept.block t.blk hlt hnl]; exact h2
    · cases hI : g'.I t.blk i with
      | none => rfl
      | some v =>
        have := h.old t.blk i v hlt hnl hI
        have h6 : g.I t.blk i = none := h4 i hi
        rw [h6] at this; cases this
    · obtain ⟨rb, o, q1, _, _, q4, _⟩ := h.blk k A hk hl
      rw [hr] at q1; cases q1
      rcases q4 with q4 | q4
      · exact hnl q4
      · have q4' : w.heap.size ≤ t.blk := q4
        omega
  · have k1 := hs.kept
    have k2 := h.kept
    refine ⟨k2.os.trans k1.os, k2.tape.trans k1.tape, k2.output.trans k1.output, Nat.le_trans k1.size k2.size, fun b hb hl => ?_, fun q => Nat.le_trans (k1.drawn q) (k2.drawn (hs.le.dr.trans q))⟩
    rw [k2.block b (Nat.lt_of_lt_of_le hb k1.size) (fun q => by
      rcases place b q with q | q
      · exact hl q
      · omega)]
    exact k1.block b hb hl
  · have hnl : ¬ Live g H b := fun q => by
      rcases place b q with q | q
      · exact hl q
      · omega
    exact hs.old b i v hb hl (h.old b i v (Nat.lt_of_lt_of_le hb hsz) hnl q)

/-- A frame seen anew from a later world: what it may change, and what it may tell of old memory, is no more than before. -/
structure Ref (F F' : Fr) : Prop where
  place : ∀ rb, F'.L rb ∨ F'.w0.heap.size ≤ rb → F.L rb ∨ F.w0.heap.size ≤ rb
  kept : Kept F.g0.dr F.w0 F.L F'.w0
  old : ∀ b i v, b < F.w0.heap.size → ¬ F.L b → F'.g0.I b i = some v → F.g0.I b i = some v
  le : Gh.Le F.g0 F'.g0
theorem Ref.refl (F : Fr) : Ref F F := ⟨fun _ h => h, .refl _ _ _, fun _ _ _ _ _ h => h, .refl _⟩
theorem Ref.trans {F F' F'' : Fr} (h : Ref F F') (k : Ref F' F'') : Ref F F'' := by
  have hL : ∀ b, b < F.w0.heap.size → ¬ F.L b → ¬ F'.L b := fun b hb hl q => by
    rcases h.place b (.inl q) with q | q
    · exact hl q
    · omega
  refine ⟨fun rb q => h.place rb (k.place rb q), ?_, fun b i v hb hl q => h.old b i v hb hl (k.old b i v (Nat.lt_of_lt_of_le hb h.kept.size) (hL b hb hl) q), h.le.trans k.le⟩
  exact ⟨k.kept.os.trans h.kept.os, k.kept.tape.trans h.kept.tape, k.kept.output.trans h.kept.output, Nat.le_trans h.kept.size k.kept.size, fun b hb hl => (k.kept.block b (Nat.lt_of_lt_of_le hb h.kept.size) (hL b hb hl)).trans (h.kept.block b hb hl), fun q => Nat.le_trans (h.kept.drawn q) (k.kept.drawn (h.le.dr.trans q))⟩
theorem Ref.up {F F' : Fr} (h : Ref F F') {g : Gh} {κ : Nat → Option Tok} {H : List AB} {w : World} (hs : SW F' g κ H w) : SW F g noTok H w := by
  have hL : ∀ b, b < F.w0.heap.size → ¬ F.L b → ¬ F'.L b := fun b hb hl q => by
    rcases h.place b (.inl q) with q | q
    · exact hl q
    · omega
  refine ⟨hs.imm, hs.dom, fun k A hk hl => ?_, hs.inj, fun s t q => by simp [noTok] at q, fun s s' t t' q => by simp [noTok] at q, ?_, fun b i v hb hl q => h.old b i v hb hl (hs.old b i v (Nat.lt_of_lt_of_le hb h.kept.size) (hL b hb hl) q), h.le.trans hs.le⟩
  · obtain ⟨rb, o, h1, h2, h3, h4, h5⟩ := hs.blk k A hk hl
    exact ⟨rb, o, h1, h2, h3, h.place rb h4, h5⟩
  · exact ⟨hs.kept.os.trans h.kept.os, hs.kept.tape.trans h.kept.tape, hs.kept.output.trans h.kept.output, Nat.le_trans h.kept.size hs.kept.size, fun b hb hl => (hs.kept.block b (Nat.lt_of_lt_of_le hb h.kept.size) (hL b hb hl)).trans (h.kept.block b hb hl), fun q => Nat.le_trans (h.kept.drawn q) (hs.kept.drawn (h.le.dr.trans q))⟩
/-- The mark of a range over a function: where its rounds' deferred calls would lie. -/
def mark (D : Nat) : Deferred := { target := .collected D, args := #[] }
/-- The frame's deferred calls are marks alone; nothing lies there; nothing here changes them. -/
def Marks (F F' : Fr) (ds : List Deferred) : Prop :=
  ∃ M : List Nat, ds = M.map mark ∧ M.Nodup ∧ ∀ D ∈ M, F.w0.heap.size ≤ D ∧ D < F'.w0.heap.size ∧ ¬ F'.L D ∧ F'.w0.heap[D]? = some (.deferred (some []))
theorem Marks.nil (F F' : Fr) : Marks F F' [] := ⟨[], rfl, .nil, fun _ h => by cases h⟩
/-- A frame's state. -/
def Rel (F : Fr) (s : St) (a : Act) (w : World) : Prop := ∃ F', Ref F F' ∧ Marks F F' a.defers ∧ ∃ g κ, SW F' g κ s.H w ∧ Regs g κ s.own s.regs a.tmps

theorem put_defers (a : Act) (d : Option Tmp) (v : Value) : (a.put d v).defers = a.defers := by cases d <;> rfl

theorem RV.undef {own : Nat → Nat} : RV g κ own .undef Go.undef := .of_other (.tup (rs := []) rfl (by simp)) (by simp [AV.undef])

theorem aDo_ok {call : Orc} (hg : Glob K F.g0) (hc : OrcOk K call) {s s' : St} {a : Act} (hR : Rel F s a w) {f : FuncId} {o : Oper} {p p' : List Bool} (h : Ok (aDo K call f o s) p s' p') {next : Act → World → Prop} {Q : Exit → Act → World → Prop}
    (hn : ∀ a' w', Rel F s' a' w' → a'.defers = a.defers → next a' w') : o.wp K.P a w next Q := by
  obtain ⟨F', hF, hd, g, κ, hs, hr⟩ := hR
  have hgg : Glob K g := (hg.mono hF.le).mono hs.le
  unfold aDo at h
  rw [Ok_bind] at h
  obtain ⟨an, p1, h1, h2⟩ := h
  have hop := aOp_ok hs hgg hr h1
  unfold Oper.wp
  cases an with
  | val x own' H' =>
    simp only at h2
    rw [Ok_pure] at h2
    obtain ⟨rfl, _⟩ := h2
    obtain ⟨r, w', g', κ', hrun, hle, hsw, hrv, hkeep⟩ := hop
    rw [hrun, Oper.upon_value]
    refine hn _ _ ⟨F', hF, by rw [put_defers]; exact hd, g', κ', hsw, ?_⟩ (put_defers _ _ _)
    have hr' : Regs g' κ' own' s.regs a.tmps := ⟨hr.1, fun i x r p q => hkeep x r (hr.2 i x r p q)⟩
    exact hr'.put hrv o.dst
  | skip H' =>
    simp only at h2
    rw [Ok_pure] at h2
    obtain ⟨rfl, _⟩ := h2
    obtain ⟨w', g', hrun, hle, hsw⟩ := hop
    rw [hrun, Oper.upon_skip]
    exact hn _ _ ⟨F', hF, by rw [put_defers]; exact hd, g', κ, hsw, (hr.mono hle).put RV.undef o.dst⟩ (put_defers _ _ _)
  | call f' args =>
    simp only at h2
    rw [Ok_bind] at h2
    obtain ⟨⟨r, H'⟩, p2, h3, h4⟩ := h2
    simp only at h4
    rw [Ok_pure] at h4
    obtain ⟨rfl, _⟩ := h4
    obtain ⟨rargs, hrun, hv⟩ := hop
    rw [hrun]
    have hdoes := hc f' args s.H p1 p2 r H' h3 g w rargs hgg hs.down hv
    have fin : ∀ v w', (∃ g', SW ⟨w, Live g s.H, g⟩ g' noTok H' w' ∧ VR g' r v) → next (a.put o.dst v) w' := by
      rintro v w' ⟨g', q1, q2⟩
      refine hn _ _ ⟨F', hF, by rw [put_defers]; exact hd, g', κ, hs.up q1, (hr.mono q1.le).put (.of_unown q2) o.dst⟩ (put_defers _ _ _)
    rcases hdoes with ⟨e1, e2⟩ | ⟨v, w', e1, e2⟩
    · rw [e1, Oper.upon_enter]
      refine e2.mono fun e w' q => ?_
      cases e with
      | returned v => exact fin v w' q
      | panicked => exact q.elim
      | outgrown => exact q.elim
    · rw [e1, Oper.upon_value]
      exact fin v w' e2

theorem Rel.skipped {s : St} {a : Act} (hR : Rel F s a w) (d : Option Tmp) : Rel F { s with regs := putReg s.regs d .undef } (a.put d Go.undef) w := by
  obtain ⟨F', hF, hd, g, κ, hs, hr⟩ := hR
  exact ⟨F', hF, by rw [put_defers]; exact hd, g, κ, hs, hr.put RV.undef d⟩

theorem yield_ok {s : St} {a : Act} (hR : Rel F s a w) (ops : Array Oper) (j : Nat) : yielded ops a.tmps j = aYield s.regs ops j := by
  obtain ⟨_, _, _, g, κ, hs, hr⟩ := hR
  unfold yielded aYield
  cases hd : (ops[j]?).bind (·.dst) with
  | none => rfl
  | some d =>
    simp only [Option.bind_some, nth_eq]
    cases hx : s.regs[d]? with
    | none =>
      have : a.tmps[d]? = none := by
        rw [Array.getElem?_eq_none_iff, ← hr.1]
        exact List.getElem?_eq_none_iff.1 hx
      rw [this]
    | some x =>
      have hlt : d < a.tmps.size := by rw [← hr.1]; exact (List.getElem?_eq_some_iff.1 hx).1
      have hv := (hr.2 d x _ hx (by rw [Array.getElem?_eq_getElem hlt])).1
      rw [Array.getElem?_eq_getElem hlt]
      generalize a.tmps[d] = r at hv
      cases hv with
      | v hf => cases r <;> rfl
      | _ => rfl

theorem aList_ok {call : Orc} (hg : Glob K F.g0) (hc : OrcOk K call) {f : FuncId} {ops : Array Oper} {Q : Exit → Act → World → Prop} : ∀ {l : List Oper} {s s' : St} {a : Act} {w : World} {p p' : List Bool}, Rel F s a w → Ok (aList K call f ops l s) p s' p' →
    (∀ a' w', Rel F s' a' w' → a'.defers = a.defers → Q .normal a' w') → wpList K.P ops Q l a w
  | [], s, s', a, w, p, p', hR, h, hq => by
    simp only [aList] at h
    rw [Ok_pure] at h
    obtain ⟨rfl, _⟩ := h
    exact hq _ _ hR rfl
  | o :: rest, s, s', a, w, p, p', hR, h, hq => by
    simp only [aList] at h
    refine wpList_step fun Kn hKn => ?_
    split at h
    · rename_i hgd
      rw [if_pos (by simp [Region.wanted, hgd]), ]
      rw [Ok_bind] at h
      obtain ⟨s1, p1, h1, h2⟩ := h
      exact aDo_ok hg hc hR h1 fun a' w' hR' hd' => hKn _ _ (aList_ok hg hc hR' h2 fun a'' w'' q1 q2 => hq a'' w'' q1 (q2.trans hd'))
    · rename_i j want hgd
      have hy := yield_ok hR ops j
      split at h
      · rename_i hn
        rw [if_neg (by simp [Region.wanted, hgd, hy, hn])]
        exact hKn _ _ (aList_ok hg hc (hR.skipped o.dst) h fun a'' w'' q1 q2 => hq a'' w'' q1 (q2.trans (put_defers _ _ _)))
      · rename_i b hb
        rw [Ok_bind] at h
        obtain ⟨t, p1, h1, h2⟩ := h
        have ht := Ok_branch h1
        subst ht
        split at h2
        · rename_i hbw
          rw [if_pos (by simp [Region.wanted, hgd, hy, hb]; simpa using hbw)]
          rw [Ok_bind] at h2
          obtain ⟨s1, p2, h3, h4⟩ := h2
          exact aDo_ok hg hc hR h3 fun a' w' hR' hd' => hKn _ _ (aList_ok hg hc hR' h4 fun a'' w'' q1 q2 => hq a'' w'' q1 (q2.trans hd'))
        · rename_i hbw
          rw [if_neg (by simp [Region.wanted, hgd, hy, hb]; simpa using hbw)]
          exact hKn _ _ (aList_ok hg hc (hR.skipped o.dst) h2 fun a'' w'' q1 q2 => hq a'' w'' q1 (q2.trans (put_defers _ _ _)))
end
end Go.Tm
