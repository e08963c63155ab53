/- The tree machine: regions whose order is drawn. -/
import Derived.Test.YtfihfpgphipglaaGreatDoorTmS16
set_option linter.unusedVariables false
set_option linter.unusedSimpArgs false
set_option linter.unusedSectionVars false
namespace Go.Tm

mutual
theorem same_eq : ∀ {x y : AV}, same x y = true → x = y := by
  intro x y h
  unfold same at h
  split at h
  · simp at h; simp [h]
  · simp at h; simp [h]
  · rfl
  · rfl
  · rfl
  · rfl
  · simp at h; simp [h]
  · rw [sameL_eq h]
  · simp at h; rw [h.1, sameL_eq h.2]
  · simp at h; simp [h]
  · simp at h; simp [h]
  · rw [sameL_eq h]
  · simp at h; simp [h]
  · simp at h; rw [h.1, same_eq h.2]
  · simp at h; rw [h.1.1, sameL_eq h.1.2, sameL_eq h.2]
  · rw [sameL_eq h]
  · simp at h
theorem sameL_eq : ∀ {x y : List AV}, sameL x y = true → x = y := by
  intro x y h
  unfold sameL at h
  split at h
  · rfl
  · simp at h; rw [same_eq h.1, sameL_eq h.2]
  · simp at h
end

def applyTr (e : Tr) (s : St) : St := { regs := putReg s.regs e.o.dst e.x, own := if e.k = 2 then e.s'.own else s.own, H := if e.k = 2 then e.s'.H else s.H }

section
variable {K : Cfg} {f : FuncId} {ops : Array Oper} {call : Orc}

/-- The operation tells the same where the memory stands so. -/
def Fit (K : Cfg) (f : FuncId) (t : Tr) (H : List AB) : Prop := ∃ p p', Ok (aOp K f { t.s with H } t.o) p (.val t.x t.s.own H) p'

/-- A pure call's answer has nothing to do with the memory. -/
def OrcPure (K : Cfg) (call : Orc) : Prop := ∀ (f : FuncId) (args : List AV) (H : List AB) (p p' : List Bool) (r : AV) (H' : List AB), isPure K f args = true → Ok (call f args H) p (r, H') p' → H' = H ∧ ∀ H2, Ok (call f args H2) p (r, H2) p'

structure StepOk (K : Cfg) (ops : Array Oper) (f : FuncId) (i : Nat) (o : Oper) (m : Nat) (s : St) (e : Tr) : Prop where
  hi : e.i = i
  ho : e.o = o
  hm : e.bef = m
  hs : e.s = s
  hs' : e.s' = applyTr e s
  hk : e.k ≤ 2
  fit : e.k = 1 → Fit K f e s.H
  kind : e.k = 1 → e.run = true ∧ touch K f o = 1
  go : ∀ s2 : St, (∀ t ∈ namesOf ops o, nth s2.regs t = nth s.regs t) → (e.k = 2 → s2.H = s.H ∧ s2.own = s.own) → (e.k = 1 → Fit K f e s2.H) → ops[i]? = some o →
    ∀ (F : Fr) (a : Act) (w : World), Glob K F.g0 → Rel F s2 a w → ∀ (next : Act → World → Prop) (Q : Exit → Act → World → Prop), (∀ a' w', Rel F (applyTr e s2) a' w' → next a' w') → wpOp K.P ops Q i next a w

theorem names_eval {s s2 : St} {o : Oper} (h : ∀ t ∈ namesOf ops o, nth s2.regs t = nth s.regs t) : ∀ x ∈ o.op.operands, evalO K s2.regs x = evalO K s.regs x := by
  intro x hx
  cases x with
  | tmp t =>
    refine h t ?_
    simp only [namesOf, List.mem_append, List.mem_filterMap]
    exact .inr ⟨.tmp t, by simpa using hx, rfl⟩
  | _ => rfl

theorem names_yield {s s2 : St} {o : Oper} (h : ∀ t ∈ namesOf ops o, nth s2.regs t = nth s.regs t) {j : Nat} {want : Bool} (hg : o.guard = some (j, want)) : aYield s2.regs ops j = aYield s.regs ops j := by
  unfold aYield
  cases hd : (ops[j]?).bind (·.dst) with
  | none => rfl
  | some d =>
    have := h d (by simp [namesOf, hg, hd])
    simp only [this]

/-- At whatever state where it names the same, the operation does the same. -/
theorem trDo_ok (hc : OrcOk K call) (hp : OrcPure K call) {i : Nat} {o : Oper} {m : Nat} {s : St} {e : Tr} {p p' : List Bool} (h : Ok (aTrDo K call f i o m s) p e p') :
    e.i = i ∧ e.o = o ∧ e.bef = m ∧ e.s = s ∧ e.s' = applyTr e s ∧ e.k ≤ 2 ∧ (e.k = 1 → Fit K f e s.H) ∧ (e.k = 1 → e.run = true ∧ touch K f o = 1) ∧
    ∀ s2 : St, (∀ t ∈ namesOf ops o, nth s2.regs t = nth s.regs t) → (e.k = 2 → s2.H = s.H ∧ s2.own = s.own) → (e.k = 1 → Fit K f e s2.H) → ∃ q q', Ok (aDo K call f o s2) q (applyTr e s2) q' := by
  unfold aTrDo at h
  rw [Ok_bind] at h
  obtain ⟨an, p1, h1, h2⟩ := h
  have hregs : ∀ s2 : St, (∀ t ∈ namesOf ops o, nth s2.regs t = nth s.regs t) → aOp K f s2 o = aOp K f ⟨s.regs, s2.own, s2.H⟩ o := fun s2 hn => by
    have := aOp_regs (K := K) (f := f) (s := ⟨s.regs, s2.own, s2.H⟩) (o := o) (regs2 := s2.regs) (names_eval hn)
    exact this
  cases an with
  | val x own H =>
    simp only at h2
    rw [Ok_pure] at h2
    obtain ⟨rfl, _⟩ := h2
    rcases Nat.lt_or_ge (touch K f o) 2 with ht | ht
    · rcases Nat.eq_zero_or_pos (touch K f o) with h0 | h0
      · obtain ⟨y, hy, hz⟩ := aOp_free0 h1 h0
        simp only [AN.val.injEq] at hy
        obtain ⟨rfl, rfl, rfl⟩ := hy
        have hk : Nat.min (touch K f o) 2 = 0 := by rw [h0]; rfl
        refine ⟨rfl, rfl, rfl, rfl, ?_, ?_, ?_, ?_, ?_⟩
        · simp [applyTr, hk]
        · simp [hk]
        · simp [hk]
        · simp [hk]
        · intro s2 hn _ _
          refine ⟨p, p1, ?_⟩
          unfold aDo
          rw [Ok_bind, hregs s2 hn]
          exact ⟨_, p1, hz s2.own s2.H, Ok_pure.2 ⟨by simp [applyTr, hk], rfl⟩⟩
      · have h1' : touch K f o = 1 := by omega
        obtain ⟨y, hy, hz⟩ := aOp_free1 h1 h1'
        simp only [AN.val.injEq] at hy
        obtain ⟨rfl, rfl, rfl⟩ := hy
        have hk : Nat.min (touch K f o) 2 = 1 := by rw [h1']; rfl
        refine ⟨rfl, rfl, rfl, rfl, ?_, ?_, ?_, ?_, ?_⟩
        · simp [applyTr, hk]
        · simp [hk]
        · intro _; exact ⟨p, p1, h1⟩
        · intro _; exact ⟨rfl, h1'⟩
        · intro s2 hn _ hf
          obtain ⟨q, q', hq⟩ := hf hk
          obtain ⟨y, hy, hz⟩ := aOp_free1 hq h1'
          simp only [AN.val.injEq] at hy
          obtain ⟨rfl, _, _⟩ := hy
          refine ⟨q, q', ?_⟩
          unfold aDo
          rw [Ok_bind, hregs s2 hn]
          exact ⟨_, q', hz s2.own, Ok_pure.2 ⟨by simp [applyTr, hk], rfl⟩⟩
    · have hk : Nat.min (touch K f o) 2 = 2 := Nat.min_eq_right ht
      refine ⟨rfl, rfl, rfl, rfl, ?_, ?_, ?_, ?_, ?_⟩
      · simp [applyTr, hk]
      · simp [hk]
      · simp [hk]
      · simp [hk]
      · intro s2 hn h2 _
        obtain ⟨e1, e2⟩ := h2 hk
        refine ⟨p, p1, ?_⟩
        unfold aDo
        rw [Ok_bind, hregs s2 hn, e1, e2]
        exact ⟨_, p1, h1, Ok_pure.2 ⟨by simp [applyTr, hk], rfl⟩⟩
  | skip H =>
    simp only at h2
    rw [Ok_pure] at h2
    obtain ⟨rfl, _⟩ := h2
    refine ⟨rfl, rfl, rfl, rfl, ?_, ?_, ?_, ?_, ?_⟩
    · simp [applyTr]
    · simp
    · simp
    · simp
    · intro s2 hn h2 _
      obtain ⟨e1, e2⟩ := h2 rfl
      refine ⟨p, p1, ?_⟩
      unfold aDo
      rw [Ok_bind, hregs s2 hn, e1, e2]
      exact ⟨_, p1, h1, Ok_pure.2 ⟨by simp [applyTr, e2], rfl⟩⟩
  | call g args =>
    simp only at h2
    rw [Ok_bind] at h2
    obtain ⟨⟨r, H'⟩, p2, h3, h4⟩ := h2
    simp only at h4
    rw [Ok_pure] at h4
    obtain ⟨rfl, _⟩ := h4
    by_cases hpu : (touch K f o == 3 && isPure K g args) = true
    · simp only [Bool.and_eq_true, beq_iff_eq] at hpu
      obtain ⟨ht, hpure⟩ := hpu
      obtain ⟨rfl, hall⟩ := hp g args s.H p1 p2 r H' hpure h3
      have hk : (if (touch K f o == 3 && isPure K g args) = true then 0 else 2) = 0 := by simp [ht, hpure]
      rw [hk]
      refine ⟨rfl, rfl, rfl, rfl, ?_, ?_, ?_, ?_, ?_⟩
      · simp [applyTr, hk]
      · simp [hk]
      · simp [hk]
      · simp [hk]
      · intro s2 hn _ _
        refine ⟨p, p2, ?_⟩
        unfold aDo
        rw [Ok_bind, hregs s2 hn]
        refine ⟨_, p1, aOp_freeC h1 ht s2.own s2.H, ?_⟩
        simp only
        rw [Ok_bind]
        exact ⟨_, p2, hall s2.H, Ok_pure.2 ⟨by simp [applyTr, hk], rfl⟩⟩
    · have hk : (if (touch K f o == 3 && isPure K g args) = true then 0 else 2) = 2 := if_neg hpu
      rw [hk]
      refine ⟨rfl, rfl, rfl, rfl, ?_, ?_, ?_, ?_, ?_⟩
      · simp [applyTr, hk]
      · simp [hk]
      · simp [hk]
      · simp [hk]
      · intro s2 hn h2 _
        obtain ⟨e1, e2⟩ := h2 rfl
        refine ⟨p, p2, ?_⟩
        unfold aDo
        rw [Ok_bind, hregs s2 hn, e1, e2]
        refine ⟨_, p1, h1, ?_⟩
        simp only
        rw [Ok_bind]
        exact ⟨_, p2, h3, Ok_pure.2 ⟨by simp [applyTr], rfl⟩⟩

theorem skip_ok {i : Nat} {o : Oper} {m : Nat} {s : St} (hw : ∀ s2 : St, (∀ t ∈ namesOf ops o, nth s2.regs t = nth s.regs t) → ∀ (F : Fr) (a : Act) (w : World), Rel F s2 a w → Region.wanted o (yielded ops a.tmps) = false) : StepOk K ops f i o m s (aTrSkip i o m s) := by
  refine ⟨rfl, rfl, rfl, rfl, by simp [aTrSkip, applyTr], by simp [aTrSkip], by simp [aTrSkip], by simp [aTrSkip], ?_⟩
  intro s2 hn _ _ ho F a w hg hR next Q hnext
  unfold wpOp
  rw [ho]
  simp only
  rw [if_neg (by rw [hw s2 hn F a w hR]; simp)]
  refine hnext _ _ ?_
  have := hR.skipped (d := o.dst)
  have e : applyTr (aTrSkip i o m s) s2 = { s2 with regs := putReg s2.regs o.dst .undef } := by simp [aTrSkip, applyTr]
  rw [e]; exact this

theorem tr_ok (hc : OrcOk K call) (hp : OrcPure K call) {i : Nat} {o : Oper} {m : Nat} {s : St} {e : Tr} {p p' : List Bool} (h : Ok (aTr K call f ops i o m s) p e p') : StepOk K ops f i o m s e := by
  unfold aTr at h
  have doit : ∀ {p p' : List Bool}, Ok (aTrDo K call f i o m s) p e p' → (∀ s2 : St, (∀ t ∈ namesOf ops o, nth s2.regs t = nth s.regs t) → ∀ (F : Fr) (a : Act) (w : World), Rel F s2 a w → Region.wanted o (yielded ops a.tmps) = true) → StepOk K ops f i o m s e := by
    intro p p' h hw
    obtain ⟨a1, a2, a3, a4, a5, a6, a7, a8, a9⟩ := trDo_ok (ops := ops) hc hp h
    refine ⟨a1, a2, a3, a4, a5, a6, a7, a8, ?_⟩
    intro s2 hn h2 h1 ho F a w hg hR next Q hnext
    obtain ⟨q, q', hq⟩ := a9 s2 hn h2 h1
    unfold wpOp
    rw [ho]
    simp only
    rw [if_pos (hw s2 hn F a w hR)]
    exact .inl (aDo_ok hg hc hR hq fun a' w' q _ => hnext a' w' q)
  split at h
  · rename_i hgd
    exact doit h fun s2 _ F a w _ => by simp [Region.wanted, hgd]
  · rename_i j want hgd
    split at h
    · rename_i hy
      rw [Ok_pure] at h
      obtain ⟨rfl, _⟩ := h
      refine skip_ok fun s2 hn F a w hR => ?_
      simp [Region.wanted, hgd, yield_ok hR, names_yield hn hgd, hy]
    · rename_i b hy
      rw [Ok_bind] at h
      obtain ⟨t, p1, h1, h2⟩ := h
      have ht := Ok_branch h1
      subst ht
      split at h2
      · rename_i hb
        refine doit h2 fun s2 hn F a w hR => ?_
        simp [Region.wanted, hgd, yield_ok hR, names_yield hn hgd, hy]
        simpa using hb
      · rename_i hb
        rw [Ok_pure] at h2
        obtain ⟨rfl, _⟩ := h2
        refine skip_ok fun s2 hn F a w hR => ?_
        simp [Region.wanted, hgd, yield_ok hR, names_yield hn hgd, hy]
        simpa using hb
end
end Go.Tm
