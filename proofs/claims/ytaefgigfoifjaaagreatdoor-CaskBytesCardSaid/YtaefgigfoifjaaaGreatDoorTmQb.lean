/- TmS16, TmS17, TmS18, TmS19, TmS20, joined. -/
import Derived.Test.YtaefgigfoifjaaaGreatDoorTmQi
set_option linter.unusedVariables false
set_option linter.unusedSimpArgs false
set_option linter.unusedSectionVars false
section
namespace Go.Tm
section
variable {K : Cfg} {s : St} {p p' : List Bool} {an : AN} {f : FuncId} {o : Oper}

theorem mapO_congr {α β : Type} {f g : α → Option β} : ∀ {l : List α}, (∀ x ∈ l, f x = g x) → mapO f l = mapO g l
  | [], _ => rfl
  | x :: l, h => by
    simp only [mapO]
    rw [h x (by simp), mapO_congr (l := l) fun y hy => h y (by simp [hy])]

theorem aOp_regs {regs2 : List AV} (h : ∀ x ∈ o.op.operands, evalO K regs2 x = evalO K s.regs x) : aOp K f { s with regs := regs2 } o = aOp K f s o := by
  obtain ⟨regs, own, H⟩ := s
  obtain ⟨dst, op, type, pos, after, guard⟩ := o
  have pairs : ∀ (ps : List (Nat × Operand)), (∀ q ∈ ps, evalO K regs2 q.2 = evalO K regs q.2) → mapO (fun p : Nat × Operand => (evalO K regs2 p.2).map fun x => (p.1, x)) ps = mapO (fun p : Nat × Operand => (evalO K regs p.2).map fun x => (p.1, x)) ps :=
    fun ps hp => mapO_congr fun q hq => by rw [hp q hq]
  cases op <;> simp only [Op.operands] at h <;> simp only [aOp]
  case build t ps => rw [pairs ps.toList fun q hq => h q.2 (by simp; exact ⟨q.1, by simpa using hq⟩)]; rfl
  case buildSlice t n ps => rw [pairs ps.toList fun q hq => h q.2 (by simp; exact ⟨q.1, by simpa using hq⟩)]
  case makeFunc fn first captured =>
    rw [mapO_congr (l := first.toList) fun x hx => h x (by simp at hx; simp [hx]), mapO_congr (l := captured.toList) fun x hx => h x (by simp at hx; simp [hx])]
  case makeMap t r =>
    cases r with
    | none => rfl
    | some x => simp only [Option.toArray_some] at h; simp only; rw [h x (by simp)]
  case slice t x lo hi mx =>
    have e0 := h x (by simp)
    have e1 : (lo.elim (some none) fun a => (evalO K regs2 a).map some) = lo.elim (some none) fun a => (evalO K regs a).map some := by
      cases lo with
      | none => rfl
      | some y => simp only [Option.elim]; rw [h y (by simp)]
    have e2 : (hi.elim (some none) fun a => (evalO K regs2 a).map some) = hi.elim (some none) fun a => (evalO K regs a).map some := by
      cases hi with
      | none => rfl
      | some y => simp only [Option.elim]; rw [h y (by simp)]
    have e3 : (mx.elim (some none) fun a => (evalO K regs2 a).map some) = mx.elim (some none) fun a => (evalO K regs a).map some := by
      cases mx with
      | none => rfl
      | some y => simp only [Option.elim]; rw [h y (by simp)]
    rw [e0, e1, e2, e3]
  case call c =>
    have ha := mapO_congr (l := c.args.toList) (f := evalO K regs2) (g := evalO K regs) fun x hx => h x (by simp at hx; simp [Call.operands, hx])
    rw [ha]
    have hb : ∀ s', aBuiltin K f { regs := regs2, own := own, H := H } (dst.getD 0) = aBuiltin K f { regs := regs, own := own, H := H } (dst.getD 0) ∨ s' = (0 : Nat) := fun _ => .inl rfl
    split
    · rfl
    · split
      · rfl
      · rename_i r name hc
        rw [h r (by simp [Call.operands, hc])]
      · rename_i r hc
        rw [h r (by simp [Call.operands, hc])]
  all_goals first
    | rfl
    | (rw [h _ (by simp)]; done)
    | (rw [h _ (by simp)]; rfl)
    | (rename_i x y _; rw [h x (by simp), h y (by simp)]; done)
    | (rename_i x y _; rw [h x (by simp), h y (by simp)]; rfl)
    | (rename_i x y; rw [h x (by simp), h y (by simp)]; done)
    | (rename_i x y; rw [h x (by simp), h y (by simp)]; rfl)
    | (rename_i x y z; rw [h x (by simp), h y (by simp), h z (by simp)]; done)
    | (rename_i x y z; rw [h x (by simp), h y (by simp), h z (by simp)]; rfl)
    | skip

def Free0 (m : (Nat → Nat) → List AB → E AN) (own : Nat → Nat) (H : List AB) (p : List Bool) (an : AN) (p' : List Bool) : Prop := ∃ x, an = .val x own H ∧ ∀ own2 H2, Ok (m own2 H2) p (.val x own2 H2) p'

theorem Free0.pure {own : Nat → Nat} {H : List AB} {x : AV} (h : Ok (Pure.pure (AN.val x own H) : E AN) p an p') : Free0 (fun own2 H2 => Pure.pure (.val x own2 H2)) own H p an p' := by
  rw [Ok_pure] at h
  obtain ⟨rfl, rfl⟩ := h
  exact ⟨x, rfl, fun _ _ => Ok_pure.2 ⟨rfl, rfl⟩⟩

theorem Free0.keep {regs : List AV} {own : Nat → Nat} {H : List AB} {x : Option AV} (h : Ok (aKeep ⟨regs, own, H⟩ x) p an p') : Free0 (fun own2 H2 => aKeep ⟨regs, own2, H2⟩ x) own H p an p' := by
  cases x with
  | none => exact absurd h Ok_fail
  | some x => exact Free0.pure h

theorem Free0.keepE {regs : List AV} {own : Nat → Nat} {H : List AB} {x : E AV} (h : Ok (aKeepE ⟨regs, own, H⟩ x) p an p') : Free0 (fun own2 H2 => aKeepE ⟨regs, own2, H2⟩ x) own H p an p' := by
  unfold aKeepE at h
  rw [Ok_bind] at h
  obtain ⟨y, q, h1, h2⟩ := h
  obtain ⟨z, e, hz⟩ := Free0.pure h2
  refine ⟨z, e, fun own2 H2 => ?_⟩
  unfold aKeepE
  rw [Ok_bind]
  exact ⟨y, q, h1, hz own2 H2⟩

theorem buildSlice_free {own : Nat → Nat} {H : List AB} {t : TypeId} {n : Nat} {ps : List (Nat × AV)} (h : aBuildSlice K false own H t n ps = some an) :
    ∃ x, an = .val x own H ∧ ∀ own2 H2, aBuildSlice K false own2 H2 t n ps = some (.val x own2 H2) := by
  unfold aBuildSlice at h ⊢
  split at h
  · split at h
    · simp only
      split at h
      · simp at h
      · rename_i hn
        split at h
        · simp at h
        · rename_i cs hcs
          simp only at h
          split at h
          · rename_i hcl
            simp only [Option.some.injEq] at h
            exact ⟨_, h.symm, fun own2 H2 => by rw [if_neg hn, if_pos hcl]⟩
          · simp at h
    · simp at h
  · simp at h

theorem aOp_free0 (h : Ok (aOp K f s o) p an p') (ht : touch K f o = 0) : Free0 (fun own2 H2 => aOp K f ⟨s.regs, own2, H2⟩ o) s.own s.H p an p' := by
  obtain ⟨regs, own, H⟩ := s
  obtain ⟨dst, op, type, pos, after, guard⟩ := o
  cases op <;> simp only [touch] at ht <;> simp only [aOp] at h ⊢
  case move x => split at h
                 · exact Free0.pure h
                 · exact absurd h Ok_fail
  case assign x => split at h
                   · exact Free0.pure h
                   · exact absurd h Ok_fail
  case pick c x y =>
    split at h
    · rw [Ok_bind] at h
      obtain ⟨t, q, h1, h2⟩ := h
      obtain ⟨z, e, hz⟩ := Free0.pure h2
      exact ⟨z, e, fun own2 H2 => Ok_bind.2 ⟨t, q, h1, hz own2 H2⟩⟩
    · exact absurd h Ok_fail
  case build t ps => split at h
                     · exact Free0.keep h
                     · exact absurd h Ok_fail
  case buildSlice t n ps =>
    split at h
    · have hc : K.chg f (dst.getD 0) = false := by
        cases hq : K.chg f (dst.getD 0) with
        | false => rfl
        | true => simp [hq] at ht
      rw [hc] at h ⊢
      rw [Ok_of] at h
      obtain ⟨h, rfl⟩ := h
      obtain ⟨x, rfl, hx⟩ := buildSlice_free h
      exact ⟨x, rfl, fun own2 H2 => Ok_of.2 ⟨hx own2 H2, rfl⟩⟩
    · exact absurd h Ok_fail
  case nilCheck x => split at h
                     · exact Free0.pure h
                     · exact Free0.pure h
                     · exact Free0.pure h
                     · exact Free0.pure h
                     · exact absurd h Ok_fail
  case binOp => split at h
                · exact Free0.keepE h
                · exact absurd h Ok_fail
  case unOp => split at h
               · exact Free0.keep h
               · exact absurd h Ok_fail
  case makeInterface t x =>
    split at h
    · exact absurd h Ok_fail
    · exact Free0.pure h
    · exact absurd h Ok_fail
  case makeFunc => split at h
                   · exact Free0.pure h
                   · exact absurd h Ok_fail
  case fieldAddr => split at h
                    · exact Free0.keep h
                    · exact absurd h Ok_fail
  case field => split at h
                · exact Free0.keep h
                · exact absurd h Ok_fail
  case indexAddr => split at h
                    · exact Free0.keepE h
                    · exact absurd h Ok_fail
  case index => split at h
                · exact Free0.keepE h
                · exact absurd h Ok_fail
  case typeAssert => split at h
                     · exact Free0.keep h
                     · exact absurd h Ok_fail
  case extract => split at h
                  · exact Free0.keep h
                  · exact absurd h Ok_fail
  case call c =>
    exfalso
    rcases c with ⟨callee, _⟩
    cases callee with
    | builtin b => cases b <;> simp at ht
    | _ => simp at ht
  all_goals simp at ht

def Free1 (m : (Nat → Nat) → E AN) (own : Nat → Nat) (H : List AB) (p : List Bool) (an : AN) (p' : List Bool) : Prop := ∃ x, an = .val x own H ∧ ∀ own2, Ok (m own2) p (.val x own2 H) p'

theorem Free0.one {m : (Nat → Nat) → List AB → E AN} {own : Nat → Nat} {H : List AB} (h : Free0 m own H p an p') : Free1 (fun own2 => m own2 H) own H p an p' := by
  obtain ⟨x, h1, h2⟩ := h
  exact ⟨x, h1, fun own2 => h2 own2 H⟩

theorem aBuiltin_free1 {regs : List AV} {own : Nat → Nat} {H : List AB} {site : Nat} {b : Builtin} {ts : List TypeId} {args : List AV} (hb : b = .len ∨ b = .min ∨ b = .max ∨ b = .unsafeSliceData) (h : Ok (aBuiltin K f ⟨regs, own, H⟩ site b ts args) p an p') :
    Free1 (fun own2 => aBuiltin K f ⟨regs, own2, H⟩ site b ts args) own H p an p' := by
  unfold aBuiltin at h ⊢
  split at h <;> first
    | (exfalso; simp at hb; done)
    | exact (Free0.keep h).one
    | exact (Free0.pure h).one
    | exact absurd h Ok_fail

theorem aOp_free1 (h : Ok (aOp K f s o) p an p') (ht : touch K f o = 1) : Free1 (fun own2 => aOp K f ⟨s.regs, own2, s.H⟩ o) s.own s.H p an p' := by
  obtain ⟨regs, own, H⟩ := s
  obtain ⟨dst, op, type, pos, after, guard⟩ := o
  cases op <;> simp only [touch] at ht <;> simp only [aOp] at h ⊢
  case buildSlice => split at ht <;> simp at ht
  case load => split at h
               · exact (Free0.keep h).one
               · exact absurd h Ok_fail
  case convert => split at h
                  · exact (Free0.keep h).one
                  · exact absurd h Ok_fail
  case lookup => split at h
                 · exact (Free0.keep h).one
                 · exact absurd h Ok_fail
  case entry => split at h
                · exact (Free0.keep h).one
                · exact absurd h Ok_fail
  case slice =>
    split at h
    · rw [Ok_bind] at h
      obtain ⟨y, q, h1, h2⟩ := h
      obtain ⟨z, e, hz⟩ := Free0.pure h2
      exact ⟨z, e, fun own2 => Ok_bind.2 ⟨y, q, h1, hz own2 H⟩⟩
    · exact absurd h Ok_fail
  case call c =>
    rcases c with ⟨callee, args, ats⟩
    cases callee with
    | builtin b =>
      cases b <;> simp at ht
      all_goals
        simp only at h ⊢
        split at h
        · exact absurd h Ok_fail
        · exact aBuiltin_free1 (by simp) h
    | _ => simp at ht
  all_goals simp at ht

theorem aOp_freeC {g : FuncId} {as : List AV} (h : Ok (aOp K f s o) p (.call g as) p') (ht : touch K f o = 3) (own2 : Nat → Nat) (H2 : List AB) : Ok (aOp K f ⟨s.regs, own2, H2⟩ o) p (.call g as) p' := by
  obtain ⟨regs, own, H⟩ := s
  obtain ⟨dst, op, type, pos, after, guard⟩ := o
  cases op <;> simp only [touch] at ht
  case buildSlice => split at ht <;> simp at ht
  case call c =>
    rcases c with ⟨callee, args, ats⟩
    cases callee with
    | builtin b => cases b <;> simp at ht
    | invoke r name => exact h
    | value r => exact h
  all_goals simp at ht
end
end Go.Tm
end
section
namespace Go.Tm

mutual
theorem same_eq : ∀ {x y : AV}, same x y = true → x = y := by
  intro x y h
  unfold same at h
  split at h
  · simp at h; simp [h]
  · simp at h; simp [h]
  · rfl
  · rfl
  · rfl
  · rfl
  · simp at h; simp [h]
  · rw [sameL_eq h]
  · simp at h; rw [h.1, sameL_eq h.2]
  · simp at h; simp [h]
  · simp at h; simp [h]
  · rw [sameL_eq h]
  · simp at h; simp [h]
  · simp at h; rw [h.1, same_eq h.2]
  · simp at h; rw [h.1.1, sameL_eq h.1.2, sameL_eq h.2]
  · rw [sameL_eq h]
  · simp at h
theorem sameL_eq : ∀ {x y : List AV}, sameL x y = true → x = y := by
  intro x y h
  unfold sameL at h
  split at h
  · rfl
  · simp at h; rw [same_eq h.1, sameL_eq h.2]
  · simp at h
end

def applyTr (e : Tr) (s : St) : St := { regs := putReg s.regs e.o.dst e.x, own := if e.k = 2 then e.s'.own else s.own, H := if e.k = 2 then e.s'.H else s.H }

section
variable {K : Cfg} {f : FuncId} {ops : Array Oper} {call : Orc}

def Fit (K : Cfg) (f : FuncId) (t : Tr) (H : List AB) : Prop := ∃ p p', Ok (aOp K f { t.s with H } t.o) p (.val t.x t.s.own H) p'

def OrcPure (K : Cfg) (call : Orc) : Prop := ∀ (f : FuncId) (args : List AV) (H : List AB) (p p' : List Bool) (r : AV) (H' : List AB), isPure K f args = true → Ok (call f args H) p (r, H') p' → H' = H ∧ ∀ H2, Ok (call f args H2) p (r, H2) p'

structure StepOk (K : Cfg) (ops : Array Oper) (f : FuncId) (i : Nat) (o : Oper) (m : Nat) (s : St) (e : Tr) : Prop where
  hi : e.i = i
  ho : e.o = o
  hm : e.bef = m
  hs : e.s = s
  hs' : e.s' = applyTr e s
  hk : e.k ≤ 2
  fit : e.k = 1 → Fit K f e s.H
  kind : e.k = 1 → e.run = true ∧ touch K f o = 1
  go : ∀ s2 : St, (∀ t ∈ namesOf ops o, nth s2.regs t = nth s.regs t) → (e.k = 2 → s2.H = s.H ∧ s2.own = s.own) → (e.k = 1 → Fit K f e s2.H) → ops[i]? = some o →
    ∀ (F : Fr) (a : Act) (w : World), Glob K F.g0 → Rel F s2 a w → ∀ (next : Act → World → Prop) (Q : Exit → Act → World → Prop), (∀ a' w', Rel F (applyTr e s2) a' w' → next a' w') → wpOp K.P ops Q i next a w

theorem names_eval {s s2 : St} {o : Oper} (h : ∀ t ∈ namesOf ops o, nth s2.regs t = nth s.regs t) : ∀ x ∈ o.op.operands, evalO K s2.regs x = evalO K s.regs x := by
  intro x hx
  cases x with
  | tmp t =>
    refine h t ?_
    simp only [namesOf, List.mem_append, List.mem_filterMap]
    exact .inr ⟨.tmp t, by simpa using hx, rfl⟩
  | _ => rfl

theorem names_yield {s s2 : St} {o : Oper} (h : ∀ t ∈ namesOf ops o, nth s2.regs t = nth s.regs t) {j : Nat} {want : Bool} (hg : o.guard = some (j, want)) : aYield s2.regs ops j = aYield s.regs ops j := by
  unfold aYield
  cases hd : (ops[j]?).bind (·.dst) with
  | none => rfl
  | some d =>
    have := h d (by simp [namesOf, hg, hd])
    simp only [this]

theorem trDo_ok (hc : OrcOk K call) (hp : OrcPure K call) {i : Nat} {o : Oper} {m : Nat} {s : St} {e : Tr} {p p' : List Bool} (h : Ok (aTrDo K call f i o m s) p e p') :
    e.i = i ∧ e.o = o ∧ e.bef = m ∧ e.s = s ∧ e.s' = applyTr e s ∧ e.k ≤ 2 ∧ (e.k = 1 → Fit K f e s.H) ∧ (e.k = 1 → e.run = true ∧ touch K f o = 1) ∧
    ∀ s2 : St, (∀ t ∈ namesOf ops o, nth s2.regs t = nth s.regs t) → (e.k = 2 → s2.H = s.H ∧ s2.own = s.own) → (e.k = 1 → Fit K f e s2.H) → ∃ q q', Ok (aDo K call f o s2) q (applyTr e s2) q' := by
  unfold aTrDo at h
  rw [Ok_bind] at h
  obtain ⟨an, p1, h1, h2⟩ := h
  have hregs : ∀ s2 : St, (∀ t ∈ namesOf ops o, nth s2.regs t = nth s.regs t) → aOp K f s2 o = aOp K f ⟨s.regs, s2.own, s2.H⟩ o := fun s2 hn => by
    have := aOp_regs (K := K) (f := f) (s := ⟨s.regs, s2.own, s2.H⟩) (o := o) (regs2 := s2.regs) (names_eval hn)
    exact this
  cases an with
  | val x own H =>
    simp only at h2
    rw [Ok_pure] at h2
    obtain ⟨rfl, _⟩ := h2
    rcases Nat.lt_or_ge (touch K f o) 2 with ht | ht
    · rcases Nat.eq_zero_or_pos (touch K f o) with h0 | h0
      · obtain ⟨y, hy, hz⟩ := aOp_free0 h1 h0
        simp only [AN.val.injEq] at hy
        obtain ⟨rfl, rfl, rfl⟩ := hy
        have hk : Nat.min (touch K f o) 2 = 0 := by rw [h0]; rfl
        refine ⟨rfl, rfl, rfl, rfl, ?_, ?_, ?_, ?_, ?_⟩
        · simp [applyTr, hk]
        · simp [hk]
        · simp [hk]
        · simp [hk]
        · intro s2 hn _ _
          refine ⟨p, p1, ?_⟩
          unfold aDo
          rw [Ok_bind, hregs s2 hn]
          exact ⟨_, p1, hz s2.own s2.H, Ok_pure.2 ⟨by simp [applyTr, hk], rfl⟩⟩
      · have h1' : touch K f o = 1 := by omega
        obtain ⟨y, hy, hz⟩ := aOp_free1 h1 h1'
        simp only [AN.val.injEq] at hy
        obtain ⟨rfl, rfl, rfl⟩ := hy
        have hk : Nat.min (touch K f o) 2 = 1 := by rw [h1']; rfl
        refine ⟨rfl, rfl, rfl, rfl, ?_, ?_, ?_, ?_, ?_⟩
        · simp [applyTr, hk]
        · simp [hk]
        · intro _; exact ⟨p, p1, h1⟩
        · intro _; exact ⟨rfl, h1'⟩
        · intro s2 hn _ hf
          obtain ⟨q, q', hq⟩ := hf hk
          obtain ⟨y, hy, hz⟩ := aOp_free1 hq h1'
          simp only [AN.val.injEq] at hy
          obtain ⟨rfl, _, _⟩ := hy
          refine ⟨q, q', ?_⟩
          unfold aDo
          rw [Ok_bind, hregs s2 hn]
          exact ⟨_, q', hz s2.own, Ok_pure.2 ⟨by simp [applyTr, hk], rfl⟩⟩
    · have hk : Nat.min (touch K f o) 2 = 2 := Nat.min_eq_right ht
      refine ⟨rfl, rfl, rfl, rfl, ?_, ?_, ?_, ?_, ?_⟩
      · simp [applyTr, hk]
      · simp [hk]
      · simp [hk]
      · simp [hk]
      · intro s2 hn h2 _
        obtain ⟨e1, e2⟩ := h2 hk
        refine ⟨p, p1, ?_⟩
        unfold aDo
        rw [Ok_bind, hregs s2 hn, e1, e2]
        exact ⟨_, p1, h1, Ok_pure.2 ⟨by simp [applyTr, hk], rfl⟩⟩
  | skip H =>
    simp only at h2
    rw [Ok_pure] at h2
    obtain ⟨rfl, _⟩ := h2
    refine ⟨rfl, rfl, rfl, rfl, ?_, ?_, ?_, ?_, ?_⟩
    · simp [applyTr]
    · simp
    · simp
    · simp
    · intro s2 hn h2 _
      obtain ⟨e1, e2⟩ := h2 rfl
      refine ⟨p, p1, ?_⟩
      unfold aDo
      rw [Ok_bind, hregs s2 hn, e1, e2]
      exact ⟨_, p1, h1, Ok_pure.2 ⟨by simp [applyTr, e2], rfl⟩⟩
  | call g args =>
    simp only at h2
    rw [Ok_bind] at h2
    obtain ⟨⟨r, H'⟩, p2, h3, h4⟩ := h2
    simp only at h4
    rw [Ok_pure] at h4
    obtain ⟨rfl, _⟩ := h4
    by_cases hpu : (touch K f o == 3 && isPure K g args) = true
    · simp only [Bool.and_eq_true, beq_iff_eq] at hpu
      obtain ⟨ht, hpure⟩ := hpu
      obtain ⟨rfl, hall⟩ := hp g args s.H p1 p2 r H' hpure h3
      have hk : (if (touch K f o == 3 && isPure K g args) = true then 0 else 2) = 0 := by simp [ht, hpure]
      rw [hk]
      refine ⟨rfl, rfl, rfl, rfl, ?_, ?_, ?_, ?_, ?_⟩
      · simp [applyTr, hk]
      · simp [hk]
      · simp [hk]
      · simp [hk]
      · intro s2 hn _ _
        refine ⟨p, p2, ?_⟩
        unfold aDo
        rw [Ok_bind, hregs s2 hn]
        refine ⟨_, p1, aOp_freeC h1 ht s2.own s2.H, ?_⟩
        simp only
        rw [Ok_bind]
        exact ⟨_, p2, hall s2.H, Ok_pure.2 ⟨by simp [applyTr, hk], rfl⟩⟩
    · have hk : (if (touch K f o == 3 && isPure K g args) = true then 0 else 2) = 2 := if_neg hpu
      rw [hk]
      refine ⟨rfl, rfl, rfl, rfl, ?_, ?_, ?_, ?_, ?_⟩
      · simp [applyTr, hk]
      · simp [hk]
      · simp [hk]
      · simp [hk]
      · intro s2 hn h2 _
        obtain ⟨e1, e2⟩ := h2 rfl
        refine ⟨p, p2, ?_⟩
        unfold aDo
        rw [Ok_bind, hregs s2 hn, e1, e2]
        refine ⟨_, p1, h1, ?_⟩
        simp only
        rw [Ok_bind]
        exact ⟨_, p2, h3, Ok_pure.2 ⟨by simp [applyTr], rfl⟩⟩

theorem skip_ok {i : Nat} {o : Oper} {m : Nat} {s : St} (hw : ∀ s2 : St, (∀ t ∈ namesOf ops o, nth s2.regs t = nth s.regs t) → ∀ (F : Fr) (a : Act) (w : World), Rel F s2 a w → Region.wanted o (yielded ops a.tmps) = false) : StepOk K ops f i o m s (aTrSkip i o m s) := by
  refine ⟨rfl, rfl, rfl, rfl, by simp [aTrSkip, applyTr], by simp [aTrSkip], by simp [aTrSkip], by simp [aTrSkip], ?_⟩
  intro s2 hn _ _ ho F a w hg hR next Q hnext
  unfold wpOp
  rw [ho]
  simp only
  rw [if_neg (by rw [hw s2 hn F a w hR]; simp)]
  refine hnext _ _ ?_
  have := hR.skipped (d := o.dst)
  have e : applyTr (aTrSkip i o m s) s2 = { s2 with regs := putReg s2.regs o.dst .undef } := by simp [aTrSkip, applyTr]
  rw [e]; exact this

theorem tr_ok (hc : OrcOk K call) (hp : OrcPure K call) {i : Nat} {o : Oper} {m : Nat} {s : St} {e : Tr} {p p' : List Bool} (h : Ok (aTr K call f ops i o m s) p e p') : StepOk K ops f i o m s e := by
  unfold aTr at h
  have doit : ∀ {p p' : List Bool}, Ok (aTrDo K call f i o m s) p e p' → (∀ s2 : St, (∀ t ∈ namesOf ops o, nth s2.regs t = nth s.regs t) → ∀ (F : Fr) (a : Act) (w : World), Rel F s2 a w → Region.wanted o (yielded ops a.tmps) = true) → StepOk K ops f i o m s e := by
    intro p p' h hw
    obtain ⟨a1, a2, a3, a4, a5, a6, a7, a8, a9⟩ := trDo_ok (ops := ops) hc hp h
    refine ⟨a1, a2, a3, a4, a5, a6, a7, a8, ?_⟩
    intro s2 hn h2 h1 ho F a w hg hR next Q hnext
    obtain ⟨q, q', hq⟩ := a9 s2 hn h2 h1
    unfold wpOp
    rw [ho]
    simp only
    rw [if_pos (hw s2 hn F a w hR)]
    exact .inl (aDo_ok hg hc hR hq fun a' w' q _ => hnext a' w' q)
  split at h
  · rename_i hgd
    exact doit h fun s2 _ F a w _ => by simp [Region.wanted, hgd]
  · rename_i j want hgd
    split at h
    · rename_i hy
      rw [Ok_pure] at h
      obtain ⟨rfl, _⟩ := h
      refine skip_ok fun s2 hn F a w hR => ?_
      simp [Region.wanted, hgd, yield_ok hR, names_yield hn hgd, hy]
    · rename_i b hy
      rw [Ok_bind] at h
      obtain ⟨t, p1, h1, h2⟩ := h
      have ht := Ok_branch h1
      subst ht
      split at h2
      · rename_i hb
        refine doit h2 fun s2 hn F a w hR => ?_
        simp [Region.wanted, hgd, yield_ok hR, names_yield hn hgd, hy]
        simpa using hb
      · rename_i hb
        rw [Ok_pure] at h2
        obtain ⟨rfl, _⟩ := h2
        refine skip_ok fun s2 hn F a w hR => ?_
        simp [Region.wanted, hgd, yield_ok hR, names_yield hn hgd, hy]
        simpa using hb
end
end Go.Tm
end
section
namespace Go.Tm

def TS (S : Nat → Bool) : List Tr → St → St
  | [], s => s
  | e :: r, s => TS S r (if S e.i = true then applyTr e s else s)

theorem nth_setAt {α : Type} (l : List α) (d t : Nat) (x : α) (h : d ≠ t) : nth (setAt l d x) t = nth l t := by
  rw [nth_eq, nth_eq, setAt_eq, List.getElem?_set_ne h]

theorem nth_setAt_eq {α : Type} (l m : List α) (d : Nat) (x : α) (h : nth l d = nth m d) : nth (setAt l d x) d = nth (setAt m d x) d := by
  rw [nth_eq, nth_eq, setAt_eq, setAt_eq, List.getElem?_set, List.getElem?_set]
  simp only [if_true]
  rw [nth_eq, nth_eq] at h
  by_cases h1 : d < l.length <;> by_cases h2 : d < m.length
  · simp [h1, h2]
  · rw [List.getElem?_eq_getElem h1, List.getElem?_eq_none (by omega)] at h; cases h
  · rw [List.getElem?_eq_getElem h2, List.getElem?_eq_none (by omega)] at h; cases h
  · simp [h1, h2]

theorem putReg_other {l : List AV} {d : Option Tmp} {x : AV} {t : Nat} (h : d ≠ some t) : nth (putReg l d x) t = nth l t := by
  cases d with
  | none => rfl
  | some d => exact nth_setAt l d t x (by rintro rfl; exact h rfl)

theorem putReg_same {l m : List AV} {d : Option Tmp} {x : AV} {t : Nat} (h : nth l t = nth m t) : nth (putReg l d x) t = nth (putReg m d x) t := by
  cases d with
  | none => exact h
  | some d =>
    by_cases e : d = t
    · subst e; exact nth_setAt_eq l m d x h
    · rw [putReg_other (by simp [e]), putReg_other (by simp [e])]; exact h

theorem putReg_comm {l : List AV} {d d' : Option Tmp} {x y : AV} (h : ∀ t, d = some t → d' ≠ some t) : putReg (putReg l d x) d' y = putReg (putReg l d' y) d x := by
  cases d with
  | none => cases d' <;> rfl
  | some d =>
    cases d' with
    | none => rfl
    | some d' =>
      have hne : d ≠ d' := fun e => h d rfl (by rw [e])
      simp only [putReg, setAt_eq]
      exact (List.set_comm _ _ hne).symm ▸ rfl

theorem TS_reg {S S' : Nat → Bool} {t : Nat} : ∀ {trs : List Tr} {s s' : St}, nth s.regs t = nth s'.regs t → (∀ e ∈ trs, e.o.dst = some t → S e.i = S' e.i) → nth (TS S trs s).regs t = nth (TS S' trs s').regs t
  | [], _, _, h, _ => h
  | e :: r, s, s', h, hw => by
    simp only [TS]
    refine TS_reg ?_ fun e' he' => hw e' (by simp [he'])
    by_cases hd : e.o.dst = some t
    · rw [hw e (by simp) hd]
      split
      · exact putReg_same h
      · exact h
    · have a1 : ∀ s : St, nth (if S e.i = true then applyTr e s else s).regs t = nth s.regs t := fun s => by
        split
        · exact putReg_other hd
        · rfl
      have a2 : ∀ s : St, nth (if S' e.i = true then applyTr e s else s).regs t = nth s.regs t := fun s => by
        split
        · exact putReg_other hd
        · rfl
      rw [a1, a2]; exact h

theorem apply_H {e : Tr} {s : St} (h : e.k = 2) : (applyTr e s).H = e.s'.H ∧ (applyTr e s).own = e.s'.own := by simp [applyTr, h]
theorem apply_H' {e : Tr} {s : St} (h : e.k ≠ 2) : (applyTr e s).H = s.H ∧ (applyTr e s).own = s.own := by simp [applyTr, h]

theorem TS_heap {S S' : Nat → Bool} : ∀ {trs : List Tr} {s s' : St}, s.H = s'.H ∧ s.own = s'.own → (∀ e ∈ trs, e.k = 2 → S e.i = S' e.i) → (TS S trs s).H = (TS S' trs s').H ∧ (TS S trs s).own = (TS S' trs s').own
  | [], _, _, h, _ => h
  | e :: r, s, s', h, hw => by
    simp only [TS]
    refine TS_heap ?_ fun e' he' => hw e' (by simp [he'])
    by_cases hk : e.k = 2
    · rw [hw e (by simp) hk]
      split
      · rw [(apply_H hk).1, (apply_H hk).2, (apply_H hk).1, (apply_H hk).2]; exact ⟨rfl, rfl⟩
      · exact h
    · have a1 : ∀ (b : Bool) (s : St), (if b = true then applyTr e s else s).H = s.H ∧ (if b = true then applyTr e s else s).own = s.own := fun b s => by
        split
        · exact apply_H' hk
        · exact ⟨rfl, rfl⟩
      rw [(a1 _ s).1, (a1 _ s).2, (a1 _ s').1, (a1 _ s').2]; exact h

theorem TS_none {S : Nat → Bool} : ∀ {trs : List Tr} {s : St}, (∀ e ∈ trs, e.k = 2 → S e.i = false) → (TS S trs s).H = s.H := by
  intro trs s h
  have := (TS_heap (S := S) (S' := fun _ => false) (trs := trs) (s := s) (s' := s) ⟨rfl, rfl⟩ h).1
  rw [this]
  clear this h
  induction trs generalizing s with
  | nil => rfl
  | cons e r ih => simp only [TS]; exact ih

def Chain : St → List Tr → St → Prop
  | s, [], s' => s = s'
  | s, e :: r, s' => e.s = s ∧ e.s' = applyTr e e.s ∧ Chain e.s' r s'

theorem Chain.all {S : Nat → Bool} : ∀ {trs : List Tr} {s s' : St}, Chain s trs s' → (∀ e ∈ trs, S e.i = true) → TS S trs s = s'
  | [], _, _, h, _ => h
  | e :: r, s, s', h, hS => by
    obtain ⟨rfl, h2, h3⟩ := h
    simp only [TS]
    rw [if_pos (hS e (by simp)), ← h2]
    exact Chain.all h3 fun e' he' => hS e' (by simp [he'])

theorem TS_last {S : Nat → Bool} : ∀ {trs : List Tr} {s s' : St}, (∃ e ∈ trs, e.k = 2 ∧ S e.i = true) → Chain s trs s' → ∃ e ∈ trs, e.k = 2 ∧ S e.i = true ∧ ∀ t : St, (TS S trs t).H = e.s'.H
  | [], _, _, h, _ => by obtain ⟨e, he, _⟩ := h; simp at he
  | e :: r, s, s', h, hc => by
    obtain ⟨_, h2, h3⟩ := hc
    by_cases hr : ∃ e' ∈ r, e'.k = 2 ∧ S e'.i = true
    · obtain ⟨e', he', a, b, c⟩ := TS_last hr h3
      exact ⟨e', by simp [he'], a, b, fun t => c _⟩
    · obtain ⟨e', he', a, b⟩ := h
      have hee : e' = e := by
        simp at he'
        rcases he' with rfl | he'
        · rfl
        · exact absurd ⟨e', he', a, b⟩ hr
      subst hee
      refine ⟨e', by simp, a, b, fun t => ?_⟩
      simp only [TS]
      rw [if_pos b, TS_none (fun e'' he'' hk => by
        cases hS : S e''.i with
        | false => rfl
        | true => exact absurd ⟨e'', he'', hk, hS⟩ hr), (apply_H a).1]

theorem TS_two {S S' : Nat → Bool} : ∀ {trs : List Tr} {s s' t t' : St}, Chain s trs s' → t.H = s.H → t'.H = s.H →
    (trs.Pairwise fun a b => a.k = 2 → b.k = 2 → (S b.i = true → S a.i = true) ∧ (S' b.i = true → S' a.i = true)) →
    (TS S trs t).H = (TS S' trs t').H ∨ (∃ e ∈ trs, e.k = 2 ∧ S e.i = false ∧ S' e.i = true ∧ e.s.H = (TS S trs t).H) ∨ (∃ e ∈ trs, e.k = 2 ∧ S e.i = true ∧ S' e.i = false ∧ e.s'.H = (TS S trs t).H)
  | [], s, s', t, t', _, h1, h2, _ => .inl (by simp only [TS]; rw [h1, h2])
  | e :: r, s, s', t, t', hc, h1, h2, hp => by
    obtain ⟨rfl, h3, h4⟩ := hc
    rw [List.pairwise_cons] at hp
    by_cases hk : e.k = 2
    · have he : (e.s').H = (applyTr e e.s).H := by rw [← h3]
      by_cases hS : S e.i = true <;> by_cases hS' : S' e.i = true
      · simp only [TS, if_pos hS, if_pos hS']
        have := TS_two (S := S) (S' := S') (t := applyTr e t) (t' := applyTr e t') h4 (apply_H hk).1 (apply_H hk).1 hp.2
        rcases this with q | ⟨e', he', q⟩ | ⟨e', he', q⟩
        · exact .inl q
        · exact .inr (.inl ⟨e', by simp [he'], q⟩)
        · exact .inr (.inr ⟨e', by simp [he'], q⟩)
      · right; right
        obtain ⟨e', he', a, b, c⟩ := TS_last (S := S) (trs := e :: r) (s := e.s) (s' := s') ⟨e, by simp, hk, hS⟩ ⟨rfl, h3, h4⟩
        refine ⟨e', he', a, b, ?_, (c t).symm⟩
        simp at he'
        rcases he' with rfl | he'
        · simpa using hS'
        · cases hq : S' e'.i with
          | false => rfl
          | true => exact absurd ((hp.1 e' he' hk a).2 hq) hS'
      · right; left
        refine ⟨e, by simp, hk, by simpa using hS, hS', ?_⟩
        rw [TS_none (fun e'' he'' hk'' => by
          simp at he''
          rcases he'' with rfl | he''
          · simpa using hS
          · cases hq : S e''.i with
            | false => rfl
            | true => exact absurd ((hp.1 e'' he'' hk hk'').1 hq) hS)]
        exact h1.symm
      · left
        rw [TS_none (fun e'' he'' hk'' => by
          simp at he''
          rcases he'' with rfl | he''
          · simpa using hS
          · cases hq : S e''.i with
            | false => rfl
            | true => exact absurd ((hp.1 e'' he'' hk hk'').1 hq) hS), TS_none (fun e'' he'' hk'' => by
          simp at he''
          rcases he'' with rfl | he''
          · simpa using hS'
          · cases hq : S' e''.i with
            | false => rfl
            | true => exact absurd ((hp.1 e'' he'' hk hk'').2 hq) hS')]
        rw [h1, h2]
    · have a1 : ∀ (b : Bool) (s : St), (if b = true then applyTr e s else s).H = s.H := fun b s => by
        split
        · exact (apply_H' hk).1
        · rfl
      simp only [TS]
      have he : e.s'.H = e.s.H := by rw [h3]; exact (apply_H' hk).1
      have := TS_two (S := S) (S' := S') (t := if S e.i = true then applyTr e t else t) (t' := if S' e.i = true then applyTr e t' else t') h4 (by rw [a1, h1, he]) (by rw [a1, h2, he]) hp.2
      rcases this with q | ⟨e', he', q⟩ | ⟨e', he', q⟩
      · exact .inl q
      · exact .inr (.inl ⟨e', by simp [he'], q⟩)
      · exact .inr (.inr ⟨e', by simp [he'], q⟩)

theorem apply_comm {a b : Tr} {s : St} (hd : ∀ t, a.o.dst = some t → b.o.dst ≠ some t) (hk : a.k = 2 → b.k = 2 → False) : applyTr b (applyTr a s) = applyTr a (applyTr b s) := by
  simp only [applyTr, St.mk.injEq]
  refine ⟨putReg_comm hd, ?_, ?_⟩ <;> by_cases h1 : a.k = 2 <;> by_cases h2 : b.k = 2 <;> simp [h1, h2]
  · exact (hk h1 h2).elim
  · exact (hk h1 h2).elim

theorem TS_after {S : Nat → Bool} {a : Tr} : ∀ {trs : List Tr} {s : St}, (∀ e ∈ trs, S e.i = true → (∀ t, a.o.dst = some t → e.o.dst ≠ some t) ∧ (a.k = 2 → e.k = 2 → False)) → TS S trs (applyTr a s) = applyTr a (TS S trs s)
  | [], _, _ => rfl
  | e :: r, s, h => by
    simp only [TS]
    by_cases hS : S e.i = true
    · rw [if_pos hS, if_pos hS]
      obtain ⟨h1, h2⟩ := h e (by simp) hS
      rw [apply_comm h1 h2]
      exact TS_after fun e' he' => h e' (by simp [he'])
    · rw [if_neg hS, if_neg hS]
      exact TS_after fun e' he' => h e' (by simp [he'])

theorem TS_congr {S S' : Nat → Bool} : ∀ {trs : List Tr} {s : St}, (∀ e ∈ trs, S e.i = S' e.i) → TS S trs s = TS S' trs s
  | [], _, _ => rfl
  | e :: r, s, h => by
    simp only [TS]
    rw [h e (by simp)]
    exact TS_congr fun e' he' => h e' (by simp [he'])

theorem TS_append {S : Nat → Bool} : ∀ {a b : List Tr} {s : St}, TS S (a ++ b) s = TS S b (TS S a s)
  | [], _, _ => rfl
  | e :: r, b, s => by simp only [List.cons_append, TS]; exact TS_append
end Go.Tm
end
section
namespace Go.Tm
section
variable {K : Cfg} {f : FuncId} {ops : Array Oper} {call : Orc}

def PairOk (K : Cfg) (f : FuncId) (ops : Array Oper) (a b : Tr) : Prop :=
  apartTr ops a b = true ∧ (a.k = 2 → b.k = 2 → False) ∧ (a.k = 1 → b.k = 2 → Fit K f a b.s.H ∧ Fit K f a b.s'.H) ∧ (a.k = 2 → b.k = 1 → Fit K f b a.s.H ∧ Fit K f b a.s'.H)

theorem fit_ok {t : Tr} (ht : touch K f t.o = 1) {H : List AB} {p p' : List Bool} {u : Unit} (h : Ok (aFit K f t H) p u p') : Fit K f t H := by
  unfold aFit at h
  rw [Ok_bind] at h
  obtain ⟨an, p1, h1, h2⟩ := h
  obtain ⟨x, rfl, _⟩ := aOp_free1 h1 ht
  simp only at h2
  rw [Ok_chk] at h2
  obtain ⟨hs, _⟩ := h2
  have := same_eq hs
  subst this
  exact ⟨p, p1, h1⟩

theorem pair_ok {a b : Tr} (ha : a.k ≤ 2) (hb : b.k ≤ 2) (ka : a.k = 1 → touch K f a.o = 1) (kb : b.k = 1 → touch K f b.o = 1) {p p' : List Bool} {u : Unit} (h : Ok (aPair K f ops a b) p u p') : b.bef.testBit a.i = true ∨ PairOk K f ops a b := by
  unfold aPair at h
  split at h
  · rename_i hq; exact .inl hq
  · right
    rw [Ok_bind] at h
    obtain ⟨u1, p1, h1, h2⟩ := h
    rw [Ok_chk] at h1
    refine ⟨h1.1, ?_⟩
    have hA : a.k = 0 ∨ a.k = 1 ∨ a.k = 2 := by omega
    have hB : b.k = 0 ∨ b.k = 1 ∨ b.k = 2 := by omega
    rcases hA with e1 | e1 | e1 <;> rcases hB with e2 | e2 | e2 <;> simp only [e1, e2] at h2 ⊢
    · simp
    · simp
    · simp
    · simp
    · simp
    · rw [Ok_bind] at h2
      obtain ⟨_, p2, h3, h4⟩ := h2
      exact ⟨by simp, fun _ _ => ⟨fit_ok (ka e1) h3, fit_ok (ka e1) h4⟩, by simp⟩
    · simp
    · rw [Ok_bind] at h2
      obtain ⟨_, p2, h3, h4⟩ := h2
      exact ⟨by simp, by simp, fun _ _ => ⟨fit_ok (kb e2) h3, fit_ok (kb e2) h4⟩⟩
    · exact absurd h2 Ok_fail

theorem pairs_ok {b : Tr} (hb : b.k ≤ 2) (kb : b.k = 1 → touch K f b.o = 1) : ∀ {acc : List Tr} {p p' : List Bool} {u : Unit}, (∀ a ∈ acc, a.k ≤ 2 ∧ (a.k = 1 → touch K f a.o = 1)) → Ok (aPairs K f ops acc b) p u p' → ∀ a ∈ acc, b.bef.testBit a.i = true ∨ PairOk K f ops a b
  | [], _, _, _, _, _, a, h => by simp at h
  | x :: r, p, p', u, hk, h, a, ha => by
    simp only [aPairs] at h
    rw [Ok_bind] at h
    obtain ⟨_, p1, h1, h2⟩ := h
    simp at ha
    rcases ha with rfl | ha
    · exact pair_ok (hk a (by simp)).1 hb (hk a (by simp)).2 kb h1
    · exact pairs_ok hb kb (fun y hy => hk y (by simp [hy])) h2 a ha

theorem befOf_bits {befs : List Nat} : ∀ {l : List Edge} {m r : Nat}, befOf befs l m = some r → (∀ b, r.testBit b = true → m.testBit b = true ∨ ∃ ed ∈ l, Region.binds .any ed = true ∧ (b = ed.on ∨ ∃ m', befs[ed.on]? = some m' ∧ m'.testBit b = true)) ∧
    (∀ ed ∈ l, Region.binds .any ed = true → ed.on < befs.length)
  | [], m, r, h => by simp [befOf] at h; subst h; exact ⟨fun b hb => .inl hb, by simp⟩
  | e :: l, m, r, h => by
    simp only [befOf] at h
    split at h
    · rename_i hb
      rw [nth_eq] at h
      split at h
      · rename_i m' hm'
        obtain ⟨h1, h2⟩ := befOf_bits h
        refine ⟨fun b hb' => ?_, fun ed hed hbd => ?_⟩
        · rcases h1 b hb' with q | ⟨ed, q1, q2, q3⟩
          · rw [Nat.testBit_or, Nat.testBit_or] at q
            simp only [Bool.or_eq_true] at q
            rcases q with (q | q) | q
            · exact .inl q
            · right
              refine ⟨e, by simp, hb, .inl ?_⟩
              have := Nat.testBit_two_pow (n := e.on) (m := b)
              rw [this] at q
              simpa [eq_comm] using q
            · exact .inr ⟨e, by simp, hb, .inr ⟨m', hm', q⟩⟩
          · exact .inr ⟨ed, by simp [q1], q2, q3⟩
        · simp at hed
          rcases hed with rfl | hed
          · exact (List.getElem?_eq_some_iff.1 hm').1
          · exact h2 ed hed hbd
      · simp at h
    · rename_i hb
      obtain ⟨h1, h2⟩ := befOf_bits h
      refine ⟨fun b hb' => ?_, fun ed hed hbd => ?_⟩
      · rcases h1 b hb' with q | ⟨ed, q1, q2, q3⟩
        · exact .inl q
        · exact .inr ⟨ed, by simp [q1], q2, q3⟩
      · simp at hed
        rcases hed with rfl | hed
        · rw [hbd] at hb; cases hb
        · exact h2 ed hed hbd

structure WfL (K : Cfg) (f : FuncId) (ops : Array Oper) (s0 : St) (befs : List Nat) (trs : List Tr) (s : St) : Prop where
  len : befs.length = trs.length
  pos : ∀ (j : Nat) (e : Tr), trs[j]? = some e → ∃ o m, ops[j]? = some o ∧ befs[j]? = some m ∧ befOf (befs.take j) o.after.toList 0 = some m ∧ StepOk K ops f j o m e.s e
  chain : Chain s0 trs s
  pair : ∀ (i j : Nat) (a b : Tr), i < j → trs[i]? = some a → trs[j]? = some b → b.bef.testBit i = true ∨ PairOk K f ops a b

theorem Chain.snoc : ∀ {trs : List Tr} {s0 s : St} {e : Tr}, Chain s0 trs s → e.s = s → e.s' = applyTr e e.s → Chain s0 (trs ++ [e]) e.s'
  | [], s0, s, e, h, h1, h2 => by
    simp only [Chain] at h
    subst h
    exact ⟨h1, h2, rfl⟩
  | x :: r, s0, s, e, h, h1, h2 => ⟨h.1, h.2.1, Chain.snoc h.2.2 h1 h2⟩

theorem drawn_wf (hc : OrcOk K call) (hp : OrcPure K call) {s0 : St} : ∀ {rest : List Oper} {befs : List Nat} {acc : List Tr} {s s' : St} {p p' : List Bool}, (∀ j, rest[j]? = ops[acc.length + j]?) → WfL K f ops s0 befs acc s → Ok (aDrawn K call f ops rest befs acc s) p s' p' →
    ∃ befs' trs, WfL K f ops s0 befs' trs s' ∧ trs.length = acc.length + rest.length
  | [], befs, acc, s, s', p, p', _, wf, h => by
    simp only [aDrawn] at h
    rw [Ok_pure] at h
    obtain ⟨rfl, _⟩ := h
    exact ⟨befs, acc, wf, by simp⟩
  | o :: rest, befs, acc, s, s', p, p', hops, wf, h => by
    simp only [aDrawn] at h
    split at h
    · exact absurd h Ok_fail
    · rename_i m hm
      rw [Ok_bind] at h
      obtain ⟨t, p1, h1, h2⟩ := h
      rw [Ok_bind] at h2
      obtain ⟨u, p2, h2, h3⟩ := h2
      have st : StepOk K ops f acc.length o m s t := tr_ok hc hp h1
      have hprev : ∀ a ∈ acc, a.k ≤ 2 ∧ (a.k = 1 → touch K f a.o = 1) := fun a ha => by
        obtain ⟨j, hj⟩ := List.mem_iff_getElem?.1 ha
        obtain ⟨o', m', _, _, _, q⟩ := wf.pos j a hj
        exact ⟨q.hk, fun e => by rw [q.ho]; exact (q.kind e).2⟩
      have hpairs := pairs_ok st.hk (fun e => by rw [st.ho]; exact (st.kind e).2) hprev h2
      have hlast : ∀ (j : Nat) (e : Tr), (acc ++ [t])[j]? = some e → (j < acc.length ∧ acc[j]? = some e) ∨ (j = acc.length ∧ e = t) := fun j e he => by
        rw [List.getElem?_append] at he
        split at he
        · exact .inl ⟨‹_›, he⟩
        · right
          rcases Nat.eq_zero_or_pos (j - acc.length) with h0 | h0
          · rw [h0] at he; simp at he; exact ⟨by omega, he.symm⟩
          · rw [List.getElem?_eq_none (by simp; omega)] at he; simp at he
      have wf' : WfL K f ops s0 (befs ++ [m]) (acc ++ [t]) t.s' := by
        refine ⟨by simp [wf.len], fun j e he => ?_, wf.chain.snoc st.hs (by rw [st.hs', st.hs]), fun i j a b hij ha hb => ?_⟩
        · rcases hlast j e he with ⟨hj, he'⟩ | ⟨rfl, rfl⟩
          · obtain ⟨o', m', q1, q2, q3, q4⟩ := wf.pos j e he'
            refine ⟨o', m', q1, ?_, ?_, q4⟩
            · rw [List.getElem?_append, if_pos (by rw [wf.len]; exact hj)]; exact q2
            · rw [List.take_append_of_le_length (by rw [wf.len]; omega)]; exact q3
          · refine ⟨o, m, ?_, ?_, ?_, ?_⟩
            · have := hops 0
              simpa using this.symm
            · rw [← wf.len]; simp
            · rw [← wf.len]
              rw [List.take_append_of_le_length (by omega), List.take_length]; exact hm
            · rw [st.hs]; exact st
        · rcases hlast j b hb with ⟨hj, hb'⟩ | ⟨rfl, rfl⟩
          · rcases hlast i a ha with ⟨hi, ha'⟩ | ⟨rfl, _⟩
            · exact wf.pair i j a b hij ha' hb'
            · omega
          · rcases hlast i a ha with ⟨hi, ha'⟩ | ⟨rfl, _⟩
            · have := hpairs a (List.mem_of_getElem? ha')
              obtain ⟨o', m', _, _, _, q⟩ := wf.pos i a ha'
              rw [q.hi] at this
              exact this
            · omega
      obtain ⟨befs', trs, w1, w2⟩ := drawn_wf hc hp (fun j => by
        have := hops (j + 1)
        simp only [List.getElem?_cons_succ, List.length_append, List.length_cons, List.length_nil] at this ⊢
        rw [this]
        congr 1; omega) wf' h3
      exact ⟨befs', trs, w1, by rw [w2]; simp; omega⟩
end
end Go.Tm
end
section
namespace Go.Tm
section
variable {K : Cfg} {f : FuncId} {ops : Array Oper} {s0 s' : St} {befs : List Nat} {trs : List Tr}

def Down (ops : Array Oper) (S : Nat → Bool) : Prop := ∀ (j : Nat) (o : Oper), ops[j]? = some o → S j = true → ∀ ed ∈ o.after, Region.binds .any ed = true → S ed.on = true

theorem bits_done (wf : WfL K f ops s0 befs trs s') {S : Nat → Bool} (hD : Down ops S) (hlen : trs.length = ops.size) : ∀ (j : Nat) (e : Tr) (o : Oper), trs[j]? = some e → ops[j]? = some o → (∀ ed ∈ o.after, Region.binds .any ed = true → S ed.on = true) → ∀ b, e.bef.testBit b = true → S b = true := by
  intro j
  induction j using Nat.strongRecOn with
  | _ j ih =>
    intro e o he ho hed b hb
    obtain ⟨o', m, q1, q2, q3, q4⟩ := wf.pos j e he
    rw [ho] at q1; cases q1
    rw [q4.hm] at hb
    obtain ⟨h1, h2⟩ := befOf_bits q3
    rcases h1 b hb with h0 | ⟨ed, r1, r2, r3⟩
    · simp at h0
    · have hmem : ed ∈ o.after := by simpa using r1
      have hlt : ed.on < j := by
        have := h2 ed r1 r2
        simp at this; omega
      rcases r3 with rfl | ⟨m', hm', hb'⟩
      · exact hed ed hmem r2
      · have hS := hed ed hmem r2
        have hjlt : j < trs.length := (List.getElem?_eq_some_iff.1 he).1
        have he' : trs[ed.on]? = some trs[ed.on] := List.getElem?_eq_getElem (by omega)
        obtain ⟨o2, m2, w1, w2, w3, w4⟩ := wf.pos ed.on _ he'
        rw [List.getElem?_take, if_pos hlt, w2] at hm'
        cases hm'
        refine ih ed.on hlt _ o2 he' w1 (hD ed.on o2 w1 hS) b ?_
        rw [w4.hm]; exact hb'

theorem mem_idx (wf : WfL K f ops s0 befs trs s') {e : Tr} (he : e ∈ trs) : trs[e.i]? = some e := by
  obtain ⟨j, hj⟩ := List.mem_iff_getElem?.1 he
  obtain ⟨o, m, _, _, _, q⟩ := wf.pos j e hj
  rw [q.hi]; exact hj

theorem Chain.split : ∀ {pre post : List Tr} {e : Tr} {s0 s' : St}, Chain s0 (pre ++ e :: post) s' → Chain s0 pre e.s
  | [], post, e, s0, s', h => h.1.symm
  | x :: r, post, e, s0, s', h => ⟨h.1, h.2.1, Chain.split h.2.2⟩

theorem TS_false {S : Nat → Bool} : ∀ {trs : List Tr} {s : St}, (∀ e ∈ trs, S e.i = false) → TS S trs s = s
  | [], _, _ => rfl
  | e :: r, s, h => by
    simp only [TS]
    rw [if_neg (by rw [h e (by simp)]; simp)]
    exact TS_false fun e' he' => h e' (by simp [he'])

theorem at_idx (wf : WfL K f ops s0 befs trs s') {i : Nat} {e : Tr} (he : trs[i]? = some e) : ∃ pre post, trs = pre ++ e :: post ∧ (∀ x ∈ pre, x.i < i) ∧ (∀ x ∈ post, i < x.i) ∧ e.s = TS (fun j => decide (j < i)) trs s0 := by
  have hi : i < trs.length := (List.getElem?_eq_some_iff.1 he).1
  have hei : trs[i] = e := (List.getElem?_eq_some_iff.1 he).2
  have hsplit : trs = trs.take i ++ e :: trs.drop (i + 1) := by
    rw [← hei, ← List.drop_eq_getElem_cons hi, List.take_append_drop]
  have hpre : ∀ x ∈ trs.take i, x.i < i := fun x hx => by
    obtain ⟨j, hj⟩ := List.mem_iff_getElem?.1 hx
    rw [List.getElem?_take] at hj
    split at hj
    · obtain ⟨_, _, _, _, _, q⟩ := wf.pos j x hj
      rw [q.hi]; assumption
    · simp at hj
  have hpost : ∀ x ∈ trs.drop (i + 1), i < x.i := fun x hx => by
    obtain ⟨j, hj⟩ := List.mem_iff_getElem?.1 hx
    rw [List.getElem?_drop] at hj
    obtain ⟨_, _, _, _, _, q⟩ := wf.pos _ x hj
    rw [q.hi]; omega
  refine ⟨trs.take i, trs.drop (i + 1), hsplit, hpre, hpost, ?_⟩
  have hc := wf.chain
  rw [hsplit] at hc
  have h1 := Chain.split hc
  have h2 := h1.all (S := fun j => decide (j < i)) fun x hx => by simpa using hpre x hx
  obtain ⟨_, _, _, _, _, q⟩ := wf.pos i e he
  conv => rhs; rw [hsplit]
  rw [TS_append, h2]
  simp only [TS]
  rw [if_neg (by rw [q.hi]; simp), TS_false fun x hx => by have := hpost x hx; simp; omega]

theorem apart_dst {a b : Tr} (h : apartTr ops a b = true) : (∀ t, a.o.dst = some t → t ∉ namesOf ops b.o) ∧ (∀ t, b.o.dst = some t → t ∉ namesOf ops a.o) := by
  simp only [apartTr, Bool.and_eq_true] at h
  refine ⟨fun t ht => ?_, fun t ht => ?_⟩
  · rw [ht] at h; simpa using h.1
  · rw [ht] at h; simpa using h.2

theorem dst_names {o : Oper} {t : Nat} (h : o.dst = some t) : t ∈ namesOf ops o := by simp [namesOf, h]

theorem ready_ok (wf : WfL K f ops s0 befs trs s') (hlen : trs.length = ops.size) {S : Nat → Bool} (hD : Down ops S) {i : Nat} {o : Oper} (ho : ops[i]? = some o) (hi : S i = false) (hed : ∀ ed ∈ o.after, Region.binds .any ed = true → S ed.on = true) :
    ∃ e, trs[i]? = some e ∧ e.o = o ∧ (∀ t ∈ namesOf ops o, nth (TS S trs s0).regs t = nth e.s.regs t) ∧ (e.k = 2 → (TS S trs s0).H = e.s.H ∧ (TS S trs s0).own = e.s.own) ∧ (e.k = 1 → Fit K f e (TS S trs s0).H) ∧
      ∀ S2 : Nat → Bool, S2 i = true → (∀ j, j ≠ i → S2 j = S j) → TS S2 trs s0 = applyTr e (TS S trs s0) := by
  have hilt : i < trs.length := by rw [hlen]; exact (Array.getElem?_eq_some_iff.1 ho).1
  have he : trs[i]? = some trs[i] := List.getElem?_eq_getElem hilt
  generalize trs[i] = e at he
  obtain ⟨o', m, q1, q2, q3, q4⟩ := wf.pos i e he
  rw [ho] at q1; cases q1
  obtain ⟨pre, post, hsplit, hpre, hpost, hes⟩ := at_idx wf he
  -- whom comes ahead is done; who comes behind is not
  have hbits := bits_done wf hD hlen i e o he ho hed
  have hbits' : ∀ (j : Nat) (b : Tr), trs[j]? = some b → S j = true → ∀ c, b.bef.testBit c = true → S c = true := fun j b hb hS => by
    obtain ⟨o2, m2, w1, _, _, _⟩ := wf.pos j b hb
    exact bits_done wf hD hlen j b o2 hb w1 (hD j o2 w1 hS)
  -- the others: ordered as the index says, or apart
  have early : ∀ (x : Tr), x ∈ trs → x.i < i → S x.i = true ∨ PairOk K f ops x e := fun x hx hlt => by
    rcases wf.pair x.i i x e hlt (mem_idx wf hx) he with h | h
    · exact .inl (hbits _ h)
    · exact .inr h
  have late : ∀ (x : Tr), x ∈ trs → i < x.i → S x.i = false ∨ PairOk K f ops e x := fun x hx hlt => by
    rcases wf.pair i x.i e x hlt he (mem_idx wf hx) with h | h
    · left
      cases hS : S x.i with
      | false => rfl
      | true =>
        have := hbits' x.i x (mem_idx wf hx) hS i h
        rw [hi] at this; cases this
    · exact .inr h
  have eo : e.o = o := q4.ho
  refine ⟨e, he, eo, fun t ht => ?_, fun hk => ?_, fun hk => ?_, fun S2 h2 h3 => ?_⟩
  · rw [hes]
    refine TS_reg rfl fun x hx hd => ?_
    rcases Nat.lt_trichotomy x.i i with hlt | heq | hlt
    · rcases early x hx hlt with h | h
      · rw [h]; simp [hlt]
      · exact absurd (by rw [eo]; exact ht) ((apart_dst h.1).1 t hd)
    · rw [heq, hi]; simp
    · rcases late x hx hlt with h | h
      · rw [h]; simp; omega
      · exact absurd (by rw [eo]; exact ht) ((apart_dst h.1).2 t hd)
  · rw [hes]
    refine TS_heap ⟨rfl, rfl⟩ fun x hx hx2 => ?_
    rcases Nat.lt_trichotomy x.i i with hlt | heq | hlt
    · rcases early x hx hlt with h | h
      · rw [h]; simp [hlt]
      · exact (h.2.1 hx2 hk).elim
    · rw [heq, hi]; simp
    · rcases late x hx hlt with h | h
      · rw [h]; simp; omega
      · exact (h.2.1 hk hx2).elim
  · have hpw : trs.Pairwise fun a b => a.k = 2 → b.k = 2 → (S b.i = true → S a.i = true) ∧ ((fun j => decide (j < i)) b.i = true → (fun j => decide (j < i)) a.i = true) := by
      rw [List.pairwise_iff_getElem]
      intro x y hx hy hxy ka kb
      have hxe := List.getElem?_eq_getElem hx
      have hye := List.getElem?_eq_getElem hy
      obtain ⟨_, _, _, _, _, wx⟩ := wf.pos x _ hxe
      obtain ⟨_, _, _, _, _, wy⟩ := wf.pos y _ hye
      rw [wx.hi, wy.hi]
      refine ⟨fun hS => ?_, fun h => ?_⟩
      · rcases wf.pair x y _ _ hxy hxe hye with h | h
        · exact hbits' y _ hye hS x h
        · exact (h.2.1 ka kb).elim
      · simp at h ⊢; omega
    rcases TS_two (S := S) (S' := fun j => decide (j < i)) (t := s0) (t' := s0) wf.chain rfl rfl hpw with h | ⟨x, hx, hx2, h1, h2, h3⟩ | ⟨x, hx, hx2, h1, h2, h3⟩
    · rw [h, ← hes]; exact q4.fit hk
    · have hlt : x.i < i := by simpa using h2
      rcases early x hx hlt with q | q
      · rw [h1] at q; cases q
      · rw [← h3]; exact (q.2.2.2 hx2 hk).1
    · have hge : ¬ x.i < i := by simpa using h2
      have hne : x.i ≠ i := fun q => by rw [q, hi] at h1; cases h1
      rcases late x hx (by omega) with q | q
      · rw [h1] at q; cases q
      · rw [← h3]; exact (q.2.2.1 hk hx2).2
  · conv => lhs; rw [hsplit]
    conv => rhs; rw [hsplit]
    rw [TS_append, TS_append]
    simp only [TS]
    rw [if_pos (by rw [q4.hi]; exact h2), if_neg (by rw [q4.hi, hi]; simp)]
    rw [TS_congr (S := S2) (S' := S) (trs := pre) fun x hx => h3 _ (by have := hpre x hx; omega)]
    rw [TS_congr (S := S2) (S' := S) (trs := post) fun x hx => h3 _ (by have := hpost x hx; omega)]
    refine TS_after fun x hx hS => ?_
    have hmem : x ∈ trs := by rw [hsplit]; simp [hx]
    rcases late x hmem (hpost x hx) with q | q
    · rw [hS] at q; cases q
    · exact ⟨fun t ht hd => (apart_dst q.1).1 t ht (dst_names hd), q.2.1⟩

def leftOver (n : Nat) (S : Nat → Bool) : List Nat := (List.range n).filter fun j => !S j

theorem leftOver_lt {n i : Nat} {S S2 : Nat → Bool} (hi : i < n) (h : S i = false) (h2 : S2 i = true) (h3 : ∀ j, j ≠ i → S2 j = S j) : (leftOver n S2).length < (leftOver n S).length := by
  have e : leftOver n S2 = (leftOver n S).filter fun j => j != i := by
    unfold leftOver
    rw [List.filter_filter]
    apply List.filter_congr
    intro j _
    by_cases hj : j = i
    · subst hj; simp [h2]
    · simp [hj, h3 j hj]
  rw [e]
  refine List.length_filter_lt_length_iff_exists.2 ⟨i, ?_, by simp⟩
  simp [leftOver, hi, h]

theorem all_done (wf : WfL K f ops s0 befs trs s') (hlen : trs.length = ops.size) {listed : Array Bool} (hsz : listed.size = ops.size) (hr : Region.ready .any ops listed = []) : ∀ j, j < ops.size → listed.getD j false = true := by
  intro j
  induction j using Nat.strongRecOn with
  | _ j ih =>
    intro hj
    cases hS : listed.getD j false with
    | true => rfl
    | false =>
      exfalso
      have he : trs[j]? = some trs[j] := List.getElem?_eq_getElem (by omega)
      obtain ⟨o, m, q1, q2, q3, q4⟩ := wf.pos j _ he
      obtain ⟨_, h2⟩ := befOf_bits q3
      have : j ∈ Region.ready .any ops listed := by
        rw [mem_ready]
        refine ⟨?_, o, q1, fun ed hed hb => ?_⟩
        · rw [Array.getD_eq_getD_getElem?, Array.getElem?_eq_getElem (by omega)] at hS ⊢
          simpa using hS
        · have := h2 ed (by simpa using hed) hb
          simp at this
          exact ih ed.on (by omega) (by omega)
      rw [hr] at this
      simp at this

theorem any_ok (wf : WfL K f ops s0 befs trs s') (hlen : trs.length = ops.size) {F : Fr} (hg : Glob K F.g0) {Q : Exit → Act → World → Prop} (hQ : ∀ a w, Rel F s' a w → Q .normal a w) :
    ∀ (fuel : Nat) (listed : Array Bool) (a : Act) (w : World), listed.size = ops.size → Down ops (fun j => listed.getD j false) → (leftOver ops.size fun j => listed.getD j false).length ≤ fuel → Rel F (TS (fun j => listed.getD j false) trs s0) a w → wpAny K.P .any ops Q fuel listed a w := by
  have fin : ∀ (listed : Array Bool) (a : Act) (w : World), (∀ j, j < ops.size → listed.getD j false = true) → Rel F (TS (fun j => listed.getD j false) trs s0) a w → Q .normal a w := fun listed a w hall hR => by
    rw [wf.chain.all fun e he => ?_] at hR
    · exact hQ a w hR
    · have := (List.getElem?_eq_some_iff.1 (mem_idx wf he)).1
      exact hall e.i (by omega)
  intro fuel
  induction fuel with
  | zero =>
    intro listed a w hsz hD hl hR
    have hnil : leftOver ops.size (fun j => listed.getD j false) = [] := List.length_eq_zero_iff.1 (by omega)
    have hall : ∀ j, j < ops.size → listed.getD j false = true := fun j hj => by
      have := List.filter_eq_nil_iff.1 hnil j (by simpa using hj)
      simpa using this
    refine ⟨?_, fin listed a w hall hR⟩
    apply List.eq_nil_iff_forall_not_mem.2
    intro j hj
    rw [mem_ready] at hj
    obtain ⟨h0, o, ho, _⟩ := hj
    have hjlt : j < ops.size := (Array.getElem?_eq_some_iff.1 ho).1
    have := hall j hjlt
    rw [Array.getD_eq_getD_getElem?, Array.getElem?_eq_getElem (by omega)] at this h0
    simp at this h0
    rw [h0] at this; cases this
  | succ fuel ih =>
    intro listed a w hsz hD hl hR
    refine ⟨fun hr => fin listed a w (all_done wf hlen hsz hr) hR, fun i hi => ?_⟩
    rw [mem_ready] at hi
    obtain ⟨h0, o, ho, hall⟩ := hi
    have hilt : i < ops.size := (Array.getElem?_eq_some_iff.1 ho).1
    have hSi : listed.getD i false = false := by
      rw [Array.getD_eq_getD_getElem?, Array.getElem?_eq_getElem (by omega)] at h0 ⊢
      simpa using h0
    obtain ⟨e, he, eo, h1, h2, h3, h4⟩ := ready_ok wf hlen hD ho hSi hall
    obtain ⟨o', m, q1, q2, q3, q4⟩ := wf.pos i e he
    rw [ho] at q1; cases q1
    have hset : ∀ j, (listed.setIfInBounds i true).getD j false = if j = i then true else listed.getD j false := fun j => by
      split
      · rename_i hj; subst hj
        simp [Array.getD_eq_getD_getElem?, hsz, hilt]
      · rename_i hj
        rw [getD_set_ne false (Ne.symm hj)]
    refine q4.go _ h1 h2 h3 ho F a w hg hR _ _ fun a' w' hR' => ?_
    refine ih (listed.setIfInBounds i true) a' w' (by simpa using hsz) ?_ ?_ ?_
    · intro j o2 ho2 hS ed hed hb
      have hS' := hset j
      simp only at hS
      rw [hS'] at hS
      have hon : listed.getD ed.on false = true := by
        split at hS
        · rename_i hj; subst hj
          rw [ho] at ho2; cases ho2
          exact hall ed hed hb
        · exact hD j o2 ho2 hS ed hed hb
      simp only
      rw [hset]
      split
      · rfl
      · exact hon
    · have := leftOver_lt (n := ops.size) (i := i) (S := fun j => listed.getD j false) (S2 := fun j => (listed.setIfInBounds i true).getD j false) hilt hSi (by rw [hset]; simp) (fun j hj => by rw [hset, if_neg hj])
      omega
    · rw [h4 (fun j => (listed.setIfInBounds i true).getD j false) (by rw [hset]; simp) (fun j hj => by rw [hset, if_neg hj])]
      exact hR'
end

theorem drawn_any {K : Cfg} {f : FuncId} {call : Orc} (hc : OrcOk K call) (hp : OrcPure K call) {F : Fr} (hg : Glob K F.g0) {ops : Array Oper} {s s' : St} {a : Act} {w : World} {p p' : List Bool} (hR : Rel F s a w)
    (h : Ok (aDrawn K call f ops ops.toList [] [] s) p s' p') {Q : Exit → Act → World → Prop} (hQ : ∀ a w, Rel F s' a w → Q .normal a w) : wpAny K.P .any ops Q ops.size (Array.replicate ops.size false) a { w with drawn := w.drawn + 1 } := by
  obtain ⟨befs, trs, wf, hlen⟩ := drawn_wf (s0 := s) (befs := []) (acc := []) (s := s) hc hp (by simp) ⟨rfl, by simp, by simp [Chain], by simp⟩ h
  simp at hlen
  have hnone : ∀ j, (Array.replicate ops.size false).getD j false = false := fun j => by
    rw [Array.getD_eq_getD_getElem?, Array.getElem?_replicate]
    split <;> rfl
  refine any_ok wf hlen hg hQ ops.size _ a _ (by simp) ?_ ?_ ?_
  · intro j o ho hS
    exact absurd ((hnone j).symm.trans hS) (by simp)
  · unfold leftOver
    exact Nat.le_trans (List.length_filter_le _ _) (by simp)
  · rw [TS_false fun e he => hnone _]
    obtain ⟨F', hF, hd, g, κ, hs, hr⟩ := hR
    exact ⟨F', hF, hd, g, κ, hs.drew, hr⟩
end Go.Tm
end
