/- The tree machine: regions whose order is drawn: what an operation's answer hangs on. -/
import Derived.Test.YtfihfpgphipglaaGreatDoorTmS15
set_option linter.unusedVariables false
set_option linter.unusedSimpArgs false
set_option linter.unusedSectionVars false
namespace Go.Tm
section
variable {K : Cfg} {s : St} {p p' : List Bool} {an : AN} {f : FuncId} {o : Oper}

theorem mapO_congr {α β : Type} {f g : α → Option β} : ∀ {l : List α}, (∀ x ∈ l, f x = g x) → mapO f l = mapO g l
  | [], _ => rfl
  | x :: l, h => by
    simp only [mapO]
    rw [h x (by simp), mapO_congr (l := l) fun y hy => h y (by simp [hy])]

theorem aOp_regs {regs2 : List AV} (h : ∀ x ∈ o.op.operands, evalO K regs2 x = evalO K s.regs x) : aOp K f { s with regs := regs2 } o = aOp K f s o := by
  obtain ⟨regs, own, H⟩ := s
  obtain ⟨dst, op, type, pos, after, guard⟩ := o
  have pairs : ∀ (ps : List (Nat × Operand)), (∀ q ∈ ps, evalO K regs2 q.2 = evalO K regs q.2) → mapO (fun p : Nat × Operand => (evalO K regs2 p.2).map fun x => (p.1, x)) ps = mapO (fun p : Nat × Operand => (evalO K regs p.2).map fun x => (p.1, x)) ps :=
    fun ps hp => mapO_congr fun q hq => by rw [hp q hq]
  cases op <;> simp only [Op.operands] at h <;> simp only [aOp]
  case build t ps => rw [pairs ps.toList fun q hq => h q.2 (by simp; exact ⟨q.1, by simpa using hq⟩)]; rfl
  case buildSlice t n ps => rw [pairs ps.toList fun q hq => h q.2 (by simp; exact ⟨q.1, by simpa using hq⟩)]
  case makeFunc fn first captured =>
    rw [mapO_congr (l := first.toList) fun x hx => h x (by simp at hx; simp [hx]), mapO_congr (l := captured.toList) fun x hx => h x (by simp at hx; simp [hx])]
  case makeMap t r =>
    cases r with
    | none => rfl
    | some x => simp only [Option.toArray_some] at h; simp only; rw [h x (by simp)]
  case slice t x lo hi mx =>
    have e0 := h x (by simp)
    have e1 : (lo.elim (some none) fun a => (evalO K regs2 a).map some) = lo.elim (some none) fun a => (evalO K regs a).map some := by
      cases lo with
      | none => rfl
      | some y => simp only [Option.elim]; rw [h y (by simp)]
    have e2 : (hi.elim (some none) fun a => (evalO K regs2 a).map some) = hi.elim (some none) fun a => (evalO K regs a).map some := by
      cases hi with
      | none => rfl
      | some y => simp only [Option.elim]; rw [h y (by simp)]
    have e3 : (mx.elim (some none) fun a => (evalO K regs2 a).map some) = mx.elim (some none) fun a => (evalO K regs a).map some := by
      cases mx with
      | none => rfl
      | some y => simp only [Option.elim]; rw [h y (by simp)]
    rw [e0, e1, e2, e3]
  case call c =>
    have ha := mapO_congr (l := c.args.toList) (f := evalO K regs2) (g := evalO K regs) fun x hx => h x (by simp at hx; simp [Call.operands, hx])
    rw [ha]
    have hb : ∀ s', aBuiltin K f { regs := regs2, own := own, H := H } (dst.getD 0) = aBuiltin K f { regs := regs, own := own, H := H } (dst.getD 0) ∨ s' = (0 : Nat) := fun _ => .inl rfl
    split
    · rfl
    · split
      · rfl
      · rename_i r name hc
        rw [h r (by simp [Call.operands, hc])]
      · rename_i r hc
        rw [h r (by simp [Call.operands, hc])]
  all_goals first
    | rfl
    | (rw [h _ (by simp)]; done)
    | (rw [h _ (by simp)]; rfl)
    | (rename_i x y _; rw [h x (by simp), h y (by simp)]; done)
    | (rename_i x y _; rw [h x (by simp), h y (by simp)]; rfl)
    | (rename_i x y; rw [h x (by simp), h y (by simp)]; done)
    | (rename_i x y; rw [h x (by simp), h y (by simp)]; rfl)
    | (rename_i x y z; rw [h x (by simp), h y (by simp), h z (by simp)]; done)
    | (rename_i x y z; rw [h x (by simp), h y (by simp), h z (by simp)]; rfl)
    | skip

/-- An answer that has nothing to do with changeable memory. -/
def Free0 (m : (Nat → Nat) → List AB → E AN) (own : Nat → Nat) (H : List AB) (p : List Bool) (an : AN) (p' : List Bool) : Prop := ∃ x, an = .val x own H ∧ ∀ own2 H2, Ok (m own2 H2) p (.val x own2 H2) p'

theorem Free0.pure {own : Nat → Nat} {H : List AB} {x : AV} (h : Ok (Pure.pure (AN.val x own H) : E AN) p an p') : Free0 (fun own2 H2 => Pure.pure (.val x own2 H2)) own H p an p' := by
  rw [Ok_pure] at h
  obtain ⟨rfl, rfl⟩ := h
  exact ⟨x, rfl, fun _ _ => Ok_pure.2 ⟨rfl, rfl⟩⟩

theorem Free0.keep {regs : List AV} {own : Nat → Nat} {H : List AB} {x : Option AV} (h : Ok (aKeep ⟨regs, own, H⟩ x) p an p') : Free0 (fun own2 H2 => aKeep ⟨regs, own2, H2⟩ x) own H p an p' := by
  cases x with
  | none => exact absurd h Ok_fail
  | some x => exact Free0.pure h

theorem Free0.keepE {regs : List AV} {own : Nat → Nat} {H : List AB} {x : E AV} (h : Ok (aKeepE ⟨regs, own, H⟩ x) p an p') : Free0 (fun own2 H2 => aKeepE ⟨regs, own2, H2⟩ x) own H p an p' := by
  unfold aKeepE at h
  rw [Ok_bind] at h
  obtain ⟨y, q, h1, h2⟩ := h
  obtain ⟨z, e, hz⟩ := Free0.pure h2
  refine ⟨z, e, fun own2 H2 => ?_⟩
  unfold aKeepE
  rw [Ok_bind]
  exact ⟨y, q, h1, hz own2 H2⟩

theorem buildSlice_free {own : Nat → Nat} {H : List AB} {t : TypeId} {n : Nat} {ps : List (Nat × AV)} (h : aBuildSlice K false own H t n ps = some an) :
    ∃ x, an = .val x own H ∧ ∀ own2 H2, aBuildSlice K false own2 H2 t n ps = some (.val x own2 H2) := by
  unfold aBuildSlice at h ⊢
  split at h
  · split at h
    · simp only
      split at h
      · simp at h
      · rename_i hn
        split at h
        · simp at h
        · rename_i cs hcs
          simp only at h
          split at h
          · rename_i hcl
            simp only [Option.some.injEq] at h
            exact ⟨_, h.symm, fun own2 H2 => by rw [if_neg hn, if_pos hcl]⟩
          · simp at h
    · simp at h
  · simp at h

theorem aOp_free0 (h : Ok (aOp K f s o) p an p') (ht : touch K f o = 0) : Free0 (fun own2 H2 => aOp K f ⟨s.regs, own2, H2⟩ o) s.own s.H p an p' := by
  obtain ⟨regs, own, H⟩ := s
  obtain ⟨dst, op, type, pos, after, guard⟩ := o
  cases op <;> simp only [touch] at ht <;> simp only [aOp] at h ⊢
  case move x => split at h
                 · exact Free0.pure h
                 · exact absurd h Ok_fail
  case assign x => split at h
                   · exact Free0.pure h
                   · exact absurd h Ok_fail
  case pick c x y =>
    split at h
    · rw [Ok_bind] at h
      obtain ⟨t, q, h1, h2⟩ := h
      obtain ⟨z, e, hz⟩ := Free0.pure h2
      exact ⟨z, e, fun own2 H2 => Ok_bind.2 ⟨t, q, h1, hz own2 H2⟩⟩
    · exact absurd h Ok_fail
  case build t ps => split at h
                     · exact Free0.keep h
                     · exact absurd h Ok_fail
  case buildSlice t n ps =>
    split at h
    · have hc : K.chg f (dst.getD 0) = false := by
        cases hq : K.chg f (dst.getD 0) with
        | false => rfl
        | true => simp [hq] at ht
      rw [hc] at h ⊢
      rw [Ok_of] at h
      obtain ⟨h, rfl⟩ := h
      obtain ⟨x, rfl, hx⟩ := buildSlice_free h
      exact ⟨x, rfl, fun own2 H2 => Ok_of.2 ⟨hx own2 H2, rfl⟩⟩
    · exact absurd h Ok_fail
  case nilCheck x => split at h
                     · exact Free0.pure h
                     · exact Free0.pure h
                     · exact Free0.pure h
                     · exact Free0.pure h
                     · exact absurd h Ok_fail
  case binOp => split at h
                · exact Free0.keepE h
                · exact absurd h Ok_fail
  case unOp => split at h
               · exact Free0.keep h
               · exact absurd h Ok_fail
  case makeInterface t x =>
    split at h
    · exact absurd h Ok_fail
    · exact Free0.pure h
    · exact absurd h Ok_fail
  case makeFunc => split at h
                   · exact Free0.pure h
                   · exact absurd h Ok_fail
  case fieldAddr => split at h
                    · exact Free0.keep h
                    · exact absurd h Ok_fail
  case field => split at h
                · exact Free0.keep h
                · exact absurd h Ok_fail
  case indexAddr => split at h
                    · exact Free0.keepE h
                    · exact absurd h Ok_fail
  case index => split at h
                · exact Free0.keepE h
                · exact absurd h Ok_fail
  case typeAssert => split at h
                     · exact Free0.keep h
                     · exact absurd h Ok_fail
  case extract => split at h
                  · exact Free0.keep h
                  · exact absurd h Ok_fail
  case call c =>
    exfalso
    rcases c with ⟨callee, _⟩
    cases callee with
    | builtin b => cases b <;> simp at ht
    | _ => simp at ht
  all_goals simp at ht

def Free1 (m : (Nat → Nat) → E AN) (own : Nat → Nat) (H : List AB) (p : List Bool) (an : AN) (p' : List Bool) : Prop := ∃ x, an = .val x own H ∧ ∀ own2, Ok (m own2) p (.val x own2 H) p'

theorem Free0.one {m : (Nat → Nat) → List AB → E AN} {own : Nat → Nat} {H : List AB} (h : Free0 m own H p an p') : Free1 (fun own2 => m own2 H) own H p an p' := by
  obtain ⟨x, h1, h2⟩ := h
  exact ⟨x, h1, fun own2 => h2 own2 H⟩

theorem aBuiltin_free1 {regs : List AV} {own : Nat → Nat} {H : List AB} {site : Nat} {b : Builtin} {ts : List TypeId} {args : List AV} (hb : b = .len ∨ b = .min ∨ b = .max ∨ b = .unsafeSliceData) (h : Ok (aBuiltin K f ⟨regs, own, H⟩ site b ts args) p an p') :
    Free1 (fun own2 => aBuiltin K f ⟨regs, own2, H⟩ site b ts args) own H p an p' := by
  unfold aBuiltin at h ⊢
  split at h <;> first
    | (exfalso; simp at hb; done)
    | exact (Free0.keep h).one
    | exact (Free0.pure h).one
    | exact absurd h Ok_fail

theorem aOp_free1 (h : Ok (aOp K f s o) p an p') (ht : touch K f o = 1) : Free1 (fun own2 => aOp K f ⟨s.regs, own2, s.H⟩ o) s.own s.H p an p' := by
  obtain ⟨regs, own, H⟩ := s
  obtain ⟨dst, op, type, pos, after, guard⟩ := o
  cases op <;> simp only [touch] at ht <;> simp only [aOp] at h ⊢
  case buildSlice => split at ht <;> simp at ht
  case load => split at h
               · exact (Free0.keep h).one
               · exact absurd h Ok_fail
  case convert => split at h
                  · exact (Free0.keep h).one
                  · exact absurd h Ok_fail
  case lookup => split at h
                 · exact (Free0.keep h).one
                 · exact absurd h Ok_fail
  case entry => split at h
                · exact (Free0.keep h).one
                · exact absurd h Ok_fail
  case slice =>
    split at h
    · rw [Ok_bind] at h
      obtain ⟨y, q, h1, h2⟩ := h
      obtain ⟨z, e, hz⟩ := Free0.pure h2
      exact ⟨z, e, fun own2 => Ok_bind.2 ⟨y, q, h1, hz own2 H⟩⟩
    · exact absurd h Ok_fail
  case call c =>
    rcases c with ⟨callee, args, ats⟩
    cases callee with
    | builtin b =>
      cases b <;> simp at ht
      all_goals
        simp only at h ⊢
        split at h
        · exact absurd h Ok_fail
        · exact aBuiltin_free1 (by simp) h
    | _ => simp at ht
  all_goals simp at ht

theorem aOp_freeC {g : FuncId} {as : List AV} (h : Ok (aOp K f s o) p (.call g as) p') (ht : touch K f o = 3) (own2 : Nat → Nat) (H2 : List AB) : Ok (aOp K f ⟨s.regs, own2, H2⟩ o) p (.call g as) p' := by
  obtain ⟨regs, own, H⟩ := s
  obtain ⟨dst, op, type, pos, after, guard⟩ := o
  cases op <;> simp only [touch] at ht
  case buildSlice => split at ht <;> simp at ht
  case call c =>
    rcases c with ⟨callee, args, ats⟩
    cases callee with
    | builtin b => cases b <;> simp at ht
    | invoke r name => exact h
    | value r => exact h
  all_goals simp at ht
end
end Go.Tm
