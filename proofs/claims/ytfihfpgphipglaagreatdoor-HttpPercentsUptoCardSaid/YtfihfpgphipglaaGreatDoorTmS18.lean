/- The tree machine: regions whose order is drawn, as a whole. -/
import Derived.Test.YtfihfpgphipglaaGreatDoorTmS17
set_option linter.unusedVariables false
set_option linter.unusedSimpArgs false
set_option linter.unusedSectionVars false
namespace Go.Tm

/-- The state in which just these operations are done. -/
def TS (S : Nat → Bool) : List Tr → St → St
  | [], s => s
  | e :: r, s => TS S r (if S e.i = true then applyTr e s else s)

theorem nth_setAt {α : Type} (l : List α) (d t : Nat) (x : α) (h : d ≠ t) : nth (setAt l d x) t = nth l t := by
  rw [nth_eq, nth_eq, setAt_eq, List.getElem?_set_ne h]

theorem nth_setAt_eq {α : Type} (l m : List α) (d : Nat) (x : α) (h : nth l d = nth m d) : nth (setAt l d x) d = nth (setAt m d x) d := by
  rw [nth_eq, nth_eq, setAt_eq, setAt_eq, List.getElem?_set, List.getElem?_set]
  simp only [if_true]
  rw [nth_eq, nth_eq] at h
  by_cases h1 : d < l.length <;> by_cases h2 : d < m.length
  · simp [h1, h2]
  · rw [List.getElem?_eq_getElem h1, List.getElem?_eq_none (by omega)] at h; cases h
  · rw [List.getElem?_eq_getElem h2, List.getElem?_eq_none (by omega)] at h; cases h
  · simp [h1, h2]

theorem putReg_other {l : List AV} {d : Option Tmp} {x : AV} {t : Nat} (h : d ≠ some t) : nth (putReg l d x) t = nth l t := by
  cases d with
  | none => rfl
  | some d => exact nth_setAt l d t x (by rintro rfl; exact h rfl)

theorem putReg_same {l m : List AV} {d : Option Tmp} {x : AV} {t : Nat} (h : nth l t = nth m t) : nth (putReg l d x) t = nth (putReg m d x) t := by
  cases d with
  | none => exact h
  | some d =>
    by_cases e : d = t
    · subst e; exact nth_setAt_eq l m d x h
    · rw [putReg_other (by simp [e]), putReg_other (by simp [e])]; exact h

theorem putReg_comm {l : List AV} {d d' : Option Tmp} {x y : AV} (h : ∀ t, d = some t → d' ≠ some t) : putReg (putReg l d x) d' y = putReg (putReg l d' y) d x := by
  cases d with
  | none => cases d' <;> rfl
  | some d =>
    cases d' with
    | none => rfl
    | some d' =>
      have hne : d ≠ d' := fun e => h d rfl (by rw [e])
      simp only [putReg, setAt_eq]
      exact (List.set_comm _ _ hne).symm ▸ rfl

/-- Where a temporary stands hangs on its writers alone. -/
theorem TS_reg {S S' : Nat → Bool} {t : Nat} : ∀ {trs : List Tr} {s s' : St}, nth s.regs t = nth s'.regs t → (∀ e ∈ trs, e.o.dst = some t → S e.i = S' e.i) → nth (TS S trs s).regs t = nth (TS S' trs s').regs t
  | [], _, _, h, _ => h
  | e :: r, s, s', h, hw => by
    simp only [TS]
    refine TS_reg ?_ fun e' he' => hw e' (by simp [he'])
    by_cases hd : e.o.dst = some t
    · rw [hw e (by simp) hd]
      split
      · exact putReg_same h
      · exact h
    · have a1 : ∀ s : St, nth (if S e.i = true then applyTr e s else s).regs t = nth s.regs t := fun s => by
        split
        · exact putReg_other hd
        · rfl
      have a2 : ∀ s : St, nth (if S' e.i = true then applyTr e s else s).regs t = nth s.regs t := fun s => by
        split
        · exact putReg_other hd
        · rfl
      rw [a1, a2]; exact h

theorem apply_H {e : Tr} {s : St} (h : e.k = 2) : (applyTr e s).H = e.s'.H ∧ (applyTr e s).own = e.s'.own := by simp [applyTr, h]
theorem apply_H' {e : Tr} {s : St} (h : e.k ≠ 2) : (applyTr e s).H = s.H ∧ (applyTr e s).own = s.own := by simp [applyTr, h]

/-- Where the memory stands hangs on the operations that change it alone. -/
theorem TS_heap {S S' : Nat → Bool} : ∀ {trs : List Tr} {s s' : St}, s.H = s'.H ∧ s.own = s'.own → (∀ e ∈ trs, e.k = 2 → S e.i = S' e.i) → (TS S trs s).H = (TS S' trs s').H ∧ (TS S trs s).own = (TS S' trs s').own
  | [], _, _, h, _ => h
  | e :: r, s, s', h, hw => by
    simp only [TS]
    refine TS_heap ?_ fun e' he' => hw e' (by simp [he'])
    by_cases hk : e.k = 2
    · rw [hw e (by simp) hk]
      split
      · rw [(apply_H hk).1, (apply_H hk).2, (apply_H hk).1, (apply_H hk).2]; exact ⟨rfl, rfl⟩
      · exact h
    · have a1 : ∀ (b : Bool) (s : St), (if b = true then applyTr e s else s).H = s.H ∧ (if b = true then applyTr e s else s).own = s.own := fun b s => by
        split
        · exact apply_H' hk
        · exact ⟨rfl, rfl⟩
      rw [(a1 _ s).1, (a1 _ s).2, (a1 _ s').1, (a1 _ s').2]; exact h

theorem TS_none {S : Nat → Bool} : ∀ {trs : List Tr} {s : St}, (∀ e ∈ trs, e.k = 2 → S e.i = false) → (TS S trs s).H = s.H := by
  intro trs s h
  have := (TS_heap (S := S) (S' := fun _ => false) (trs := trs) (s := s) (s' := s) ⟨rfl, rfl⟩ h).1
  rw [this]
  clear this h
  induction trs generalizing s with
  | nil => rfl
  | cons e r ih => simp only [TS]; exact ih

def Chain : St → List Tr → St → Prop
  | s, [], s' => s = s'
  | s, e :: r, s' => e.s = s ∧ e.s' = applyTr e e.s ∧ Chain e.s' r s'

theorem Chain.all {S : Nat → Bool} : ∀ {trs : List Tr} {s s' : St}, Chain s trs s' → (∀ e ∈ trs, S e.i = true) → TS S trs s = s'
  | [], _, _, h, _ => h
  | e :: r, s, s', h, hS => by
    obtain ⟨rfl, h2, h3⟩ := h
    simp only [TS]
    rw [if_pos (hS e (by simp)), ← h2]
    exact Chain.all h3 fun e' he' => hS e' (by simp [he'])

/-- The last that changed the memory. -/
theorem TS_last {S : Nat → Bool} : ∀ {trs : List Tr} {s s' : St}, (∃ e ∈ trs, e.k = 2 ∧ S e.i = true) → Chain s trs s' → ∃ e ∈ trs, e.k = 2 ∧ S e.i = true ∧ ∀ t : St, (TS S trs t).H = e.s'.H
  | [], _, _, h, _ => by obtain ⟨e, he, _⟩ := h; simp at he
  | e :: r, s, s', h, hc => by
    obtain ⟨_, h2, h3⟩ := hc
    by_cases hr : ∃ e' ∈ r, e'.k = 2 ∧ S e'.i = true
    · obtain ⟨e', he', a, b, c⟩ := TS_last hr h3
      exact ⟨e', by simp [he'], a, b, fun t => c _⟩
    · obtain ⟨e', he', a, b⟩ := h
      have hee : e' = e := by
        simp at he'
        rcases he' with rfl | he'
        · rfl
        · exact absurd ⟨e', he', a, b⟩ hr
      subst hee
      refine ⟨e', by simp, a, b, fun t => ?_⟩
      simp only [TS]
      rw [if_pos b, TS_none (fun e'' he'' hk => by
        cases hS : S e''.i with
        | false => rfl
        | true => exact absurd ⟨e'', he'', hk, hS⟩ hr), (apply_H a).1]

/-- Two ways to stand along one chain. -/
theorem TS_two {S S' : Nat → Bool} : ∀ {trs : List Tr} {s s' t t' : St}, Chain s trs s' → t.H = s.H → t'.H = s.H →
    (trs.Pairwise fun a b => a.k = 2 → b.k = 2 → (S b.i = true → S a.i = true) ∧ (S' b.i = true → S' a.i = true)) →
    (TS S trs t).H = (TS S' trs t').H ∨ (∃ e ∈ trs, e.k = 2 ∧ S e.i = false ∧ S' e.i = true ∧ e.s.H = (TS S trs t).H) ∨ (∃ e ∈ trs, e.k = 2 ∧ S e.i = true ∧ S' e.i = false ∧ e.s'.H = (TS S trs t).H)
  | [], s, s', t, t', _, h1, h2, _ => .inl (by simp only [TS]; rw [h1, h2])
  | e :: r, s, s', t, t', hc, h1, h2, hp => by
    obtain ⟨rfl, h3, h4⟩ := hc
    rw [List.pairwise_cons] at hp
    by_cases hk : e.k = 2
    · have he : (e.s').H = (applyTr e e.s).H := by rw [← h3]
      by_cases hS : S e.i = true <;> by_cases hS' : S' e.i = true
      · simp only [TS, if_pos hS, if_pos hS']
        have := TS_two (S := S) (S' := S') (t := applyTr e t) (t' := applyTr e t') h4 (apply_H hk).1 (apply_H hk).1 hp.2
        rcases this with q | ⟨e', he', q⟩ | ⟨e', he', q⟩
        · exact .inl q
        · exact .inr (.inl ⟨e', by simp [he'], q⟩)
        · exact .inr (.inr ⟨e', by simp [he'], q⟩)
      · right; right
        obtain ⟨e', he', a, b, c⟩ := TS_last (S := S) (trs := e :: r) (s := e.s) (s' := s') ⟨e, by simp, hk, hS⟩ ⟨rfl, h3, h4⟩
        refine ⟨e', he', a, b, ?_, (c t).symm⟩
        simp at he'
        rcases he' with rfl | he'
        · simpa using hS'
        · cases hq : S' e'.i with
          | false => rfl
          | true => exact absurd ((hp.1 e' he' hk a).2 hq) hS'
      · right; left
        refine ⟨e, by simp, hk, by simpa using hS, hS', ?_⟩
        rw [TS_none (fun e'' he'' hk'' => by
          simp at he''
          rcases he'' with rfl | he''
          · simpa using hS
          · cases hq : S e''.i with
            | false => rfl
            | true => exact absurd ((hp.1 e'' he'' hk hk'').1 hq) hS)]
        exact h1.symm
      · left
        rw [TS_none (fun e'' he'' hk'' => by
          simp at he''
          rcases he'' with rfl | he''
          · simpa using hS
          · cases hq : S e''.i with
            | false => rfl
            | true => exact absurd ((hp.1 e'' he'' hk hk'').1 hq) hS), TS_none (fun e'' he'' hk'' => by
          simp at he''
          rcases he'' with rfl | he''
          · simpa using hS'
          · cases hq : S' e''.i with
            | false => rfl
            | true => exact absurd ((hp.1 e'' he'' hk hk'').2 hq) hS')]
        rw [h1, h2]
    · have a1 : ∀ (b : Bool) (s : St), (if b = true then applyTr e s else s).H = s.H := fun b s => by
        split
        · exact (apply_H' hk).1
        · rfl
      simp only [TS]
      have he : e.s'.H = e.s.H := by rw [h3]; exact (apply_H' hk).1
      have := TS_two (S := S) (S' := S') (t := if S e.i = true then applyTr e t else t) (t' := if S' e.i = true then applyTr e t' else t') h4 (by rw [a1, h1, he]) (by rw [a1, h2, he]) hp.2
      rcases this with q | ⟨e', he', q⟩ | ⟨e', he', q⟩
      · exact .inl q
      · exact .inr (.inl ⟨e', by simp [he'], q⟩)
      · exact .inr (.inr ⟨e', by simp [he'], q⟩)

theorem apply_comm {a b : Tr} {s : St} (hd : ∀ t, a.o.dst = some t → b.o.dst ≠ some t) (hk : a.k = 2 → b.k = 2 → False) : applyTr b (applyTr a s) = applyTr a (applyTr b s) := by
  simp only [applyTr, St.mk.injEq]
  refine ⟨putReg_comm hd, ?_, ?_⟩ <;> by_cases h1 : a.k = 2 <;> by_cases h2 : b.k = 2 <;> simp [h1, h2]
  · exact (hk h1 h2).elim
  · exact (hk h1 h2).elim

theorem TS_after {S : Nat → Bool} {a : Tr} : ∀ {trs : List Tr} {s : St}, (∀ e ∈ trs, S e.i = true → (∀ t, a.o.dst = some t → e.o.dst ≠ some t) ∧ (a.k = 2 → e.k = 2 → False)) → TS S trs (applyTr a s) = applyTr a (TS S trs s)
  | [], _, _ => rfl
  | e :: r, s, h => by
    simp only [TS]
    by_cases hS : S e.i = true
    · rw [if_pos hS, if_pos hS]
      obtain ⟨h1, h2⟩ := h e (by simp) hS
      rw [apply_comm h1 h2]
      exact TS_after fun e' he' => h e' (by simp [he'])
    · rw [if_neg hS, if_neg hS]
      exact TS_after fun e' he' => h e' (by simp [he'])

theorem TS_congr {S S' : Nat → Bool} : ∀ {trs : List Tr} {s : St}, (∀ e ∈ trs, S e.i = S' e.i) → TS S trs s = TS S' trs s
  | [], _, _ => rfl
  | e :: r, s, h => by
    simp only [TS]
    rw [h e (by simp)]
    exact TS_congr fun e' he' => h e' (by simp [he'])

theorem TS_append {S : Nat → Bool} : ∀ {a b : List Tr} {s : St}, TS S (a ++ b) s = TS S b (TS S a s)
  | [], _, _ => rfl
  | e :: r, b, s => by simp only [List.cons_append, TS]; exact TS_append
end Go.Tm
