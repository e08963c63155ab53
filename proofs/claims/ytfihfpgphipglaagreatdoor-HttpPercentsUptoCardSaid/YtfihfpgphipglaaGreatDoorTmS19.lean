/- The tree machine: regions whose order is drawn: what the evaluator looks at is enough. -/
import Derived.Test.YtfihfpgphipglaaGreatDoorTmS18
set_option linter.unusedVariables false
set_option linter.unusedSimpArgs false
set_option linter.unusedSectionVars false
namespace Go.Tm
section
variable {K : Cfg} {f : FuncId} {ops : Array Oper} {call : Orc}

def PairOk (K : Cfg) (f : FuncId) (ops : Array Oper) (a b : Tr) : Prop :=
  apartTr ops a b = true ∧ (a.k = 2 → b.k = 2 → False) ∧ (a.k = 1 → b.k = 2 → Fit K f a b.s.H ∧ Fit K f a b.s'.H) ∧ (a.k = 2 → b.k = 1 → Fit K f b a.s.H ∧ Fit K f b a.s'.H)

theorem fit_ok {t : Tr} (ht : touch K f t.o = 1) {H : List AB} {p p' : List Bool} {u : Unit} (h : Ok (aFit K f t H) p u p') : Fit K f t H := by
  unfold aFit at h
  rw [Ok_bind] at h
  obtain ⟨an, p1, h1, h2⟩ := h
  obtain ⟨x, rfl, _⟩ := aOp_free1 h1 ht
  simp only at h2
  rw [Ok_chk] at h2
  obtain ⟨hs, _⟩ := h2
  have := same_eq hs
  subst this
  exact ⟨p, p1, h1⟩

theorem pair_ok {a b : Tr} (ha : a.k ≤ 2) (hb : b.k ≤ 2) (ka : a.k = 1 → touch K f a.o = 1) (kb : b.k = 1 → touch K f b.o = 1) {p p' : List Bool} {u : Unit} (h : Ok (aPair K f ops a b) p u p') : b.bef.testBit a.i = true ∨ PairOk K f ops a b := by
  unfold aPair at h
  split at h
  · rename_i hq; exact .inl hq
  · right
    rw [Ok_bind] at h
    obtain ⟨u1, p1, h1, h2⟩ := h
    rw [Ok_chk] at h1
    refine ⟨h1.1, ?_⟩
    have hA : a.k = 0 ∨ a.k = 1 ∨ a.k = 2 := by omega
    have hB : b.k = 0 ∨ b.k = 1 ∨ b.k = 2 := by omega
    rcases hA with e1 | e1 | e1 <;> rcases hB with e2 | e2 | e2 <;> simp only [e1, e2] at h2 ⊢
    · simp
    · simp
    · simp
    · simp
    · simp
    · rw [Ok_bind] at h2
      obtain ⟨_, p2, h3, h4⟩ := h2
      exact ⟨by simp, fun _ _ => ⟨fit_ok (ka e1) h3, fit_ok (ka e1) h4⟩, by simp⟩
    · simp
    · rw [Ok_bind] at h2
      obtain ⟨_, p2, h3, h4⟩ := h2
      exact ⟨by simp, by simp, fun _ _ => ⟨fit_ok (kb e2) h3, fit_ok (kb e2) h4⟩⟩
    · exact absurd h2 Ok_fail

theorem pairs_ok {b : Tr} (hb : b.k ≤ 2) (kb : b.k = 1 → touch K f b.o = 1) : ∀ {acc : List Tr} {p p' : List Bool} {u : Unit}, (∀ a ∈ acc, a.k ≤ 2 ∧ (a.k = 1 → touch K f a.o = 1)) → Ok (aPairs K f ops acc b) p u p' → ∀ a ∈ acc, b.bef.testBit a.i = true ∨ PairOk K f ops a b
  | [], _, _, _, _, _, a, h => by simp at h
  | x :: r, p, p', u, hk, h, a, ha => by
    simp only [aPairs] at h
    rw [Ok_bind] at h
    obtain ⟨_, p1, h1, h2⟩ := h
    simp at ha
    rcases ha with rfl | ha
    · exact pair_ok (hk a (by simp)).1 hb (hk a (by simp)).2 kb h1
    · exact pairs_ok hb kb (fun y hy => hk y (by simp [hy])) h2 a ha

theorem befOf_bits {befs : List Nat} : ∀ {l : List Edge} {m r : Nat}, befOf befs l m = some r → (∀ b, r.testBit b = true → m.testBit b = true ∨ ∃ ed ∈ l, Region.binds .any ed = true ∧ (b = ed.on ∨ ∃ m', befs[ed.on]? = some m' ∧ m'.testBit b = true)) ∧
    (∀ ed ∈ l, Region.binds .any ed = true → ed.on < befs.length)
  | [], m, r, h => by simp [befOf] at h; subst h; exact ⟨fun b hb => .inl hb, by simp⟩
  | e :: l, m, r, h => by
    simp only [befOf] at h
    split at h
    · rename_i hb
      rw [nth_eq] at h
      split at h
      · rename_i m' hm'
        obtain ⟨h1, h2⟩ := befOf_bits h
        refine ⟨fun b hb' => ?_, fun ed hed hbd => ?_⟩
        · rcases h1 b hb' with q | ⟨ed, q1, q2, q3⟩
          · rw [Nat.testBit_or, Nat.testBit_or] at q
            simp only [Bool.or_eq_true] at q
            rcases q with (q | q) | q
            · exact .inl q
            · right
              refine ⟨e, by simp, hb, .inl ?_⟩
              have := Nat.testBit_two_pow (n := e.on) (m := b)
              rw [this] at q
              simpa [eq_comm] using q
            · exact .inr ⟨e, by simp, hb, .inr ⟨m', hm', q⟩⟩
          · exact .inr ⟨ed, by simp [q1], q2, q3⟩
        · simp at hed
          rcases hed with rfl | hed
          · exact (List.getElem?_eq_some_iff.1 hm').1
          · exact h2 ed hed hbd
      · simp at h
    · rename_i hb
      obtain ⟨h1, h2⟩ := befOf_bits h
      refine ⟨fun b hb' => ?_, fun ed hed hbd => ?_⟩
      · rcases h1 b hb' with q | ⟨ed, q1, q2, q3⟩
        · exact .inl q
        · exact .inr ⟨ed, by simp [q1], q2, q3⟩
      · simp at hed
        rcases hed with rfl | hed
        · rw [hbd] at hb; cases hb
        · exact h2 ed hed hbd

structure WfL (K : Cfg) (f : FuncId) (ops : Array Oper) (s0 : St) (befs : List Nat) (trs : List Tr) (s : St) : Prop where
  len : befs.length = trs.length
  pos : ∀ (j : Nat) (e : Tr), trs[j]? = some e → ∃ o m, ops[j]? = some o ∧ befs[j]? = some m ∧ befOf (befs.take j) o.after.toList 0 = some m ∧ StepOk K ops f j o m e.s e
  chain : Chain s0 trs s
  pair : ∀ (i j : Nat) (a b : Tr), i < j → trs[i]? = some a → trs[j]? = some b → b.bef.testBit i = true ∨ PairOk K f ops a b

theorem Chain.snoc : ∀ {trs : List Tr} {s0 s : St} {e : Tr}, Chain s0 trs s → e.s = s → e.s' = applyTr e e.s → Chain s0 (trs ++ [e]) e.s'
  | [], s0, s, e, h, h1, h2 => by
    simp only [Chain] at h
    subst h
    exact ⟨h1, h2, rfl⟩
  | x :: r, s0, s, e, h, h1, h2 => ⟨h.1, h.2.1, Chain.snoc h.2.2 h1 h2⟩

theorem drawn_wf (hc : OrcOk K call) (hp : OrcPure K call) {s0 : St} : ∀ {rest : List Oper} {befs : List Nat} {acc : List Tr} {s s' : St} {p p' : List Bool}, (∀ j, rest[j]? = ops[acc.length + j]?) → WfL K f ops s0 befs acc s → Ok (aDrawn K call f ops rest befs acc s) p s' p' →
    ∃ befs' trs, WfL K f ops s0 befs' trs s' ∧ trs.length = acc.length + rest.length
  | [], befs, acc, s, s', p, p', _, wf, h => by
    simp only [aDrawn] at h
    rw [Ok_pure] at h
    obtain ⟨rfl, _⟩ := h
    exact ⟨befs, acc, wf, by simp⟩
  | o :: rest, befs, acc, s, s', p, p', hops, wf, h => by
    simp only [aDrawn] at h
    split at h
    · exact absurd h Ok_fail
    · rename_i m hm
      rw [Ok_bind] at h
      obtain ⟨t, p1, h1, h2⟩ := h
      rw [Ok_bind] at h2
      obtain ⟨u, p2, h2, h3⟩ := h2
      have st : StepOk K ops f acc.length o m s t := tr_ok hc hp h1
      have hprev : ∀ a ∈ acc, a.k ≤ 2 ∧ (a.k = 1 → touch K f a.o = 1) := fun a ha => by
        obtain ⟨j, hj⟩ := List.mem_iff_getElem?.1 ha
        obtain ⟨o', m', _, _, _, q⟩ := wf.pos j a hj
        exact ⟨q.hk, fun e => by rw [q.ho]; exact (q.kind e).2⟩
      have hpairs := pairs_ok st.hk (fun e => by rw [st.ho]; exact (st.kind e).2) hprev h2
      have hlast : ∀ (j : Nat) (e : Tr), (acc ++ [t])[j]? = some e → (j < acc.length ∧ acc[j]? = some e) ∨ (j = acc.length ∧ e = t) := fun j e he => by
        rw [List.getElem?_append] at he
        split at he
        · exact .inl ⟨‹_›, he⟩
        · right
          rcases Nat.eq_zero_or_pos (j - acc.length) with h0 | h0
          · rw [h0] at he; simp at he; exact ⟨by omega, he.symm⟩
          · rw [List.getElem?_eq_none (by simp; omega)] at he; simp at he
      have wf' : WfL K f ops s0 (befs ++ [m]) (acc ++ [t]) t.s' := by
        refine ⟨by simp [wf.len], fun j e he => ?_, wf.chain.snoc st.hs (by rw [st.hs', st.hs]), fun i j a b hij ha hb => ?_⟩
        · rcases hlast j e he with ⟨hj, he'⟩ | ⟨rfl, rfl⟩
          · obtain ⟨o', m', q1, q2, q3, q4⟩ := wf.pos j e he'
            refine ⟨o', m', q1, ?_, ?_, q4⟩
            · rw [List.getElem?_append, if_pos (by rw [wf.len]; exact hj)]; exact q2
            · rw [List.take_append_of_le_length (by rw [wf.len]; omega)]; exact q3
          · refine ⟨o, m, ?_, ?_, ?_, ?_⟩
            · have := hops 0
              simpa using this.symm
            · rw [← wf.len]; simp
            · rw [← wf.len]
              rw [List.take_append_of_le_length (by omega), List.take_length]; exact hm
            · rw [st.hs]; exact st
        · rcases hlast j b hb with ⟨hj, hb'⟩ | ⟨rfl, rfl⟩
          · rcases hlast i a ha with ⟨hi, ha'⟩ | ⟨rfl, _⟩
            · exact wf.pair i j a b hij ha' hb'
            · omega
          · rcases hlast i a ha with ⟨hi, ha'⟩ | ⟨rfl, _⟩
            · have := hpairs a (List.mem_of_getElem? ha')
              obtain ⟨o', m', _, _, _, q⟩ := wf.pos i a ha'
              rw [q.hi] at this
              exact this
            · omega
      obtain ⟨befs', trs, w1, w2⟩ := drawn_wf hc hp (fun j => by
        have := hops (j + 1)
        simp only [List.getElem?_cons_succ, List.length_append, List.length_cons, List.length_nil] at this ⊢
        rw [this]
        congr 1; omega) wf' h3
      exact ⟨befs', trs, w1, by rw [w2]; simp; omega⟩
end
end Go.Tm
