/- The tree machine: regions whose order is drawn: every order ends alike. -/
import Derived.Test.YtfihfpgphipglaaGreatDoorTmS19
set_option linter.unusedVariables false
set_option linter.unusedSimpArgs false
set_option linter.unusedSectionVars false
namespace Go.Tm
section
variable {K : Cfg} {f : FuncId} {ops : Array Oper} {s0 s' : St} {befs : List Nat} {trs : List Tr}

def Down (ops : Array Oper) (S : Nat → Bool) : Prop := ∀ (j : Nat) (o : Oper), ops[j]? = some o → S j = true → ∀ ed ∈ o.after, Region.binds .any ed = true → S ed.on = true

theorem bits_done (wf : WfL K f ops s0 befs trs s') {S : Nat → Bool} (hD : Down ops S) (hlen : trs.length = ops.size) : ∀ (j : Nat) (e : Tr) (o : Oper), trs[j]? = some e → ops[j]? = some o → (∀ ed ∈ o.after, Region.binds .any ed = true → S ed.on = true) → ∀ b, e.bef.testBit b = true → S b = true := by
  intro j
  induction j using Nat.strongRecOn with
  | _ j ih =>
    intro e o he ho hed b hb
    obtain ⟨o', m, q1, q2, q3, q4⟩ := wf.pos j e he
    rw [ho] at q1; cases q1
    rw [q4.hm] at hb
    obtain ⟨h1, h2⟩ := befOf_bits q3
    rcases h1 b hb with h0 | ⟨ed, r1, r2, r3⟩
    · simp at h0
    · have hmem : ed ∈ o.after := by simpa using r1
      have hlt : ed.on < j := by
        have := h2 ed r1 r2
        simp at this; omega
      rcases r3 with rfl | ⟨m', hm', hb'⟩
      · exact hed ed hmem r2
      · have hS := hed ed hmem r2
        have hjlt : j < trs.length := (List.getElem?_eq_some_iff.1 he).1
        have he' : trs[ed.on]? = some trs[ed.on] := List.getElem?_eq_getElem (by omega)
        obtain ⟨o2, m2, w1, w2, w3, w4⟩ := wf.pos ed.on _ he'
        rw [List.getElem?_take, if_pos hlt, w2] at hm'
        cases hm'
        refine ih ed.on hlt _ o2 he' w1 (hD ed.on o2 w1 hS) b ?_
        rw [w4.hm]; exact hb'

theorem mem_idx (wf : WfL K f ops s0 befs trs s') {e : Tr} (he : e ∈ trs) : trs[e.i]? = some e := by
  obtain ⟨j, hj⟩ := List.mem_iff_getElem?.1 he
  obtain ⟨o, m, _, _, _, q⟩ := wf.pos j e hj
  rw [q.hi]; exact hj

theorem Chain.split : ∀ {pre post : List Tr} {e : Tr} {s0 s' : St}, Chain s0 (pre ++ e :: post) s' → Chain s0 pre e.s
  | [], post, e, s0, s', h => h.1.symm
  | x :: r, post, e, s0, s', h => ⟨h.1, h.2.1, Chain.split h.2.2⟩

theorem TS_false {S : Nat → Bool} : ∀ {trs : List Tr} {s : St}, (∀ e ∈ trs, S e.i = false) → TS S trs s = s
  | [], _, _ => rfl
  | e :: r, s, h => by
    simp only [TS]
    rw [if_neg (by rw [h e (by simp)]; simp)]
    exact TS_false fun e' he' => h e' (by simp [he'])

theorem at_idx (wf : WfL K f ops s0 befs trs s') {i : Nat} {e : Tr} (he : trs[i]? = some e) : ∃ pre post, trs = pre ++ e :: post ∧ (∀ x ∈ pre, x.i < i) ∧ (∀ x ∈ post, i < x.i) ∧ e.s = TS (fun j => decide (j < i)) trs s0 := by
  have hi : i < trs.length := (List.getElem?_eq_some_iff.1 he).1
  have hei : trs[i] = e := (List.getElem?_eq_some_iff.1 he).2
  have hsplit : trs = trs.take i ++ e :: trs.drop (i + 1) := by
    rw [← hei, ← List.drop_eq_getElem_cons hi, List.take_append_drop]
  have hpre : ∀ x ∈ trs.take i, x.i < i := fun x hx => by
    obtain ⟨j, hj⟩ := List.mem_iff_getElem?.1 hx
    rw [List.getElem?_take] at hj
    split at hj
    · obtain ⟨_, _, _, _, _, q⟩ := wf.pos j x hj
      rw [q.hi]; assumption
    · simp at hj
  have hpost : ∀ x ∈ trs.drop (i + 1), i < x.i := fun x hx => by
    obtain ⟨j, hj⟩ := List.mem_iff_getElem?.1 hx
    rw [List.getElem?_drop] at hj
    obtain ⟨_, _, _, _, _, q⟩ := wf.pos _ x hj
    rw [q.hi]; omega
  refine ⟨trs.take i, trs.drop (i + 1), hsplit, hpre, hpost, ?_⟩
  have hc := wf.chain
  rw [hsplit] at hc
  have h1 := Chain.split hc
  have h2 := h1.all (S := fun j => decide (j < i)) fun x hx => by simpa using hpre x hx
  obtain ⟨_, _, _, _, _, q⟩ := wf.pos i e he
  conv => rhs; rw [hsplit]
  rw [TS_append, h2]
  simp only [TS]
  rw [if_neg (by rw [q.hi]; simp), TS_false fun x hx => by have := hpost x hx; simp; omega]

theorem apart_dst {a b : Tr} (h : apartTr ops a b = true) : (∀ t, a.o.dst = some t → t ∉ namesOf ops b.o) ∧ (∀ t, b.o.dst = some t → t ∉ namesOf ops a.o) := by
  simp only [apartTr, Bool.and_eq_true] at h
  refine ⟨fun t ht => ?_, fun t ht => ?_⟩
  · rw [ht] at h; simpa using h.1
  · rw [ht] at h; simpa using h.2

theorem dst_names {o : Oper} {t : Nat} (h : o.dst = some t) : t ∈ namesOf ops o := by simp [namesOf, h]

/-- What a step that may be taken finds. -/
theorem ready_ok (wf : WfL K f ops s0 befs trs s') (hlen : trs.length = ops.size) {S : Nat → Bool} (hD : Down ops S) {i : Nat} {o : Oper} (ho : ops[i]? = some o) (hi : S i = false) (hed : ∀ ed ∈ o.after, Region.binds .any ed = true → S ed.on = true) :
    ∃ e, trs[i]? = some e ∧ e.o = o ∧ (∀ t ∈ namesOf ops o, nth (TS S trs s0).regs t = nth e.s.regs t) ∧ (e.k = 2 → (TS S trs s0).H = e.s.H ∧ (TS S trs s0).own = e.s.own) ∧ (e.k = 1 → Fit K f e (TS S trs s0).H) ∧
      ∀ S2 : Nat → Bool, S2 i = true → (∀ j, j ≠ i → S2 j = S j) → TS S2 trs s0 = applyTr e (TS S trs s0) := by
  have hilt : i < trs.length := by rw [hlen]; exact (Array.getElem?_eq_some_iff.1 ho).1
  have he : trs[i]? = some trs[i] := List.getElem?_eq_getElem hilt
  generalize trs[i] = e at he
  obtain ⟨o', m, q1, q2, q3, q4⟩ := wf.pos i e he
  rw [ho] at q1; cases q1
  obtain ⟨pre, post, hsplit, hpre, hpost, hes⟩ := at_idx wf he
  -- whom comes ahead is done; who comes behind is not
  have hbits := bits_done wf hD hlen i e o he ho hed
  have hbits' : ∀ (j : Nat) (b : Tr), trs[j]? = some b → S j = true → ∀ c, b.bef.testBit c = true → S c = true := fun j b hb hS => by
    obtain ⟨o2, m2, w1, _, _, _⟩ := wf.pos j b hb
    exact bits_done wf hD hlen j b o2 hb w1 (hD j o2 w1 hS)
  -- the others: ordered as the index says, or apart
  have early : ∀ (x : Tr), x ∈ trs → x.i < i → S x.i = true ∨ PairOk K f ops x e := fun x hx hlt => by
    rcases wf.pair x.i i x e hlt (mem_idx wf hx) he with h | h
    · exact .inl (hbits _ h)
    · exact .inr h
  have late : ∀ (x : Tr), x ∈ trs → i < x.i → S x.i = false ∨ PairOk K f ops e x := fun x hx hlt => by
    rcases wf.pair i x.i e x hlt he (mem_idx wf hx) with h | h
    · left
      cases hS : S x.i with
      | false => rfl
      | true =>
        have := hbits' x.i x (mem_idx wf hx) hS i h
        rw [hi] at this; cases this
    · exact .inr h
  have eo : e.o = o := q4.ho
  refine ⟨e, he, eo, fun t ht => ?_, fun hk => ?_, fun hk => ?_, fun S2 h2 h3 => ?_⟩
  · rw [hes]
    refine TS_reg rfl fun x hx hd => ?_
    rcases Nat.lt_trichotomy x.i i with hlt | heq | hlt
    · rcases early x hx hlt with h | h
      · rw [h]; simp [hlt]
      · exact absurd (by rw [eo]; exact ht) ((apart_dst h.1).1 t hd)
    · rw [heq, hi]; simp
    · rcases late x hx hlt with h | h
      · rw [h]; simp; omega
      · exact absurd (by rw [eo]; exact ht) ((apart_dst h.1).2 t hd)
  · rw [hes]
    refine TS_heap ⟨rfl, rfl⟩ fun x hx hx2 => ?_
    rcases Nat.lt_trichotomy x.i i with hlt | heq | hlt
    · rcases early x hx hlt with h | h
      · rw [h]; simp [hlt]
      · exact (h.2.1 hx2 hk).elim
    · rw [heq, hi]; simp
    · rcases late x hx hlt with h | h
      · rw [h]; simp; omega
      · exact (h.2.1 hk hx2).elim
  · have hpw : trs.Pairwise fun a b => a.k = 2 → b.k = 2 → (S b.i = true → S a.i = true) ∧ ((fun j => decide (j < i)) b.i = true → (fun j => decide (j < i)) a.i = true) := by
      rw [List.pairwise_iff_getElem]
      intro x y hx hy hxy ka kb
      have hxe := List.getElem?_eq_getElem hx
      have hye := List.getElem?_eq_getElem hy
      obtain ⟨_, _, _, _, _, wx⟩ := wf.pos x _ hxe
      obtain ⟨_, _, _, _, _, wy⟩ := wf.pos y _ hye
      rw [wx.hi, wy.hi]
      refine ⟨fun hS => ?_, fun h => ?_⟩
      · rcases wf.pair x y _ _ hxy hxe hye with h | h
        · exact hbits' y _ hye hS x h
        · exact (h.2.1 ka kb).elim
      · simp at h ⊢; omega
    rcases TS_two (S := S) (S' := fun j => decide (j < i)) (t := s0) (t' := s0) wf.chain rfl rfl hpw with h | ⟨x, hx, hx2, h1, h2, h3⟩ | ⟨x, hx, hx2, h1, h2, h3⟩
    · rw [h, ← hes]; exact q4.fit hk
    · have hlt : x.i < i := by simpa using h2
      rcases early x hx hlt with q | q
      · rw [h1] at q; cases q
      · rw [← h3]; exact (q.2.2.2 hx2 hk).1
    · have hge : ¬ x.i < i := by simpa using h2
      have hne : x.i ≠ i := fun q => by rw [q, hi] at h1; cases h1
      rcases late x hx (by omega) with q | q
      · rw [h1] at q; cases q
      · rw [← h3]; exact (q.2.2.1 hk hx2).2
  · conv => lhs; rw [hsplit]
    conv => rhs; rw [hsplit]
    rw [TS_append, TS_append]
    simp only [TS]
    rw [if_pos (by rw [q4.hi]; exact h2), if_neg (by rw [q4.hi, hi]; simp)]
    rw [TS_congr (S := S2) (S' := S) (trs := pre) fun x hx => h3 _ (by have := hpre x hx; omega)]
    rw [TS_congr (S := S2) (S' := S) (trs := post) fun x hx => h3 _ (by have := hpost x hx; omega)]
    refine TS_after fun x hx hS => ?_
    have hmem : x ∈ trs := by rw [hsplit]; simp [hx]
    rcases late x hmem (hpost x hx) with q | q
    · rw [hS] at q; cases q
    · exact ⟨fun t ht hd => (apart_dst q.1).1 t ht (dst_names hd), q.2.1⟩

/-- How many are left. -/
def leftOver (n : Nat) (S : Nat → Bool) : List Nat := (List.range n).filter fun j => !S j

theorem leftOver_lt {n i : Nat} {S S2 : Nat → Bool} (hi : i < n) (h : S i = false) (h2 : S2 i = true) (h3 : ∀ j, j ≠ i → S2 j = S j) : (leftOver n S2).length < (leftOver n S).length := by
  have e : leftOver n S2 = (leftOver n S).filter fun j => j != i := by
    unfold leftOver
    rw [List.filter_filter]
    apply List.filter_congr
    intro j _
    by_cases hj : j = i
    · subst hj; simp [h2]
    · simp [hj, h3 j hj]
  rw [e]
  refine List.length_filter_lt_length_iff_exists.2 ⟨i, ?_, by simp⟩
  simp [leftOver, hi, h]

theorem all_done (wf : WfL K f ops s0 befs trs s') (hlen : trs.length = ops.size) {listed : Array Bool} (hsz : listed.size = ops.size) (hr : Region.ready .any ops listed = []) : ∀ j, j < ops.size → listed.getD j false = true := by
  intro j
  induction j using Nat.strongRecOn with
  | _ j ih =>
    intro hj
    cases hS : listed.getD j false with
    | true => rfl
    | false =>
      exfalso
      have he : trs[j]? = some trs[j] := List.getElem?_eq_getElem (by omega)
      obtain ⟨o, m, q1, q2, q3, q4⟩ := wf.pos j _ he
      obtain ⟨_, h2⟩ := befOf_bits q3
      have : j ∈ Region.ready .any ops listed := by
        rw [mem_ready]
        refine ⟨?_, o, q1, fun ed hed hb => ?_⟩
        · rw [Array.getD_eq_getD_getElem?, Array.getElem?_eq_getElem (by omega)] at hS ⊢
          simpa using hS
        · have := h2 ed (by simpa using hed) hb
          simp at this
          exact ih ed.on (by omega) (by omega)
      rw [hr] at this
      simp at this

theorem any_ok (wf : WfL K f ops s0 befs trs s') (hlen : trs.length = ops.size) {F : Fr} (hg : Glob K F.g0) {Q : Exit → Act → World → Prop} (hQ : ∀ a w, Rel F s' a w → Q .normal a w) :
    ∀ (fuel : Nat) (listed : Array Bool) (a : Act) (w : World), listed.size = ops.size → Down ops (fun j => listed.getD j false) → (leftOver ops.size fun j => listed.getD j false).length ≤ fuel → Rel F (TS (fun j => listed.getD j false) trs s0) a w → wpAny K.P .any ops Q fuel listed a w := by
  have fin : ∀ (listed : Array Bool) (a : Act) (w : World), (∀ j, j < ops.size → listed.getD j false = true) → Rel F (TS (fun j => listed.getD j false) trs s0) a w → Q .normal a w := fun listed a w hall hR => by
    rw [wf.chain.all fun e he => ?_] at hR
    · exact hQ a w hR
    · have := (List.getElem?_eq_some_iff.1 (mem_idx wf he)).1
      exact hall e.i (by omega)
  intro fuel
  induction fuel with
  | zero =>
    intro listed a w hsz hD hl hR
    have hnil : leftOver ops.size (fun j => listed.getD j false) = [] := List.length_eq_zero_iff.1 (by omega)
    have hall : ∀ j, j < ops.size → listed.getD j false = true := fun j hj => by
      have := List.filter_eq_nil_iff.1 hnil j (by simpa using hj)
      simpa using this
    refine ⟨?_, fin listed a w hall hR⟩
    apply List.eq_nil_iff_forall_not_mem.2
    intro j hj
    rw [mem_ready] at hj
    obtain ⟨h0, o, ho, _⟩ := hj
    have hjlt : j < ops.size := (Array.getElem?_eq_some_iff.1 ho).1
    have := hall j hjlt
    rw [Array.getD_eq_getD_getElem?, Array.getElem?_eq_getElem (by omega)] at this h0
    simp at this h0
    rw [h0] at this; cases this
  | succ fuel ih =>
    intro listed a w hsz hD hl hR
    refine ⟨fun hr => fin listed a w (all_done wf hlen hsz hr) hR, fun i hi => ?_⟩
    rw [mem_ready] at hi
    obtain ⟨h0, o, ho, hall⟩ := hi
    have hilt : i < ops.size := (Array.getElem?_eq_some_iff.1 ho).1
    have hSi : listed.getD i false = false := by
      rw [Array.getD_eq_getD_getElem?, Array.getElem?_eq_getElem (by omega)] at h0 ⊢
      simpa using h0
    obtain ⟨e, he, eo, h1, h2, h3, h4⟩ := ready_ok wf hlen hD ho hSi hall
    obtain ⟨o', m, q1, q2, q3, q4⟩ := wf.pos i e he
    rw [ho] at q1; cases q1
    have hset : ∀ j, (listed.setIfInBounds i true).getD j false = if j = i then true else listed.getD j false := fun j => by
      split
      · rename_i hj; subst hj
        simp [Array.getD_eq_getD_getElem?, hsz, hilt]
      · rename_i hj
        rw [getD_set_ne false (Ne.symm hj)]
    refine q4.go _ h1 h2 h3 ho F a w hg hR _ _ fun a' w' hR' => ?_
    refine ih (listed.setIfInBounds i true) a' w' (by simpa using hsz) ?_ ?_ ?_
    · intro j o2 ho2 hS ed hed hb
      have hS' := hset j
      simp only at hS
      rw [hS'] at hS
      have hon : listed.getD ed.on false = true := by
        split at hS
        · rename_i hj; subst hj
          rw [ho] at ho2; cases ho2
          exact hall ed hed hb
        · exact hD j o2 ho2 hS ed hed hb
      simp only
      rw [hset]
      split
      · rfl
      · exact hon
    · have := leftOver_lt (n := ops.size) (i := i) (S := fun j => listed.getD j false) (S2 := fun j => (listed.setIfInBounds i true).getD j false) hilt hSi (by rw [hset]; simp) (fun j hj => by rw [hset, if_neg hj])
      omega
    · rw [h4 (fun j => (listed.setIfInBounds i true).getD j false) (by rw [hset]; simp) (fun j hj => by rw [hset, if_neg hj])]
      exact hR'
end

theorem drawn_any {K : Cfg} {f : FuncId} {call : Orc} (hc : OrcOk K call) (hp : OrcPure K call) {F : Fr} (hg : Glob K F.g0) {ops : Array Oper} {s s' : St} {a : Act} {w : World} {p p' : List Bool} (hR : Rel F s a w)
    (h : Ok (aDrawn K call f ops ops.toList [] [] s) p s' p') {Q : Exit → Act → World → Prop} (hQ : ∀ a w, Rel F s' a w → Q .normal a w) : wpAny K.P .any ops Q ops.size (Array.replicate ops.size false) a { w with drawn := w.drawn + 1 } := by
  obtain ⟨befs, trs, wf, hlen⟩ := drawn_wf (s0 := s) (befs := []) (acc := []) (s := s) hc hp (by simp) ⟨rfl, by simp, by simp [Chain], by simp⟩ h
  simp at hlen
  have hnone : ∀ j, (Array.replicate ops.size false).getD j false = false := fun j => by
    rw [Array.getD_eq_getD_getElem?, Array.getElem?_replicate]
    split <;> rfl
  refine any_ok wf hlen hg hQ ops.size _ a _ (by simp) ?_ ?_ ?_
  · intro j o ho hS
    exact absurd ((hnone j).symm.trans hS) (by simp)
  · unfold leftOver
    exact Nat.le_trans (List.length_filter_le _ _) (by simp)
  · rw [TS_false fun e he => hnone _]
    obtain ⟨F', hF, hd, g, κ, hs, hr⟩ := hR
    exact ⟨F', hF, hd, g, κ, hs.drew, hr⟩
end Go.Tm
