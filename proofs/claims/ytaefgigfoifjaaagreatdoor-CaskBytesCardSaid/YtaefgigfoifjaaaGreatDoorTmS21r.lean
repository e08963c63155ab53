/- The tree machine: code, with rounds. -/
import Derived.Test.YtaefgigfoifjaaaGreatDoorTmS21
set_option linter.unusedVariables false
set_option linter.unusedSimpArgs false
set_option linter.unusedSectionVars false
namespace Go.Tm
section
variable {K : Cfg} {f : FuncId} {call : Orc}

theorem iter_ok {r : Option Nat} {c : Code} {body : St → E (AX × St)} {F : Fr} (hb : ∀ {s s' : St} {e : AX} {p p' : List Bool}, Ok (body s) p (e, s') p' → ∀ (a : Act) (w : World), Rel F s a w → ∀ Q : Exit → Act → World → Prop, (∀ a w, ¬ Q .outgrown a w) → (∀ a' w', Rel F s' a' w' → Q (ax e) a' w') → c.wpIn (wd r) 0 K.P Q a w) :
    ∀ (k : Nat) {s s' : St} {e : AX} {p p' : List Bool}, Ok (iter body k s) p (e, s') p' → ∀ (a : Act) (w : World), Rel F s a w → ∀ Q : Exit → Act → World → Prop, (∀ a w, ¬ Q .outgrown a w) → (∀ a' w', Rel F s' a' w' → Q (ax e) a' w') → Code.roundsIn (wd r) 0 K.P c Q k a w
  | 0, s, s', e, p, p', h, _, _, _, _, _, _ => absurd h Ok_fail
  | k + 1, s, s', e, p, p', h, a, w, hR, Q, hO, hQ => by
    simp only [iter] at h
    rw [Ok_bind] at h
    obtain ⟨⟨e1, s1⟩, p1, h1, h2⟩ := h
    rw [roundsIn_succ]
    refine hb h1 a w hR _ (fun a w q => hO a w q) fun a' w' hR' => ?_
    cases e1 with
    | normal => exact iter_ok hb k h2 a' w' hR' Q hO hQ
    | exit i =>
      simp only at h2
      rw [Ok_pure] at h2
      obtain ⟨h2, _⟩ := h2
      cases h2
      exact hQ a' w' hR'
    | ret =>
      simp only at h2
      rw [Ok_pure] at h2
      obtain ⟨h2, _⟩ := h2
      cases h2
      exact hQ a' w' hR'

def axc : AX → Option Code
  | .normal => none
  | .exit i => some (.exit i)
  | .ret => some .ret

theorem range_ok (hq : ∀ gf q, K.seq gf = some q → SeqOk K gf q) {F : Fr} (hg : Glob K F.g0) {k : Nat} {g : Operand} {ps : Array Tmp} {assign body : Code} {s s' : St} {e : AX} {p p' : List Bool}
    (iha : simpleA assign = true → roundy assign = true → ∀ {s s' : St} {e : AX} {p p' : List Bool}, Ok (aCode K call f k assign s) p (e, s') p' → ∀ (l : Nat) (F : Fr), Glob K F.g0 → ∀ (a : Act) (w : World), Rel F s a w → ∀ Q : Exit → Act → World → Prop, (∀ a w, ¬ Q .outgrown a w) → (∀ a' w', Rel F s' a' w' → a'.defers = a.defers → Q (ax e) a' w') → assign.wpIn (wd (some l)) 0 K.P Q a w)
    (ihb : roundy body = true → ∀ {s s' : St} {e : AX} {p p' : List Bool}, Ok (aCode K call f k body s) p (e, s') p' → ∀ (l : Nat) (F : Fr), Glob K F.g0 → ∀ (a : Act) (w : World), Rel F s a w → ∀ Q : Exit → Act → World → Prop, (∀ a w, ¬ Q .outgrown a w) → (∀ a' w', Rel F s' a' w' → Q (ax e) a' w') → body.wpIn (wd (some l)) 0 K.P Q a w)
    (h : Ok (aCode K call f k (.rangeFunc g ps assign body) s) p (e, s') p') {a : Act} {w : World} (hR : Rel F s a w) {Q : Exit → Act → World → Prop} (hQ : ∀ a' w', Rel F s' a' w' → Q (ax e) a' w') : (Code.rangeFunc g ps assign body).wpIn (wd none) 0 K.P Q a w := by
  simp only [aCode] at h
  split at h
  case h_2 => exact absurd h Ok_fail
  rename_i xss hxss
  split at h
  case h_2 => exact absurd h Ok_fail
  rename_i hcodes
  simp only [Bool.and_eq_true] at hcodes
  obtain ⟨⟨hsa, hra⟩, hrb⟩ := hcodes
  rw [Ok_bind] at h
  obtain ⟨⟨e1, H'⟩, p1, h1, h2⟩ := h
  simp only at h2
  rw [Ok_pure] at h2
  obtain ⟨h2, _⟩ := h2
  obtain ⟨rfl, rfl⟩ := Prod.mk.inj h2
  -- the function
  obtain ⟨F', hF, ⟨M, hM, hMn, hMD⟩, gh, κ, hs, hr⟩ := hR
  have hgg : Glob K gh := (hg.mono hF.le).mono hs.le
  rw [Option.bind_eq_some_iff] at hxss
  obtain ⟨x, hx, hxss⟩ := hxss
  have hxv := (evalO_RV hgg hr hx).1
  unfold aSeq at hxss
  split at hxss
  case h_2 => cases hxss
  rename_i gf cap
  split at hxss
  case h_2 => cases hxss
  rename_i q hqq
  generalize hrv : a.eval g = rv at hxv
  cases hxv with
  | @func _ _ _ r1 r2 l1 l2 v1 v2 =>
  have hr1 : r1 = [] := List.length_eq_zero_iff.1 l1.symm
  subst hr1
  obtain ⟨hdr, hqs⟩ := hq gf q hqq
  obtain ⟨eg, hseq⟩ := hqs cap s.H xss hxss
  have hgdr : gh.dr = true → false = true := fun q => by have := hgg.dr q; rw [hdr] at this; exact this
  refine wpIn_rangeFunc fun fn hfn => ?_
  obtain ⟨rec, hrec⟩ : ∃ rec : LoopState → Option Code → Loop, rec = fun st pe => { state := st, pending := pe, fn, tmps := a.tmps, params := ps, assign, body, defers := w.heap.size } := ⟨_, rfl⟩
  obtain ⟨W1, hW1⟩ : ∃ W1, (w.alloc (.deferred (some []))).alloc (.loop (rec .ready none)) = W1 := ⟨_, rfl⟩
  have hL1 : W1.heap[w.heap.size + 1]? = some (.loop (rec .ready none)) := by
    rw [← hW1]; have := World.alloc_heap_new (w.alloc (.deferred (some []))) (.loop (rec .ready none)); rwa [World.size_alloc] at this
  have hK1 : W1.heap[w.heap.size]? = some (.deferred (some [])) := by
    rw [← hW1, heap_alloc_lt (by simp)]; exact World.alloc_heap_new w _
  have hB : SW ⟨w, Live gh s.H, gh⟩ gh noTok s.H W1 := by rw [← hW1]; exact hs.down.mkOther.mkOther
  -- what stands at a round's end
  have ending : ∀ (gi : Gh) (W : World) (st : LoopState) (jump : Option Code), st ≠ .busy → SW ⟨w, Live gh s.H, gh⟩ gi noTok H' W → W.heap[w.heap.size + 1]? = some (.loop (rec st jump)) → W.heap[w.heap.size]? = some (.deferred (some [])) → jump = axc e1 →
      ∃ jump w₄, (Instr.endLoop (w.heap.size + 1)).run K.P W = .ok jump w₄ ∧ (match jump with
       | none => Q .normal { a with defers := mark w.heap.size :: a.defers } w₄
       | some c => c.wpIn (wd none) 0 K.P Q { a with defers := mark w.heap.size :: a.defers } w₄) := by
    intro gi W st jump hst hsw hl hd hj
    have hend := run_endLoop (P := K.P) hl (by rw [hrec]; exact hst)
    obtain ⟨W4, hW4⟩ : ∃ W4, W.putObj (w.heap.size + 1) (.loop { rec st jump with state := .exhausted }) = W4 := ⟨_, rfl⟩
    rw [hW4] at hend
    have hpend : (rec st jump).pending = jump := by rw [hrec]
    rw [hpend] at hend
    refine ⟨jump, W4, hend, ?_⟩
    have hsw4 : SW ⟨w, Live gh s.H, gh⟩ gi noTok H' W4 := by rw [← hW4]; exact hsw.putOther hl trivial (.inr (Nat.le_succ _))
    have hd4 : W4.heap[w.heap.size]? = some (.deferred (some [])) := by rw [← hW4]; exact (World.putObj_heap_other (by omega)).trans hd
    have hup : SW F' gi κ H' W4 := hs.up hsw4
    have hold : ∀ D ∈ M, W4.heap[D]? = some (.deferred (some [])) := fun D hD => by
      obtain ⟨_, q1, q2, q3⟩ := hMD D hD
      rw [hup.kept.block D q1 q2]; exact q3
    have hwW : w.heap.size ≤ W4.heap.size := hsw4.kept.size
    have hFw : F'.w0.heap.size ≤ w.heap.size := hs.kept.size
    have hR4 : Rel F ⟨s.regs.map AV.unown, fun _ => 0, H'⟩ { a with defers := mark w.heap.size :: a.defers } W4 := by
      refine ⟨⟨W4, fun b => (F'.L b ∨ F'.w0.heap.size ≤ b) ∧ b ∉ M ∧ b ≠ w.heap.size, gi⟩, hF.trans ?_, ?_, gi, noTok, ?_, (hr.mono hsw4.le).unown⟩
      · refine ⟨fun rb q => ?_, hup.kept, hup.old, hup.le⟩
        rcases q with ⟨q, _⟩ | q
        · exact q
        · right
          have q' : W4.heap.size ≤ rb := q
          omega
      · refine ⟨w.heap.size :: M, by rw [hM]; rfl, List.nodup_cons.2 ⟨fun q => ?_, hMn⟩, fun D hD => ?_⟩
        · have := (hMD _ q).2.1; omega
        · rcases List.mem_cons.1 hD with rfl | hD
          · refine ⟨Nat.le_trans hF.kept.size hFw, (lt_of_some hd4 : w.heap.size < W4.heap.size), fun q => q.2.2 rfl, hd4⟩
          · refine ⟨(hMD D hD).1, (lt_of_some (hold D hD) : D < W4.heap.size), fun q => q.2.1 hD, hold D hD⟩
      · refine ⟨hup.imm, hup.dom, fun i A hi hl => ?_, hup.inj, fun s t q => by simp [noTok] at q, fun s s' t t' q => by simp [noTok] at q, .refl _ _ _, fun b i v _ _ q => q, .refl _⟩
        obtain ⟨rb, o, q1, q2, q3, q4, q5⟩ := hup.blk i A hi hl
        refine ⟨rb, o, q1, q2, q3, .inl ⟨q4, fun q => ?_, fun q => ?_⟩, q5⟩
        · rw [hold rb q] at q2; cases q2
          exact Other.not (o := .deferred (some [])) trivial q3
        · subst q
          rw [hd4] at q2; cases q2
          exact Other.not (o := .deferred (some [])) trivial q3
    subst hj
    cases e1 with
    | normal => exact hQ _ _ hR4
    | exit i => exact wpIn_exit (hQ _ _ hR4)
    | ret => exact wpIn_ret (hQ _ _ hR4)
  refine ⟨w.heap.size + 1, [mark w.heap.size], W1, { target := .fn (.func gf) ⟨r2⟩, args := #[.func (.yield (w.heap.size + 1)) #[] #[]] }, W1, gf,
    #[.func (.yield (w.heap.size + 1)) #[] #[]] ++ ⟨r2⟩, W1, ?_, ?_, ?_, ?_, fun q => absurd q (by simp [wd, Fence.wide]), ?_⟩
  · rw [← hW1, hrec]; exact run_enterLoop_outer _ _ _ _ _
  · simp only [resolve, hrv]
    simp [go_sem]
  · intro f' _; trivial
  · simp [invoke, go_sem, eg]
  · refine CallsIn.mono (hseq _ gh noTok W1 r2 hgg hB ⟨l2, v2⟩ (w.heap.size + 1)
      (fun i W => ∃ gi Hi, (∃ p p', Ok (seqRounds (fun s1 => do
          let (e, s1) ← aCode K call f k assign s1
          match e with
          | .normal => do
            let (e, s2) ← aCode K call f k body { regs := s1.regs.map AV.unown, own := fun _ => 0, H := s1.H }
            pure (e, s2.H)
          | _ => E.fail) (s.regs.map AV.unown) ps.toList (xss.drop i) Hi) p (e1, H') p') ∧ SW ⟨w, Live gh s.H, gh⟩ gi noTok Hi W ∧ W.heap[w.heap.size + 1]? = some (.loop (rec .ready none)) ∧ W.heap[w.heap.size]? = some (.deferred (some [])))
      (fun W => ∃ gi, SW ⟨w, Live gh s.H, gh⟩ gi noTok H' W ∧ W.heap[w.heap.size + 1]? = some (.loop (rec .done (axc e1))) ∧ W.heap[w.heap.size]? = some (.deferred (some [])))
      ?_ ?_ ?_ ⟨gh, s.H, ⟨p, p1, h1⟩, hB, hL1, hK1⟩) ?_
    · rintro i W ⟨gi, Hi, _, hsw, _⟩ b o v q
      exact hsw.imm b o v (hsw.le.imm _ _ _ q)
    · rintro i W W' ⟨gi, Hi, hok, hsw, hl, hd⟩ hb
      exact ⟨gi, Hi, hok, hsw.grow hb (fun q => absurd (hgdr q) Bool.false_ne_true), (hb.block _ (lt_of_some hl)).trans hl, (hb.block _ (lt_of_some hd)).trans hd⟩
    · rintro i x W args hx ⟨gi, Hi, ⟨p, p', hok⟩, hsw, hl, hd⟩ hv
      have hdrop : xss.drop i = x :: xss.drop (i + 1) := by
        obtain ⟨hlt, hx⟩ := List.getElem?_eq_some_iff.1 hx
        rw [List.drop_eq_getElem_cons hlt, hx]
      rw [hdrop] at hok
      simp only [seqRounds] at hok
      rw [Ok_bind] at hok
      obtain ⟨_, p1, hchk, hok⟩ := hok
      have hlen : x.length = ps.toList.length := by simpa using (Ok_chk.1 hchk).1
      rw [Ok_bind] at hok
      obtain ⟨⟨e2, H2⟩, p2, hrd, hok⟩ := hok
      rw [Ok_bind] at hrd
      obtain ⟨⟨e3, s1⟩, p3, ha, hrd⟩ := hrd
      cases e3 with
      | exit _ => exact absurd hrd Ok_fail
      | ret => exact absurd hrd Ok_fail
      | normal =>
      simp only at hrd
      rw [Ok_bind] at hrd
      obtain ⟨⟨e4, s2⟩, p4, hb, hrd⟩ := hrd
      rw [Ok_pure] at hrd
      obtain ⟨hrd, _⟩ := hrd
      obtain ⟨rfl, rfl⟩ := Prod.mk.inj hrd
      have hy := run_yield (P := K.P) (args := ⟨args⟩) hl (by rw [hrec]; show args.length = ps.size; rw [← hv.1, hlen]; simp)
      rw [hrec] at hy
      refine ⟨fn, _, assign, body, hy, roundIn_of_wpIn (F := wd none) trivial ?_⟩
      have hg0 : Glob K gi := hgg.mono hsw.le
      refine iha hsa hra ha (w.heap.size + 1) ⟨W, Live gi Hi, gi⟩ hg0 _ W ⟨_, .refl _, Marks.nil _ _, gi, noTok, hsw.down, ?_⟩ _ (fun _ _ q => q) ?_
      · have := Regs.putAt (ps := ps.toList) ((hr.mono hsw.le).unown) (hv.mono hsw.le)
        rw [← Array.foldl_toList, Array.toList_zip]
        exact this
      · intro a1 w1 hR1 hd1
        obtain ⟨C', hC, _, g1, κ1, hs1, hr1⟩ := hR1
        have hu1 : SW ⟨W, Live gi Hi, gi⟩ g1 noTok s1.H w1 := hC.up hs1
        have hl1 := hsw.otherKept hu1 hl trivial
        have hK1 := hsw.otherKept hu1 hd trivial
        have hB1 : SW ⟨w, Live gh s.H, gh⟩ g1 noTok s1.H w1 := (Ref.down hsw).up hu1
        refine ⟨_, run_beginRound hl1 (by rw [hrec]), ?_⟩
        obtain ⟨W2, hW2⟩ : ∃ W2, w1.putObj (w.heap.size + 1) (.loop { rec .ready none with state := .busy }) = W2 := ⟨_, rfl⟩
        rw [hW2]
        have hB2 : SW ⟨w, Live gh s.H, gh⟩ g1 noTok s1.H W2 := by rw [← hW2]; exact hB1.putOther hl1 trivial (.inr (Nat.le_succ _))
        have hl2 : W2.heap[w.heap.size + 1]? = some (.loop { rec .ready none with state := .busy }) := by rw [← hW2]; exact World.putObj_heap_same (lt_of_some hl1)
        have hK2 : W2.heap[w.heap.size]? = some (.deferred (some [])) := by rw [← hW2]; exact (World.putObj_heap_other (by omega)).trans hK1
        have hg1 : Glob K g1 := hgg.mono hB1.le
        refine wpIn_mono (Q := fun e' a' w' => e' = ax e4 ∧ Rel ⟨W2, Live g1 s1.H, g1⟩ s2 a' w') (ihb hrb hb (w.heap.size + 1) ⟨W2, Live g1 s1.H, g1⟩ hg1 a1 W2 ⟨_, .refl _, by rw [hd1]; exact Marks.nil _ _, g1, noTok, hB2.down, hr1.unown⟩ _ (fun a w q => by cases e4 <;> simp [ax] at q) (fun a' w' q => ⟨rfl, q⟩)) ?_
        rintro e' a2 w3 ⟨rfl, C2', hC2, _, g2, κ2, hs2, _⟩
        have hu2 : SW ⟨W2, Live g1 s1.H, g1⟩ g2 noTok s2.H w3 := hC2.up hs2
        have hl3 := hB2.otherKept hu2 hl2 trivial
        have hK3 := hB2.otherKept hu2 hK2 trivial
        have hB3 : SW ⟨w, Live gh s.H, gh⟩ g2 noTok s2.H w3 := (Ref.down hB2).up hu2
        have fin : ∀ (jump : Option Code), (Instr.endRound (w.heap.size + 1) jump).run K.P w3 = .ok (.bool jump.isNone) (w3.putObj (w.heap.size + 1) (.loop (rec (if jump.isNone then .ready else .done) jump))) ∧
            (w3.putObj (w.heap.size + 1) (.loop (rec (if jump.isNone then .ready else .done) jump))).heap[w.heap.size + 1]? = some (.loop (rec (if jump.isNone then .ready else .done) jump)) ∧
            (w3.putObj (w.heap.size + 1) (.loop (rec (if jump.isNone then .ready else .done) jump))).heap[w.heap.size]? = some (.deferred (some [])) ∧
            SW ⟨w, Live gh s.H, gh⟩ g2 noTok s2.H (w3.putObj (w.heap.size + 1) (.loop (rec (if jump.isNone then .ready else .done) jump))) := fun jump => by
          have := run_endRound (P := K.P) jump hl3
          rw [hrec] at this ⊢
          exact ⟨this, World.putObj_heap_same (lt_of_some hl3), (World.putObj_heap_other (by omega)).trans hK3, hB3.putOther hl3 trivial (.inr (Nat.le_succ _))⟩
        cases e4 with
        | normal =>
          obtain ⟨q1, q2, q3, q4⟩ := fin none
          exact ⟨_, _, q1, .inl ⟨rfl, g2, s2.H, ⟨p2, p', hok⟩, q4, q2, q3⟩⟩
        | exit j =>
          simp only at hok
          rw [Ok_pure] at hok
          obtain ⟨hok, _⟩ := hok
          obtain ⟨rfl, rfl⟩ := Prod.mk.inj hok
          obtain ⟨q1, q2, q3, q4⟩ := fin (some (.exit j))
          exact ⟨_, _, q1, .inr ⟨rfl, g2, q4, q2, q3⟩⟩
        | ret =>
          simp only at hok
          rw [Ok_pure] at hok
          obtain ⟨hok, _⟩ := hok
          obtain ⟨rfl, rfl⟩ := Prod.mk.inj hok
          obtain ⟨q1, q2, q3, q4⟩ := fin (some .ret)
          exact ⟨_, _, q1, .inr ⟨rfl, g2, q4, q2, q3⟩⟩
    · rintro e' W2 ⟨⟨v, rfl⟩, hfin⟩
      rcases hfin with ⟨gi, Hi, ⟨p, p', hok⟩, hsw, hl, hd⟩ | ⟨gi, hsw, hl, hd⟩
      · rw [List.drop_length] at hok
        simp only [seqRounds] at hok
        rw [Ok_pure] at hok
        obtain ⟨hok, _⟩ := hok
        cases hok
        exact ending gi W2 .ready none (by simp) hsw hl hd rfl
      · exact ending gi W2 .done _ (by simp) hsw hl hd rfl

theorem no_defer {ops : Array Oper} (h : (ops.toList.all fun o => match o.op with | .defer _ => false | _ => true) = true) : ∀ (i : Nat) (o : Oper), ops[i]? = some o → ∀ c, o.op ≠ .defer c := by
  intro i o ho c hc
  have hm : o ∈ ops.toList := by
    obtain ⟨hlt, q⟩ := Array.getElem?_eq_some_iff.1 ho
    rw [← q]; simp
  have := List.all_eq_true.1 h o hm
  rw [hc] at this
  cases this

theorem assign_ok (hc : OrcOk K call) {k : Nat} : ∀ (c : Code), simpleA c = true → roundy c = true → ∀ {s s' : St} {e : AX} {p p' : List Bool}, Ok (aCode K call f k c s) p (e, s') p' → ∀ (l : Nat) (F : Fr), Glob K F.g0 → ∀ (a : Act) (w : World), Rel F s a w → ∀ Q : Exit → Act → World → Prop, (∀ a w, ¬ Q .outgrown a w) → (∀ a' w', Rel F s' a' w' → a'.defers = a.defers → Q (ax e) a' w') → c.wpIn (wd (some l)) 0 K.P Q a w := by
  intro c
  induction c with
  | skip =>
    intro _ _ s s' e p p' h l F hg a w hR Q hO hQ
    simp only [aCode] at h
    rw [Ok_pure] at h
    obtain ⟨h, _⟩ := h
    cases h
    exact wpIn_skip (hQ a w hR rfl)
  | region id ops draw =>
    intro hs hr s s' e p p' h l F hg a w hR Q hO hQ
    cases draw with
    | true => cases hs
    | false =>
      simp only [aCode] at h
      rw [Ok_bind] at h
      obtain ⟨s1, p1, h1, h2⟩ := h
      rw [Ok_pure] at h2
      obtain ⟨h2, _⟩ := h2
      cases h2
      exact region_conv (.inr (no_defer hr)) hO (aList_ok hg hc hR h1 hQ)
  | seq x y ihx ihy =>
    intro hs hr s s' e p p' h l F hg a w hR Q hO hQ
    simp only [simpleA, Bool.and_eq_true] at hs
    simp only [roundy, Bool.and_eq_true] at hr
    simp only [aCode] at h
    rw [Ok_bind] at h
    obtain ⟨⟨e1, s1⟩, p1, h1, h2⟩ := h
    refine wpIn_seq (ihx hs.1 hr.1 h1 l F hg a w hR _ (fun a w q => hO a w q) fun a' w' hR' hd => ?_)
    cases e1 with
    | normal => exact ihy hs.2 hr.2 h2 l F hg a' w' hR' Q hO fun a'' w'' q1 q2 => hQ a'' w'' q1 (q2.trans hd)
    | exit i =>
      simp only at h2
      rw [Ok_pure] at h2
      obtain ⟨h2, _⟩ := h2
      cases h2
      exact hQ a' w' hR' hd
    | ret =>
      simp only at h2
      rw [Ok_pure] at h2
      obtain ⟨h2, _⟩ := h2
      cases h2
      exact hQ a' w' hR' hd
  | _ => intro hs; cases hs

theorem code_ok (hc : OrcOk K call) (hp : OrcPure K call) (hm : K.P.follows .mixedOrders = true) (hq : ∀ gf q, K.seq gf = some q → SeqOk K gf q) (k : Nat) : ∀ (c : Code) (r : Option Nat), (r = none ∨ roundy c = true) → ∀ {s s' : St} {e : AX} {p p' : List Bool}, Ok (aCode K call f k c s) p (e, s') p' →
    ∀ (F : Fr), Glob K F.g0 → ∀ (a : Act) (w : World), Rel F s a w → ∀ Q : Exit → Act → World → Prop, (∀ a w, ¬ Q .outgrown a w) → (∀ a' w', Rel F s' a' w' → Q (ax e) a' w') → c.wpIn (wd r) 0 K.P Q a w := by
  intro c
  induction c with
  | skip =>
    intro r hr s s' e p p' h F hg a w hR Q hO hQ
    simp only [aCode] at h
    rw [Ok_pure] at h
    obtain ⟨h, _⟩ := h
    cases h
    exact wpIn_skip (hQ a w hR)
  | region id ops draw =>
    intro r hr s s' e p p' h F hg a w hR Q hO hQ
    have hnd : r = none ∨ ∀ (i : Nat) (o : Oper), ops[i]? = some o → ∀ c, o.op ≠ .defer c := hr.imp (fun q => q) fun q => no_defer q
    cases draw with
    | false =>
      simp only [aCode] at h
      rw [Ok_bind] at h
      obtain ⟨s1, p1, h1, h2⟩ := h
      rw [Ok_pure] at h2
      obtain ⟨h2, _⟩ := h2
      cases h2
      exact region_conv hnd hO (aList_ok hg hc hR h1 fun a' w' q _ => hQ a' w' q)
    | true =>
      simp only [aCode] at h
      rw [Ok_bind] at h
      obtain ⟨s1, p1, h1, h2⟩ := h
      rw [Ok_pure] at h2
      obtain ⟨h2, _⟩ := h2
      cases h2
      exact drawn_conv hnd hO hm (drawn_any hc hp hg hR h1 hQ)
  | seq x y ihx ihy =>
    intro r hr s s' e p p' h F hg a w hR Q hO hQ
    have hx : r = none ∨ roundy x = true := hr.imp id fun q => by simp only [roundy, Bool.and_eq_true] at q; exact q.1
    have hy : r = none ∨ roundy y = true := hr.imp id fun q => by simp only [roundy, Bool.and_eq_true] at q; exact q.2
    simp only [aCode] at h
    rw [Ok_bind] at h
    obtain ⟨⟨e1, s1⟩, p1, h1, h2⟩ := h
    refine wpIn_seq (ihx r hx h1 F hg a w hR _ (fun a w q => hO a w q) fun a' w' hR' => ?_)
    cases e1 with
    | normal => exact ihy r hy h2 F hg a' w' hR' Q hO hQ
    | exit i =>
      simp only at h2
      rw [Ok_pure] at h2
      obtain ⟨h2, _⟩ := h2
      cases h2
      exact hQ a' w' hR'
    | ret =>
      simp only at h2
      rw [Ok_pure] at h2
      obtain ⟨h2, _⟩ := h2
      cases h2
      exact hQ a' w' hR'
  | cond c x y ihx ihy =>
    intro r hr s s' e p p' h F hg a w hR Q hO hQ
    have hx : r = none ∨ roundy x = true := hr.imp id fun q => by simp only [roundy, Bool.and_eq_true] at q; exact q.1
    have hy : r = none ∨ roundy y = true := hr.imp id fun q => by simp only [roundy, Bool.and_eq_true] at q; exact q.2
    simp only [aCode] at h
    split at h
    · rename_i t ht
      rw [Ok_bind] at h
      obtain ⟨b, p1, h1, h2⟩ := h
      have hb := Ok_branch h1
      subst hb
      have hR0 := hR
      obtain ⟨F', hF, hd, g, κ, hs, hrg⟩ := hR
      have hv := (evalO_RV ((hg.mono hF.le).mono hs.le) hrg ht).1
      obtain ⟨hv', _⟩ := vr_v hv
      refine wpIn_cond hv'.symm ?_
      cases b with
      | true =>
        simp only [if_true] at h2 ⊢
        exact ihx r hx h2 F hg a w hR0 Q hO hQ
      | false =>
        simp only [Bool.false_eq_true, if_false] at h2 ⊢
        exact ihy r hy h2 F hg a w hR0 Q hO hQ
    · exact absurd h Ok_fail
  | block id c ih =>
    intro r hr s s' e p p' h F hg a w hR Q hO hQ
    simp only [aCode] at h
    rw [Ok_bind] at h
    obtain ⟨⟨e1, s1⟩, p1, h1, h2⟩ := h
    refine wpIn_block (ih r (hr.imp (fun q => q) fun q => by simpa [roundy] using q) h1 F hg a w hR _ (fun a w q => hO a w q) fun a' w' hR' => ?_)
    cases e1 with
    | exit i =>
      simp only at h2
      simp only [ax, Exit.inBlock]
      split at h2
      · rename_i hi
        rw [Ok_pure] at h2
        obtain ⟨h2, _⟩ := h2
        cases h2
        rw [if_pos hi]
        exact hQ a' w' hR'
      · rename_i hi
        rw [Ok_pure] at h2
        obtain ⟨h2, _⟩ := h2
        cases h2
        rw [if_neg hi]
        exact hQ a' w' hR'
    | normal =>
      simp only at h2
      rw [Ok_pure] at h2
      obtain ⟨h2, _⟩ := h2
      cases h2
      exact hQ a' w' hR'
    | ret =>
      simp only at h2
      rw [Ok_pure] at h2
      obtain ⟨h2, _⟩ := h2
      cases h2
      exact hQ a' w' hR'
  | loop c ih =>
    intro r hr s s' e p p' h F hg a w hR Q hO hQ
    simp only [aCode] at h
    exact wpIn_loop_rounds k (iter_ok (fun h a w hR Q hO hQ => ih r (hr.imp (fun q => q) fun q => by simpa [roundy] using q) h F hg a w hR Q hO hQ) k h a w hR Q hO hQ)
  | exit id =>
    intro r hr s s' e p p' h F hg a w hR Q hO hQ
    simp only [aCode] at h
    rw [Ok_pure] at h
    obtain ⟨h, _⟩ := h
    cases h
    exact wpIn_exit (hQ a w hR)
  | ret =>
    intro r hr s s' e p p' h F hg a w hR Q hO hQ
    simp only [aCode] at h
    rw [Ok_pure] at h
    obtain ⟨h, _⟩ := h
    cases h
    exact wpIn_ret (hQ a w hR)
  | rangeFunc g ps assign body iha ihb =>
    intro r hr s s' e p p' h F hg a w hR Q hO hQ
    rcases hr with rfl | hr
    · exact range_ok hq hg (fun h1 h2 => assign_ok hc assign h1 h2) (fun h1 _ _ _ _ _ h l F hg a w hR Q hO hQ => ihb (some l) (.inr h1) h F hg a w hR Q hO hQ) h hR hQ
    · cases hr
  | _ =>
    intro r hr s s' e p p' h
    simp only [aCode] at h
    exact absurd h Ok_fail
end
end Go.Tm
