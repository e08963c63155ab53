/- The tree machine: calls. -/
import Derived.Test.YtaefgigfoifjaaaGreatDoorTmS21r
set_option linter.unusedVariables false
set_option linter.unusedSimpArgs false
set_option linter.unusedSectionVars false
namespace Go.Tm
section
variable {K : Cfg} {f : FuncId} {call : Orc} {F : Fr} {g : Gh} {κ : Nat → Option Tok} {w : World} {H : List AB}

theorem result_ok (hs : SW F g κ H w) {κ2 : Nat → Option Tok} {own : Nat → Nat} {regs : List AV} {tmps : Array Value} (hr : Regs g κ2 own regs tmps) {φ : ResultVar → Sem Value} (hφ1 : ∀ t, φ (.tmp t) = pure (tmps.getD t undef)) (hφ2 : ∀ a t, φ (.cell a t) = do loadVar t (← asAddr (tmps.getD a undef))) : ∀ {rs : List ResultVar} {xs : List AV}, mapO (aResult K H regs) rs = some xs →
  ∃ vs, (rs.mapM φ : Sem (List Value)).run K.P w = .ok vs w ∧ VRs g xs vs
 | [], xs, h => by simp [mapO] at h; subst h; exact ⟨[], rfl, VRs.nil⟩
 | r :: rs, xs, h => by
  simp only [mapO] at h
  split at h
  ·simp at h
  ·rename_i x hx
   split at h
   ·simp at h
   ·rename_i xs' hxs
    simp at h; subst h
    obtain ⟨vs, h1, h2⟩ := result_ok hs hr hφ1 hφ2 hxs
    have reg : ∀ {t : Nat} {y : AV}, nth regs t = some y → VR g y (tmps.getD t undef) := fun {t y} hy => by
     rw [nth_eq] at hy
     have hlt : t < tmps.size := by rw [← hr.1]; exact (List.getElem?_eq_some_iff.1 hy).1
     have := (hr.2 t y _ hy (Array.getElem?_eq_getElem hlt)).1
     simpa [Array.getD, hlt] using this
    cases r with
    | tmp t =>
     simp only [aResult] at hx
     exact ⟨_ :: vs, by simp only [List.mapM_cons, hφ1, Sem.run_bind, Sem.run_pure, h1, Result.andThen_ok], VRs.cons (reg hx) h2⟩
    | cell a t =>
     simp only [aResult] at hx
     split at hx
     ·rename_i y hy
      simp only [Option.map_eq_some_iff] at hx
      obtain ⟨z, hz, rfl⟩ := hx
      obtain ⟨v, hv, hvr⟩ := run_loadAt hs (reg hy) hz
      refine ⟨v :: vs, ?_, VRs.cons hvr.unown h2⟩
      have e : (do loadVar t (← asAddr (tmps.getD a undef)) : Sem Value).run K.P w = .ok v w := by
       have hy' := reg hy
       unfold aLoad at hz
       cases hd : deref H y with
       | none => simp [hd] at hz
       | some cs =>
        obtain ⟨ad, had, _⟩ := deref_lies hs hy' hd
        rw [had] at hv ⊢
        simp only [Instr.loadAt, Instr.sureAddr] at hv
        simpa [asAddr] using hv
      simp only [List.mapM_cons, hφ2]
      rw [Sem.run_bind, e, Result.andThen_ok, Sem.run_bind, h1, Result.andThen_ok]
      rfl
     ·simp at hx

theorem results_ok (hs : SW F g κ H w) {κ2 : Nat → Option Tok} {own : Nat → Nat} {regs : List AV} {tmps : Array Value} (hr : Regs g κ2 own regs tmps) {fn : Func} {x : AV} (h : aResults K H regs fn.results.toList = some x) : ∃ v, (results fn tmps).run K.P w = .ok v w ∧ VR g x v := by
 have main : ∀ {xs : List AV}, mapO (aResult K H regs) fn.results.toList = some xs → ∃ vs, VRs g xs vs ∧ (results fn tmps).run K.P w = .ok (if h : (⟨vs⟩ : Array Value).size = 1 then (⟨vs⟩ : Array Value)[0] else .tuple ⟨vs⟩) w := by
  intro xs hxs
  have key : ∀ φ : ResultVar → Sem Value, (∀ t, φ (.tmp t) = pure (tmps.getD t undef)) → (∀ a t, φ (.cell a t) = do loadVar t (← asAddr (tmps.getD a undef))) →
    ∃ vs, VRs g xs vs ∧ (do let vs ← fn.results.mapM φ; pure (if h : vs.size = 1 then vs[0] else .tuple vs) : Sem Value).run K.P w = .ok (if h : (⟨vs⟩ : Array Value).size = 1 then (⟨vs⟩ : Array Value)[0] else .tuple ⟨vs⟩) w := fun φ e1 e2 => by
   obtain ⟨vs, h1, h2⟩ := result_ok hs hr e1 e2 hxs
   refine ⟨vs, h2, ?_⟩
   rw [Array.mapM_eq_mapM_toList, Sem.run_bind, Sem.run_map, h1]
   rfl
  unfold results
  exact key _ (fun _ => rfl) (fun _ _ => rfl)
 unfold aResults at h
 split at h
 ·rename_i x' hx
  simp at h; subst h
  obtain ⟨vs, h1, h2⟩ := main hx
  obtain ⟨v, rfl, hv⟩ := one_arg h1
  exact ⟨v, by rw [h2]; rfl, hv⟩
 ·rename_i xs hne hx
  simp at h; subst h
  obtain ⟨vs, h1, h2⟩ := main hx
  refine ⟨_, h2, ?_⟩
  rw [dif_neg]
  ·exact .tup h1.1 h1.2
  ·intro hsz
   have : xs.length = 1 := by rw [h1.1]; exact hsz
   obtain ⟨y, hy⟩ := List.length_eq_one_iff.1 this
   exact hne y hy
 ·simp at h

structure CfgOk (K : Cfg) : Prop where
 mixed : K.P.follows .mixedOrders = true
 names : ∀ (f : FuncId) (fn : Func), K.P.funcs[f]? = some fn → fn.body.isSome = true → (fn.name == "runtime.NumGoroutine") = false
 lib : ∀ (f : FuncId) h args H r H', K.lib f = some h → h args H = some (r, H') → CallOk K f args H r H'
 libv : ∀ (f : FuncId) h args H r, K.libv f = some h → h args = some r → CallOk K f args H r H
 seq : ∀ (f : FuncId) q, K.seq f = some q → SeqOk K f q := by intro _ _ h; cases h

theorem leaves_ok {fn : Func} {tmps : Array Value} {R : Ending → World → Prop} {F : Fr} {g : Gh} {H : List AB} : ∀ (M : List Nat) (w : World), M.Nodup → (∀ D ∈ M, F.w0.heap.size ≤ D ∧ w.heap[D]? = some (.deferred (some []))) → SW F g noTok H w →
  (∀ w', SW F g noTok H w' → ∃ v, (results fn tmps).run K.P w' = .ok v w' ∧ R (.returned v) w') → LeavesInM (wd none) 0 K.P fn tmps R (M.map mark) .returning w
 | [], w, _, _, hs, hR => hR w hs
 | D :: M, w, hn, hD, hs, hR => by
  obtain ⟨h1, h2⟩ := hD D (by simp)
  obtain ⟨n1, n2⟩ := List.nodup_cons.1 hn
  refine ⟨by simp, .inl ⟨D, _, rfl, run_takeDeferred h2, ?_⟩⟩
  refine leaves_ok M _ n2 (fun D' hD' => ?_) (hs.putOther h2 trivial (.inr h1)) hR
  obtain ⟨q1, q2⟩ := hD D' (by simp [hD'])
  exact ⟨q1, (World.putObj_heap_other (by rintro rfl; exact n1 hD')).trans q2⟩

theorem body_ok (hk : CfgOk K) (hc : OrcOk K call) (hp : OrcPure K call) {k : Nat} {args : List AV} {r : AV} {H' : List AB} {p p' : List Bool} (h : Ok (aBody K call k f args H) p (r, H') p') : CallOk K f args H r H' := by
 unfold aBody at h
 split at h
 ·exact absurd h Ok_fail
 ·rename_i fn hfn
  split at h
  ·exact absurd h Ok_fail
  ·rename_i c hcd
   rw [Ok_bind] at h
   obtain ⟨⟨e, s⟩, p1, h1, h2⟩ := h
   intro g w rargs hg hs hv
   left
   refine ⟨?_, ?_⟩
   ·have hn := hk.names f fn hfn (by rw [hcd]; rfl)
    simp only [callFunc, Sem.run_bind, run_program, Result.andThen_ok, hfn]
    rw [if_neg (by rw [hn]; simp), if_neg (by rw [hcd]; simp)]
    rfl
   ·refine callsIn_wide.1 (callsIn_of_wp_marks (F := wd none) (n := 0) hfn hcd trivial ?_)
    have hR : Rel ⟨w, Live g H, g⟩ { regs := args.map AV.unown ++ List.replicate (fn.ntmps - args.length) .undef, own := fun _ => 0, H } { tmps := ⟨rargs⟩ ++ Array.replicate (fn.ntmps - (⟨rargs⟩ : Array Value).size) undef, defers := [] } w := by
     refine ⟨_, .refl _, Marks.nil _ _, g, noTok, hs, ?_, fun i x v q1 q2 => ?_⟩
     ·simp [hv.1]
     ·rw [List.getElem?_append] at q1
      rw [Array.getElem?_append] at q2
      simp only [List.length_map] at q1
      have hl := hv.1
      split at q1
      ·rename_i hi
       rw [if_pos (by simpa [← hl] using hi)] at q2
       simp only [List.getElem?_map, Option.map_eq_some_iff] at q1
       obtain ⟨y, hy, rfl⟩ := q1
       exact RV.of_unown (hv.2 i y v hy (by simpa using q2))
      ·rename_i hi
       rw [if_neg (by simpa [← hl] using hi)] at q2
       rw [List.getElem?_replicate] at q1
       rw [Array.getElem?_replicate] at q2
       split at q1
       ·split at q2
        ·cases q1; cases q2; exact RV.undef
        ·simp at q2
       ·simp at q1
    have fin : ∀ (a' : Act) (w' : World), Rel ⟨w, Live g H, g⟩ s a' w' → ∀ {q q' : List Bool}, Ok (E.of (aResults K s.H s.regs fn.results.toList) >>= fun r => pure (r, s.H) : E (AV × List AB)) q (r, H') q' →
      LeavesInM (wd none) 0 K.P fn a'.tmps (fun | .returned v, w' => ∃ g', SW ⟨w, Live g H, g⟩ g' noTok H' w' ∧ VR g' r v | _, _ => False) a'.defers .returning w' := by
     rintro a' w' ⟨F', hF, ⟨M, hM, hMn, hMD⟩, g', κ', hs', hr'⟩ q q' hq
     rw [Ok_bind] at hq
     obtain ⟨r1, p2, q1, q2⟩ := hq
     rw [Ok_of] at q1
     rw [Ok_pure] at q2
     obtain ⟨q2, _⟩ := q2
     cases q2
     rw [hM]
     have hup := hF.up hs'
     refine leaves_ok (F := ⟨w, Live g H, g⟩) M w' hMn (fun D hD => ⟨(hMD D hD).1, ?_⟩) hup fun w'' hs'' => ?_
     ·rw [hs'.kept.block D (hMD D hD).2.1 (hMD D hD).2.2.1]; exact (hMD D hD).2.2.2
     ·obtain ⟨v, hv1, hv2⟩ := results_ok hs'' hr' q1.1
      exact ⟨v, hv1, g', hs'', hv2⟩
    refine code_ok hc hp hk.mixed hk.seq k c none (.inl rfl) h1 ⟨w, Live g H, g⟩ hg _ w hR _ (fun a w q => q) fun a' w' hR' => ?_
    cases e with
    | exit i => exact absurd h2 Ok_fail
    | normal => exact fin a' w' hR' h2
    | ret => exact fin a' w' hR' h2

theorem snap_ok {g g' : Gh} {w' : World} {F : Fr} {H : List AB} {κ : Nat → Option Tok} (hs : SW F g κ H w') (hI : ∀ b o v, g.I b o = some v → g'.I b o = some v) (hnew : ∀ k A rb, H[k]? = some A → A.live = true → g.ρ k = some rb → ∀ i v, w'.cell? ⟨rb, i, none⟩ = some v → g'.I rb i = some v) :
  ∀ (n : Nat) {x y : AV} {r : Value}, VR g x r → snap H n x = some y → VR g' y r
 | 0, x, y, r, hx, h => by
  simp only [snap] at h
  split at h
  ·rename_i hc
   cases h
   exact hx.closed hI hc
  ·simp at h
 | n + 1, x, y, r, hx, h => by
  have lst : ∀ {xs ys : List AV} {rs : List Value}, VRs g xs rs → mapO (snap H n) xs = some ys → VRs g' ys rs := fun {xs ys rs} hv hm => by
   refine ⟨by rw [mapO_len hm]; exact hv.1, fun i y r q1 q2 => ?_⟩
   have hi : i < xs.length := by rw [hv.1]; exact (List.getElem?_eq_some_iff.1 q2).1
   obtain ⟨z, hz, hw⟩ := mapO_get hm i xs[i] (List.getElem?_eq_getElem hi)
   rw [q1] at hw; cases hw
   exact snap_ok hs hI hnew n (hv.2 i _ r (List.getElem?_eq_getElem hi) q2) hz
  simp only [snap] at h
  split at h
  ·rename_i b off len sz
   rw [nth_eq] at h
   split at h
   ·rename_i t cs hH
    split at h
    ·rename_i hc
     obtain ⟨c1, c2⟩ := hc
     split at h
     ·rename_i c hm
      split at h
      ·rename_i hcl
       cases h
       simp only [Bool.and_eq_true] at hcl
       cases hx with
       | @ms _ _ _ _ rb cap hb hn =>
        obtain ⟨rcs, r1, r2, _, r4⟩ := cells_blk hs hb hH
        have hv : VRs g ((cs.drop off).take (len * sz)) ((rcs.toList.drop off).take (len * sz)) := by
         refine ⟨by simp; omega, fun i x r q1 q2 => ?_⟩
         rw [List.getElem?_take] at q1 q2
         split at q1
         ·rename_i hlt
          rw [if_pos hlt] at q2
          rw [List.getElem?_drop] at q1 q2
          exact r4 _ x r q1 q2
         ·simp at q1
        have hv' := lst hv hm
        have hlen : c.length = len * sz := by rw [mapO_len hm]; simp; omega
        obtain ⟨k1, k2, k3⟩ := chunk_ok c2 len c hcl.2 hlen
        have := VR.sl (g := g') (xs := chunk sz len c) (tl := .unk) (b := rb) (o := off) (cap := cap) (sz := sz) (fun k => ((rcs.toList.drop off).take (len * sz)).getD k .nilIface) (by simp) k2 (by rw [k3]; exact hcl.1) (by rw [k3]; exact allOne_iff.1 hcl.2) (by rw [k1]; exact hn.1) (by simp)
         (fun k y hy => by
          rw [k3] at hy
          obtain ⟨r, p1, p2⟩ := hv'.get hy
          rw [List.getD_eq_getElem?_getD, p1]
          refine hnew b _ rb hH rfl hb _ _ ?_
          rw [List.getElem?_take] at p1
          split at p1
          ·rw [List.getElem?_drop] at p1
           simp only [World.cell?, r1]
           simpa using p1
          ·simp at p1)
         (fun k y hy => by
          rw [k3] at hy
          obtain ⟨r, p1, p2⟩ := hv'.get hy
          rw [List.getD_eq_getElem?_getD, p1]
          exact p2)
        rw [k1] at this
        exact this
      ·simp at h
     ·simp at h
    ·simp at h
   ·rename_i t m q hH
    obtain ⟨o1, o2⟩ := hs.ropeOk hH
    subst o1
    rw [BT.from_eq off o2] at h
    split at h
    ·rename_i hc
     obtain ⟨c1, c2⟩ := hc
     split at h
     ·rename_i c hm
      split at h
      ·rename_i hcl
       cases h
       simp only [Bool.and_eq_true] at hcl
       cases hx with
       | @ms _ _ _ _ rb cap hb hn =>
        obtain ⟨rcs, r1, r2, _, r4⟩ := rope_blk hs hb hH
        have hv : VRs g ((q.toL.drop off).take (len * sz)) ((rcs.toList.drop off).take (len * sz)) := by
         refine ⟨by simp; omega, fun i x r q1 q2 => ?_⟩
         rw [List.getElem?_take] at q1 q2
         split at q1
         ·rename_i hlt
          rw [if_pos hlt] at q2
          rw [List.getElem?_drop] at q1 q2
          exact r4 _ x r q1 q2
         ·simp at q1
        have hv' := lst hv hm
        have hlen : c.length = len * sz := by rw [mapO_len hm]; simp; omega
        obtain ⟨k1, k2, k3⟩ := chunk_ok c2 len c hcl.2 hlen
        have := VR.sl (g := g') (xs := chunk sz len c) (tl := .unk) (b := rb) (o := off) (cap := cap) (sz := sz) (fun k => ((rcs.toList.drop off).take (len * sz)).getD k .nilIface) (by simp) k2 (by rw [k3]; exact hcl.1) (by rw [k3]; exact allOne_iff.1 hcl.2) (by rw [k1]; exact hn.1) (by simp)
         (fun k y hy => by
          rw [k3] at hy
          obtain ⟨r, p1, p2⟩ := hv'.get hy
          rw [List.getD_eq_getElem?_getD, p1]
          refine hnew b _ rb hH rfl hb _ _ ?_
          rw [List.getElem?_take] at p1
          split at p1
          ·rw [List.getElem?_drop] at p1
           simp only [World.cell?, r1]
           simpa using p1
          ·simp at p1)
         (fun k y hy => by
          rw [k3] at hy
          obtain ⟨r, p1, p2⟩ := hv'.get hy
          rw [List.getD_eq_getElem?_getD, p1]
          exact p2)
        rw [k1] at this
        exact this
      ·simp at h
     ·simp at h
    ·simp at h
   ·simp at h
  ·rename_i b off
   rw [nth_eq] at h
   split at h
   ·rename_i t cs hH
    split at h
    ·rename_i c hm
     split at h
     ·rename_i hcl
      cases h
      simp only [Bool.and_eq_true] at hcl
      cases hx with
      | @ptr _ _ rb hb =>
       obtain ⟨rcs, r1, r2, _, r4⟩ := cells_blk hs hb hH
       have hv : VRs g (cs.drop off) ((rcs.toList.drop off).take (cs.length - off)) := by
        refine ⟨by simp; omega, fun i x r q1 q2 => ?_⟩
        rw [List.getElem?_take] at q2
        split at q2
        ·rw [List.getElem?_drop] at q1 q2
         exact r4 _ x r q1 q2
        ·simp at q2
       have hv' := lst hv hm
       refine VR.rp (fun k => ((rcs.toList.drop off).take (cs.length - off)).getD k .nilIface) hcl.1 (allOne_iff.1 hcl.2) (fun k y hy => ?_) (fun k y hy => ?_)
       ·obtain ⟨r, p1, p2⟩ := hv'.get hy
        rw [List.getD_eq_getElem?_getD, p1]
        refine hnew b _ rb hH rfl hb _ _ ?_
        rw [List.getElem?_take] at p1
        split at p1
        ·rw [List.getElem?_drop] at p1
         simp only [World.cell?, r1]
         simpa using p1
        ·simp at p1
       ·obtain ⟨r, p1, p2⟩ := hv'.get hy
        rw [List.getD_eq_getElem?_getD, p1]
        exact p2
     ·simp at h
    ·simp at h
   ·simp at h
  ·split at h
   ·rename_i y hy
    cases h
    cases hx with
    | iface hx => exact .iface (snap_ok hs hI hnew n hx hy)
   ·simp at h
  ·split at h
   ·rename_i cs c hm
    cases h
    cases hx with
    | agg hl hh =>
     have := lst ⟨hl, hh⟩ hm
     exact .agg this.1 this.2
   ·simp at h
  ·split at h
   ·rename_i cs c hm
    cases h
    cases hx with
    | tup hl hh =>
     have := lst ⟨hl, hh⟩ hm
     exact .tup this.1 this.2
   ·simp at h
  ·split at h
   ·rename_i hc
    cases h
    exact hx.closed hI hc
   ·simp at h

theorem callW_ok (hk : CfgOk K) (hc : OrcOk K call) (hp : OrcPure K call) {k : Nat} {args : List AV} {r : AV} {H' : List AB} {p p' : List Bool} (h : Ok (aCallW K call k f args H) p (r, H') p') : CallOk K f args H r H' := by
 unfold aCallW at h
 split at h
 ·rename_i g hg
  split at h
  ·rename_i r' hr
   rw [Ok_pure] at h
   obtain ⟨h, _⟩ := h
   cases h
   exact hk.libv f g args H r hg hr
  ·exact absurd h Ok_fail
 ·split at h
  ·rename_i g hg
   rw [Ok_of] at h
   exact hk.lib f g args H r H' hg h.1
  ·split at h
   ·rename_i hpure
    simp only [Bool.and_eq_true] at hpure
    rw [Ok_bind] at h
    obtain ⟨⟨r1, H1⟩, p1, h1, h2⟩ := h
    rw [Ok_bind] at h2
    obtain ⟨r2, p2, h2, h3⟩ := h2
    rw [Ok_of] at h2
    obtain ⟨hsn, _⟩ := h2
    split at h3
    ·rename_i hcl
     rw [Ok_pure] at h3
     obtain ⟨h3, _⟩ := h3
     cases h3
     have hb := body_ok hk hc hp h1
     intro g w rargs hg hs hv
     have hI0 : ∀ b o v, g.I b o = some v → (⟨g.I, fun _ => none, g.N, g.dr⟩ : Gh).I b o = some v := fun _ _ _ q => q
     have hv0 : VRs ⟨g.I, fun _ => none, g.N, g.dr⟩ args rargs := ⟨hv.1, fun i x r q1 q2 => (hv.2 i x r q1 q2).closed hI0 (closedL_get hpure.2 q1)⟩
     have hg0 : Glob K ⟨g.I, fun _ => none, g.N, g.dr⟩ := ⟨fun i cs q => (hg.gl i cs q).closed hI0 rfl, hg.ints, hg.dr⟩
     have hlive : Live (⟨g.I, fun _ => none, g.N, g.dr⟩ : Gh) [] = fun _ => False := by
      funext rb
      simp [Live]
     have hs0 : SW ⟨w, Live (⟨g.I, fun _ => none, g.N, g.dr⟩ : Gh) [], ⟨g.I, fun _ => none, g.N, g.dr⟩⟩ ⟨g.I, fun _ => none, g.N, g.dr⟩ noTok [] w :=
      ⟨hs.imm, by simp, by simp, by simp, by simp [noTok], by simp [noTok], .refl _ w _, fun _ _ _ _ _ q => q, .refl _⟩
     refine (hb _ w rargs hg0 hs0 hv0).mono fun v w' => ?_
     rintro ⟨g1, q1, q2⟩
     have hold : ∀ b o v, g.I b o = some v → b < w.heap.size := fun b o v q => hs.imm_lt q
     let g' : Gh := ⟨fun b i => if b < w.heap.size then g1.I b i else w'.cell? ⟨b, i, none⟩, g.ρ, g.N, g.dr⟩
     have hI : ∀ b o v, g1.I b o = some v → g'.I b o = some v := fun b o v q => by
      show (if b < w.heap.size then g1.I b o else w'.cell? ⟨b, o, none⟩) = some v
      split
      ·exact q
      ·exact q1.imm b o v q
     have hkept := q1.kept
     have hsame : ∀ b, b < w.heap.size → w'.heap[b]? = w.heap[b]? := fun b hb' => hkept.block b hb' (by show ¬ Live _ _ b; rw [hlive]; simp)
     have hle : Gh.Le g g' := ⟨fun b o v q => hI b o v (q1.le.imm b o v q), fun _ _ q => q, fun _ _ _ => rfl, rfl⟩
     have hback : ∀ b i, b < w.heap.size → g'.I b i = g.I b i := fun b i hb' => by
      show (if b < w.heap.size then g1.I b i else w'.cell? ⟨b, i, none⟩) = g.I b i
      rw [if_pos hb']
      cases hq : g1.I b i with
      | some v =>
       have := q1.old b i v hb' (by show ¬ Live _ _ b; rw [hlive]; simp) hq
       exact this.symm
      | none =>
       cases hq' : g.I b i with
       | none => rfl
       | some v =>
        have := q1.le.imm b i v hq'
        rw [hq] at this; cases this
     refine ⟨g', ?_, ?_⟩
     ·refine ⟨fun b o v q => ?_, fun k b q => ?_, fun k A hk hl => ?_, hs.inj, by simp [noTok], by simp [noTok], ?_, fun b i v hb' hl q => ?_, hle⟩
      ·by_cases hb' : b < w.heap.size
       ·rw [hback b o hb'] at q
        have := hs.imm b o v q
        simp only [World.cell?] at this ⊢
        rw [hsame b hb']; exact this
       ·have q' : (if b < w.heap.size then g1.I b o else w'.cell? ⟨b, o, none⟩) = some v := q
        rw [if_neg hb'] at q'; exact q'
      ·have := hs.dom k b q
       exact ⟨this.1, Nat.lt_of_lt_of_le this.2 hkept.size⟩
      ·obtain ⟨rb, o, e1, e2, e3, e4, e5, e6⟩ := hs.blk k A hk hl
       have hlt := lt_of_some e2
       exact ⟨rb, o, e1, by rw [hsame rb hlt]; exact e2, e3.mono hle, e4, fun i => by rw [hback rb i hlt]; exact e5 i, e6⟩
      ·exact ⟨hkept.os, hkept.tape, hkept.output, hkept.size, fun b hb' _ => hsame b hb', hkept.drawn⟩
      ·rw [hback b i hb'] at q; exact q
     ·refine snap_ok q1 hI (fun k A rb hk hl hr i v hc' => ?_) 6 q2 hsn
      obtain ⟨rb', o, e1, e2, e3, e4, e5, e6⟩ := q1.blk k A hk hl
      rw [hr] at e1; cases e1
      have hge : ¬ rb < w.heap.size := by
       rcases e4 with e4 | e4
       ·have e4' : Live (⟨g.I, fun _ => none, g.N, g.dr⟩ : Gh) [] rb := e4
        rw [hlive] at e4'; exact e4'.elim
       ·have e4' : w.heap.size ≤ rb := e4
        omega
      show (if rb < w.heap.size then g1.I rb i else w'.cell? ⟨rb, i, none⟩) = some v
      rw [if_neg hge]; exact hc'
    ·exact absurd h3 Ok_fail
   ·exact body_ok hk hc hp h

theorem callW_pure {k : Nat} {args : List AV} {r : AV} {H' : List AB} {p p' : List Bool} (hpu : isPure K f args = true) (h : Ok (aCallW K call k f args H) p (r, H') p') : H' = H ∧ ∀ H2, Ok (aCallW K call k f args H2) p (r, H2) p' := by
 unfold aCallW at h ⊢
 unfold isPure at hpu
 split at h
 ·split at h
  ·rw [Ok_pure] at h
   obtain ⟨h, rfl⟩ := h
   cases h
   exact ⟨rfl, fun H2 => Ok_pure.2 ⟨rfl, rfl⟩⟩
  ·exact absurd h Ok_fail
 ·rename_i hlv
  rw [hlv] at hpu
  simp only at hpu
  split at h
  ·rename_i hl
   rw [hl] at hpu
   simp at hpu
  ·rename_i hl
   rw [hl] at hpu
   simp only at hpu
   rw [hpu] at h ⊢
   simp only at h ⊢
   rw [Ok_bind] at h
   obtain ⟨⟨r1, H1⟩, p1, h1, h2⟩ := h
   rw [Ok_bind] at h2
   obtain ⟨r2, p2, h2, h3⟩ := h2
   split at h3
   ·rename_i hcl
    rw [Ok_pure] at h3
    obtain ⟨h3, rfl⟩ := h3
    cases h3
    refine ⟨rfl, fun H2 => ?_⟩
    rw [Ok_bind]
    refine ⟨_, p1, h1, ?_⟩
    rw [Ok_bind]
    refine ⟨_, _, h2, ?_⟩
    simp only [hcl]
    exact Ok_pure.2 ⟨rfl, rfl⟩
   ·exact absurd h3 Ok_fail

theorem call_pure : ∀ n, OrcPure K (aCall K n)
 | 0 => fun _ _ _ _ _ _ _ _ h => absurd h Ok_fail
 | n + 1 => fun _ _ _ _ _ _ _ hpu h => callW_pure hpu h

theorem call_ok (hk : CfgOk K) : ∀ n, OrcOk K (aCall K n)
 | 0 => fun _ _ _ _ _ _ _ h => absurd h Ok_fail
 | n + 1 => fun _ _ _ _ _ _ _ h => callW_ok hk (call_ok hk n) (call_pure n) h
end
end Go.Tm
