/- The tree machine: append, as a whole; copy, clear. -/
import Derived.Test.YtpgkkmlmdoacmaaTmS8
set_option linter.unusedVariables false
set_option linter.unusedSimpArgs false
set_option linter.unusedSectionVars false
namespace Go.Tm
section
variable {F : Fr} {g : Gh} {κ : Nat → Option Tok} {own : Nat → Nat} {H : List AB} {w : World} {K : Cfg}

theorem info_size {P : Program} {t : TypeId} {n : Nat} {info : TypeInfo} (h : tSize P t = some n) (hi : P.info? t = some info) : info.size = n := by
  simp [tSize, hi] at h; exact h

theorem flat_append (xs ys : List AV) : (xs ++ ys).flatMap AV.cells = xs.flatMap AV.cells ++ ys.flatMap AV.cells := by simp

theorem zeroCells_len (z : Array Value) (m : Nat) : (Builtin.zeroCells z m).size = m * z.size := by simp [Builtin.zeroCells]

/-- The arm in which a new row is made, for a slice whose cells never change. -/
theorem append_new (hs : SW F g κ H w) {xs ys : List AV} {sz : Nat} (hx : ∀ y ∈ xs, y.cells.length = sz) (hy : ∀ y ∈ ys, y.cells.length = sz) {olds news : List Value} (ho : VRs g (xs.flatMap AV.cells) olds) (hn : VRs g (ys.flatMap AV.cells) news)
    (hc : AV.closedL ((xs ++ ys).flatMap AV.cells) = true) (h1 : allOne ((xs ++ ys).flatMap AV.cells) = true) {z : Array Value} (hz : z.size = sz) (c : Nat) (hcap : xs.length + ys.length ≤ c) (elem : TypeId) (site : Nat) (ep : Nat) (hep : ep ≠ 0)
    (own' : Nat → Nat) (hown : own' site = ep) (κ0 : Nat → Option Tok) (hκ0 : ∀ s t, κ0 s = some t → κ s = some t) :
    ∃ g', Gh.Le g g' ∧ SW F g' (fun s => if s = site then some ⟨w.heap.size, xs.length + ys.length, sz, c⟩ else κ0 s) H (w.drew.alloc (.cells (olds.toArray ++ news.toArray ++ Builtin.zeroCells z (c - (xs.length + ys.length))) elem)) ∧
      RV g' (fun s => if s = site then some ⟨w.heap.size, xs.length + ys.length, sz, c⟩ else κ0 s) own' (.sl (xs ++ ys) (.own site ep sz)) (.slice (some ⟨w.heap.size, 0, none⟩) (xs.length + ys.length) c) := by
  have hsd := hs.drew
  have hcells : ∀ y ∈ xs ++ ys, y.cells.length = sz := fun y q => (List.mem_append.1 q).elim (hx y) (hy y)
  have hv : VRs g ((xs ++ ys).flatMap AV.cells) (olds ++ news) := by rw [flat_append]; exact ho.append hn
  have hlen : (olds ++ news).length = (xs.length + ys.length) * sz := by rw [← hv.1, flat_len hcells]; simp
  refine ⟨g.addImm w.heap.size (olds ++ news), hsd.le_addImm _, ?_, ?_, ?_⟩
  · refine hsd.allocImm _ elem (olds ++ news) (fun i v q => ?_) _ (fun s t q => ?_) (fun s s' t t' q q' e e' => ?_)
    · have : i < (olds ++ news).length := (List.getElem?_eq_some_iff.1 q).1
      simp only [Array.toList_append, List.append_assoc]
      rw [← List.append_assoc, List.getElem?_append, if_pos this]; exact q
    · split at q
      · simp at q; subst q
        refine .inr ⟨rfl, ?_, hcap, Nat.le_of_eq hlen⟩
        simp only [Array.size_append, List.size_toArray, zeroCells_len, hz]
        rw [← List.length_append, hlen, ← Nat.add_mul]
        exact Nat.mul_le_mul_right _ (by omega)
      · exact .inl (hκ0 s t q)
    · have hlt : ∀ s t, κ0 s = some t → t.blk ≠ w.heap.size := fun s t q => by
        obtain ⟨_, ⟨_, _, h2, _⟩, _⟩ := hs.tok s t (hκ0 s t q)
        have := lt_of_some h2; omega
      split at q
      · split at q'
        · omega
        · exact absurd e' (hlt _ _ q')
      · exact absurd e (hlt _ _ q)
  · have := newImm (hs := hsd) (olds.toArray ++ news.toArray ++ Builtin.zeroCells z (c - (xs.length + ys.length))) elem hcells hc h1 (olds ++ news) hv (fun i v q => by
      have : i < (olds ++ news).length := (List.getElem?_eq_some_iff.1 q).1
      simp only [Array.toList_append, List.append_assoc]
      rw [← List.append_assoc, List.getElem?_append, if_pos this]; exact q) c (by simp; omega) (.own site ep sz) (by simp) (by simp)
    simpa using this
  · intro zs s e zz q
    simp only [AV.sl.injEq, Tail.own.injEq] at q
    obtain ⟨rfl, rfl, rfl, rfl⟩ := q
    refine ⟨by omega, fun _ _ => ⟨_, by simp; rfl, by simp, rfl, rfl⟩⟩

/-- The arm in which a new row is made, for a slice of changeable memory. -/
theorem grow_ms (hs : SW F g κ H w) {xs ys : List AV} {sz lx ly : Nat} {olds news : List Value} (ho : VRs g xs olds) (hn : VRs g ys news) (h1 : allOne xs = true) (h2 : allOne ys = true) (hl : xs.length + ys.length = (lx + ly) * sz)
    {z : Array Value} (hz : z.size = sz) {c : Nat} (hcap : lx + ly ≤ c) (elem : TypeId) {run : Result Next}
    (hrun : run = .ok (.value (.slice (some ⟨w.heap.size, 0, none⟩) (lx + ly) c)) (w.drew.alloc (.cells (olds.toArray ++ news.toArray ++ Builtin.zeroCells z (c - (lx + ly))) elem))) :
    OpOk F g κ own H w run (.val (.ms H.length 0 (lx + ly) sz) own (H ++ [.cells (elem, false) (xs ++ ys)])) := by
  have hsd := hs.drew
  have hv : VRs g (xs ++ ys) (olds ++ news) := ho.append hn
  have hsz : (olds.toArray ++ news.toArray ++ Builtin.zeroCells z (c - (lx + ly))).size = c * sz := by
    simp only [Array.size_append, List.size_toArray, zeroCells_len, hz]
    rw [← ho.1, ← hn.1, hl, ← Nat.add_mul]
    congr 1; omega
  have hle := hsd.le_new (objLen (.cells (olds.toArray ++ news.toArray ++ Builtin.zeroCells z (c - (lx + ly))) elem))
  refine OpOk.grow hle (hsd.alloc _ _ ?_) hrun (RV.of_other (.ms (by simp [Gh.addBlk]) ⟨hcap, ?_⟩) (by simp))
  · refine ⟨rfl, ?_, fun i x r a b => ?_, ?_, rfl, fun q => by simp at q⟩
    · rw [hsz]
      have : (lx + ly) * sz ≤ c * sz := Nat.mul_le_mul_right _ hcap
      simp; omega
    · have hi : i < (olds ++ news).length := by rw [← hv.1]; exact (List.getElem?_eq_some_iff.1 a).1
      simp only [Array.toList_append, List.append_assoc] at b
      rw [← List.append_assoc, List.getElem?_append, if_pos hi] at b
      exact (hv.2 i x r a b).mono hle
    · rw [allOne_iff] at *
      exact fun y q => (List.mem_append.1 q).elim (h1 y) (h2 y)
  · simp [Gh.addBlk, objLen, zeroCells_len, hz, ← ho.1, ← hn.1]
    have : (c - (lx + ly)) * sz + (lx + ly) * sz = c * sz := by rw [← Nat.add_mul]; congr 1; omega
    omega

theorem append_ok (hs : SW F g κ H w) {f : FuncId} {site : Nat} {t t2 ty : TypeId} {d2 : TypeDesc} (h2 : K.P.underlying t2 = some d2) (hd : ∀ k, d2 ≠ .int k) {s x : AV} {rs rx : Value} (hsv : RV g κ own s rs) (hx : VR g x rx) {p p' : List Bool} {an : AN}
    (h : Ok (aAppend K f site own H t s x) p an p') : OpOk F g κ own H w ((do pure (.value (← Builtin.append_ #[t, t2] ty #[rs, rx])) : Sem Next).run K.P w) an := by
  unfold aAppend at h
  split at h
  · rename_i elem hu
    split at h
    · rename_i info n z hi hsz hz
      have hisz := info_size hsz hi
      split at h
      · exact absurd h Ok_fail
      · exact absurd h Ok_fail
      · rename_i ys hys hzl
        have hzl : z.cells.length = n + 1 := by simpa using hzl
        obtain ⟨hlen, hyc, hy1, news, hnv, hnr, _⟩ := els_ok (K := K) hs hx hys
        obtain ⟨_, _, _, news', hnv', hnr', _⟩ := els_ok (K := K) hs.drew hx hys
        obtain ⟨zv, hzr⟩ : ∃ zv, ∀ w', (zeroValue elem).run K.P w' = .ok zv w' ∧ (∀ g, VR g z zv) ∧ allOne z.cells = true := by
          obtain ⟨zv, q1, q2, q3⟩ := run_tZero (w := w) hz
          refine ⟨zv, fun w' => ?_⟩
          obtain ⟨zv', q1', q2', q3'⟩ := run_tZero (w := w') hz
          have : zv' = zv := by
            unfold tZero at hz
            simp only [hi] at hz
            cases hzz : info.zero with
            | none => simp [hzz] at hz
            | some v =>
              simp [zeroValue, run_typeInfo hi, hzz] at q1 q1'
              rw [← q1, ← q1']
          subst this
          exact ⟨q1', q2', q3'⟩
        have hzs : zv.cells.size = n + 1 := by
          have := ((hzr w).2.1 g).cells (allOne_notTup (hzr w).2.2)
          rw [← hzl, this.1]; simp
        split at h
        · -- a slice that never changes
          rename_i xs tl
          simp only [Ok_bind, Ok_chk, roomOk, decide_eq_true_eq] at h
          obtain ⟨_, _, ⟨hroom, _⟩, _, _, ⟨hxall, _⟩, h⟩ := h
          have hxc : ∀ y ∈ xs, y.cells.length = n + 1 := by simpa using hxall
          split at h
          · simp only [Ok_bind, Ok_chk] at h
            obtain ⟨_, _, ⟨hcl, _⟩, _, _, ⟨htl, _⟩, h⟩ := h
            split at h
            · -- nothing is appended
              rw [Ok_pure] at h
              obtain ⟨rfl, _⟩ := h
              have hnews : news = [] := by
                have := hnv.1; simp at this; exact List.length_eq_zero_iff.1 this.symm
              subst hnews
              have hrs : ∃ base cap, rs = .slice base xs.length cap ∧ xs.length ≤ cap := by
                cases hsv.1 with
                | nil => exact ⟨none, 0, rfl, Nat.le_refl _⟩
                | sl _ _ _ _ _ hn _ _ _ => exact ⟨_, _, rfl, hn⟩
              obtain ⟨base, cap, rfl, hcap⟩ := hrs
              have hrun := run_append_in (ty := ty) hu hi h2 hd hlen (by rw [hisz]; exact hnr) (base := base) (sLen := xs.length) (sCap := cap) (by simpa using hcap) (w' := w) (by cases base <;> rfl)
              refine OpOk.plain hs ?_ hsv
              simp [hrun]
            · rename_i hne
              rw [Ok_pure] at h
              obtain ⟨rfl, _⟩ := h
              have hpos : 0 < ys.length := by
                cases ys with
                | nil => exact absurd rfl hne
                | cons => simp
              have hone : allOne ((xs ++ ys).flatMap AV.cells) = true ∧ AV.closedL (xs.flatMap AV.cells) = true := by
                cases hsv.1 with
                | nil => exact ⟨by simpa using hy1, rfl⟩
                | sl _ _ _ hc h1 _ _ _ _ =>
                  refine ⟨?_, hc⟩
                  rw [flat_append, allOne_iff]
                  rw [allOne_iff] at hy1
                  exact fun y q => (List.mem_append.1 q).elim (h1 y) (hy1 y)
              have hclo : AV.closedL ((xs ++ ys).flatMap AV.cells) = true := by rw [flat_append, closedL_app]; exact ⟨hone.2, hcl⟩
              -- the arm that makes a new row
              have hnew : ∀ base cap, rs = .slice base xs.length cap → ¬ xs.length + ys.length ≤ cap → ∀ (κ0 : Nat → Option Tok) (own' : Nat → Nat), (∀ s t, κ0 s = some t → κ s = some t) → own' site = own site + 1 →
                  (∀ y r, RV g κ own y r → ∀ g', Gh.Le g g' → ∀ tk, RV g' (fun s => if s = site then some tk else κ0 s) own' y r) →
                  OpOk F g κ own H w ((do pure (.value (← Builtin.append_ #[t, t2] ty #[rs, rx])) : Sem Next).run K.P w) (.val (.sl (xs ++ ys) (.own site (own site + 1) (n + 1))) own' H) := by
                intro base cap hrs hfull κ0 own' hκ0 hown' hkeep
                subst hrs
                obtain ⟨olds, hov, hor⟩ : ∃ olds, VRs g (xs.flatMap AV.cells) olds ∧ (Builtin.firstCells info.size xs.length (.slice base xs.length cap)).run K.P w.drew = .ok ⟨olds⟩ w.drew := by
                  obtain ⟨_, _, _, olds, q1, q2, _⟩ := els_ok (K := K) hs.drew hsv.1 (show asEls H (n + 1) (.sl xs tl) = some xs by simp only [asEls]; rw [if_pos hxall])
                  exact ⟨olds, q1, by rw [hisz]; exact q2⟩
                obtain ⟨c, hc, hrun⟩ := run_append_out (ty := ty) hu hi h2 hd hlen (by rw [hisz]; exact hnr') hfull hor (fun w' => (hzr w').1) hroom.2 hroom.1
                obtain ⟨g', l1, l2, l3⟩ := append_new hs hxc hyc hov hnv' hclo hone.1 (z := zv.cells) hzs c hc elem site (own site + 1) (by omega) own' hown' κ0 hκ0
                refine ⟨_, _, g', _, ?_, l1, l2, l3, fun y r q => hkeep y r q g' l1 _⟩
                simp [hrun]
              cases htlc : tl with
              | unk =>
                subst htlc
                simp at htl
                subst htl; simp at hpos
              | nil =>
                subst htlc
                cases hsv.1 with
                | nil =>
                  refine hnew none 0 rfl (by simp; omega) κ _ (fun _ _ q => q) (by simp) ?_
                  intro y r q g' hle tk
                  refine ⟨q.1.mono hle, fun zs s e zz k => ?_⟩
                  obtain ⟨q1, q2⟩ := q.2 zs s e zz k
                  by_cases hss : s = site
                  · subst hss; simp; omega
                  · simp [hss]; exact ⟨q1, q2⟩
                | sl rs' ht => exact absurd rfl ht
              | full =>
                subst htlc
                cases hsv.1 with
                | sl rs' ht hs' hc' h1' hn' hf' hi' h' =>
                  rename_i b o cap sz'
                  have hcap := hf' rfl
                  subst hcap
                  refine hnew _ _ rfl (by omega) κ _ (fun _ _ q => q) (by simp) ?_
                  intro y r q g' hle tk
                  refine ⟨q.1.mono hle, fun zs s e zz k => ?_⟩
                  obtain ⟨q1, q2⟩ := q.2 zs s e zz k
                  by_cases hss : s = site
                  · subst hss; simp; omega
                  · simp [hss]; exact ⟨q1, q2⟩
              | own st ep zsz =>
                subst htlc
                simp at htl
                obtain ⟨⟨hep, hep0⟩, hzsz⟩ := htl
                obtain ⟨tk, ht1, ht2, ht3, ht4⟩ := (hsv.2 xs st ep zsz rfl).2 hep.symm hep0
                subst ht3
                have hszz : tk.sz = n + 1 := by rw [ht4, hzsz]
                have hkeep : ∀ y r, RV g κ own y r → ∀ g', Gh.Le g g' → ∀ tk', RV g' (fun s => if s = site then some tk' else if s = st then none else κ s) (fun i => if i = site then own site + 1 else if i = st then own st + 1 else own i) y r := by
                  intro y r q g' hle tk'
                  refine ⟨q.1.mono hle, fun zs s e zz k => ?_⟩
                  obtain ⟨q1, q2⟩ := q.2 zs s e zz k
                  by_cases hss : s = site
                  · subst hss; simp; omega
                  · by_cases hst : s = st
                    · subst hst; simp [hss]; omega
                    · simp [hss, hst]; exact ⟨q1, q2⟩
                by_cases hfit : xs.length + ys.length ≤ tk.cap
                · obtain ⟨w', e1, e2, e3⟩ := hs.tokWrite (K := K) ht1 (fun v q => hnv.allOne hy1 v q) ys.length (by rw [← hnv.1, flat_len hyc, hszz]) (by rw [ht2]; exact hfit) site
                  have e1' : (storeCells ⟨tk.blk, 0 + xs.length * (n + 1), none⟩ news 0).run K.P w = .ok () w' := by rw [Nat.zero_add, ← hszz, ← ht2]; exact e1
                  have hrun := run_append_in (ty := ty) hu hi h2 hd hlen (by rw [hisz]; exact hnr) (base := some ⟨tk.blk, 0, none⟩) (sLen := xs.length) (sCap := tk.cap) hfit (w' := w') (by
                    simp only [add_none]
                    rw [hisz]; exact e1')
                  refine ⟨_, w', _, _, by rw [ht2]; simp [hrun]; rfl, e2, e3, ?_, fun y r q => hkeep y r q _ e2 _⟩
                  have hcells : ∀ y ∈ xs ++ ys, y.cells.length = n + 1 := fun y q => (List.mem_append.1 q).elim (hxc y) (hyc y)
                  have hsv1 : VR g (.sl xs (.own st ep zsz)) (.slice (some ⟨tk.blk, 0, none⟩) xs.length tk.cap) := by rw [← ht2]; exact hsv.1
                  refine ⟨?_, ?_⟩
                  · cases hsv1 with
                    | sl rs' ht' hs' hc' h1' hn' hf' hi' h' =>
                      have hlx : (xs.flatMap AV.cells).length = xs.length * tk.sz := by rw [flat_len hxc, hszz]
                      have key : VR (g.addRow tk.blk (tk.n * tk.sz) news) (.sl (xs ++ ys) (.own site (own site + 1) (n + 1))) (.slice (some ⟨tk.blk, 0, none⟩) (xs ++ ys).length tk.cap) := by
                        refine .sl (sz := n + 1) (fun k => if k < xs.length * tk.sz then rs' k else news.getD (k - xs.length * tk.sz) undef) (by simp) hcells hclo (allOne_iff.1 hone.1) (by simpa using hfit) (by simp) ?_ ?_
                        · intro k y q
                          rw [flat_append, List.getElem?_append, hlx] at q
                          by_cases hk : k < xs.length * tk.sz
                          · simp only [hk, if_true] at q ⊢
                            exact e2.imm _ _ _ (hi' k y q)
                          · simp only [hk, if_false] at q ⊢
                            have hk2 : k - xs.length * tk.sz < news.length := by rw [← hnv.1]; exact (List.getElem?_eq_some_iff.1 q).1
                            simp only [Gh.addRow, ht2, true_and, Nat.zero_add]
                            rw [if_pos ⟨by omega, by omega⟩]
                            simp [List.getD, hk2]
                        · intro k y q
                          rw [flat_append, List.getElem?_append, hlx] at q
                          by_cases hk : k < xs.length * tk.sz
                          · simp only [hk, if_true] at q ⊢
                            exact (h' k y q).mono e2
                          · simp only [hk, if_false] at q ⊢
                            have hk2 : k - xs.length * tk.sz < news.length := by rw [← hnv.1]; exact (List.getElem?_eq_some_iff.1 q).1
                            have := (hnv.2 _ y news[k - xs.length * tk.sz] q (List.getElem?_eq_getElem hk2)).mono e2
                            simpa [List.getD, hk2] using this
                      simpa using key
                  · intro zs s e zz q
                    simp only [AV.sl.injEq, Tail.own.injEq] at q
                    obtain ⟨rfl, rfl, rfl, rfl⟩ := q
                    refine ⟨by simp, fun _ _ => ⟨{ tk with n := tk.n + ys.length }, by simp, by simp [ht2], by simp [ht2], hszz⟩⟩
                · refine hnew _ _ (by rw [ht2]) hfit (fun s => if s = st then none else κ s) _ (fun s t q => ?_) (by simp) hkeep
                  split at q
                  · simp at q
                  · exact q
          · simp only [Ok_bind, Ok_chk] at h
            obtain ⟨_, _, ⟨htl, _⟩, h⟩ := h
            split at h
            · rw [Ok_pure] at h
              obtain ⟨rfl, _⟩ := h
              have hnews : news = [] := by
                have := hnv.1; simp at this; exact List.length_eq_zero_iff.1 this.symm
              subst hnews
              have hrs : ∃ base cap, rs = .slice base xs.length cap ∧ xs.length ≤ cap := by
                cases hsv.1 with
                | nil => exact ⟨none, 0, rfl, Nat.le_refl _⟩
                | sl _ _ _ _ _ hn _ _ _ => exact ⟨_, _, rfl, hn⟩
              obtain ⟨base, cap, rfl, hcap⟩ := hrs
              have hrun := run_append_in (ty := ty) hu hi h2 hd hlen (by rw [hisz]; exact hnr) (base := base) (sLen := xs.length) (sCap := cap) (by simpa using hcap) (w' := w) (by cases base <;> rfl)
              refine OpOk.plain hs ?_ hsv
              simp [hrun]
            · rename_i hne
              rw [Ok_pure] at h
              obtain ⟨rfl, _⟩ := h
              have hpos : 0 < ys.length := by
                cases ys with
                | nil => exact absurd rfl hne
                | cons => simp
              have hrs : ∃ base, rs = .slice base xs.length xs.length := by
                cases hsv.1 with
                | nil => exact ⟨none, rfl⟩
                | sl rs' ht hs' hc' h1' hn' hf' hi' h' =>
                  cases tl with
                  | full => have := hf' rfl; subst this; exact ⟨_, rfl⟩
                  | nil => exact absurd rfl ht
                  | unk => simp at htl
                  | own => simp at htl
              have hxone : allOne (xs.flatMap AV.cells) = true := by
                cases hsv.1 with
                | nil => rfl
                | sl _ _ _ hc h1 _ _ _ _ => exact allOne_iff.2 h1
              obtain ⟨base, rfl⟩ := hrs
              obtain ⟨_, _, _, olds, hov, hor, _⟩ := els_ok (K := K) hs.drew hsv.1 (show asEls H (n + 1) (.sl xs tl) = some xs by simp only [asEls]; rw [if_pos hxall])
              obtain ⟨c, hc, hrun⟩ := run_append_out (ty := ty) (base := base) (sLen := xs.length) (sCap := xs.length) hu hi h2 hd hlen (by rw [hisz]; exact hnr') (by omega) (by rw [hisz]; exact hor) (fun w' => (hzr w').1) hroom.2 hroom.1
              exact grow_ms hs hov hnv' hxone hy1 (by rw [flat_len hxc, flat_len hyc, Nat.add_mul]) hzs hc elem (by simp only [Sem.run_bind, hrun, Result.andThen_ok, Sem.run_pure])
        · rename_i b off len sz
          rw [nth_eq] at h
          split at h
          · rename_i tt cs hH
            simp only [Ok_bind, Ok_chk, decide_eq_true_eq, roomOk] at h
            obtain ⟨_, _, ⟨htt, _⟩, _, _, ⟨rfl, _⟩, _, _, ⟨⟨rfl, hcl⟩, _⟩, _, _, ⟨hroom, _⟩, h⟩ := h
            cases hsv.1 with
            | @ms _ _ _ _ rb cap hρ hlc =>
              split at h
              · rw [Ok_pure] at h
                obtain ⟨rfl, _⟩ := h
                have hnews : news = [] := by
                  have := hnv.1; simp at this; exact List.length_eq_zero_iff.1 this.symm
                subst hnews
                have hrun := run_append_in (ty := ty) hu hi h2 hd hlen (by rw [hisz]; exact hnr) (base := some ⟨rb, 0, none⟩) (sLen := len) (sCap := cap) (by simpa using hlc.1) (w' := w) rfl
                exact OpOk.plain hs (by simp [hrun]) hsv
              · rename_i hne
                rw [Ok_pure] at h
                obtain ⟨rfl, _⟩ := h
                obtain ⟨rb', ob, q1, q2, q3, q4, q5, q6⟩ := hs.blk b _ hH rfl
                rw [hρ] at q1; cases q1
                cases ob with
                | cells rcs e fz =>
                  have hN := q6 rcs e fz rfl
                  obtain ⟨rfl, p2, p3, p4, p5, _⟩ := q3
                  have hlc2 : 0 + cap * (n + 1) ≤ g.N rb := hlc.2
                  have hnl : news.length = ys.length * (n + 1) := by rw [← hnv.1, flat_len hyc]
                  have hov : VRs g cs (rcs.toList.take cs.length) := by
                    refine ⟨by simp; omega, fun i x r a c => ?_⟩
                    rw [List.getElem?_take] at c
                    split at c
                    · exact p3 i x r a c
                    · simp at c
                  by_cases hfit : len + ys.length ≤ cap
                  · -- in place
                    have hfit2 : len * (n + 1) + ys.length * (n + 1) ≤ cap * (n + 1) := by rw [← Nat.add_mul]; exact Nat.mul_le_mul_right _ hfit
                    have hst := run_storeCells_at K.P rb (len * (n + 1)) e news 0 rcs w q2 (by omega) (fun v q => hnv.allOne hy1 v q)
                    have hrun := run_append_in (ty := ty) hu hi h2 hd hlen (by rw [hisz]; exact hnr) (base := some ⟨rb, 0, none⟩) (sLen := len) (sCap := cap) hfit (w' := _) (by
                      simp only [add_none, Nat.zero_add]
                      rw [hisz]; exact hst)
                    have hch := hs.change hH rfl hρ (A' := .cells (elem, false) (cs ++ ys.flatMap AV.cells)) (sameBut_setRow w rb (rcs.toList.take (len * (n + 1) + 0) ++ news ++ rcs.toList.drop (len * (n + 1) + 0 + news.length)).toArray)
                      (fun _ => ⟨_, setRow_heap w rb rcs _ e (0, 0) q2, ⟨rfl, by rw [List.length_append, hcl, flat_len hyc]; simp; omega, fun i x r a c => by
                        simp only [List.append_assoc] at c
                        rw [List.getElem?_append] at a c
                        have e1 : (List.take (len * (n + 1) + 0) rcs.toList).length = len * (n + 1) := by simp; omega
                        rw [e1] at c
                        rw [hcl] at a
                        by_cases hk : i < len * (n + 1)
                        · simp only [hk, if_true, List.getElem?_take, Nat.add_zero] at a c
                          exact p3 i x r a c
                        · simp only [hk, if_false] at a c
                          have hk2 : i - len * (n + 1) < news.length := by rw [← hnv.1]; exact (List.getElem?_eq_some_iff.1 a).1
                          rw [List.getElem?_append, if_pos hk2] at c
                          exact hnv.2 _ x r a c, by
                        rw [allOne_iff] at *
                        exact fun y q => (List.mem_append.1 q).elim (p4 y) (hy1 y), by rw [p5]; exact htt, fun q => by simp at q⟩, fun rcs' e' fz' q => by
                          cases q
                          simp; omega⟩)
                    have hk' : (setAt H b (AB.cells (elem, false) (cs ++ ys.flatMap AV.cells)))[b]? = some (AB.cells (elem, false) (cs ++ ys.flatMap AV.cells)) := by
                      rw [setAt_eq, List.getElem?_set]
                      simp [(List.getElem?_eq_some_iff.1 hH).1]
                    have hmv := hch.move hk' rfl hρ
                    have e2 : setAt (setAt H b (AB.cells (elem, false) (cs ++ ys.flatMap AV.cells))) b .dead = setAt H b .dead := by simp [setAt_eq]
                    have e3 : (setAt H b (AB.cells (elem, false) (cs ++ ys.flatMap AV.cells))).length = H.length := by simp [setAt_eq]
                    rw [e2, e3] at hmv
                    refine OpOk.grow (hs.le_addBlk rb (g.N rb) (fun _ _ => rfl)) hmv (r := .slice (some ⟨rb, 0, none⟩) (len + ys.length) cap) (by simp [hrun]) (RV.of_other (.ms (by simp [Gh.addBlk]) ⟨hfit, by simpa [Gh.addBlk] using hlc.2⟩) (by simp))
                  · have hzr' := fun w' => (hzr w').1
                    obtain ⟨_, _, _, olds, hov', hor, _⟩ := els_ok (K := K) hs.drew hsv.1 (show asEls H (n + 1) (.ms b 0 len (n + 1)) = some (chunk (n + 1) len ((cs.drop 0).take (len * (n + 1)))) by
                      simp [asEls, nth_eq, hH, hcl])
                    obtain ⟨k1, k2, k3⟩ := chunk_ok (by omega : 0 < n + 1) len ((cs.drop 0).take (len * (n + 1))) (by rw [List.drop_zero, List.take_of_length_le (by omega)]; exact p4) (by rw [List.drop_zero, List.take_of_length_le (by omega)]; exact hcl)
                    have e4 : (cs.drop 0).take (len * (n + 1)) = cs := by rw [List.drop_zero, List.take_of_length_le (by omega)]
                    rw [k3, e4] at hov'
                    rw [k1] at hor
                    obtain ⟨c, hc, hrun⟩ := run_append_out (ty := ty) hu hi h2 hd hlen (by rw [hisz]; exact hnr') hfit (by rw [hisz]; exact hor) hzr' hroom.2 hroom.1
                    have hkl := hs.kill hH rfl
                    have hg := grow_ms (own := own) (sz := n + 1) hkl hov' hnv' p4 hy1 (by rw [hcl, flat_len hyc, Nat.add_mul]) hzs hc elem (run := ((do pure (.value (← Builtin.append_ #[t, t2] ty #[.slice (some ⟨rb, 0, none⟩) len cap, rx])) : Sem Next).run K.P w)) (by simp only [Sem.run_bind, hrun, Result.andThen_ok, Sem.run_pure])
                    have e3 : (setAt H b .dead).length = H.length := by simp [setAt_eq]
                    rw [e3] at hg
                    exact hg
                | _ => simp [BRo] at q3
          · exact absurd h Ok_fail
        · exact absurd h Ok_fail
    · exact absurd h Ok_fail
  · exact absurd h Ok_fail
end
end Go.Tm
