/- TmS9, TmS10, TmS11, joined. -/
import Derived.Test.YtaefgigfoifjaaaGreatDoorTmS8
set_option linter.unusedVariables false
set_option linter.unusedSimpArgs false
set_option linter.unusedSectionVars false
section
namespace Go.Tm
section
variable {F : Fr} {g : Gh} {κ : Nat → Option Tok} {own : Nat → Nat} {H : List AB} {w : World} {K : Cfg}

theorem info_size {P : Program} {t : TypeId} {n : Nat} {info : TypeInfo} (h : tSize P t = some n) (hi : P.info? t = some info) : info.size = n := by
 simp [tSize, hi] at h; exact h

theorem flat_append (xs ys : List AV) : (xs ++ ys).flatMap AV.cells = xs.flatMap AV.cells ++ ys.flatMap AV.cells := by simp

theorem zeroCells_len (z : Array Value) (m : Nat) : (Builtin.zeroCells z m).size = m * z.size := by simp [Builtin.zeroCells]

theorem append_new (hs : SW F g κ H w) {xs ys : List AV} {sz : Nat} (hx : ∀ y ∈ xs, y.cells.length = sz) (hy : ∀ y ∈ ys, y.cells.length = sz) {olds news : List Value} (ho : VRs g (xs.flatMap AV.cells) olds) (hn : VRs g (ys.flatMap AV.cells) news)
  (hc : AV.closedL ((xs ++ ys).flatMap AV.cells) = true) (h1 : allOne ((xs ++ ys).flatMap AV.cells) = true) {z : Array Value} (hz : z.size = sz) (c : Nat) (hcap : xs.length + ys.length ≤ c) (elem : TypeId) (site : Nat) (ep : Nat) (hep : ep ≠ 0)
  (own' : Nat → Nat) (hown : own' site = ep) (κ0 : Nat → Option Tok) (hκ0 : ∀ s t, κ0 s = some t → κ s = some t) :
  ∃ g', Gh.Le g g' ∧ SW F g' (fun s => if s = site then some ⟨w.heap.size, xs.length + ys.length, sz, c⟩ else κ0 s) H (w.drew.alloc (.cells (olds.toArray ++ news.toArray ++ Builtin.zeroCells z (c - (xs.length + ys.length))) elem)) ∧
   RV g' (fun s => if s = site then some ⟨w.heap.size, xs.length + ys.length, sz, c⟩ else κ0 s) own' (.sl (xs ++ ys) (.own site ep sz)) (.slice (some ⟨w.heap.size, 0, none⟩) (xs.length + ys.length) c) := by
 have hsd := hs.drew
 have hcells : ∀ y ∈ xs ++ ys, y.cells.length = sz := fun y q => (List.mem_append.1 q).elim (hx y) (hy y)
 have hv : VRs g ((xs ++ ys).flatMap AV.cells) (olds ++ news) := by rw [flat_append]; exact ho.append hn
 have hlen : (olds ++ news).length = (xs.length + ys.length) * sz := by rw [← hv.1, flat_len hcells]; simp
 refine ⟨g.addImm w.heap.size (olds ++ news), hsd.le_addImm _, ?_, ?_, ?_⟩
 ·refine hsd.allocImm _ elem (olds ++ news) (fun i v q => ?_) _ (fun s t q => ?_) (fun s s' t t' q q' e e' => ?_)
  ·have : i < (olds ++ news).length := (List.getElem?_eq_some_iff.1 q).1
   simp only [Array.toList_append, List.append_assoc]
   rw [← List.append_assoc, List.getElem?_append, if_pos this]; exact q
  ·split at q
   ·simp at q; subst q
    refine .inr ⟨rfl, ?_, hcap, Nat.le_of_eq hlen⟩
    simp only [Array.size_append, List.size_toArray, zeroCells_len, hz]
    rw [← List.length_append, hlen, ← Nat.add_mul]
    exact Nat.mul_le_mul_right _ (by omega)
   ·exact .inl (hκ0 s t q)
  ·have hlt : ∀ s t, κ0 s = some t → t.blk ≠ w.heap.size := fun s t q => by
    obtain ⟨_, ⟨_, _, h2, _⟩, _⟩ := hs.tok s t (hκ0 s t q)
    have := lt_of_some h2; omega
   split at q
   ·split at q'
    ·omega
    ·exact absurd e' (hlt _ _ q')
   ·exact absurd e (hlt _ _ q)
 ·have := newImm (hs := hsd) (olds.toArray ++ news.toArray ++ Builtin.zeroCells z (c - (xs.length + ys.length))) elem hcells hc h1 (olds ++ news) hv (fun i v q => by
   have : i < (olds ++ news).length := (List.getElem?_eq_some_iff.1 q).1
   simp only [Array.toList_append, List.append_assoc]
   rw [← List.append_assoc, List.getElem?_append, if_pos this]; exact q) c (by simp; omega) (.own site ep sz) (by simp) (by simp)
  simpa using this
 ·intro zs s e zz q
  simp only [AV.sl.injEq, Tail.own.injEq] at q
  obtain ⟨rfl, rfl, rfl, rfl⟩ := q
  refine ⟨by omega, fun _ _ => ⟨_, by simp; rfl, by simp, rfl, rfl⟩⟩

theorem grow_ms (hs : SW F g κ H w) {xs ys : List AV} {sz lx ly : Nat} {olds news : List Value} (ho : VRs g xs olds) (hn : VRs g ys news) (h1 : allOne xs = true) (h2 : allOne ys = true) (hl : xs.length + ys.length = (lx + ly) * sz)
  {z : Array Value} (hz : z.size = sz) {c : Nat} (hcap : lx + ly ≤ c) (elem : TypeId) {run : Result Next}
  (hrun : run = .ok (.value (.slice (some ⟨w.heap.size, 0, none⟩) (lx + ly) c)) (w.drew.alloc (.cells (olds.toArray ++ news.toArray ++ Builtin.zeroCells z (c - (lx + ly))) elem))) :
  OpOk F g κ own H w run (.val (.ms H.length 0 (lx + ly) sz) own (H ++ [.cells (elem, false) (xs ++ ys)])) := by
 have hsd := hs.drew
 have hv : VRs g (xs ++ ys) (olds ++ news) := ho.append hn
 have hsz : (olds.toArray ++ news.toArray ++ Builtin.zeroCells z (c - (lx + ly))).size = c * sz := by
  simp only [Array.size_append, List.size_toArray, zeroCells_len, hz]
  rw [← ho.1, ← hn.1, hl, ← Nat.add_mul]
  congr 1; omega
 have hle := hsd.le_new (objLen (.cells (olds.toArray ++ news.toArray ++ Builtin.zeroCells z (c - (lx + ly))) elem))
 refine OpOk.grow hle (hsd.alloc _ _ ?_) hrun (RV.of_other (.ms (by simp [Gh.addBlk]) ⟨hcap, ?_⟩) (by simp))
 ·refine ⟨rfl, ?_, fun i x r a b => ?_, ?_, rfl, fun q => by simp at q⟩
  ·rw [hsz]
   have : (lx + ly) * sz ≤ c * sz := Nat.mul_le_mul_right _ hcap
   simp; omega
  ·have hi : i < (olds ++ news).length := by rw [← hv.1]; exact (List.getElem?_eq_some_iff.1 a).1
   simp only [Array.toList_append, List.append_assoc] at b
   rw [← List.append_assoc, List.getElem?_append, if_pos hi] at b
   exact (hv.2 i x r a b).mono hle
  ·rw [allOne_iff] at *
   exact fun y q => (List.mem_append.1 q).elim (h1 y) (h2 y)
 ·simp [Gh.addBlk, objLen, zeroCells_len, hz, ← ho.1, ← hn.1]
  have : (c - (lx + ly)) * sz + (lx + ly) * sz = c * sz := by rw [← Nat.add_mul]; congr 1; omega
  omega

theorem append_ok (hs : SW F g κ H w) {f : FuncId} {site : Nat} {t t2 ty : TypeId} {d2 : TypeDesc} (h2 : K.P.underlying t2 = some d2) (hd : ∀ k, d2 ≠ .int k) {s x : AV} {rs rx : Value} (hsv : RV g κ own s rs) (hx : VR g x rx) {p p' : List Bool} {an : AN}
  (h : Ok (aAppend K f site own H t s x) p an p') : OpOk F g κ own H w ((do pure (.value (← Builtin.append_ #[t, t2] ty #[rs, rx])) : Sem Next).run K.P w) an := by
 unfold aAppend at h
 split at h
 ·rename_i elem hu
  split at h
  ·rename_i info n z hi hsz hz
   have hisz := info_size hsz hi
   split at h
   ·exact absurd h Ok_fail
   ·exact absurd h Ok_fail
   ·rename_i ys hys hzl
    have hzl : z.cells.length = n + 1 := by simpa using hzl
    obtain ⟨hlen, hyc, hy1, news, hnv, hnr, _⟩ := els_ok (K := K) hs hx hys
    obtain ⟨_, _, _, news', hnv', hnr', _⟩ := els_ok (K := K) hs.drew hx hys
    obtain ⟨zv, hzr⟩ : ∃ zv, ∀ w', (zeroValue elem).run K.P w' = .ok zv w' ∧ (∀ g, VR g z zv) ∧ allOne z.cells = true := by
     obtain ⟨zv, q1, q2, q3⟩ := run_tZero (w := w) hz
     refine ⟨zv, fun w' => ?_⟩
     obtain ⟨zv', q1', q2', q3'⟩ := run_tZero (w := w') hz
     have : zv' = zv := by
      unfold tZero at hz
      simp only [hi] at hz
      cases hzz : info.zero with
      | none => simp [hzz] at hz
      | some v =>
       simp [zeroValue, run_typeInfo hi, hzz] at q1 q1'
       rw [← q1, ← q1']
     subst this
     exact ⟨q1', q2', q3'⟩
    have hzs : zv.cells.size = n + 1 := by
     have := ((hzr w).2.1 g).cells (allOne_notTup (hzr w).2.2)
     rw [← hzl, this.1]; simp
    split at h
    ·-- a slice that never changes
     rename_i xs tl
     simp only [Ok_bind, Ok_chk, roomOk, decide_eq_true_eq] at h
     obtain ⟨_, _, ⟨hroom, _⟩, _, _, ⟨hxall, _⟩, h⟩ := h
     have hxc : ∀ y ∈ xs, y.cells.length = n + 1 := by simpa using hxall
     split at h
     ·simp only [Ok_bind, Ok_chk] at h
      obtain ⟨_, _, ⟨hcl, _⟩, _, _, ⟨htl, _⟩, h⟩ := h
      split at h
      ·-- nothing is appended
       rw [Ok_pure] at h
       obtain ⟨rfl, _⟩ := h
       have hnews : news = [] := by
        have := hnv.1; simp at this; exact List.length_eq_zero_iff.1 this.symm
       subst hnews
       have hrs : ∃ base cap, rs = .slice base xs.length cap ∧ xs.length ≤ cap := by
        cases hsv.1 with
        | nil => exact ⟨none, 0, rfl, Nat.le_refl _⟩
        | sl _ _ _ _ _ hn _ _ _ => exact ⟨_, _, rfl, hn⟩
       obtain ⟨base, cap, rfl, hcap⟩ := hrs
       have hrun := run_append_in (ty := ty) hu hi h2 hd hlen (by rw [hisz]; exact hnr) (base := base) (sLen := xs.length) (sCap := cap) (by simpa using hcap) (w' := w) (by cases base <;> rfl)
       refine OpOk.plain hs ?_ hsv
       simp [hrun]
      ·rename_i hne
       rw [Ok_pure] at h
       obtain ⟨rfl, _⟩ := h
       have hpos : 0 < ys.length := by
        cases ys with
        | nil => exact absurd rfl hne
        | cons => simp
       have hone : allOne ((xs ++ ys).flatMap AV.cells) = true ∧ AV.closedL (xs.flatMap AV.cells) = true := by
        cases hsv.1 with
        | nil => exact ⟨by simpa using hy1, rfl⟩
        | sl _ _ _ hc h1 _ _ _ _ =>
         refine ⟨?_, hc⟩
         rw [flat_append, allOne_iff]
         rw [allOne_iff] at hy1
         exact fun y q => (List.mem_append.1 q).elim (h1 y) (hy1 y)
       have hclo : AV.closedL ((xs ++ ys).flatMap AV.cells) = true := by rw [flat_append, closedL_app]; exact ⟨hone.2, hcl⟩
       -- the arm that makes a new row
       have hnew : ∀ base cap, rs = .slice base xs.length cap → ¬ xs.length + ys.length ≤ cap → ∀ (κ0 : Nat → Option Tok) (own' : Nat → Nat), (∀ s t, κ0 s = some t → κ s = some t) → own' site = own site + 1 →
         (∀ y r, RV g κ own y r → ∀ g', Gh.Le g g' → ∀ tk, RV g' (fun s => if s = site then some tk else κ0 s) own' y r) →
         OpOk F g κ own H w ((do pure (.value (← Builtin.append_ #[t, t2] ty #[rs, rx])) : Sem Next).run K.P w) (.val (.sl (xs ++ ys) (.own site (own site + 1) (n + 1))) own' H) := by
        intro base cap hrs hfull κ0 own' hκ0 hown' hkeep
        subst hrs
        obtain ⟨olds, hov, hor⟩ : ∃ olds, VRs g (xs.flatMap AV.cells) olds ∧ (Builtin.firstCells info.size xs.length (.slice base xs.length cap)).run K.P w.drew = .ok ⟨olds⟩ w.drew := by
         obtain ⟨_, _, _, olds, q1, q2, _⟩ := els_ok (K := K) hs.drew hsv.1 (show asEls H (n + 1) (.sl xs tl) = some xs by simp only [asEls]; rw [if_pos hxall])
         exact ⟨olds, q1, by rw [hisz]; exact q2⟩
        obtain ⟨c, hc, hrun⟩ := run_append_out (ty := ty) hu hi h2 hd hlen (by rw [hisz]; exact hnr') hfull hor (fun w' => (hzr w').1) hroom.2 hroom.1
        obtain ⟨g', l1, l2, l3⟩ := append_new hs hxc hyc hov hnv' hclo hone.1 (z := zv.cells) hzs c hc elem site (own site + 1) (by omega) own' hown' κ0 hκ0
        refine ⟨_, _, g', _, ?_, l1, l2, l3, fun y r q => hkeep y r q g' l1 _⟩
        simp [hrun]
       cases htlc : tl with
       | unk =>
        subst htlc
        simp at htl
        subst htl; simp at hpos
       | nil =>
        subst htlc
        cases hsv.1 with
        | nil =>
         refine hnew none 0 rfl (by simp; omega) κ _ (fun _ _ q => q) (by simp) ?_
         intro y r q g' hle tk
         refine ⟨q.1.mono hle, fun zs s e zz k => ?_⟩
         obtain ⟨q1, q2⟩ := q.2 zs s e zz k
         by_cases hss : s = site
         ·subst hss; simp; omega
         ·simp [hss]; exact ⟨q1, q2⟩
        | sl rs' ht => exact absurd rfl ht
       | full =>
        subst htlc
        cases hsv.1 with
        | sl rs' ht hs' hc' h1' hn' hf' hi' h' =>
         rename_i b o cap sz'
         have hcap := hf' rfl
         subst hcap
         refine hnew _ _ rfl (by omega) κ _ (fun _ _ q => q) (by simp) ?_
         intro y r q g' hle tk
         refine ⟨q.1.mono hle, fun zs s e zz k => ?_⟩
         obtain ⟨q1, q2⟩ := q.2 zs s e zz k
         by_cases hss : s = site
         ·subst hss; simp; omega
         ·simp [hss]; exact ⟨q1, q2⟩
       | own st ep zsz =>
        subst htlc
        simp at htl
        obtain ⟨⟨hep, hep0⟩, hzsz⟩ := htl
        obtain ⟨tk, ht1, ht2, ht3, ht4⟩ := (hsv.2 xs st ep zsz rfl).2 hep.symm hep0
        subst ht3
        have hszz : tk.sz = n + 1 := by rw [ht4, hzsz]
        have hkeep : ∀ y r, RV g κ own y r → ∀ g', Gh.Le g g' → ∀ tk', RV g' (fun s => if s = site then some tk' else if s = st then none else κ s) (fun i => if i = site then own site + 1 else if i = st then own st + 1 else own i) y r := by
         intro y r q g' hle tk'
         refine ⟨q.1.mono hle, fun zs s e zz k => ?_⟩
         obtain ⟨q1, q2⟩ := q.2 zs s e zz k
         by_cases hss : s = site
         ·subst hss; simp; omega
         ·by_cases hst : s = st
          ·subst hst; simp [hss]; omega
          ·simp [hss, hst]; exact ⟨q1, q2⟩
        by_cases hfit : xs.length + ys.length ≤ tk.cap
        ·obtain ⟨w', e1, e2, e3⟩ := hs.tokWrite (K := K) ht1 (fun v q => hnv.allOne hy1 v q) ys.length (by rw [← hnv.1, flat_len hyc, hszz]) (by rw [ht2]; exact hfit) site
         have e1' : (storeCells ⟨tk.blk, 0 + xs.length * (n + 1), none⟩ news 0).run K.P w = .ok () w' := by rw [Nat.zero_add, ← hszz, ← ht2]; exact e1
         have hrun := run_append_in (ty := ty) hu hi h2 hd hlen (by rw [hisz]; exact hnr) (base := some ⟨tk.blk, 0, none⟩) (sLen := xs.length) (sCap := tk.cap) hfit (w' := w') (by
          simp only [add_none]
          rw [hisz]; exact e1')
         refine ⟨_, w', _, _, by rw [ht2]; simp [hrun]; rfl, e2, e3, ?_, fun y r q => hkeep y r q _ e2 _⟩
         have hcells : ∀ y ∈ xs ++ ys, y.cells.length = n + 1 := fun y q => (List.mem_append.1 q).elim (hxc y) (hyc y)
         have hsv1 : VR g (.sl xs (.own st ep zsz)) (.slice (some ⟨tk.blk, 0, none⟩) xs.length tk.cap) := by rw [← ht2]; exact hsv.1
         refine ⟨?_, ?_⟩
         ·cases hsv1 with
          | sl rs' ht' hs' hc' h1' hn' hf' hi' h' =>
           have hlx : (xs.flatMap AV.cells).length = xs.length * tk.sz := by rw [flat_len hxc, hszz]
           have key : VR (g.addRow tk.blk (tk.n * tk.sz) news) (.sl (xs ++ ys) (.own site (own site + 1) (n + 1))) (.slice (some ⟨tk.blk, 0, none⟩) (xs ++ ys).length tk.cap) := by
            refine .sl (sz := n + 1) (fun k => if k < xs.length * tk.sz then rs' k else news.getD (k - xs.length * tk.sz) undef) (by simp) hcells hclo (allOne_iff.1 hone.1) (by simpa using hfit) (by simp) ?_ ?_
            ·intro k y q
             rw [flat_append, List.getElem?_append, hlx] at q
             by_cases hk : k < xs.length * tk.sz
             ·simp only [hk, if_true] at q ⊢
              exact e2.imm _ _ _ (hi' k y q)
             ·simp only [hk, if_false] at q ⊢
              have hk2 : k - xs.length * tk.sz < news.length := by rw [← hnv.1]; exact (List.getElem?_eq_some_iff.1 q).1
              simp only [Gh.addRow, ht2, true_and, Nat.zero_add]
              rw [if_pos ⟨by omega, by omega⟩]
              simp [List.getD, hk2]
            ·intro k y q
             rw [flat_append, List.getElem?_append, hlx] at q
             by_cases hk : k < xs.length * tk.sz
             ·simp only [hk, if_true] at q ⊢
              exact (h' k y q).mono e2
             ·simp only [hk, if_false] at q ⊢
              have hk2 : k - xs.length * tk.sz < news.length := by rw [← hnv.1]; exact (List.getElem?_eq_some_iff.1 q).1
              have := (hnv.2 _ y news[k - xs.length * tk.sz] q (List.getElem?_eq_getElem hk2)).mono e2
              simpa [List.getD, hk2] using this
           simpa using key
         ·intro zs s e zz q
          simp only [AV.sl.injEq, Tail.own.injEq] at q
          obtain ⟨rfl, rfl, rfl, rfl⟩ := q
          refine ⟨by simp, fun _ _ => ⟨{ tk with n := tk.n + ys.length }, by simp, by simp [ht2], by simp [ht2], hszz⟩⟩
        ·refine hnew _ _ (by rw [ht2]) hfit (fun s => if s = st then none else κ s) _ (fun s t q => ?_) (by simp) hkeep
         split at q
         ·simp at q
         ·exact q
     ·simp only [Ok_bind, Ok_chk] at h
      obtain ⟨_, _, ⟨htl, _⟩, h⟩ := h
      split at h
      ·rw [Ok_pure] at h
       obtain ⟨rfl, _⟩ := h
       have hnews : news = [] := by
        have := hnv.1; simp at this; exact List.length_eq_zero_iff.1 this.symm
       subst hnews
       have hrs : ∃ base cap, rs = .slice base xs.length cap ∧ xs.length ≤ cap := by
        cases hsv.1 with
        | nil => exact ⟨none, 0, rfl, Nat.le_refl _⟩
        | sl _ _ _ _ _ hn _ _ _ => exact ⟨_, _, rfl, hn⟩
       obtain ⟨base, cap, rfl, hcap⟩ := hrs
       have hrun := run_append_in (ty := ty) hu hi h2 hd hlen (by rw [hisz]; exact hnr) (base := base) (sLen := xs.length) (sCap := cap) (by simpa using hcap) (w' := w) (by cases base <;> rfl)
       refine OpOk.plain hs ?_ hsv
       simp [hrun]
      ·rename_i hne
       rw [Ok_pure] at h
       obtain ⟨rfl, _⟩ := h
       have hpos : 0 < ys.length := by
        cases ys with
        | nil => exact absurd rfl hne
        | cons => simp
       have hrs : ∃ base, rs = .slice base xs.length xs.length := by
        cases hsv.1 with
        | nil => exact ⟨none, rfl⟩
        | sl rs' ht hs' hc' h1' hn' hf' hi' h' =>
         cases tl with
         | full => have := hf' rfl; subst this; exact ⟨_, rfl⟩
         | nil => exact absurd rfl ht
         | unk => simp at htl
         | own => simp at htl
       have hxone : allOne (xs.flatMap AV.cells) = true := by
        cases hsv.1 with
        | nil => rfl
        | sl _ _ _ hc h1 _ _ _ _ => exact allOne_iff.2 h1
       obtain ⟨base, rfl⟩ := hrs
       obtain ⟨_, _, _, olds, hov, hor, _⟩ := els_ok (K := K) hs.drew hsv.1 (show asEls H (n + 1) (.sl xs tl) = some xs by simp only [asEls]; rw [if_pos hxall])
       obtain ⟨c, hc, hrun⟩ := run_append_out (ty := ty) (base := base) (sLen := xs.length) (sCap := xs.length) hu hi h2 hd hlen (by rw [hisz]; exact hnr') (by omega) (by rw [hisz]; exact hor) (fun w' => (hzr w').1) hroom.2 hroom.1
       exact grow_ms hs hov hnv' hxone hy1 (by rw [flat_len hxc, flat_len hyc, Nat.add_mul]) hzs hc elem (by simp only [Sem.run_bind, hrun, Result.andThen_ok, Sem.run_pure])
    ·rename_i b off len sz
     rw [nth_eq] at h
     split at h
     ·rename_i tt cs hH
      simp only [Ok_bind, Ok_chk, decide_eq_true_eq, roomOk] at h
      obtain ⟨_, _, ⟨htt, _⟩, _, _, ⟨rfl, _⟩, _, _, ⟨⟨rfl, hcl⟩, _⟩, _, _, ⟨hroom, _⟩, h⟩ := h
      cases hsv.1 with
      | @ms _ _ _ _ rb cap hρ hlc =>
       split at h
       ·rw [Ok_pure] at h
        obtain ⟨rfl, _⟩ := h
        have hnews : news = [] := by
         have := hnv.1; simp at this; exact List.length_eq_zero_iff.1 this.symm
        subst hnews
        have hrun := run_append_in (ty := ty) hu hi h2 hd hlen (by rw [hisz]; exact hnr) (base := some ⟨rb, 0, none⟩) (sLen := len) (sCap := cap) (by simpa using hlc.1) (w' := w) rfl
        exact OpOk.plain hs (by simp [hrun]) hsv
       ·rename_i hne
        rw [Ok_pure] at h
        obtain ⟨rfl, _⟩ := h
        obtain ⟨rb', ob, q1, q2, q3, q4, q5, q6⟩ := hs.blk b _ hH rfl
        rw [hρ] at q1; cases q1
        cases ob with
        | cells rcs e fz =>
         have hN := q6 rcs e fz rfl
         obtain ⟨rfl, p2, p3, p4, p5, _⟩ := q3
         have hlc2 : 0 + cap * (n + 1) ≤ g.N rb := hlc.2
         have hnl : news.length = ys.length * (n + 1) := by rw [← hnv.1, flat_len hyc]
         have hov : VRs g cs (rcs.toList.take cs.length) := by
          refine ⟨by simp; omega, fun i x r a c => ?_⟩
          rw [List.getElem?_take] at c
          split at c
          ·exact p3 i x r a c
          ·simp at c
         by_cases hfit : len + ys.length ≤ cap
         ·-- in place
          have hfit2 : len * (n + 1) + ys.length * (n + 1) ≤ cap * (n + 1) := by rw [← Nat.add_mul]; exact Nat.mul_le_mul_right _ hfit
          have hst := run_storeCells_at K.P rb (len * (n + 1)) e news 0 rcs w q2 (by omega) (fun v q => hnv.allOne hy1 v q)
          have hrun := run_append_in (ty := ty) hu hi h2 hd hlen (by rw [hisz]; exact hnr) (base := some ⟨rb, 0, none⟩) (sLen := len) (sCap := cap) hfit (w' := _) (by
           simp only [add_none, Nat.zero_add]
           rw [hisz]; exact hst)
          have hch := hs.change hH rfl hρ (A' := .cells (elem, false) (cs ++ ys.flatMap AV.cells)) (sameBut_setRow w rb (rcs.toList.take (len * (n + 1) + 0) ++ news ++ rcs.toList.drop (len * (n + 1) + 0 + news.length)).toArray)
           (fun _ => ⟨_, setRow_heap w rb rcs _ e (0, 0) q2, ⟨rfl, by rw [List.length_append, hcl, flat_len hyc]; simp; omega, fun i x r a c => by
            simp only [List.append_assoc] at c
            rw [List.getElem?_append] at a c
            have e1 : (List.take (len * (n + 1) + 0) rcs.toList).length = len * (n + 1) := by simp; omega
            rw [e1] at c
            rw [hcl] at a
            by_cases hk : i < len * (n + 1)
            ·simp only [hk, if_true, List.getElem?_take, Nat.add_zero] at a c
             exact p3 i x r a c
            ·simp only [hk, if_false] at a c
             have hk2 : i - len * (n + 1) < news.length := by rw [← hnv.1]; exact (List.getElem?_eq_some_iff.1 a).1
             rw [List.getElem?_append, if_pos hk2] at c
             exact hnv.2 _ x r a c, by
            rw [allOne_iff] at *
            exact fun y q => (List.mem_append.1 q).elim (p4 y) (hy1 y), by rw [p5]; exact htt, fun q => by simp at q⟩, fun rcs' e' fz' q => by
             cases q
             simp; omega⟩)
          have hk' : (setAt H b (AB.cells (elem, false) (cs ++ ys.flatMap AV.cells)))[b]? = some (AB.cells (elem, false) (cs ++ ys.flatMap AV.cells)) := by
           rw [setAt_eq, List.getElem?_set]
           simp [(List.getElem?_eq_some_iff.1 hH).1]
          have hmv := hch.move hk' rfl hρ
          have e2 : setAt (setAt H b (AB.cells (elem, false) (cs ++ ys.flatMap AV.cells))) b .dead = setAt H b .dead := by simp [setAt_eq]
          have e3 : (setAt H b (AB.cells (elem, false) (cs ++ ys.flatMap AV.cells))).length = H.length := by simp [setAt_eq]
          rw [e2, e3] at hmv
          refine OpOk.grow (hs.le_addBlk rb (g.N rb) (fun _ _ => rfl)) hmv (r := .slice (some ⟨rb, 0, none⟩) (len + ys.length) cap) (by simp [hrun]) (RV.of_other (.ms (by simp [Gh.addBlk]) ⟨hfit, by simpa [Gh.addBlk] using hlc.2⟩) (by simp))
         ·have hzr' := fun w' => (hzr w').1
          obtain ⟨_, _, _, olds, hov', hor, _⟩ := els_ok (K := K) hs.drew hsv.1 (show asEls H (n + 1) (.ms b 0 len (n + 1)) = some (chunk (n + 1) len ((cs.drop 0).take (len * (n + 1)))) by
           simp [asEls, nth_eq, hH, hcl])
          obtain ⟨k1, k2, k3⟩ := chunk_ok (by omega : 0 < n + 1) len ((cs.drop 0).take (len * (n + 1))) (by rw [List.drop_zero, List.take_of_length_le (by omega)]; exact p4) (by rw [List.drop_zero, List.take_of_length_le (by omega)]; exact hcl)
          have e4 : (cs.drop 0).take (len * (n + 1)) = cs := by rw [List.drop_zero, List.take_of_length_le (by omega)]
          rw [k3, e4] at hov'
          rw [k1] at hor
          obtain ⟨c, hc, hrun⟩ := run_append_out (ty := ty) hu hi h2 hd hlen (by rw [hisz]; exact hnr') hfit (by rw [hisz]; exact hor) hzr' hroom.2 hroom.1
          have hkl := hs.kill hH rfl
          have hg := grow_ms (own := own) (sz := n + 1) hkl hov' hnv' p4 hy1 (by rw [hcl, flat_len hyc, Nat.add_mul]) hzs hc elem (run := ((do pure (.value (← Builtin.append_ #[t, t2] ty #[.slice (some ⟨rb, 0, none⟩) len cap, rx])) : Sem Next).run K.P w)) (by simp only [Sem.run_bind, hrun, Result.andThen_ok, Sem.run_pure])
          have e3 : (setAt H b .dead).length = H.length := by simp [setAt_eq]
          rw [e3] at hg
          exact hg
        | _ => simp [BRo] at q3
     ·exact absurd h Ok_fail
    ·exact absurd h Ok_fail
  ·exact absurd h Ok_fail
 ·exact absurd h Ok_fail
end
end Go.Tm
end
section
namespace Go.Tm
section
variable {F : Fr} {g : Gh} {κ : Nat → Option Tok} {own : Nat → Nat} {H : List AB} {w : World} {K : Cfg}

theorem copy_ok (hs : SW F g κ H w) {t t2 ty : TypeId} {d x : AV} {rd rx : Value} (hd : VR g d rd) (hx : VR g x rx) {z : AV} {H' : List AB} (h : aCopy K H t d x = some (z, H')) :
  ∃ r w', (Builtin.copy_ #[t, t2] ty #[rd, rx]).run K.P w = .ok r w' ∧ SW F g κ H' w' ∧ VR g z r := by
 unfold aCopy at h
 split at h
 ·rename_i elem hu
  split at h
  ·rename_i n hn
   split at h
   ·simp at h
   ·rename_i ys hys
    obtain ⟨hlen, hyc, hy1, news, hnv, _, hkey⟩ := els_ok (K := K) hs hx hys
    have e0 : (#[t, t2] : Array TypeId)[0]? = some t := rfl
    have e2 : (#[rd, rx] : Array Value)[0]? = some rd := rfl
    have e3 : (#[rd, rx] : Array Value)[1]? = some rx := rfl
    split at h
    ·rename_i tl
     simp at h
     obtain ⟨rfl, rfl⟩ := h
     have hz : Nat.min ys.length 0 = 0 := by simp
     have hk0 := hkey 0 (Nat.zero_le _)
     simp only [Nat.zero_mul, List.take_zero] at hk0
     cases hd with
     | nil =>
      refine ⟨goInt 0, w, ?_, hs, .v rfl⟩
      simp [Builtin.copy_, e0, e2, e3, run_underlying hu, hlen, run_tSize hn, hk0]
     | sl rs ht _ _ _ _ _ _ _ =>
      refine ⟨goInt 0, w, ?_, hs, .v rfl⟩
      simp [Builtin.copy_, e0, e2, e3, run_underlying hu, hlen, run_tSize hn, hk0, storeCells]
    ·rename_i b off len sz
     rw [nth_eq] at h
     split at h
     ·rename_i e cs hH
      split at h
      ·rename_i hc
       obtain ⟨rfl, hfit⟩ := hc
       simp at h
       obtain ⟨rfl, rfl⟩ := h
       cases hd with
       | @ms _ _ _ _ rb cap hρ hlc =>
        have hm : min ys.length len ≤ ys.length := by omega
        have hk := hkey _ hm
        have hfl : (ys.take (min ys.length len)).flatMap AV.cells = (ys.flatMap AV.cells).take (min ys.length len * sz) := flat_take hyc _
        have hv : VRs g ((ys.take (min ys.length len)).flatMap AV.cells) (news.take (min ys.length len * sz)) := by rw [hfl]; exact hnv.take _
        have hl : ((ys.take (min ys.length len)).flatMap AV.cells).length = min ys.length len * sz := by
         rw [flat_len (fun y q => hyc y (List.mem_of_mem_take q))]; simp
        have hle : min ys.length len * sz ≤ len * sz := Nat.mul_le_mul_right _ (by omega)
        obtain ⟨w', f1, f2⟩ := storeCells_ok (K := K) (off := off) hs hρ hH hv (by
         rw [allOne_iff] at *
         intro y q
         rw [hfl] at q
         exact hy1 y (List.mem_of_mem_take q)) (by omega)
        refine ⟨goInt (min ys.length len : Nat), w', ?_, f2, .v rfl⟩
        have hk' : (Builtin.firstCells sz (Nat.min ys.length len) rx).run K.P w = .ok ⟨news.take (min ys.length len * sz)⟩ w := hk
        simp only [Builtin.copy_, e0, e2, e3, Sem.run_bind, run_underlying hu, Result.andThen_ok, hlen, run_tSize hn, hk', f1, Sem.run_pure]
      ·simp at h
     ·simp at h
    ·simp at h
  ·simp at h
 ·simp at h

theorem clear_ok (hs : SW F g κ H w) {t ty : TypeId} {d : AV} {rd : Value} (hd : VR g d rd) {H' : List AB} (h : aClear K H t d = some H') :
  ∃ w', (Builtin.clear_ #[t] ty #[rd]).run K.P w = .ok (.tuple #[]) w' ∧ SW F g κ H' w' := by
 have e0 : (#[t] : Array TypeId)[0]? = some t := rfl
 have e2 : (#[rd] : Array Value)[0]? = some rd := rfl
 unfold aClear at h
 split at h
 ·rename_i hu
  simp at h; subst h
  cases hd with
  | ms hρ hlc => exact ⟨w, by simp [Builtin.clear_, run_underlying hu], hs⟩
 ·rename_i elem b off len sz hu
  rw [nth_eq] at h
  split at h
  ·rename_i e cs z hH hz
   split at h
   ·rename_i hc
    obtain ⟨hc1, hc2, hc3⟩ := hc
    simp at h; subst h
    cases hd with
    | @ms _ _ _ _ rb cap hρ hlc =>
     obtain ⟨v, q1, q2, q3⟩ := run_tZero (w := w) hz
     have hzc := (q2 g).cells (allOne_notTup q3)
     have hvs : v.cells.size = sz := by rw [← hc1, hzc.1]; simp
     have hrep := rep_VRs hzc (by omega) (len + 1)
     have hzz : (Builtin.zeroCells v.cells (len + 1)) = ((Array.range ((len + 1) * z.cells.length)).map (fun i => v.cells[i % v.cells.size]!)) := by
      unfold Builtin.zeroCells
      rw [hvs, hc1]
     obtain ⟨w', f1, f2⟩ := storeCells_ok (K := K) (off := off) hs hρ hH hrep (rep_one q3 _) (by rw [rep_len, hc1]; exact hc3)
     refine ⟨w', ?_, f2⟩
     rw [← hzz] at f1
     simp [Builtin.clear_, run_underlying hu, q1, f1]
   ·simp at h
  ·simp at h
 ·rename_i hu
  simp at h; subst h
  cases hd with
  | nil => exact ⟨w, by simp [Builtin.clear_, run_underlying hu], hs⟩
  | sl => exact ⟨w, by simp [Builtin.clear_, run_underlying hu], hs⟩
 ·rename_i b hu
  rw [nth_eq] at h
  split at h
  ·rename_i es clock hH
   simp at h; subst h
   cases hd with
   | @map _ rb hρ =>
    obtain ⟨rb', o, p1, p2, p3, _⟩ := hs.blk _ _ hH rfl
    rw [hρ] at p1; cases p1
    cases o with
    | map res rc =>
     obtain ⟨rfl, p4, p5⟩ := p3
     have hlt := lt_of_some p2
     refine ⟨{ w with heap := w.heap.setIfInBounds rb (.map #[] rc) }, by simp [Builtin.clear_, run_underlying hu, getObj, setObj, Sem.run, p2], ?_⟩
     refine hs.change hH rfl hρ ⟨rfl, rfl, rfl, by simp, fun b' hb' => by simp [Array.getElem?_setIfInBounds, Ne.symm hb'], Nat.le_refl _⟩ fun _ => ⟨.map #[] rc, by simp [hlt], ⟨rfl, rfl, by simp⟩, by simp⟩
    | _ => simp [BRo] at p3
  ·simp at h
 ·simp at h

theorem wrap_in {n : Int} (h0 : 0 ≤ n) (h1 : n ≤ 9223372036854775807) : IntKind.i64.wrap n = n := by
 simp [IntKind.wrap, IntKind.bits, IntKind.signed]
 omega

theorem makeSlice_ok (hs : SW F g κ H w) {isMut : Bool} {site : Nat} {t : TypeId} {l c : AV} {rl rc : Value} (hl : VR g l rl) (hc : VR g c rc) {an : AN} (h : aMakeSlice K isMut site own H t l c = some an) :
  OpOk F g κ own H w ((do pure (.value (← Instr.makeSlice t rl rc)) : Sem Next).run K.P w) an := by
 unfold aMakeSlice at h
 split at h
 ·rename_i elem k1 l' k2 c' hu e1 e2
  split at h
  ·rename_i info z n hi hz hn
   split at h
   ·rename_i hcond
    obtain ⟨c1, c2, c3, c4, c5⟩ := hcond
    obtain ⟨v, q1, q2, q3⟩ := run_tZero (w := w) hz
    have hzc := (q2 g).cells (allOne_notTup q3)
    have hvs : v.cells.size = n + 1 := by rw [← c5, hzc.1]; simp
    have hrl := asI_eq hl e1
    have hrc := asI_eq hc e2
    subst hrl; subst hrc
    have hisz := info_size hn hi
    have hrow : (Instr.makeSlice t (.int k1 l') (.int k2 c')).run K.P w = .ok (.slice (some ⟨w.heap.size, 0, none⟩) l'.toNat c'.toNat) (w.alloc (.cells ((Array.range (c'.toNat * (n + 1))).map (fun i => v.cells[i % v.cells.size]!)) elem)) := by
     have w1 := wrap_in c1 (by omega : l' ≤ 9223372036854775807)
     have w2 := wrap_in (by omega : 0 ≤ c') c4
     have hb : ¬ ((info.bytes : Int) * c' > 2 ^ 48) := by
      have h5 : ((c'.toNat * info.bytes : Nat) : Int) ≤ 140737488355328 := by omega
      rw [Int.natCast_mul, Int.toNat_of_nonneg (by omega), Int.mul_comm] at h5
      omega
     have hcond2 : ¬ ((decide (c' < 0) || decide ((info.bytes : Int) * c' > 2 ^ 48)) || decide (l' < 0) || decide (l' > c')) = true := by
      simp only [Bool.or_eq_true, decide_eq_true_eq, not_or]
      exact ⟨⟨⟨by omega, hb⟩, by omega⟩, by omega⟩
     simp only [Instr.makeSlice, Sem.run_bind, run_underlying hu, Result.andThen_ok, asInt, asIntOf, Sem.run_pure, run_typeInfo hi, w1, w2]
     rw [if_neg (by simpa using hcond2)]
     simp only [Sem.run_bind, run_askRoom, Result.andThen_ok, run_tSize hn]
     by_cases h0 : c'.toNat * (n + 1) = 0
     ·rw [if_pos h0]
      have hr0 : Array.range 0 = #[] := rfl
      simp [h0, newRow, hr0]
     ·rw [if_neg h0]
      simp [q1, newRow]
    have hval : ((do pure (.value (← Instr.makeSlice t (.int k1 l') (.int k2 c'))) : Sem Next).run K.P w) = .ok (.value (.slice (some ⟨w.heap.size, 0, none⟩) l'.toNat c'.toNat)) (w.alloc (.cells ((Array.range (c'.toNat * (n + 1))).map (fun i => v.cells[i % v.cells.size]!)) elem)) := by
     simp only [Sem.run_bind, hrow, Result.andThen_ok, Sem.run_pure]
    have hlc : l'.toNat ≤ c'.toNat := by omega
    have hrep := rep_VRs hzc (by omega) c'.toNat
    rw [c5] at hrep
    have hlc2 : l'.toNat * (n + 1) ≤ c'.toNat * (n + 1) := Nat.mul_le_mul_right _ hlc
    -- the first cells
    have hpre : VRs g (rep z.cells l'.toNat) (((Array.range (c'.toNat * (n + 1))).map (fun i => v.cells[i % v.cells.size]!)).toList.take (l'.toNat * (n + 1))) := by
     have := hrep.take (l'.toNat * (n + 1))
     have e : (rep z.cells c'.toNat).take (l'.toNat * (n + 1)) = rep z.cells l'.toNat := by
      apply List.ext_getElem?
      intro i
      rw [List.getElem?_take]
      by_cases hi : i < l'.toNat * (n + 1)
      ·rw [if_pos hi, rep_get _ (by omega) _ _ (by rw [c5]; omega), rep_get _ (by omega) _ _ (by rw [c5]; omega)]
      ·rw [if_neg hi, List.getElem?_eq_none (by rw [rep_len, c5]; omega)]
     rwa [e] at this
    cases isMut with
    | true =>
     simp at h; subst h
     have hle := hs.le_new (objLen (.cells ((Array.range (c'.toNat * (n + 1))).map (fun i => v.cells[i % v.cells.size]!)) elem))
     refine OpOk.grow hle (hs.alloc _ _ ?_) hval (RV.of_other (.ms (by simp [Gh.addBlk]) ⟨hlc, by simp [Gh.addBlk, objLen]⟩) (by simp))
     refine ⟨rfl, by rw [rep_len, c5]; simp; exact hlc2, fun i x r a b => ?_, rep_one q3 _, rfl, fun q => by simp at q⟩
     have hi : i < l'.toNat * (n + 1) := by have := (List.getElem?_eq_some_iff.1 a).1; rw [rep_len, c5] at this; exact this
     refine (hpre.2 i x r a ?_).mono hle
     rw [List.getElem?_take, if_pos hi]; exact b
    | false =>
     simp only [] at h
     split at h
     ·rename_i hcl
      simp at h; subst h
      have hflat : (List.replicate l'.toNat z).flatMap AV.cells = rep z.cells l'.toNat := by
       generalize l'.toNat = m
       induction m with
       | zero => rfl
       | succ m ih => rw [List.replicate_succ, List.flatMap_cons, ih]; rfl
      have hcells : ∀ y ∈ List.replicate l'.toNat z, y.cells.length = n + 1 := by
       intro y q; rw [(List.mem_replicate.1 q).2]; exact c5
      have hlenp : (((Array.range (c'.toNat * (n + 1))).map (fun i => v.cells[i % v.cells.size]!)).toList.take (l'.toNat * (n + 1))).length = l'.toNat * (n + 1) := by
       have hL : ((Array.range (c'.toNat * (n + 1))).map (fun i => v.cells[i % v.cells.size]!)).toList.length = c'.toNat * (n + 1) := by simp
       rw [List.length_take, hL, Nat.min_eq_left hlc2]
      have hsub : ∀ (i : Nat) (x : Value), (((Array.range (c'.toNat * (n + 1))).map (fun i => v.cells[i % v.cells.size]!)).toList.take (l'.toNat * (n + 1)))[i]? = some x → ((Array.range (c'.toNat * (n + 1))).map (fun i => v.cells[i % v.cells.size]!)).toList[i]? = some x := by
       intro i x q
       rw [List.getElem?_take] at q
       split at q
       ·exact q
       ·simp at q
      refine ⟨_, _, _, fun s => if s = site then some ⟨w.heap.size, l'.toNat, n + 1, c'.toNat⟩ else κ s, hval, hs.le_addImm (((Array.range (c'.toNat * (n + 1))).map (fun i => v.cells[i % v.cells.size]!)).toList.take (l'.toNat * (n + 1))), ?_, ⟨?_, ?_⟩, ?_⟩
      ·refine hs.allocImm _ elem _ hsub _ (fun s t q => ?_) (fun s s' t t' q q' e e' => ?_)
       ·split at q
        ·simp at q; subst q
         exact .inr ⟨rfl, by simp, hlc, Nat.le_of_eq hlenp⟩
        ·exact .inl q
       ·have hlt : ∀ s t, κ s = some t → t.blk ≠ w.heap.size := fun s t q => by
         obtain ⟨_, ⟨_, _, h2, _⟩, _⟩ := hs.tok s t q
         have := lt_of_some h2; omega
        split at q
        ·split at q'
         ·omega
         ·exact absurd e' (hlt _ _ q')
        ·exact absurd e (hlt _ _ q)
      ·have := newImm hs (xs := List.replicate l'.toNat z) (sz := n + 1) ((Array.range (c'.toNat * (n + 1))).map (fun i => v.cells[i % v.cells.size]!)) elem hcells (by rw [hflat]; exact rep_closed hcl _) (by rw [hflat]; exact rep_one q3 _)
        (((Array.range (c'.toNat * (n + 1))).map (fun i => v.cells[i % v.cells.size]!)).toList.take (l'.toNat * (n + 1))) (by rw [hflat]; exact hpre) hsub c'.toNat (by simpa using hlc) (.own site (own site + 1) (n + 1)) (by simp) (by simp)
       simpa using this
      ·intro zs s e zz q
       simp only [AV.sl.injEq, Tail.own.injEq] at q
       obtain ⟨rfl, rfl, rfl, rfl⟩ := q
       exact ⟨by simp, fun _ _ => ⟨⟨w.heap.size, l'.toNat, n + 1, c'.toNat⟩, by simp, by simp, rfl, rfl⟩⟩
      ·intro y r q
       refine ⟨q.1.mono (hs.le_addImm _), fun zs s e zz k => ?_⟩
       obtain ⟨p1, p2⟩ := q.2 zs s e zz k
       by_cases hss : s = site
       ·subst hss; simp; omega
       ·simp [hss]; exact ⟨p1, p2⟩
     ·simp at h
   ·simp at h
  ·simp at h
 ·simp at h
end
end Go.Tm
end
section
namespace Go.Tm
section
variable {F : Fr} {g : Gh} {κ : Nat → Option Tok} {own : Nat → Nat} {H : List AB} {w : World} {K : Cfg}

def Ents (g : Gh) (es : List (AV × AV × Nat)) (res : List MapEntry) : Prop :=
 es.length = res.length ∧ ∀ (i : Nat) (k x : AV) (b : Nat) (e : MapEntry), es[i]? = some (k, x, b) → res[i]? = some e → VR g k e.key ∧ VR g x e.val ∧ e.born = b

theorem Ents.cons {k x : AV} {b : Nat} {es : List (AV × AV × Nat)} {res : List MapEntry} (h : Ents g ((k, x, b) :: es) res) : ∃ e r, res = e :: r ∧ VR g k e.key ∧ VR g x e.val ∧ e.born = b ∧ Ents g es r := by
 cases res with
 | nil => simp [Ents] at h
 | cons e r =>
  obtain ⟨a1, a2, a3⟩ := h.2 0 k x b e (by simp) (by simp)
  exact ⟨e, r, rfl, a1, a2, a3, by have := h.1; simpa using this, fun i k x b e p q => h.2 (i + 1) k x b e (by simpa using p) (by simpa using q)⟩

theorem keyOk_desc {t : TypeId} {k : AV} (h : aKeyOk K t k = true) : (∃ kd n kk, K.P.underlying t = some (.int kd) ∧ k = .v (.int kk n)) ∨ (∃ s, K.P.underlying t = some .string ∧ k = .str s) ∨ (∃ b, K.P.underlying t = some .bool ∧ k = .v (.bool b)) := by
 unfold aKeyOk at h
 split at h
 ·exact .inl ⟨_, _, _, ‹_›, rfl⟩
 ·exact .inr (.inl ⟨_, ‹_›, rfl⟩)
 ·exact .inr (.inr ⟨_, ‹_›, rfl⟩)
 ·simp at h

theorem checkKey_any {P : Program} {t : TypeId} {e : Bool} (n : Nat) {d : TypeDesc} {v : Value} (hd : P.underlying t = some d) (h1 : ∀ ms, d ≠ .interface ms) (h2 : ∀ n el, d ≠ .array n el) (h3 : ∀ fs, d ≠ .struct fs) :
  (Instr.checkKey e (n + 1) t v).run P w = .ok () w := by
 simp only [Instr.checkKey, Sem.run_bind, run_underlying hd, Result.andThen_ok]
 cases d <;> first
  | exact absurd rfl (h1 _)
  | exact absurd rfl (h2 _ _)
  | exact absurd rfl (h3 _)
  | rfl

theorem run_checkKey {t : TypeId} {k : AV} (h : aKeyOk K t k = true) (rk : Value) (e : Bool) : (Instr.checkKey e 10000 t rk).run K.P w = .ok () w := by
 rcases keyOk_desc h with ⟨_, _, _, hd, _⟩ | ⟨_, hd, _⟩ | ⟨_, hd, _⟩
 ·exact checkKey_any 9999 hd (by simp) (by simp) (by simp)
 ·exact checkKey_any 9999 hd (by simp) (by simp) (by simp)
 ·exact checkKey_any 9999 hd (by simp) (by simp) (by simp)

theorem beq_str (a b : List UInt8) : ((⟨⟨a⟩⟩ : ByteArray) == ⟨⟨b⟩⟩) = (a == b) := by
 rw [beq_toListBytes, str_toList, str_toList]

theorem keyEq_same {t : TypeId} {d : TypeDesc} {k k' : AV} {r r' : Value} (hd : K.P.underlying t = some d) (hok : aKeyOk K t k = true) (hk : VR g k r) (hk' : VR g k' r') {b : Bool} (h : aKeyEq k k' = some b) : Instr.sameNow d r r' = some b ∧ (b = true → k = k') := by
 unfold aKeyEq at h
 split at h
 ·rename_i x y
  simp at h; subst h
  cases hk; cases hk'
  rcases keyOk_desc hok with ⟨_, _, _, _, q⟩ | ⟨_, q, _⟩ | ⟨_, _, q⟩
  ·simp at q
  ·rw [hd] at q; cases q
   exact ⟨by simp only [Instr.sameNow, beq_str], fun e => by simpa using e⟩
  ·simp at q
 ·rename_i k1 x k2 y
  split at h
  ·rename_i e; subst e
   simp at h; subst h
   obtain ⟨rfl, _⟩ := vr_v hk
   obtain ⟨rfl, _⟩ := vr_v hk'
   rcases keyOk_desc hok with ⟨_, _, _, q, _⟩ | ⟨_, _, q⟩ | ⟨_, _, q⟩
   ·rw [hd] at q; cases q
    exact ⟨by simp [Instr.sameNow], fun e => by simpa using e⟩
   ·simp at q
   ·simp at q
  ·simp at h
 ·rename_i x y
  simp at h; subst h
  obtain ⟨rfl, _⟩ := vr_v hk
  obtain ⟨rfl, _⟩ := vr_v hk'
  rcases keyOk_desc hok with ⟨_, _, _, _, q⟩ | ⟨_, _, q⟩ | ⟨_, q, _⟩
  ·simp at q
  ·simp at q
  ·rw [hd] at q; cases q
   exact ⟨by simp [Instr.sameNow], fun e => by simpa using e⟩
 ·simp at h

theorem find_ok {t : TypeId} {d : TypeDesc} {k : AV} {r : Value} (hd : K.P.underlying t = some d) (hok : aKeyOk K t k = true) (hk : VR g k r) : ∀ {es : List (AV × AV × Nat)} {res : List MapEntry} {i : Nat} {o : Option (Nat × AV × Nat)}, Ents g es res → aFind k es i = some o →
  match o with
  | none => Instr.findNow d r res i = some none
  | some (j, x, b) => ∃ e, Instr.findNow d r res i = some (some (j, e.val)) ∧ i ≤ j ∧ es[j - i]? = some (k, x, b) ∧ res[j - i]? = some e ∧ VR g x e.val
 | [], res, i, o, he, h => by
  have : res = [] := by cases res with | nil => rfl | cons => exact absurd he.1 (by simp)
  subst this
  simp [aFind] at h; subst h
  rfl
 | (k', x, b) :: es, res, i, o, he, h => by
  obtain ⟨e, r', rfl, a1, a2, a3, a4⟩ := he.cons
  simp only [aFind] at h
  split at h
  ·rename_i hb
   simp at h; subst h
   obtain ⟨s1, s2⟩ := keyEq_same hd hok hk a1 hb
   have := s2 rfl; subst this
   exact ⟨e, by simp [Instr.findNow, s1], Nat.le_refl _, by simp, by simp, a2⟩
  ·rename_i hb
   obtain ⟨s1, _⟩ := keyEq_same hd hok hk a1 hb
   have ih := find_ok hd hok hk a4 h
   cases o with
   | none => simp only [Instr.findNow, s1]; exact ih
   | some q =>
    obtain ⟨j, y, c⟩ := q
    obtain ⟨e', i1, i2, i3, i4, i5⟩ := ih
    refine ⟨e', by simp only [Instr.findNow, s1]; exact i1, by omega, ?_, ?_, i5⟩
    ·rw [show j - i = (j - (i + 1)) + 1 by omega]; simpa using i3
    ·rw [show j - i = (j - (i + 1)) + 1 by omega]; simpa using i4
  ·simp at h

theorem run_findKey {t : TypeId} {d : TypeDesc} {r : Value} {res : List MapEntry} {o : Option (Nat × Value)} (hd : K.P.underlying t = some d) (h : Instr.findNow d r res 0 = some o) : (Instr.findKey t r res).run K.P w = .ok o w := by
 simp [Instr.findKey, run_underlying hd, h]

theorem map_blk (hs : SW F g κ H w) {b rb : Nat} {es : List (AV × AV × Nat)} {clock : Nat} (hρ : g.ρ b = some rb) (hH : H[b]? = some (.map es clock)) :
  ∃ res, w.heap[rb]? = some (.map res clock) ∧ Ents g es res.toList ∧ ∀ (i : Nat) (k x : AV) (n : Nat), es[i]? = some (k, x, n) → n < clock := by
 obtain ⟨rb', o, p1, p2, p3, _⟩ := hs.blk _ _ hH rfl
 rw [hρ] at p1; cases p1
 cases o with
 | map res rc =>
  obtain ⟨rfl, p4, p5⟩ := p3
  refine ⟨res, p2, ⟨by simpa using p4, fun i k x n e a b => ⟨(p5 i k x n e a b).1, (p5 i k x n e a b).2.1, (p5 i k x n e a b).2.2.1⟩⟩, fun i k x n a => ?_⟩
  have hi : i < res.toList.length := by have := (List.getElem?_eq_some_iff.1 a).1; simp; omega
  exact (p5 i k x n _ a (List.getElem?_eq_getElem hi)).2.2.2
 | _ => simp [BRo] at p3

theorem run_getObj_map {rb : Nat} {res : Array MapEntry} {c : Nat} (h : w.heap[rb]? = some (.map res c)) : (getObj rb).run K.P w = .ok (.map res c) w := by
 simp [getObj, Sem.run, h]

theorem setMap (hs : SW F g κ H w) {b rb : Nat} {A : AB} (hH : H[b]? = some A) (hl : A.live = true) (hρ : g.ρ b = some rb) {o : Obj} (ho : w.heap[rb]? = some o) (hnc : ∀ c e f, o ≠ .cells c e f) {A' : AB} {o' : Obj} (hb : BRo g A' o') (hnc' : ∀ c e f, o' ≠ .cells c e f) :
  ∃ w', (setObj rb o').run K.P w = .ok () w' ∧ SW F g κ (setAt H b A') w' := by
 have hlt := lt_of_some ho
 refine ⟨{ w with heap := w.heap.setIfInBounds rb o' }, ?_, ?_⟩
 ·cases o <;> first
   | exact absurd rfl (hnc _ _ _)
   | simp only [setObj, Sem.run, ho]
 ·exact hs.change hH hl hρ ⟨rfl, rfl, rfl, by simp, fun b' hb' => by simp [Array.getElem?_setIfInBounds, Ne.symm hb'], Nat.le_refl _⟩ fun _ => ⟨o', by simp [hlt], hb, fun rcs e fz q => absurd q (hnc' _ _ _)⟩

theorem look_ok {t kt et : TypeId} (hu : K.P.underlying t = some (.map kt et)) {k : AV} {rk : Value} (hok : aKeyOk K kt k = true) (hk : VR g k rk) {es : List (AV × AV × Nat)} {res : Array MapEntry} (he : Ents g es res.toList) {ok : Bool} {z : AV}
  (h : aLook K es k et ok = some z) :
  ∃ v b, (Instr.findKey kt rk res.toList).run K.P w = .ok b w ∧ (b = none → (zeroValue et).run K.P w = .ok v w) ∧ (∀ q, b = some q → v = q.2) ∧ VR g z (if ok then .tuple #[v, .bool b.isSome] else v) := by
 obtain ⟨d, hd⟩ : ∃ d, K.P.underlying kt = some d := by
  rcases keyOk_desc hok with ⟨_, _, _, q, _⟩ | ⟨_, q, _⟩ | ⟨_, q, _⟩ <;> exact ⟨_, q⟩
 unfold aLook at h
 split at h
 ·rename_i j x b hf
  obtain ⟨e, f1, _, _, _, f5⟩ := find_ok hd hok hk he hf
  simp at h; subst h
  refine ⟨e.val, some (j, e.val), run_findKey hd f1, by simp, by simp, ?_⟩
  cases ok
  ·exact f5
  ·have := VRs.cons f5 (VRs.cons (VR.v (g := g) (x := .bool true) rfl) VRs.nil)
   exact .tup this.1 this.2
 ·rename_i hf
  have f1 := find_ok hd hok hk he hf
  split at h
  ·rename_i z' hz
   simp at h; subst h
   obtain ⟨v, q1, q2, _⟩ := run_tZero (w := w) hz
   refine ⟨v, none, run_findKey hd f1, fun _ => q1, by simp, ?_⟩
   cases ok
   ·exact q2 g
   ·have := VRs.cons (q2 g) (VRs.cons (VR.v (g := g) (x := .bool false) rfl) VRs.nil)
    exact .tup this.1 this.2
  ·simp at h
 ·simp at h

theorem lookup_ok (hs : SW F g κ H w) {t : TypeId} {m k : AV} {rm rk : Value} (hm : VR g m rm) (hk : VR g k rk) {ok : Bool} {z : AV} (h : aLookup K H t m k ok = some z) : ∃ r, (Instr.lookup t rm rk ok).run K.P w = .ok r w ∧ VR g z r := by
 unfold aLookup at h
 split at h
 ·rename_i kt et hu
  split at h
  ·rename_i hok
   split at h
   ·obtain ⟨rfl, _⟩ := vr_v hm
    obtain ⟨v, b, f1, f2, f3, f4⟩ := look_ok (w := w) hu hok hk (res := #[]) ⟨rfl, by simp⟩ h
    refine ⟨_, ?_, f4⟩
    cases b with
    | none => simp [Instr.lookup, run_underlying hu, run_checkKey hok, f1, f2 rfl]
    | some q => have := f3 q rfl; subst this; simp [Instr.lookup, run_underlying hu, run_checkKey hok, f1]
   ·rename_i b
    rw [nth_eq] at h
    split at h
    ·rename_i es c hH
     cases hm with
     | @map _ rb hρ =>
      obtain ⟨res, r1, r2, _⟩ := map_blk hs hρ hH
      obtain ⟨v, b, f1, f2, f3, f4⟩ := look_ok (w := w) hu hok hk r2 h
      refine ⟨_, ?_, f4⟩
      cases b with
      | none => simp [Instr.lookup, run_underlying hu, run_checkKey hok, f1, f2 rfl, run_getObj_map r1]
      | some q => have := f3 q rfl; subst this; simp [Instr.lookup, run_underlying hu, run_checkKey hok, f1, run_getObj_map r1]
    ·simp at h
   ·simp at h
  ·simp at h
 ·simp at h

theorem BRo_map {es : List (AV × AV × Nat)} {res : Array MapEntry} {c : Nat} (h : Ents g es res.toList) (hb : ∀ (i : Nat) (k x : AV) (n : Nat), es[i]? = some (k, x, n) → n < c) : BRo g (.map es c) (.map res c) :=
 ⟨rfl, by simpa using h.1, fun i k x b e p q => ⟨(h.2 i k x b e p q).1, (h.2 i k x b e p q).2.1, (h.2 i k x b e p q).2.2, hb i k x b p⟩⟩

theorem Ents.set {es : List (AV × AV × Nat)} {res : List MapEntry} (h : Ents g es res) {k x : AV} {b : Nat} {e : MapEntry} (h1 : VR g k e.key) (h2 : VR g x e.val) (h3 : e.born = b) (j : Nat) : Ents g (es.set j (k, x, b)) (res.set j e) := by
 refine ⟨by simp [h.1], fun i k' x' b' e' p q => ?_⟩
 rw [List.getElem?_set] at p q
 by_cases hj : j = i
 ·subst hj
  simp only [if_true] at p q
  split at p <;> simp at p
  split at q <;> simp at q
  obtain ⟨rfl, rfl, rfl⟩ := p
  subst q
  exact ⟨h1, h2, h3⟩
 ·simp only [hj, if_false] at p q
  exact h.2 i k' x' b' e' p q

theorem Ents.snoc {es : List (AV × AV × Nat)} {res : List MapEntry} (h : Ents g es res) {k x : AV} {b : Nat} {e : MapEntry} (h1 : VR g k e.key) (h2 : VR g x e.val) (h3 : e.born = b) : Ents g (es ++ [(k, x, b)]) (res ++ [e]) := by
 refine ⟨by simp [h.1], fun i k' x' b' e' p q => ?_⟩
 rw [List.getElem?_append] at p q
 rw [h.1] at p
 by_cases hi : i < res.length
 ·simp only [hi, if_true] at p q
  exact h.2 i k' x' b' e' p q
 ·simp only [hi, if_false] at p q
  have : i - res.length = 0 := by
   have := (List.getElem?_eq_some_iff.1 p).1
   simp at this; omega
  rw [this] at p q
  simp at p q
  obtain ⟨rfl, rfl, rfl⟩ := p
  subst q
  exact ⟨h1, h2, h3⟩

theorem sameBits_key {t : TypeId} {k : AV} {r r' : Value} (hok : aKeyOk K t k = true) (h : VR g k r) (h' : VR g k r') : Instr.sameBits 10000 r r' = true := by
 rcases keyOk_desc hok with ⟨_, _, _, _, rfl⟩ | ⟨_, _, rfl⟩ | ⟨_, _, rfl⟩
 ·obtain ⟨rfl, _⟩ := vr_v h
  obtain ⟨rfl, _⟩ := vr_v h'
  simp [Instr.sameBits]
 ·cases h; cases h'
  simp only [Instr.sameBits, beq_str]
  simp
 ·obtain ⟨rfl, _⟩ := vr_v h
  obtain ⟨rfl, _⟩ := vr_v h'
  simp [Instr.sameBits]

theorem run_keyStays {t : TypeId} {k : AV} {r r' : Value} (hok : aKeyOk K t k = true) (h : VR g k r) (h' : VR g k r') : (Instr.keyThatStays r r').run K.P w = .ok r' w := by
 simp [Instr.keyThatStays, sameBits_key hok h h']

theorem modify_toList {α : Type} {a : Array α} {i : Nat} {f : α → α} {x : α} (h : a.toList[i]? = some x) : (a.modify i f).toList = a.toList.set i (f x) := by
 have hi : i < a.size := by have := (List.getElem?_eq_some_iff.1 h).1; simpa using this
 apply List.ext_getElem?
 intro j
 rw [Array.toList_modify, List.getElem?_modify, List.getElem?_set]
 by_cases hj : i = j
 ·subst hj
  rw [h]
  simp [hi]
 ·simp [hj]

theorem mapUpdate_ok (hs : SW F g κ H w) {t : TypeId} {m k x : AV} {rm rk rx : Value} (hm : VR g m rm) (hk : VR g k rk) (hx : VR g x rx) {H' : List AB} (h : aMapUpdate K H t m k x = some H') :
  ∃ w', (Instr.mapUpdate t rm rk rx).run K.P w = .ok () w' ∧ SW F g κ H' w' := by
 unfold aMapUpdate at h
 split at h
 ·rename_i kt et b hu
  rw [nth_eq] at h
  split at h
  ·rename_i es clock hH hok
   obtain ⟨d, hd⟩ : ∃ d, K.P.underlying kt = some d := by
    rcases keyOk_desc hok with ⟨_, _, _, q, _⟩ | ⟨_, q, _⟩ | ⟨_, q, _⟩ <;> exact ⟨_, q⟩
   cases hm with
   | @map _ rb hρ =>
    obtain ⟨res, r1, r2, r3⟩ := map_blk hs hρ hH
    split at h
    ·rename_i i y born hf
     simp at h; subst h
     obtain ⟨e, f1, _, f3, f4, f5⟩ := find_ok hd hok hk r2 hf
     simp only [Nat.sub_zero] at f3 f4
     have he := (r2.2 i k y born e f3 f4)
     have hkey : (((res[i]?).map (·.key)).getD rk) = e.key := by
      have : res[i]? = some e := by rw [← Array.getElem?_toList]; exact f4
      simp [this]
     have hE : Ents g (setAt es i (k, x.unown, born)) (res.modify i fun e => { e with key := rk, val := rx }).toList := by
      rw [setAt_eq, modify_toList f4]
      exact r2.set (e := { e with key := rk, val := rx }) hk hx.unown he.2.2 i
     have hB : ∀ (j : Nat) (k' x' : AV) (n : Nat), (setAt es i (k, x.unown, born))[j]? = some (k', x', n) → n < clock := by
      intro j k' x' n q
      rw [setAt_eq, List.getElem?_set] at q
      split at q
      ·split at q
       ·simp at q; obtain ⟨_, _, rfl⟩ := q; exact r3 i k y born f3
       ·simp at q
      ·exact r3 j k' x' n q
     obtain ⟨w', s1, s2⟩ := setMap (K := K) hs hH rfl hρ r1 (by simp) (BRo_map hE hB) (by simp)
     refine ⟨w', ?_, s2⟩
     simp only [Instr.mapUpdate, Sem.run_bind, run_underlying hu, Result.andThen_ok, run_getObj_map r1, run_checkKey hok, run_findKey hd f1, hkey, run_keyStays hok he.1 hk, s1]
    ·rename_i hf
     simp at h; subst h
     have f1 := find_ok hd hok hk r2 hf
     have hE : Ents g (es ++ [(k, x.unown, clock)]) (res.push { key := rk, val := rx, born := clock }).toList := by
      rw [Array.toList_push]
      exact r2.snoc hk hx.unown rfl
     have hB : ∀ (j : Nat) (k' x' : AV) (n : Nat), (es ++ [(k, x.unown, clock)])[j]? = some (k', x', n) → n < clock + 1 := by
      intro j k' x' n q
      rw [List.getElem?_append] at q
      split at q
      ·have := r3 j k' x' n q; omega
      ·have hm := List.mem_of_getElem? q
       simp at hm; omega
     obtain ⟨w', s1, s2⟩ := setMap (K := K) hs hH rfl hρ r1 (by simp) (BRo_map hE hB) (by simp)
     refine ⟨w', ?_, s2⟩
     simp only [Instr.mapUpdate, Sem.run_bind, run_underlying hu, Result.andThen_ok, run_getObj_map r1, run_checkKey hok, run_findKey hd f1, s1]
    ·simp at h
  ·simp at h
 ·simp at h

theorem set_self {α : Type} {l : List α} {i : Nat} {x : α} (h : l[i]? = some x) : l.set i x = l := by
 apply List.ext_getElem?
 intro j
 rw [List.getElem?_set]
 by_cases hj : i = j
 ·subst hj
  have := (List.getElem?_eq_some_iff.1 h).1
  rw [if_pos rfl, if_pos this, h]
 ·simp [hj]

theorem mapEntry_ok (hs : SW F g κ H w) {t : TypeId} {m k : AV} {rm rk : Value} (hm : VR g m rm) (hk : VR g k rk) {z : AV} {H' : List AB} (h : aMapEntry K H t m k = some (z, H')) :
  ∃ r w', (Instr.mapEntry t rm rk).run K.P w = .ok r w' ∧ SW F g κ H' w' ∧ VR g z r := by
 unfold aMapEntry at h
 split at h
 ·rename_i kt et b hu
  rw [nth_eq] at h
  split at h
  ·rename_i es clock hH hok
   obtain ⟨d, hd⟩ : ∃ d, K.P.underlying kt = some d := by
    rcases keyOk_desc hok with ⟨_, _, _, q, _⟩ | ⟨_, q, _⟩ | ⟨_, q, _⟩ <;> exact ⟨_, q⟩
   cases hm with
   | @map _ rb hρ =>
    obtain ⟨res, r1, r2, r3⟩ := map_blk hs hρ hH
    split at h
    ·rename_i _ i y born hf
     simp at h
     obtain ⟨rfl, rfl⟩ := h
     obtain ⟨e, f1, _, f3, f4, f5⟩ := find_ok hd hok hk r2 hf
     simp only [Nat.sub_zero] at f3 f4
     have he := (r2.2 i k y born e f3 f4)
     have hres : res[i]? = some e := by rw [← Array.getElem?_toList]; exact f4
     have hkey : (((res[i]?).map (·.key)).getD rk) = e.key := by simp [hres]
     have hE : Ents g es (res.modify i fun e => { e with key := rk }).toList := by
      rw [modify_toList f4]
      have := r2.set (e := { e with key := rk }) hk f5 he.2.2 i
      rwa [set_self f3] at this
     obtain ⟨w', s1, s2⟩ := setMap (K := K) hs hH rfl hρ r1 (by simp) (BRo_map hE r3) (by simp)
     rw [setAt_eq, set_self hH] at s2
     refine ⟨.tuple #[e.val, goInt e.born], w', ?_, s2, ?_⟩
     ·simp only [Instr.mapEntry, Sem.run_bind, run_underlying hu, Result.andThen_ok, run_getObj_map r1, run_checkKey hok, run_findKey hd f1, hkey, run_keyStays hok he.1 hk, s1, Sem.run_pure]
      simp [hres]
     ·have := VRs.cons f5 (VRs.cons (VR.v (g := g) (x := goInt e.born) rfl) VRs.nil)
      rw [← he.2.2]
      exact .tup this.1 this.2
    ·rename_i z' hf hz
     simp at h
     obtain ⟨rfl, rfl⟩ := h
     have f1 := find_ok hd hok hk r2 hf
     obtain ⟨v, q1, q2, _⟩ := run_tZero (w := w) hz
     have hE : Ents g (es ++ [(k, z', clock)]) (res.push { key := rk, val := v, born := clock }).toList := by
      rw [Array.toList_push]
      exact r2.snoc hk (q2 g) rfl
     have hB : ∀ (j : Nat) (k' x' : AV) (n : Nat), (es ++ [(k, z', clock)])[j]? = some (k', x', n) → n < clock + 1 := by
      intro j k' x' n q
      rw [List.getElem?_append] at q
      split at q
      ·have := r3 j k' x' n q; omega
      ·have hm := List.mem_of_getElem? q
       simp at hm; omega
     obtain ⟨w', s1, s2⟩ := setMap (K := K) hs hH rfl hρ r1 (by simp) (BRo_map hE hB) (by simp)
     refine ⟨.tuple #[v, goInt clock], w', ?_, s2, ?_⟩
     ·simp only [Instr.mapEntry, Sem.run_bind, run_underlying hu, Result.andThen_ok, run_getObj_map r1, run_checkKey hok, run_findKey hd f1, q1, s1, Sem.run_pure]
     ·have := VRs.cons (q2 g) (VRs.cons (VR.v (g := g) (x := goInt clock) rfl) VRs.nil)
      exact .tup this.1 this.2
    ·simp at h
  ·simp at h
 ·simp at h

theorem born_ok {n : Int} {x : AV} {rx : Value} (hx : VR g x rx) {c : Nat} : ∀ {es es' : List (AV × AV × Nat)} {res : List MapEntry}, Ents g es res → (∀ (i : Nat) (k x : AV) (n : Nat), es[i]? = some (k, x, n) → n < c) → aBorn n x es = some es' →
  ∃ i e, res.findIdx? (fun e => (e.born : Int) == n) = some i ∧ res[i]? = some e ∧ Ents g es' (res.set i { e with val := rx }) ∧ ∀ (i : Nat) (k x : AV) (n : Nat), es'[i]? = some (k, x, n) → n < c
 | [], es', res, he, hb, h => by simp [aBorn] at h
 | (k, y, b) :: es, es', res, he, hb, h => by
  obtain ⟨e, r, rfl, a1, a2, a3, a4⟩ := he.cons
  simp only [aBorn] at h
  split at h
  ·rename_i hq
   simp at h; subst h
   refine ⟨0, e, by rw [← a3] at hq; simp [List.findIdx?_cons, hq], by simp, ?_, ?_⟩
   ·have := he.set (e := { e with val := rx }) a1 hx a3 0
    simpa using this
   ·intro i k' x' n' q
    cases i with
    | zero => simp at q; obtain ⟨_, _, rfl⟩ := q; exact hb 0 k y b (by simp)
    | succ i => exact hb (i + 1) k' x' n' (by simpa using q)
  ·rename_i hq
   split at h
   ·rename_i es2 hr
    simp at h; subst h
    obtain ⟨i, e2, i1, i2, i3, i4⟩ := born_ok hx a4 (fun i k x n q => hb (i + 1) k x n (by simpa using q)) hr
    refine ⟨i + 1, e2, by rw [← a3] at hq; simp [List.findIdx?_cons, hq, i1], by simpa using i2, ?_, ?_⟩
    ·refine ⟨by simpa using i3.1, fun j k' x' n' e' p q => ?_⟩
     cases j with
     | zero =>
      simp at p q
      obtain ⟨rfl, rfl, rfl⟩ := p
      subst q
      exact ⟨a1, a2, a3⟩
     | succ j => exact i3.2 j k' x' n' e' (by simpa using p) (by simpa using q)
    ·intro j k' x' n' q
     cases j with
     | zero => simp at q; obtain ⟨_, _, rfl⟩ := q; exact hb 0 k y b (by simp)
     | succ j => exact i4 j k' x' n' (by simpa using q)
   ·simp at h

theorem entryStore_ok (hs : SW F g κ H w) {t : TypeId} {m st x : AV} {rm rst rx : Value} (hm : VR g m rm) (hst : VR g st rst) (hx : VR g x rx) {H' : List AB} (h : aEntryStore H m st x = some H') :
  ∃ w', (Instr.entryStore t rm rst rx).run K.P w = .ok () w' ∧ SW F g κ H' w' := by
 unfold aEntryStore at h
 split at h
 ·rename_i b kk n hn
  rw [nth_eq] at h
  split at h
  ·rename_i es clock hH
   split at h
   ·rename_i es' hb
    simp at h; subst h
    cases hm with
    | @map _ rb hρ =>
     obtain ⟨res, r1, r2, r3⟩ := map_blk hs hρ hH
     obtain ⟨i, e, i1, i2, i3, i4⟩ := born_ok hx.unown r2 r3 hb
     have i1' : res.findIdx? (fun e => (e.born : Int) == n) = some i := by
      obtain ⟨rl⟩ := res
      rw [← i1]; exact List.findIdx?_toArray ..
     obtain ⟨w', s1, s2⟩ := setMap (K := K) hs hH rfl hρ r1 (by simp) (BRo_map (res := res.modify i fun e => { e with val := rx }) (by rw [modify_toList i2]; exact i3) i4) (by simp)
     refine ⟨w', ?_, s2⟩
     have := asI_eq hst hn
     subst this
     simp only [Instr.entryStore, Sem.run_bind, run_getObj_map r1, Result.andThen_ok, asInt, asIntOf, Sem.run_pure, i1', s1]
   ·simp at h
  ·simp at h
 ·simp at h

theorem Ents.erase {es : List (AV × AV × Nat)} {res : List MapEntry} (h : Ents g es res) (j : Nat) : Ents g (es.eraseIdx j) (res.eraseIdx j) := by
 refine ⟨by rw [List.length_eraseIdx, List.length_eraseIdx, h.1], fun i k x b e p q => ?_⟩
 rw [List.getElem?_eraseIdx] at p q
 split at p
 ·rename_i hi
  rw [if_pos hi] at q
  exact h.2 i k x b e p q
 ·rename_i hi
  rw [if_neg hi] at q
  exact h.2 (i + 1) k x b e p q

theorem delete_ok (hs : SW F g κ H w) {t ty : TypeId} {ats : Array TypeId} (ha : ats[0]? = some t) {m k : AV} {rm rk : Value} (hm : VR g m rm) (hk : VR g k rk) {H' : List AB} (h : aDelete K H t m k = some H') :
  ∃ w', (Builtin.delete_ ats ty #[rm, rk]).run K.P w = .ok (.tuple #[]) w' ∧ SW F g κ H' w' := by
 have e2 : (#[rm, rk] : Array Value)[0]? = some rm := rfl
 have e3 : (#[rm, rk] : Array Value)[1]? = some rk := rfl
 unfold aDelete at h
 split at h
 ·rename_i kt et hu
  split at h
  ·rename_i hok
   simp at h; subst h
   obtain ⟨rfl, _⟩ := vr_v hm
   exact ⟨w, by simp [Builtin.delete_, ha, e3, run_underlying hu, run_checkKey hok], hs⟩
  ·simp at h
 ·rename_i kt et b hu
  rw [nth_eq] at h
  split at h
  ·rename_i es clock hH hok
   obtain ⟨d, hd⟩ : ∃ d, K.P.underlying kt = some d := by
    rcases keyOk_desc hok with ⟨_, _, _, q, _⟩ | ⟨_, q, _⟩ | ⟨_, q, _⟩ <;> exact ⟨_, q⟩
   cases hm with
   | @map _ rb hρ =>
    obtain ⟨res, r1, r2, r3⟩ := map_blk hs hρ hH
    split at h
    ·rename_i i y born hf
     simp at h; subst h
     obtain ⟨e, f1, _, f3, f4, f5⟩ := find_ok hd hok hk r2 hf
     simp only [Nat.sub_zero] at f3 f4
     have hi : i < res.size := by have := (List.getElem?_eq_some_iff.1 f4).1; simpa using this
     have hE : Ents g (es.take i ++ es.drop (i + 1)) (res.eraseIdxIfInBounds i).toList := by
      have := r2.erase i
      rw [List.eraseIdx_eq_take_drop_succ] at this
      have e : (res.eraseIdxIfInBounds i).toList = res.toList.eraseIdx i := by
       rw [Array.eraseIdxIfInBounds, dif_pos hi]; simp
      rw [e]; exact this
     have hB : ∀ (j : Nat) (k' x' : AV) (n : Nat), (es.take i ++ es.drop (i + 1))[j]? = some (k', x', n) → n < clock := by
      intro j k' x' n q
      have hmem := List.mem_of_getElem? q
      have hmem' : (k', x', n) ∈ es := (List.mem_append.1 hmem).elim List.mem_of_mem_take List.mem_of_mem_drop
      obtain ⟨j', hj'⟩ := List.mem_iff_getElem?.1 hmem'
      exact r3 j' k' x' n hj'
     obtain ⟨w', s1, s2⟩ := setMap (K := K) hs hH rfl hρ r1 (by simp) (BRo_map hE hB) (by simp)
     refine ⟨w', ?_, s2⟩
     simp [Builtin.delete_, ha, e3, run_underlying hu, run_getObj_map r1, run_checkKey hok, run_findKey hd f1, s1]
    ·rename_i hf
     simp at h; subst h
     have f1 := find_ok hd hok hk r2 hf
     obtain ⟨w', s1, s2⟩ := setMap (K := K) hs hH rfl hρ r1 (by simp) (BRo_map r2 r3) (by simp)
     rw [setAt_eq, set_self hH] at s2
     refine ⟨w', ?_, s2⟩
     simp [Builtin.delete_, ha, e3, run_underlying hu, run_getObj_map r1, run_checkKey hok, run_findKey hd f1, s1]
    ·simp at h
  ·simp at h
 ·simp at h
end
end Go.Tm
end
