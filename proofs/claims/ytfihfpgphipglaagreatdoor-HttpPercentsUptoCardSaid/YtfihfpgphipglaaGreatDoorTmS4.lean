/- The tree machine: operations that make and write memory. -/
import Derived.Test.YtfihfpgphipglaaGreatDoorTmS3
set_option linter.unusedVariables false
set_option linter.unusedSimpArgs false
set_option linter.unusedSectionVars false
namespace Go.Tm
section
variable {F : Fr} {g : Gh} {κ : Nat → Option Tok} {own : Nat → Nat} {H : List AB} {w : World} {K : Cfg}

theorem brow {t : TypeId × Bool} {cs : List AV} {rs : List Value} {e : TypeId} (h : VRs g cs rs) (h1 : allOne cs = true) (ht : e = t.1) : BRo g (.cells t cs) (.cells ⟨rs⟩ e) := by
  refine ⟨rfl, by simp [h.1], fun i x r a b => h.2 i x r a (by simpa using b), h1, ht, fun _ => by simp [h.1]⟩

/-- A new variable. -/
theorem newVar_ok (hs : SW F g κ H w) {x : AV} {r : Value} (hx : VR g x r) (h1 : allOne x.cells = true) (elem : TypeId) :
    ∃ g' w', (newVar elem r).run K.P w = .ok ⟨w.heap.size, 0, none⟩ w' ∧ Gh.Le g g' ∧ SW F g' κ (H ++ [.cells (elem, true) x.cells]) w' ∧ VR g' (.ptr H.length 0) (.pointer (some ⟨w.heap.size, 0, none⟩)) := by
  have hle := hs.le_new (objLen (.cells r.cells elem))
  have hc : VRs g x.cells r.cells.toList := hx.cells (allOne_notTup h1)
  refine ⟨g.addBlk H.length w.heap.size (objLen (.cells r.cells elem)), w.alloc (.cells r.cells elem), by simp [newVar, newRow], hle, ?_, .ptr (by simp [Gh.addBlk])⟩
  exact hs.alloc _ _ (by have := brow (e := elem) (t := (elem, true)) (hc.mono hle) h1 rfl; simpa using this)

theorem alloc_ok (hs : SW F g κ H w) {elem : TypeId} {z : AV} (hz : tZero K.P elem = some z) :
    ∃ r w' g', (Instr.alloc elem true (.tuple #[])).run K.P w = .ok r w' ∧ Gh.Le g g' ∧ SW F g' κ (H ++ [.cells (elem, true) z.cells]) w' ∧ VR g' (.ptr H.length 0) r := by
  obtain ⟨v, hv, hr, h1⟩ := run_tZero (w := w) hz
  obtain ⟨g', w', e1, e2, e3, e4⟩ := newVar_ok (K := K) hs (hr g) h1 elem
  exact ⟨_, w', g', by simp [Instr.alloc, hv, e1], e2, e3, e4⟩

theorem bigOk_eq {t : TypeId} {n : Nat} {r : BT} {z : AV} (hz : tZero K.P t = some z) (h : bigOk K.P t n r = true) : r.toL.length = n ∧ r.wf = true ∧ r.toL = z.cells := by
  unfold bigOk at h
  rw [hz] at h
  simp only [Bool.and_eq_true, decide_eq_true_eq] at h
  exact ⟨h.1.1, h.1.2, zEqL_eq h.2⟩
theorem allocBig_ok (hs : SW F g κ H w) {elem : TypeId} {z : AV} (hz : tZero K.P elem = some z) (big : Option (Nat × BT)) :
    ∃ r w' g', (Instr.alloc elem true (.tuple #[])).run K.P w = .ok r w' ∧ Gh.Le g g' ∧ SW F g' κ (H ++ [newBlk K.P big elem z]) w' ∧ VR g' (.ptr H.length 0) r := by
  obtain ⟨r, w', g', h1, h2, h3, h4⟩ := alloc_ok (K := K) hs hz
  refine ⟨r, w', g', h1, h2, ?_, h4⟩
  unfold newBlk
  cases big with
  | none => exact h3
  | some x =>
    simp only
    cases hb : bigOk K.P elem x.1 x.2 with
    | false => exact h3
    | true =>
      obtain ⟨b1, b2, b3⟩ := bigOk_eq hz hb
      have hk : (H ++ [AB.cells (elem, true) z.cells])[H.length]? = some (.cells (elem, true) z.cells) := by simp
      have := h3.swap (A' := .rope (elem, true) x.1 x.2) hk rfl fun o q => BRo.rope (by rw [b3]; exact q) b1 b2
      have e : setAt (H ++ [AB.cells (elem, true) z.cells]) H.length (.rope (elem, true) x.1 x.2) = H ++ [.rope (elem, true) x.1 x.2] := by
        rw [setAt_eq]; simp
      rwa [e] at this

theorem box_ok (hs : SW F g κ H w) {elem : TypeId} {x : AV} {r : Value} (hx : VR g x r) (h1 : allOne x.cells = true) :
    ∃ r' w' g', (Instr.box elem r).run K.P w = .ok r' w' ∧ Gh.Le g g' ∧ SW F g' κ (H ++ [.cells (elem, true) x.unown.cells]) w' ∧ VR g' (.ptr H.length 0) r' := by
  obtain ⟨g', w', e1, e2, e3, e4⟩ := newVar_ok (K := K) hs hx.unown (by rw [allOne_unown]; exact h1) elem
  exact ⟨_, w', g', by simp [Instr.box, e1], e2, e3, e4⟩

/-! ### stores -/
theorem putAll_eq {α : Type} : ∀ (xs cs : List α) (o : Nat), o + xs.length ≤ cs.length → putAll cs o xs = cs.take o ++ xs ++ cs.drop (o + xs.length)
  | [], cs, o, _ => by simp [putAll]
  | x :: r, cs, o, h => by
    simp only [putAll, setAt_eq]
    rw [putAll_eq r _ _ (by simp at h ⊢; omega)]
    apply List.ext_getElem?
    intro i
    simp only [List.getElem?_append, List.length_append, List.length_take, List.length_set, List.length_cons, List.getElem?_take, List.getElem?_drop, List.getElem?_set, List.getElem?_cons]
    simp only [List.length_cons] at h
    have e1 : min (o + 1) cs.length = o + 1 := by omega
    have e2 : min o cs.length = o := by omega
    rw [e1, e2]
    by_cases h1 : i < o
    · simp [show i < o + 1 + r.length by omega, show i < o + 1 by omega, h1, show i < o + (r.length + 1) by omega, show ¬ o = i by omega]
    · by_cases h2 : i = o
      · subst h2
        simp [show i < i + 1 + r.length by omega, show i < i + (r.length + 1) by omega]
        omega
      · by_cases h3 : i < o + 1 + r.length
        · simp [h3, show ¬ i < o + 1 by omega, h1, show i < o + (r.length + 1) by omega, show ¬ (i - o = 0) by omega]
          try rw [show i - (o + 1) = i - o - 1 by omega]
        · simp [h3, show ¬ i < o + (r.length + 1) by omega]
          rw [if_neg (by omega)]
          try (congr 1; omega)

theorem putAll_len {α : Type} (xs cs : List α) (o : Nat) : (putAll cs o xs).length = cs.length := by
  induction xs generalizing cs o with
  | nil => rfl
  | cons x r ih => simp [putAll, ih, setAt_eq]

theorem allOne_iff {cs : List AV} : allOne cs = true ↔ ∀ x ∈ cs, x.one = true := by simp [allOne]

/-- Cells of a block overwritten. -/
theorem storeCells_ok (hs : SW F g κ H w) {b off rb : Nat} {t : TypeId × Bool} {cs xs : List AV} {rs : List Value} (hb : g.ρ b = some rb) (hH : H[b]? = some (.cells t cs)) (hx : VRs g xs rs) (h1 : allOne xs = true)
    (hf : off + xs.length ≤ cs.length) :
    ∃ w', (storeCells ⟨rb, off, none⟩ rs 0).run K.P w = .ok () w' ∧ SW F g κ (setAt H b (.cells t (putAll cs off xs))) w' := by
  obtain ⟨rb', o, q1, q2, q3, _, _, q6⟩ := hs.blk b _ hH rfl
  rw [hb] at q1; cases q1
  cases o with
  | cells rcs e fz =>
    simp only [BRo] at q3
    obtain ⟨rfl, hle, hv, ho, ht0, ht⟩ := q3
    have hlen : xs.length = rs.length := hx.1
    refine ⟨_, run_storeCells_at K.P rb off e rs 0 rcs w q2 (by omega) (fun v hv' => hx.allOne h1 v hv'), ?_⟩
    refine hs.change hH rfl hb (sameBut_setRow w rb _) fun _ => ⟨_, setRow_heap w rb rcs _ e (0, 0) q2, ?_, fun rcs' e' fz' q => by
      have := q6 rcs e _ rfl
      cases q
      simp
      omega⟩
    refine ⟨rfl, ?_, ?_, ?_, ht0, ?_⟩
    · rw [putAll_len]; simp; omega
    · intro i x r a c
      rw [putAll_eq xs cs off hf] at a
      simp only [Nat.add_zero] at c
      rw [List.getElem?_append, List.getElem?_append] at a c
      simp only [List.length_append, List.length_take, Array.length_toList] at a c
      rw [show min off cs.length = off by omega] at a
      rw [show min off rcs.size = off by omega] at c
      rw [← hlen] at c
      by_cases h2 : i < off + xs.length
      · simp only [h2, if_true] at a c
        by_cases h3 : i < off
        · simp only [h3, if_true, List.getElem?_take] at a c
          exact hv i x r a (by simpa using c)
        · simp only [h3, if_false] at a c
          exact hx.2 _ x r a c
      · simp only [h2, if_false, List.getElem?_drop] at a c
        exact hv _ x r a (by simpa using c)
    · rw [putAll_eq xs cs off hf, allOne_iff]
      rw [allOne_iff] at ho h1
      intro x hx'
      simp only [List.mem_append] at hx'
      rcases hx' with (hx' | hx') | hx'
      · exact ho x (List.mem_of_mem_take hx')
      · exact h1 x hx'
      · exact ho x (List.mem_of_mem_drop hx')
    · intro q
      rw [putAll_len]
      have := ht q
      simp; omega
  | _ => simp [BRo] at q3

theorem storeAt_ok (hs : SW F g κ H w) {t : TypeId} {a x : AV} {ra rx : Value} (ha : VR g a ra) (hx : VR g x rx) {H' : List AB} (h : aStore K H t a x = some H') :
    ∃ w', (Instr.storeAt t ra rx).run K.P w = .ok () w' ∧ SW F g κ H' w' := by
  unfold aStore at h
  split at h
  · rename_i b off n hn
    rw [nth_eq] at h
    cases hH : H[b]? with
    | none => simp [hH] at h
    | some A =>
      cases A with
      | cells e cs =>
        simp only [hH] at h
        split at h
        · rename_i hc
          obtain ⟨hc1, hc2, hc3⟩ := hc
          simp at h; subst h
          cases ha with
          | @ptr _ _ rb hb =>
            have hcs : VRs g x.unown.cells rx.cells.toList := hx.unown.cells (allOne_notTup (by rw [allOne_unown]; exact hc3))
            have hlen : x.unown.cells.length = n := by rw [AV.cells_unown]; exact hc1
            obtain ⟨w', e1, e2⟩ := storeCells_ok (K := K) (off := off) hs hb hH hcs (by rw [allOne_unown]; exact hc3) (by omega)
            refine ⟨w', ?_, e2⟩
            have hsz : rx.cells.size = n := by rw [← hlen, hcs.1]; simp
            simp [Instr.storeAt, Instr.sureAddr, storeVar, run_tSize hn, hsz, e1]
        · simp at h
      | rope e m q =>
        simp only [hH] at h
        split at h
        · rename_i hc
          obtain ⟨hc1, hc3⟩ := hc
          cases hq : q.wr off x.unown.cells with
          | none => simp [hq] at h
          | some q' =>
            simp only [hq, Option.some.injEq] at h
            subst h
            obtain ⟨o1, o2⟩ := hs.ropeOk hH
            obtain ⟨p1, p2, p3⟩ := BT.wr_eq o2 hq
            cases ha with
            | @ptr _ _ rb hb =>
              have hcs : VRs g x.unown.cells rx.cells.toList := hx.unown.cells (allOne_notTup (by rw [allOne_unown]; exact hc3))
              have hlen : x.unown.cells.length = n := by rw [AV.cells_unown]; exact hc1
              obtain ⟨w', e1, e2⟩ := storeCells_ok (K := K) (off := off) (hs.unrope hH) hb (getSet hH) hcs (by rw [allOne_unown]; exact hc3) p1
              rw [setSet] at e2
              have e3 := e2.swap (A' := .rope e m q') (getSet hH) rfl fun o k => BRo.rope (by rw [p2]; exact k) (by rw [p2, putAll_len']; exact o1) p3
              rw [setSet] at e3
              refine ⟨w', ?_, e3⟩
              have hsz : rx.cells.size = n := by rw [← hlen, hcs.1]; simp
              simp [Instr.storeAt, Instr.sureAddr, storeVar, run_tSize hn, hsz, e1]
        · simp at h
      | _ => simp [hH] at h
  · simp at h

/-! ### composites -/
theorem fill_ok {place : Nat → Option (Nat × Nat)} : ∀ {parts : List (Nat × AV)} {rparts : List (Nat × Value)} {cs cs' : List AV} {rs : Array Value},
    parts.length = rparts.length → (∀ (i : Nat) (n m : Nat) (x : AV) (r : Value), parts[i]? = some (n, x) → rparts[i]? = some (m, r) → n = m ∧ VR g x r) → VRs g cs rs.toList → afill place cs parts = some cs' →
    ∃ rs', Instr.fill place rs rparts = some rs' ∧ VRs g cs' rs'.toList
  | [], rparts, cs, cs', rs, hl, _, hv, h => by
    cases rparts with
    | nil => simp [afill] at h; subst h; exact ⟨rs, rfl, hv⟩
    | cons => simp at hl
  | (i, x) :: rest, rparts, cs, cs', rs, hl, hp, hv, h => by
    cases rparts with
    | nil => simp at hl
    | cons q rrest =>
      obtain ⟨m, r⟩ := q
      obtain ⟨rfl, hx⟩ := hp 0 i m x r (by simp) (by simp)
      simp only [afill] at h
      cases hpl : place i with
      | none => simp [hpl] at h
      | some pr =>
        obtain ⟨off, size⟩ := pr
        simp only [hpl] at h
        split at h
        · rename_i hc
          obtain ⟨c1, c2, c3⟩ := hc
          have hcs : VRs g x.unown.cells r.cells.toList := hx.unown.cells (allOne_notTup (by rw [allOne_unown]; exact c3))
          have hl1 : x.unown.cells.length = size := by rw [AV.cells_unown]; exact c1
          have hl2 : r.cells.size = size := by rw [← hl1, hcs.1]; simp
          have hl3 : cs.length = rs.size := by rw [hv.1]; simp
          have key : ∀ (l : List AV) (rl : List Value) (cs : List AV) (rs : Array Value) (k : Nat), VRs g l rl → VRs g cs rs.toList → off + k + l.length ≤ cs.length →
              VRs g (putAll cs (off + k) l) ((rl.zipIdx k).foldl (fun cs (c, j) => cs.setIfInBounds (off + j) c) rs).toList := by
            intro l
            induction l with
            | nil =>
              intro rl cs rs k h1 h2 _
              cases rl with
              | nil => simpa [putAll] using h2
              | cons => exact absurd h1.1 (by simp)
            | cons y l ih =>
              intro rl cs rs k h1 h2 h3
              obtain ⟨z, rl', rfl, hz, h4⟩ := h1.head
              simp only [putAll, List.zipIdx_cons, List.foldl_cons, setAt_eq]
              have := ih rl' (cs.set (off + k) y) (rs.setIfInBounds (off + k) z) (k + 1) h4 (by rw [Array.toList_setIfInBounds]; exact h2.set hz _) (by simp at h3 ⊢; omega)
              rw [Nat.add_assoc]
              exact this
          have hk := key x.unown.cells r.cells.toList cs rs 0 hcs hv (by omega)
          obtain ⟨rs', e1, e2⟩ := fill_ok (rs := (r.cells.toList.zipIdx 0).foldl (fun cs (c, j) => cs.setIfInBounds (off + j) c) rs) (by simpa using hl) (fun j n m y s a b => hp (j + 1) n m y s (by simpa using a) (by simpa using b)) (by simpa using hk) h
          refine ⟨rs', ?_, e2⟩
          simp only [Instr.fill, hpl]
          rw [if_neg (by simp [hl2]; omega)]
          have harr : r.cells.zipIdx.foldl (fun cs (c, j) => cs.setIfInBounds (off + j) c) rs = (r.cells.toList.zipIdx 0).foldl (fun cs (c, j) => cs.setIfInBounds (off + j) c) rs := by
            rw [← Array.foldl_toList, Array.toList_zipIdx]
          rw [harr]; exact e1
        · simp at h

theorem mapM_places {w : World} : ∀ (fields : List Field) {places : List (Nat × Nat)}, mapO (fun f : Field => (tSize K.P f.type).map fun n => (f.offset, n)) fields = some places →
    (fields.mapM (fun f => Prod.mk f.offset <$> sizeOf f.type) : Sem (List (Nat × Nat))).run K.P w = .ok places w
  | [], places, h => by simp [mapO] at h; subst h; rfl
  | f :: r, places, h => by
    simp only [mapO] at h
    cases hn : tSize K.P f.type with
    | none => simp [hn] at h
    | some n =>
      cases hr : mapO (fun f : Field => (tSize K.P f.type).map fun n => (f.offset, n)) r with
      | none => simp [hn, hr] at h
      | some ps =>
        simp [hn, hr] at h; subst h
        simp [List.mapM_cons, run_tSize hn, mapM_places r hr]

theorem build_ok {t : TypeId} {parts : List (Nat × AV)} {rparts : Array (Nat × Value)} {x : AV} (hl : parts.length = rparts.size)
    (hp : ∀ (i : Nat) (n m : Nat) (x : AV) (r : Value), parts[i]? = some (n, x) → rparts.toList[i]? = some (m, r) → n = m ∧ VR g x r) (h : aBuild K t parts = some x) :
    ∃ r, (Instr.build t rparts).run K.P w = .ok r w ∧ VR g x r := by
  unfold aBuild at h
  split at h
  · rename_i z fields hz hu
    cases hm : mapO (fun f : Field => (tSize K.P f.type).map fun n => (f.offset, n)) fields.toList with
    | none => simp [hm] at h
    | some places =>
      simp only [hm, Option.map_eq_some_iff] at h
      obtain ⟨cs, h1, rfl⟩ := h
      obtain ⟨v, hv, hr, hz1⟩ := run_tZero (w := w) hz
      obtain ⟨rs', e1, e2⟩ := fill_ok (g := g) (rs := v.cells) (rparts := rparts.toList) (by simpa using hl) hp ((hr g).cells (allOne_notTup hz1)) h1
      obtain ⟨rl⟩ := rs'
      refine ⟨.agg ⟨rl⟩, ?_, .agg e2.1 e2.2⟩
      have hmp : (fields.mapM (fun f => Prod.mk f.offset <$> sizeOf f.type) : Sem (Array (Nat × Nat))).run K.P w = .ok ⟨places⟩ w := by
        rw [Array.mapM_eq_mapM_toList]
        simp [mapM_places fields.toList hm]
      have e1' : Instr.fill (fun i => places[i]?) v.cells rparts.toList = some ⟨rl⟩ := by
        have : (fun i => places[i]?) = nth places := by funext i; rw [nth_eq]
        rw [this]; exact e1
      simp [Instr.build, hv, run_underlying hu, hmp, e1']
  · rename_i z n elem hz hu
    split at h
    · rename_i m hm
      simp only [Option.map_eq_some_iff] at h
      obtain ⟨cs, h1, rfl⟩ := h
      obtain ⟨v, hv, hr, hz1⟩ := run_tZero (w := w) hz
      obtain ⟨rs', e1, e2⟩ := fill_ok (g := g) (rs := v.cells) (rparts := rparts.toList) (by simpa using hl) hp ((hr g).cells (allOne_notTup hz1)) h1
      obtain ⟨rl⟩ := rs'
      exact ⟨.agg ⟨rl⟩, by simp [Instr.build, hv, run_underlying hu, run_tSize hm, e1], .agg e2.1 e2.2⟩
    · simp at h
  · simp at h
end
end Go.Tm
