/- The tree machine: append. -/
import Derived.Test.YtaefgigfoifjaaaGreatDoorTmS7
set_option linter.unusedVariables false
set_option linter.unusedSimpArgs false
set_option linter.unusedSectionVars false
namespace Go.Tm
section
variable {F : Fr} {g : Gh} {κ : Nat → Option Tok} {own : Nat → Nat} {H : List AB} {w : World} {K : Cfg}

theorem bytes_VRs (s : List UInt8) : VRs g (s.map fun b => AV.v (.int .u8 b.toNat)) (s.map fun b => Value.int .u8 b.toNat) := by
  refine ⟨by simp, fun i x r a b => ?_⟩
  simp only [List.getElem?_map, Option.map_eq_some_iff] at a b
  obtain ⟨c, hc, rfl⟩ := a
  obtain ⟨d, hd, rfl⟩ := b
  rw [hc] at hd; cases hd
  exact .v rfl

theorem flat_bytes (s : List UInt8) : (s.map fun b => AV.v (.int .u8 b.toNat)).flatMap AV.cells = s.map fun b => AV.v (.int .u8 b.toNat) := by
  induction s with
  | nil => rfl
  | cons x r ih => rw [List.map_cons, List.flatMap_cons, ih]; rfl

theorem els_ok (hs : SW F g κ H w) {x : AV} {rx : Value} (hx : VR g x rx) {sz : Nat} {ys : List AV} (h : asEls H sz x = some ys) :
    (Builtin.lenOf rx).run K.P w = .ok ys.length w ∧ (∀ y ∈ ys, y.cells.length = sz) ∧ allOne (ys.flatMap AV.cells) = true ∧
      ∃ rs : List Value, VRs g (ys.flatMap AV.cells) rs ∧ (Builtin.firstCells sz ys.length rx).run K.P w = .ok ⟨rs⟩ w ∧ ∀ m, m ≤ ys.length → (Builtin.firstCells sz m rx).run K.P w = .ok ⟨rs.take (m * sz)⟩ w := by
  unfold asEls at h
  split at h
  · rename_i xs tl
    split at h
    · rename_i hall
      simp at h; subst h
      have hc : ∀ y ∈ xs, y.cells.length = sz := by simpa using hall
      rcases sl_lies hs hx with ⟨rfl, rfl, rfl⟩ | ⟨b, o, cap, sz', rfl, hn, _, _, h1, hl⟩
      · exact ⟨rfl, by simp, rfl, [], VRs.nil, by simp [Builtin.firstCells], fun m hm => by simp [Builtin.firstCells]⟩
      · obtain ⟨rs, hv, hlie⟩ := hl
        have hlen : rs.length = xs.length * sz := by rw [← hv.1, flat_len hc]
        have key : ∀ m, m ≤ xs.length → (Builtin.firstCells sz m (.slice (some ⟨b, o, none⟩) xs.length cap)).run K.P w = .ok ⟨rs.take (m * sz)⟩ w := by
          intro m hm
          have hl2 : (rs.take (m * sz)).length = m * sz := by
            rw [List.length_take, hlen, Nat.min_eq_left (Nat.mul_le_mul_right _ hm)]
          have := run_loadCells_list (P := K.P) w ⟨b, o, none⟩ (rs.take (m * sz)) (fun j v k => hlie j v (by
            rw [List.getElem?_take] at k
            split at k
            · exact k
            · simp at k))
          rw [hl2] at this
          simpa [Builtin.firstCells] using this
        refine ⟨rfl, hc, h1, rs, hv, ?_, key⟩
        have := key xs.length (Nat.le_refl _)
        rwa [List.take_of_length_le (by omega)] at this
    · simp at h
  · rename_i b off len s
    rw [nth_eq] at h
    cases hH : H[b]? with
    | none => simp [hH] at h
    | some A =>
      cases A with
      | cells t cs =>
        simp only [hH] at h
        split at h
        · rename_i hc
          obtain ⟨rfl, hpos, hfit⟩ := hc
          simp at h; subst h
          cases hx with
          | @ms _ _ _ _ rb cap hρ hlc =>
            obtain ⟨a, ha, hl⟩ := deref_lies hs (VR.ptr (off := off) hρ) (show deref H (.ptr b off) = some (cs.drop off) by simp [deref, nth_eq, hH])
            cases ha
            obtain ⟨rs0, hv0, hlie0⟩ := hl
            obtain ⟨rb', ob, q1, q2, q3, _⟩ := hs.blk b _ hH rfl
            have hone : allOne cs = true := by
              cases ob with
              | cells => exact q3.2.2.2.1
              | _ => simp [BRo] at q3
            have hone' : allOne ((cs.drop off).take (len * s)) = true := by
              rw [allOne_iff] at *; exact fun y hy => hone y (List.mem_of_mem_drop (List.mem_of_mem_take hy))
            have hlen' : ((cs.drop off).take (len * s)).length = len * s := by simp; omega
            obtain ⟨k1, k2, k3⟩ := chunk_ok hpos len _ hone' hlen'
            have hv : VRs g ((cs.drop off).take (len * s)) (rs0.take (len * s)) := hv0.take _
            have hlen : (rs0.take (len * s)).length = len * s := by rw [← hv.1]; exact hlen'
            have key : ∀ m, m ≤ len → (Builtin.firstCells s m (.slice (some ⟨rb, off, none⟩) len cap)).run K.P w = .ok ⟨(rs0.take (len * s)).take (m * s)⟩ w := by
              intro m hm
              have hl2 : ((rs0.take (len * s)).take (m * s)).length = m * s := by
                rw [List.length_take, hlen, Nat.min_eq_left (Nat.mul_le_mul_right _ hm)]
              have := run_loadCells_list (P := K.P) w ⟨rb, off, none⟩ ((rs0.take (len * s)).take (m * s)) (fun j v k => hlie0 j v (by
                rw [List.getElem?_take] at k
                split at k
                · rw [List.getElem?_take] at k
                  split at k
                  · exact k
                  · simp at k
                · simp at k))
              rw [hl2] at this
              simpa [Builtin.firstCells] using this
            refine ⟨by rw [k1]; rfl, k2, by rw [k3]; exact hone', rs0.take (len * s), by rw [k3]; exact hv, ?_, by rw [k1]; exact key⟩
            rw [k1]
            have := key len (Nat.le_refl _)
            rwa [List.take_of_length_le (by omega)] at this
        · simp at h
      | rope t nn q =>
        simp only [hH] at h
        obtain ⟨o1, o2⟩ := hs.ropeOk hH
        subst o1
        rw [BT.from_eq off o2] at h
        split at h
        · rename_i hc
          obtain ⟨rfl, hpos, hfit⟩ := hc
          simp at h; subst h
          cases hx with
          | @ms _ _ _ _ rb cap hρ hlc =>
            obtain ⟨a, ha, hl⟩ := deref_lies hs (VR.ptr (off := off) hρ) (show deref H (.ptr b off) = some (q.toL.drop off) by simp [deref, nth_eq, hH, BT.from_eq off o2])
            cases ha
            obtain ⟨rs0, hv0, hlie0⟩ := hl
            obtain ⟨rb', ob, q1, q2, q3, _⟩ := hs.blk b _ hH rfl
            have hone : allOne q.toL = true := by
              cases ob with
              | cells => exact q3.2.2.2.2.1
              | _ => simp [BRo] at q3
            have hone' : allOne ((q.toL.drop off).take (len * s)) = true := by
              rw [allOne_iff] at *; exact fun y hy => hone y (List.mem_of_mem_drop (List.mem_of_mem_take hy))
            have hlen' : ((q.toL.drop off).take (len * s)).length = len * s := by simp; omega
            obtain ⟨k1, k2, k3⟩ := chunk_ok hpos len _ hone' hlen'
            have hv : VRs g ((q.toL.drop off).take (len * s)) (rs0.take (len * s)) := hv0.take _
            have hlen : (rs0.take (len * s)).length = len * s := by rw [← hv.1]; exact hlen'
            have key : ∀ m, m ≤ len → (Builtin.firstCells s m (.slice (some ⟨rb, off, none⟩) len cap)).run K.P w = .ok ⟨(rs0.take (len * s)).take (m * s)⟩ w := by
              intro m hm
              have hl2 : ((rs0.take (len * s)).take (m * s)).length = m * s := by
                rw [List.length_take, hlen, Nat.min_eq_left (Nat.mul_le_mul_right _ hm)]
              have := run_loadCells_list (P := K.P) w ⟨rb, off, none⟩ ((rs0.take (len * s)).take (m * s)) (fun j v k => hlie0 j v (by
                rw [List.getElem?_take] at k
                split at k
                · rw [List.getElem?_take] at k
                  split at k
                  · exact k
                  · simp at k
                · simp at k))
              rw [hl2] at this
              simpa [Builtin.firstCells] using this
            refine ⟨by rw [k1]; rfl, k2, by rw [k3]; exact hone', rs0.take (len * s), by rw [k3]; exact hv, ?_, by rw [k1]; exact key⟩
            rw [k1]
            have := key len (Nat.le_refl _)
            rwa [List.take_of_length_le (by omega)] at this
        · simp at h
      | _ => simp [hH] at h
  · rename_i s
    split at h
    · rename_i hsz; subst hsz
      simp at h; subst h
      cases hx with
      | str =>
        have key : ∀ m, m ≤ s.length → (Builtin.firstCells 1 m (.string ⟨⟨s⟩⟩)).run K.P w = .ok ⟨(s.map fun b => Value.int .u8 b.toNat).take (m * 1)⟩ w := by
          intro m hm
          simp only [Builtin.firstCells, Sem.run_pure]
          congr 1
          apply Array.ext'
          have : (ByteArray.extract ⟨⟨s⟩⟩ 0 m).data.toList = s.take m := by
            rw [ByteArray.data_extract]
            simp [List.extract_eq_take_drop]
          rw [Array.toList_map, this]
          simp [List.map_take]
        refine ⟨by simp [Builtin.lenOf]; rfl, by simp [AV.cells], by rw [flat_bytes]; simp [allOne, AV.one], _, by rw [flat_bytes]; exact bytes_VRs s, ?_, by simpa using key⟩
        have := key s.length (Nat.le_refl _)
        rw [List.take_of_length_le (by simp)] at this
        simpa using this
    · simp at h
  · simp at h

/-! ### the model's append, in two arms -/
section
variable {P : Program} {t t2 ty elem : TypeId} {info : TypeInfo} {d2 : TypeDesc} {rx : Value} {n : Nat} {base : Option Addr} {sLen sCap : Nat} {new : Array Value}

theorem run_append_in (hu : P.underlying t = some (.slice elem)) (hi : P.info? elem = some info) (h2 : P.underlying t2 = some d2) (hd : ∀ k, d2 ≠ .int k) (hn : (Builtin.lenOf rx).run P w = .ok n w)
    (hnew : (Builtin.firstCells info.size n rx).run P w = .ok new w) (hroom : sLen + n ≤ sCap) {w' : World} (hst : (match base with | some a => (storeCells (a.add (sLen * info.size)) new.toList 0).run P w | none => .ok () w) = .ok () w') :
    (Builtin.append_ #[t, t2] ty #[.slice base sLen sCap, rx]).run P w = .ok (.slice base (sLen + n) sCap) w' := by
  have e0 : (#[t, t2] : Array TypeId)[0]? = some t := rfl
  have e1 : (#[t, t2] : Array TypeId)[1]? = some t2 := rfl
  have e2 : (#[Value.slice base sLen sCap, rx] : Array Value)[0]? = some (.slice base sLen sCap) := rfl
  have e3 : (#[Value.slice base sLen sCap, rx] : Array Value)[1]? = some rx := rfl
  cases d2 <;> first
    | exact absurd rfl (hd _)
    | (simp only [Builtin.append_, e0, e1, e2, e3, Sem.run_bind, run_underlying hu, run_underlying h2, Result.andThen_ok, sizeOf, run_typeInfo hi, Sem.run_pure, Bool.false_eq_true, if_false, hn, if_pos hroom, Bool.not_false, if_true, hnew]
       cases base with
       | none => simp at hst; subst hst; simp
       | some a => simp only [] at hst; simp [hst])

theorem run_append_out (hu : P.underlying t = some (.slice elem)) (hi : P.info? elem = some info) (h2 : P.underlying t2 = some d2) (hd : ∀ k, d2 ≠ .int k) (hn : (Builtin.lenOf rx).run P w = .ok n w)
    (e5 : (Builtin.firstCells info.size n rx).run P w.drew = .ok new w.drew) (hroom : ¬ sLen + n ≤ sCap) {old : Array Value} (e4 : (Builtin.firstCells info.size sLen (.slice base sLen sCap)).run P w.drew = .ok old w.drew)
    {z : Value} (hz : ∀ w', (zeroValue elem).run P w' = .ok z w') (hmax : sLen + n ≤ 9223372036854775807) (hbytes : (sLen + n) * info.bytes ≤ 140737488355328) :
    ∃ c, sLen + n ≤ c ∧ (Builtin.append_ #[t, t2] ty #[.slice base sLen sCap, rx]).run P w =
      .ok (.slice (some ⟨w.heap.size, 0, none⟩) (sLen + n) c) (w.drew.alloc (.cells (old ++ new ++ Builtin.zeroCells z.cells (c - (sLen + n))) elem)) := by
  refine ⟨grownCap w (sLen + n) sCap elem, by simp [grownCap, Question.cut], ?_⟩
  have e0 : (#[t, t2] : Array TypeId)[0]? = some t := rfl
  have e1 : (#[t, t2] : Array TypeId)[1]? = some t2 := rfl
  have e2 : (#[Value.slice base sLen sCap, rx] : Array Value)[0]? = some (.slice base sLen sCap) := rfl
  have e3 : (#[Value.slice base sLen sCap, rx] : Array Value)[1]? = some rx := rfl
  have hm : ¬ (((sLen + n : Nat) : Int) > IntKind.i64.max) := by
    have : IntKind.i64.max = 9223372036854775807 := by decide
    rw [this]; omega
  have hg : ¬ (Builtin.nextslicecap (sLen + n) sCap * info.bytes > 2 ^ 48) := by
    have := growslice_fits (show sCap < sLen + n by omega) hbytes
    omega
  have hf : (Question.appendCap (sLen + n) sCap elem).forced = false := rfl
  cases d2 <;> first
    | exact absurd rfl (hd _)
    | (simp only [Builtin.append_, e0, e1, e2, e3, Sem.run_bind, run_underlying hu, run_underlying h2, Result.andThen_ok, sizeOf, run_typeInfo hi, Sem.run_pure, Bool.false_eq_true, if_false, hn, if_neg hroom, Bool.not_false, if_true, false_or, hm, false_and, if_neg hg, run_choose, hf, run_askRoom, World.drew_eq, e4, e5, hz, newRow, run_newObj, World.alloc_eq, grownCap]
       rfl)
end

theorem sameBut_refl (w : World) (rb : Nat) : SameBut w w rb := ⟨rfl, rfl, rfl, rfl, fun _ _ => rfl, Nat.le_refl _⟩

theorem SW.kill (h : SW F g κ H w) {k : Nat} {A : AB} (hk : H[k]? = some A) (hl : A.live = true) : SW F g κ (setAt H k .dead) w := by
  obtain ⟨rb, o, q1, _⟩ := h.blk k A hk hl
  exact h.change hk hl q1 (sameBut_refl w rb) (fun q => by simp [AB.live] at q)

theorem SW.move (h : SW F g κ H w) {k : Nat} {A : AB} {rb : Nat} (hk : H[k]? = some A) (hl : A.live = true) (hr : g.ρ k = some rb) : SW F (g.addBlk H.length rb (g.N rb)) κ (setAt H k .dead ++ [A]) w := by
  have hle : Gh.Le g (g.addBlk H.length rb (g.N rb)) := h.le_addBlk rb (g.N rb) (fun _ _ => rfl)
  obtain ⟨rb0, o0, q1, q2, q3, q4, q5, q6⟩ := h.blk k A hk hl
  rw [hr] at q1; cases q1
  have hklt : k < H.length := (List.getElem?_eq_some_iff.1 hk).1
  rw [setAt_eq]
  have hN : ∀ b, (g.addBlk H.length rb (g.N rb)).N b = g.N b := fun b => by simp only [Gh.addBlk]; split <;> simp_all
  have hρ : ∀ j b, j < H.length → ((g.addBlk H.length rb (g.N rb)).ρ j = some b ↔ g.ρ j = some b) := fun j b hj => by
    simp only [Gh.addBlk]; rw [if_neg (by omega)]
  have hget : ∀ j B, (H.set k .dead ++ [A])[j]? = some B → B.live = true → (j ≠ k ∧ j < H.length ∧ H[j]? = some B) ∨ (j = H.length ∧ B = A) := fun j B hj hlv => by
    rcases get_app hj with ⟨h1, h2⟩ | ⟨h1, h2⟩
    · left
      rw [List.getElem?_set] at h2
      by_cases e : k = j
      · subst e; simp [hklt] at h2; subst h2; simp [AB.live] at hlv
      · simp [e] at h2; exact ⟨fun q => e q.symm, by simpa using h1, h2⟩
    · exact .inr ⟨by simpa using h1, h2⟩
  refine ⟨h.imm, ?_, ?_, ?_, ?_, h.tinj, h.kept, h.old, h.le.trans hle⟩
  · intro j b q
    simp only [List.length_append, List.length_set, List.length_singleton]
    by_cases e : j = H.length
    · simp only [Gh.addBlk, if_pos e, Option.some.injEq] at q
      have := lt_of_some q2; omega
    · simp only [Gh.addBlk, if_neg e] at q
      have := h.dom j b q; omega
  · intro j B hj hjl
    rcases hget j B hj hjl with ⟨e, h1, h2⟩ | ⟨rfl, rfl⟩
    · obtain ⟨rj, oj, p1, p2, p3, p4, p5, p6⟩ := h.blk j B h2 hjl
      exact ⟨rj, oj, (hρ j rj h1).2 p1, p2, p3.mono hle, p4, p5, fun a b c q => by rw [hN]; exact p6 a b c q⟩
    · exact ⟨rb, o0, by simp [Gh.addBlk], q2, q3.mono hle, q4, q5, fun a b c q => by rw [hN]; exact q6 a b c q⟩
  · intro j j' B B' r hj hjl hj' hjl' p p'
    rcases hget j B hj hjl with ⟨e, e1, e2⟩ | ⟨e1, e2⟩ <;> rcases hget j' B' hj' hjl' with ⟨e', e1', e2'⟩ | ⟨e1', e2'⟩
    · exact h.inj j j' B B' r e2 hjl e2' hjl' ((hρ j r e1).1 p) ((hρ j' r e1').1 p')
    · subst e1'
      simp [Gh.addBlk] at p'
      subst p'
      exact absurd (h.inj j k B A rb e2 hjl hk hl ((hρ j rb e1).1 p) hr) e
    · subst e1
      simp [Gh.addBlk] at p
      subst p
      exact absurd (h.inj j' k B' A rb e2' hjl' hk hl ((hρ j' rb e1').1 p') hr) e'
    · omega
  · intro s t ht
    obtain ⟨h1, h2, hn, h4, h5⟩ := h.tok s t ht
    refine ⟨h1, h2, hn, h4, fun j B hj hjl => ?_⟩
    rcases hget j B hj hjl with ⟨e, e1, e2⟩ | ⟨e1, e2⟩
    · exact fun q => h5 j B e2 hjl ((hρ j _ e1).1 q)
    · subst e1
      intro q
      simp [Gh.addBlk] at q
      exact h5 k A hk hl (by rw [hr, q])

def Gh.addRow (g : Gh) (b o : Nat) (rs : List Value) : Gh := { g with I := fun c i => if c = b ∧ o ≤ i ∧ i < o + rs.length then rs[i - o]? else g.I c i }

theorem SW.tokWrite (h : SW F g κ H w) {st : Nat} {t : Tok} (ht : κ st = some t) {rs : List Value} (h1 : ∀ v ∈ rs, v.oneCell' = true) (m : Nat) (hm : rs.length = m * t.sz) (hc : t.n + m ≤ t.cap) (site : Nat) :
    ∃ w', (storeCells ⟨t.blk, t.n * t.sz, none⟩ rs 0).run K.P w = .ok () w' ∧ Gh.Le g (g.addRow t.blk (t.n * t.sz) rs) ∧
      SW F (g.addRow t.blk (t.n * t.sz) rs) (fun s => if s = site then some { t with n := t.n + m } else if s = st then none else κ s) H w' := by
  obtain ⟨a1, ⟨rcs, e, a2, a3⟩, a4, a5, a6⟩ := h.tok st t ht
  have hfit : t.n * t.sz + rs.length ≤ rcs.size := by
    rw [hm, ← Nat.add_mul]; exact Nat.le_trans (Nat.mul_le_mul_right _ hc) a3
  refine ⟨_, run_storeCells_at K.P t.blk (t.n * t.sz) e rs 0 rcs w a2 (by omega) h1, ?_, ?_⟩
  · refine ⟨fun b o v q => ?_, fun _ _ q => q, fun _ _ _ => rfl, rfl⟩
    simp only [Gh.addRow]
    split
    · rename_i hb
      obtain ⟨rfl, hb1, _⟩ := hb
      rw [a5 o hb1] at q; simp at q
    · exact q
  · have hsame := sameBut_setRow w t.blk (rcs.toList.take (t.n * t.sz + 0) ++ rs ++ rcs.toList.drop (t.n * t.sz + 0 + rs.length)).toArray
    have hrow := setRow_heap w t.blk rcs (rcs.toList.take (t.n * t.sz + 0) ++ rs ++ rcs.toList.drop (t.n * t.sz + 0 + rs.length)).toArray e (0, 0) a2
    have hle : Gh.Le g (g.addRow t.blk (t.n * t.sz) rs) := by
      refine ⟨fun b o v q => ?_, fun _ _ q => q, fun _ _ _ => rfl, rfl⟩
      simp only [Gh.addRow]
      split
      · rename_i hb
        obtain ⟨rfl, hb1, _⟩ := hb
        rw [a5 o hb1] at q; simp at q
      · exact q
    have hsz : (rcs.toList.take (t.n * t.sz + 0) ++ rs ++ rcs.toList.drop (t.n * t.sz + 0 + rs.length)).toArray.size = rcs.size := by simp; omega
    have hne : ∀ b i, b ≠ t.blk → (g.addRow t.blk (t.n * t.sz) rs).I b i = g.I b i := fun b i hb => by simp [Gh.addRow, hb]
    refine ⟨?_, fun k b q => by have := h.dom k b q; rw [hsame.size]; exact this, ?_, h.inj, ?_, ?_, hsame.kept h.kept (.inr a1), ?_, h.le.trans hle⟩
    · intro b i v q
      by_cases hb : b = t.blk
      · subst hb
        simp only [World.cell?, hrow]
        simp only [Gh.addRow] at q
        split at q
        · rename_i hq
          have : (rcs.toList.take (t.n * t.sz + 0) ++ rs ++ rcs.toList.drop (t.n * t.sz + 0 + rs.length))[i]? = some v := by
            rw [List.append_assoc, List.getElem?_append, if_neg (by simp; omega), List.getElem?_append, if_pos (by simp; omega)]
            have : i - (List.take (t.n * t.sz + 0) rcs.toList).length = i - t.n * t.sz := by simp; omega
            rw [this]; exact q
          simpa using this
        · rename_i hq
          have hi : i < t.n * t.sz := by
            rcases Nat.lt_or_ge i (t.n * t.sz) with q' | q'
            · exact q'
            · rw [a5 i q'] at q; simp at q
          have hold := h.imm t.blk i v q
          simp only [World.cell?, a2] at hold
          have : (rcs.toList.take (t.n * t.sz + 0) ++ rs ++ rcs.toList.drop (t.n * t.sz + 0 + rs.length))[i]? = some v := by
            rw [List.append_assoc, List.getElem?_append, if_pos (by simp; omega), List.getElem?_take, if_pos (by omega)]
            simpa using hold
          simpa using this
      · rw [hne b i hb] at q
        rw [hsame.cell? hb]
        exact h.imm b i v q
    · intro k A hk hl
      obtain ⟨rb, o, p1, p2, p3, p4, p5, p6⟩ := h.blk k A hk hl
      have hb : rb ≠ t.blk := fun q => a6 k A hk hl (by rw [p1, q])
      exact ⟨rb, o, p1, by rw [hsame.block rb hb]; exact p2, p3.mono hle, p4, fun i => by rw [hne rb i hb]; exact p5 i, p6⟩
    · intro s t' ht'
      split at ht'
      · simp at ht'; subst ht'
        refine ⟨a1, ⟨_, e, hrow, by rw [hsz]; exact a3⟩, hc, fun i hi => ?_, a6⟩
        simp only [Gh.addRow]
        rw [if_neg (by
          have : (t.n + m) * t.sz = t.n * t.sz + rs.length := by rw [hm, Nat.add_mul]
          simp only at hi; omega)]
        refine a5 i ?_
        have : t.n * t.sz ≤ (t.n + m) * t.sz := Nat.mul_le_mul_right _ (by omega)
        simp only at hi; omega
      · split at ht'
        · simp at ht'
        · rename_i hs hst
          obtain ⟨b1, ⟨rc, e', b2, b3⟩, b4, b5, b6⟩ := h.tok s t' ht'
          have hb : t'.blk ≠ t.blk := fun q => hst (h.tinj s st t' t ht' ht q)
          exact ⟨b1, ⟨rc, e', by rw [hsame.block _ hb]; exact b2, b3⟩, b4, fun i hi => by rw [hne _ i hb]; exact b5 i hi, b6⟩
    · intro s s' t1 t2 q1 q2 q3
      split at q1
      · split at q2
        · omega
        · split at q2
          · simp at q2
          · rename_i hs hst
            simp at q1; subst q1
            exact absurd (h.tinj st s' t t2 ht q2 q3).symm hst
      · split at q1
        · simp at q1
        · rename_i hs hst
          split at q2
          · simp at q2; subst q2
            exact absurd (h.tinj s st t1 t q1 ht q3) hst
          · split at q2
            · simp at q2
            · exact h.tinj s s' t1 t2 q1 q2 q3
    · intro b i v hb hl q
      have := h.kept.size
      rw [hne b i (by omega)] at q
      exact h.old b i v hb hl q
end
end Go.Tm
