/- The tree machine: slices, places in memory, parts of values. -/
import Derived.Test.YtaefgigfoifjaaaGreatDoorTmQa
set_option linter.unusedVariables false
set_option linter.unusedSimpArgs false
set_option linter.unusedSectionVars false
namespace Go.Tm

theorem nth_eq' {α : Type} (l : List α) : nth l = fun i => l[i]? := by funext i; exact nth_eq l i

/-! ### elements and cells -/
theorem rep_len (z : List AV) (n : Nat) : (rep z n).length = n * z.length := by
 induction n with
 | zero => simp [rep]
 | succ n ih => simp [rep, ih, Nat.succ_mul, Nat.add_comm]

theorem rep_get (z : List AV) (hz : 0 < z.length) : ∀ (n i : Nat), i < n * z.length → (rep z n)[i]? = z[i % z.length]?
 | 0, i, h => by simp at h
 | n + 1, i, h => by
  simp only [rep, List.getElem?_append]
  split
  ·rw [Nat.mod_eq_of_lt ‹_›]
  ·have h' : i - z.length < n * z.length := by rw [Nat.succ_mul] at h; omega
   rw [rep_get z hz n _ h', Nat.mod_eq_sub_mod (a := i) (b := z.length) (by omega)]

theorem rep_VRs {g : Gh} {z : List AV} {rz : Array Value} (h : VRs g z rz.toList) (hz : 0 < z.length) (n : Nat) :
  VRs g (rep z n) ((Array.range (n * z.length)).map (fun i => rz[i % rz.size]!)).toList := by
 have hs : rz.size = z.length := by rw [h.1]; simp
 refine ⟨by simp [rep_len], fun i x r a b => ?_⟩
 have hi : i < n * z.length := by
  have := (List.getElem?_eq_some_iff.1 a).1
  rw [rep_len] at this; exact this
 rw [rep_get z hz n i hi] at a
 simp [hi] at b
 rw [hs] at b
 have hm : i % z.length < rz.size := by rw [hs]; exact Nat.mod_lt _ hz
 rw [getElem!_pos rz _ hm] at b
 subst b
 exact h.2 (i % z.length) x _ a (by simp [hm])

theorem rep_one {z : List AV} (h : allOne z = true) (n : Nat) : allOne (rep z n) = true := by
 induction n with
 | zero => rfl
 | succ n ih => rw [allOne_iff] at *; intro x hx; simp only [rep, List.mem_append] at hx; exact hx.elim (h x) (ih x)

theorem closedL_iff {cs : List AV} : AV.closedL cs = true ↔ ∀ x ∈ cs, x.closed = true := by
 induction cs with
 | nil => simp [AV.closedL]
 | cons x r ih => simp [AV.closedL, ih]

theorem closedL_app {a b : List AV} : AV.closedL (a ++ b) = true ↔ AV.closedL a = true ∧ AV.closedL b = true := by
 simp only [closedL_iff, List.mem_append]
 exact ⟨fun h => ⟨fun x hx => h x (.inl hx), fun x hx => h x (.inr hx)⟩, fun ⟨h1, h2⟩ x hx => hx.elim (h1 x) (h2 x)⟩

theorem rep_closed {z : List AV} (h : AV.closedL z = true) (n : Nat) : AV.closedL (rep z n) = true := by
 induction n with
 | zero => rfl
 | succ n ih => rw [rep, closedL_app]; exact ⟨h, ih⟩

theorem chunk_el {sz : Nat} (hsz : 0 < sz) {cs : List AV} (h1 : allOne cs = true) (hl : sz ≤ cs.length) :
  (elOf sz cs).cells = cs.take sz := by
 match sz, hsz, hl with
 | 1, _, hl =>
  cases cs with
  | nil => simp at hl
  | cons x r =>
   simp only [elOf, List.headD_cons, List.take_succ_cons, List.take_zero]
   rw [allOne_iff] at h1
   have := h1 x (by simp)
   cases x <;> simp_all [AV.cells, AV.one]
 | n + 2, _, _ => rfl

theorem chunk_ok {sz : Nat} (hsz : 0 < sz) : ∀ (n : Nat) (cs : List AV), allOne cs = true → cs.length = n * sz →
  (chunk sz n cs).length = n ∧ (∀ x ∈ chunk sz n cs, x.cells.length = sz) ∧ (chunk sz n cs).flatMap AV.cells = cs
 | 0, cs, _, hl => by
  have : cs = [] := by cases cs with | nil => rfl | cons => simp at hl
  subst this; simp [chunk]
 | n + 1, cs, h1, hl => by
  have hle : sz ≤ cs.length := by rw [hl, Nat.succ_mul]; omega
  have hel := chunk_el hsz h1 hle
  have h1d : allOne (cs.drop sz) = true := by
   rw [allOne_iff] at *; intro x hx; exact h1 x (List.mem_of_mem_drop hx)
  obtain ⟨i1, i2, i3⟩ := chunk_ok hsz n (cs.drop sz) h1d (by simp [hl, Nat.succ_mul])
  simp only [chunk]
  refine ⟨by simp [i1], ?_, ?_⟩
  ·intro x hx
   rcases List.mem_cons.1 hx with rfl | hx
   ·rw [hel]; simp; omega
   ·exact i2 x hx
  ·rw [List.flatMap_cons, hel, i3, List.take_append_drop]

theorem flat_len {xs : List AV} {sz : Nat} (h : ∀ x ∈ xs, x.cells.length = sz) : (xs.flatMap AV.cells).length = xs.length * sz := by
 induction xs with
 | nil => simp
 | cons x r ih =>
  rw [List.flatMap_cons, List.length_append, h x (by simp), ih (fun y hy => h y (by simp [hy]))]
  simp [Nat.succ_mul, Nat.add_comm]

theorem flat_get {xs : List AV} {sz : Nat} (h : ∀ x ∈ xs, x.cells.length = sz) : ∀ {i : Nat} {x : AV}, xs[i]? = some x → ∀ (k : Nat) (y : AV), x.cells[k]? = some y → (xs.flatMap AV.cells)[i * sz + k]? = some y := by
 induction xs with
 | nil => intro i x hi; simp at hi
 | cons z r ih =>
  intro i x hi k y hk
  rw [List.flatMap_cons, List.getElem?_append]
  have hz := h z (by simp)
  cases i with
  | zero =>
   simp at hi; subst hi
   have : k < z.cells.length := (List.getElem?_eq_some_iff.1 hk).1
   rw [Nat.zero_mul, Nat.zero_add, if_pos this]; exact hk
  | succ i =>
   simp at hi
   have := ih (fun y hy => h y (by simp [hy])) hi k y hk
   rw [Nat.succ_mul, if_neg (by rw [hz]; omega), hz, show i * sz + sz + k - sz = i * sz + k by omega]
   exact this

theorem flat_drop {xs : List AV} {sz : Nat} (h : ∀ x ∈ xs, x.cells.length = sz) (l : Nat) : ((xs.drop l).flatMap AV.cells) = (xs.flatMap AV.cells).drop (l * sz) := by
 induction l generalizing xs with
 | zero => simp
 | succ l ih =>
  cases xs with
  | nil => simp
  | cons x r =>
   simp only [List.drop_succ_cons, List.flatMap_cons]
   rw [ih (fun y hy => h y (by simp [hy])), Nat.succ_mul, ← h x (by simp), Nat.add_comm, ← List.drop_drop, List.drop_left]

theorem flat_take {xs : List AV} {sz : Nat} (h : ∀ x ∈ xs, x.cells.length = sz) (l : Nat) : ((xs.take l).flatMap AV.cells) = (xs.flatMap AV.cells).take (l * sz) := by
 induction l generalizing xs with
 | zero => simp
 | succ l ih =>
  cases xs with
  | nil => simp
  | cons x r =>
   simp only [List.take_succ_cons, List.flatMap_cons]
   have hx := h x (by simp)
   rw [ih (fun y hy => h y (by simp [hy])), Nat.succ_mul, List.take_append, hx, List.take_of_length_le (l := x.cells) (by rw [hx]; omega), show l * sz + sz - sz = l * sz by omega]

section
variable {F : Fr} {g : Gh} {κ : Nat → Option Tok} {own : Nat → Nat} {H : List AB} {w : World} {K : Cfg}

theorem sl_lies (hs : SW F g κ H w) {xs : List AV} {tl : Tail} {r : Value} (hx : VR g (.sl xs tl) r) : (xs = [] ∧ tl = .nil ∧ r = .slice none 0 0) ∨
  ∃ b o cap sz, r = .slice (some ⟨b, o, none⟩) xs.length cap ∧ xs.length ≤ cap ∧ (∀ x ∈ xs, x.cells.length = sz) ∧ AV.closedL (xs.flatMap AV.cells) = true ∧ allOne (xs.flatMap AV.cells) = true ∧ Lies g w (xs.flatMap AV.cells) ⟨b, o, none⟩ := by
 cases hx with
 | nil => exact .inl ⟨rfl, rfl, rfl⟩
 | @sl _ _ b o cap sz rs ht hsz hc h1 hn hf hi h => exact .inr ⟨b, o, cap, sz, rfl, hn, hsz, hc, allOne_iff.2 h1, lies_imm hs rs hi h⟩

theorem newImm (hs : SW F g κ H w) {xs : List AV} {sz : Nat} (rcs : Array Value) (e : TypeId) (hsz : ∀ x ∈ xs, x.cells.length = sz) (hc : AV.closedL (xs.flatMap AV.cells) = true) (h1 : allOne (xs.flatMap AV.cells) = true)
  (rs : List Value) (hv : VRs g (xs.flatMap AV.cells) rs) (hr : ∀ (i : Nat) (v : Value), rs[i]? = some v → rcs.toList[i]? = some v) (cap : Nat) (hn : xs.length ≤ cap) (tl : Tail) (ht : tl ≠ .nil) (hf : tl = .full → cap = xs.length) :
  VR (g.addImm w.heap.size rs) (.sl xs tl) (.slice (some ⟨w.heap.size, 0, none⟩) xs.length cap) := by
 have hle := hs.le_addImm rs
 refine .sl (sz := sz) (fun k => rs.getD k undef) ht hsz hc (allOne_iff.1 h1) hn hf (fun k y q => ?_) (fun k y q => ?_)
 ·have hk : k < rs.length := by rw [← hv.1]; exact (List.getElem?_eq_some_iff.1 q).1
  simp [Gh.addImm, List.getD, hk]
 ·have hk : k < rs.length := by rw [← hv.1]; exact (List.getElem?_eq_some_iff.1 q).1
  have := (hv.2 k y rs[k] q (List.getElem?_eq_getElem hk)).mono hle
  simpa [List.getD, hk] using this

theorem buildSlice_ok (hs : SW F g κ H w) {isMut : Bool} {t : TypeId} {len : Nat} {parts : List (Nat × AV)} {rparts : Array (Nat × Value)} {an : AN} (hl : parts.length = rparts.size)
  (hp : ∀ (i : Nat) (n m : Nat) (x : AV) (r : Value), parts[i]? = some (n, x) → rparts.toList[i]? = some (m, r) → n = m ∧ VR g x r) (h : aBuildSlice K isMut own H t len parts = some an) :
  OpOk F g κ own H w ((do pure (.value (← Instr.buildSlice t len rparts)) : Sem Next).run K.P w) an := by
 unfold aBuildSlice at h
 split at h
 ·rename_i elem hu
  split at h
  ·rename_i n z hn hz
   split at h
   ·simp at h
   ·rename_i hcond
    simp only [not_or, Nat.not_lt, Decidable.not_not] at hcond
    obtain ⟨c1, c2, c3⟩ := hcond
    obtain ⟨v, hv, hr, hz1⟩ := run_tZero (w := w) hz
    split at h
    ·simp at h
    ·rename_i cs hfill
     have hzc := (hr g).cells (allOne_notTup hz1)
     have hvs : v.cells.size = n := by rw [← c3, hzc.1]; simp
     have hrep := rep_VRs hzc (by omega) len
     rw [c3] at hrep
     obtain ⟨rs', e1, e2⟩ := fill_ok (g := g) (rparts := rparts.toList) (by simpa using hl) hp hrep hfill
     have hlen : cs.length = len * n := by
      have key : ∀ (parts : List (Nat × AV)) (c c' : List AV), afill (fun i => some (i * n, n)) c parts = some c' → c'.length = c.length := by
       intro parts
       induction parts with
       | nil => intro c c' q; simp [afill] at q; subst q; rfl
       | cons p r ih =>
        intro c c' q
        obtain ⟨i, x⟩ := p
        simp only [afill] at q
        split at q
        ·have := ih _ _ q; rw [putAll_len] at this; exact this
        ·simp at q
      rw [key parts _ _ hfill, rep_len, c3]
     have hone : allOne cs = true := by
      have key : ∀ (parts : List (Nat × AV)) (c c' : List AV), allOne c = true → afill (fun i => some (i * n, n)) c parts = some c' → allOne c' = true := by
       intro parts
       induction parts with
       | nil => intro c c' hc q; simp [afill] at q; subst q; exact hc
       | cons p r ih =>
        intro c c' hc q
        obtain ⟨i, x⟩ := p
        simp only [afill] at q
        split at q
        ·rename_i hq
         refine ih _ _ ?_ q
         rw [putAll_eq _ _ _ (by rw [AV.cells_unown, hq.1]; exact hq.2.1), allOne_iff]
         rw [allOne_iff] at hc
         intro y hy
         simp only [List.mem_append] at hy
         rcases hy with (hy | hy) | hy
         ·exact hc y (List.mem_of_mem_take hy)
         ·have h3 := hq.2.2; rw [← allOne_unown, allOne_iff] at h3; exact h3 y hy
         ·exact hc y (List.mem_of_mem_drop hy)
        ·simp at q
      exact key parts _ _ (rep_one hz1 len) hfill
     have hrun : (Instr.buildSlice t len rparts).run K.P w = .ok (.slice (some ⟨w.heap.size, 0, none⟩) len len) (w.alloc (.cells rs' elem)) := by
      by_cases h0 : len = 0
      ·subst h0
       have hr0 : Array.range 0 = #[] := rfl
       simp only [Nat.zero_mul, hr0, Array.map_empty] at e1
       simp only [Instr.buildSlice, Sem.run_bind, run_underlying hu, Result.andThen_ok, run_tSize hn, Nat.zero_mul, if_true, hr0, Array.map_empty, e1, newRow]
       rw [if_neg (by omega)]
       simp
      ·have hpos : len * n ≠ 0 := Nat.mul_ne_zero h0 c1
       have hn0 : ¬ (len = 0 ∨ n = 0) := by omega
       simp only [Instr.buildSlice, Sem.run_bind, run_underlying hu, Result.andThen_ok, run_tSize hn, if_neg (Nat.not_lt.2 c2), if_neg hpos, hv, Sem.run_pure, e1, newRow, run_newObj, World.alloc_eq]
     have hval : ((do pure (.value (← Instr.buildSlice t len rparts)) : Sem Next).run K.P w) = .ok (.value (.slice (some ⟨w.heap.size, 0, none⟩) len len)) (w.alloc (.cells rs' elem)) := by
      simp [hrun]
     cases isMut with
     | true =>
      simp at h; subst h
      have hle := hs.le_new (objLen (.cells rs' elem))
      have hsz : rs'.size = len * n := by rw [← hlen, e2.1]; simp
      refine OpOk.grow hle (hs.alloc _ _ ?_) hval (RV.of_other (.ms (by simp [Gh.addBlk]) ⟨Nat.le_refl _, by simp [Gh.addBlk, objLen, hsz]⟩) (by simp))
      obtain ⟨rl⟩ := rs'
      exact brow (e2.mono hle) hone rfl
     | false =>
      simp only [] at h
      split at h
      ·rename_i hcl
       simp at h; subst h
       obtain ⟨k1, k2, k3⟩ := chunk_ok (by omega : 0 < n) len cs hone hlen
       have hle := hs.le_addImm rs'.toList
       have hi := newImm hs rs' elem k2 (by rw [k3]; exact hcl) (by rw [k3]; exact hone) rs'.toList (by rw [k3]; exact e2) (fun i v q => q) len (by omega) .full (by simp) (by intro _; exact k1.symm)
       rw [k1] at hi
       refine OpOk.grow hle (hs.allocImm rs' elem rs'.toList (fun i v q => q) κ (fun s t q => .inl q) ?_) hval (RV.of_other hi (by simp))
       intro s s' t t' ht ht' hb hb'
       obtain ⟨_, ⟨_, _, h2, _⟩, _⟩ := hs.tok s t ht
       have := lt_of_some h2; omega
      ·simp at h
  ·simp at h
 ·simp at h

/-! ### places -/
theorem asI_eq {x : AV} {r : Value} (h : VR g x r) {k : IntKind} {n : Int} (hi : asI x = some (k, n)) : r = .int k n := by
 cases h with
 | @v y hy =>
  cases r <;> simp [asI] at hi
  simp [hi]
 | _ => simp [asI] at hi

theorem indexAt_ok (hs : SW F g κ H w) {t : TypeId} {x i : AV} {rx ri : Value} (hx : VR g x rx) (hi : VR g i ri) {p p' : List Bool} {y : AV} (h : Ok (aIndexAddr K t x i) p y p') :
  ∃ s, (Instr.indexAt t rx ri).run K.P w = .ok s w ∧ VR g y s := by
 unfold aIndexAddr at h
 split at h
 ·rename_i k n len elem b off hn hu
  cases hsz : tSize K.P elem with
  | none => simp only [hsz] at h; exact absurd h Ok_fail
  | some m =>
   cases m with
   | zero => simp only [hsz] at h; exact absurd h Ok_fail
   | succ m =>
    simp only [hsz, Ok_bind, Ok_chk, Ok_pure, decide_eq_true_eq] at h
    obtain ⟨_, _, ⟨hb, _⟩, rfl, _⟩ := h
    cases hx with
    | @ptr _ _ rb hρ =>
     refine ⟨.pointer (some ⟨rb, off + n.toNat * (m + 1), none⟩), ?_, .ptr hρ⟩
     simp [Instr.indexAt, asI_eq hi hn, asIntOf, run_underlying hu, Instr.sureAddr, hb, run_tSize hsz, add_none]
 ·rename_i k n len elem cs hn hu
  cases hsz : tSize K.P elem with
  | none => simp only [hsz] at h; exact absurd h Ok_fail
  | some m =>
   cases m with
   | zero => simp only [hsz] at h; exact absurd h Ok_fail
   | succ m =>
    simp only [hsz, Ok_bind, Ok_chk, Ok_pure, decide_eq_true_eq] at h
    obtain ⟨_, _, ⟨hb, _⟩, rfl, _⟩ := h
    cases hx with
    | @rp _ b o rs hc h1 hI hv =>
     refine ⟨.pointer (some ⟨b, o + n.toNat * (m + 1), none⟩), ?_, .rp (fun k => rs (n.toNat * (m + 1) + k)) ?_ ?_ ?_ ?_⟩
     ·simp [Instr.indexAt, asI_eq hi hn, asIntOf, run_underlying hu, Instr.sureAddr, hb, run_tSize hsz, add_none]
     ·rw [closedL_iff] at *; exact fun y hy => hc y (List.mem_of_mem_drop hy)
     ·exact fun y hy => h1 y (List.mem_of_mem_drop hy)
     ·intro k y q
      rw [List.getElem?_drop] at q
      rw [Nat.add_assoc]; exact hI _ y q
     ·intro k y q
      rw [List.getElem?_drop] at q
      exact hv _ y q
 ·rename_i k n elem b off len sz hn hu
  cases hsz : tSize K.P elem with
  | none => simp only [hsz] at h; exact absurd h Ok_fail
  | some m =>
   cases m with
   | zero => simp only [hsz] at h; exact absurd h Ok_fail
   | succ m =>
    simp only [hsz, Ok_bind, Ok_chk, Ok_pure, decide_eq_true_eq] at h
    obtain ⟨_, _, ⟨rfl, _⟩, _, _, ⟨hb, _⟩, rfl, _⟩ := h
    cases hx with
    | @ms _ _ _ _ rb cap hρ hlc =>
     refine ⟨.pointer (some ⟨rb, off + n.toNat * (m + 1), none⟩), ?_, .ptr hρ⟩
     simp [Instr.indexAt, asI_eq hi hn, asIntOf, run_underlying hu, hb, run_tSize hsz, add_none]
 ·rename_i k n elem xs tl hn hu
  cases hsz : tSize K.P elem with
  | none => simp only [hsz] at h; exact absurd h Ok_fail
  | some m =>
   cases m with
   | zero => simp only [hsz] at h; exact absurd h Ok_fail
   | succ m =>
    simp only [hsz, Ok_bind, Ok_chk, Ok_pure, Ok_of, decide_eq_true_eq, nth_eq] at h
    obtain ⟨_, _, ⟨hb, _⟩, el, _, ⟨hel, _⟩, _, _, ⟨hlen, _⟩, rfl, _⟩ := h
    cases hx with
    | nil => simp at hel
    | @sl _ _ b o cap sz rs ht hsz' hc h1 hlc hf hI hv =>
     have hmem : el ∈ xs := List.mem_of_getElem? hel
     have he : sz = m + 1 := by rw [← hsz' el hmem]; exact hlen
     subst he
     refine ⟨.pointer (some ⟨b, o + n.toNat * (m + 1), none⟩), ?_, .rp (fun k => rs (n.toNat * (m + 1) + k)) ?_ ?_ ?_ ?_⟩
     ·simp [Instr.indexAt, asI_eq hi hn, asIntOf, run_underlying hu, hb, run_tSize hsz, add_none]
     ·rw [closedL_iff] at *; exact fun y hy => hc y (List.mem_flatMap.2 ⟨el, hmem, hy⟩)
     ·exact fun y hy => h1 y (List.mem_flatMap.2 ⟨el, hmem, hy⟩)
     ·intro k y q
      rw [Nat.add_assoc]; exact hI _ y (flat_get hsz' hel k y q)
     ·intro k y q
      exact hv _ y (flat_get hsz' hel k y q)
 ·exact absurd h Ok_fail

theorem part_ok {t : TypeId} {cs : List AV} {rs : List Value} (hv : VRs g cs rs) {o : Nat} {x : AV} (h : takeVar K.P t (cs.drop o) = some x) : ∃ r, (part t ⟨rs⟩ o).run K.P w = .ok r w ∧ VR g x r := by
 have hd := hv.drop o
 unfold takeVar at h
 split at h
 ·rename_i n ha hn
  split at h
  ·simp at h; subst h
   have h3 := hd.take n
   refine ⟨.agg ⟨(rs.drop o).take n⟩, ?_, .agg h3.1 h3.2⟩
   simp [part, run_tAgg ha, run_tSize hn]
  ·simp at h
 ·rename_i n ha hn
  cases hc : cs.drop o with
  | nil => simp [hc] at h
  | cons y r =>
   simp [hc] at h; subst h
   rw [hc] at hd
   obtain ⟨z, rs', e, hz, _⟩ := hd.head
   refine ⟨z, ?_, hz⟩
   have : rs[o]? = some z := by
    have := congrArg (fun l => l[0]?) e
    simpa using this
   simp [part, run_tAgg ha, this]
 ·simp at h

theorem field_ok {t : TypeId} {x : AV} {rx : Value} (hx : VR g x rx) {f : Nat} {y : AV} (h : aField K t x f = some y) : ∃ s, (Instr.field t rx f).run K.P w = .ok s w ∧ VR g y s := by
 unfold aField at h
 split at h
 ·rename_i fields cs hu
  cases hf : fields[f]? with
  | none => simp [hf] at h
  | some fd =>
   simp [hf] at h
   cases hx with
   | @agg _ rs hl hv =>
    obtain ⟨s, h1, h2⟩ := part_ok (w := w) (K := K) ⟨hl, hv⟩ h
    exact ⟨s, by simp [Instr.field, run_underlying hu, hf, asAgg, h1], h2⟩
 ·simp at h

theorem index_ok {t : TypeId} {x i : AV} {rx ri : Value} (hx : VR g x rx) (hi : VR g i ri) {p p' : List Bool} {y : AV} (h : Ok (aIndex K t x i) p y p') : ∃ s, (Instr.index t rx ri).run K.P w = .ok s w ∧ VR g y s := by
 unfold aIndex at h
 split at h
 ·rename_i k n len elem cs hn hu
  cases hsz : tSize K.P elem with
  | none => simp only [hsz] at h; exact absurd h Ok_fail
  | some m =>
   simp only [hsz, Ok_bind, Ok_chk, Ok_of, decide_eq_true_eq] at h
   obtain ⟨_, _, ⟨hb, _⟩, hp, _⟩ := h
   cases hx with
   | @agg _ rs hl hv =>
    obtain ⟨s, h1, h2⟩ := part_ok (w := w) (K := K) ⟨hl, hv⟩ hp
    exact ⟨s, by simp [Instr.index, asI_eq hi hn, asIntOf, run_underlying hu, hb, run_tSize hsz, h1], h2⟩
 ·rename_i k n s hn hu
  simp only [Ok_bind, Ok_chk, Ok_of, Ok_pure, decide_eq_true_eq, nth_eq] at h
  obtain ⟨_, _, ⟨hb, _⟩, c, _, ⟨hc, _⟩, rfl, _⟩ := h
  cases hx with
  | str =>
   refine ⟨.int .u8 c.toNat, ?_, .v rfl⟩
   have hlt : n.toNat < s.length := (List.getElem?_eq_some_iff.1 hc).1
   have hg : s[n.toNat] = c := (List.getElem?_eq_some_iff.1 hc).2
   have : (⟨⟨s⟩⟩ : ByteArray)[n.toNat]? = some c := by
    rw [getElem?_pos _ _ (by simpa [ByteArray.size] using hlt)]
    congr 1
   simp [Instr.index, asI_eq hi hn, asIntOf, run_underlying hu, hb.1, this]
 ·exact absurd h Ok_fail

theorem fieldAt_ok (hs : SW F g κ H w) {t : TypeId} {x : AV} {rx : Value} (hx : VR g x rx) {f : Nat} {y : AV} (h : aFieldAddr K t x f = some y) : ∃ s, (Instr.fieldAt t rx f).run K.P w = .ok s w ∧ VR g y s := by
 unfold aFieldAddr at h
 split at h
 ·rename_i fields hu
  cases hf : fields[f]? with
  | none => simp [hf] at h
  | some fd =>
   simp only [hf] at h
   split at h
   ·rename_i m b off hsz
    simp at h; subst h
    cases hx with
    | @ptr _ _ rb hρ =>
     exact ⟨.pointer (some ⟨rb, off + fd.offset, none⟩), by simp [Instr.fieldAt, run_underlying hu, hf, Instr.sureAddr, fieldPlace, run_tSize hsz, add_none], .ptr hρ⟩
   ·rename_i m cs hsz
    simp at h; subst h
    cases hx with
    | @rp _ b o rs hc h1 hI hv =>
     refine ⟨.pointer (some ⟨b, o + fd.offset, none⟩), by simp [Instr.fieldAt, run_underlying hu, hf, Instr.sureAddr, fieldPlace, run_tSize hsz, add_none], .rp (fun k => rs (fd.offset + k)) ?_ ?_ ?_ ?_⟩
     ·rw [closedL_iff] at *; exact fun y hy => hc y (List.mem_of_mem_drop hy)
     ·exact fun y hy => h1 y (List.mem_of_mem_drop hy)
     ·intro k y q
      rw [List.getElem?_drop] at q
      rw [Nat.add_assoc]; exact hI _ y q
     ·intro k y q
      rw [List.getElem?_drop] at q
      exact hv _ y q
   ·simp at h
 ·simp at h
end
end Go.Tm
