/- The tree machine: conversions, iterators' entries, assertions, methods, unsafe. -/
import Derived.Test.YtaefgigfoifjaaaGreatDoorTmS12
import Derived.Laws.IdiomStrings
import Derived.Lib.UnsafeStr
set_option linter.unusedVariables false
set_option linter.unusedSimpArgs false
set_option linter.unusedSectionVars false
namespace Go.Tm
section
variable {F : Fr} {g : Gh} {κ : Nat → Option Tok} {own : Nat → Nat} {H : List AB} {w : World} {K : Cfg}

theorem SW.refreeze (h : SW F g κ H w) {rb : Nat} {rcs : Array Value} {e : TypeId} {fz fz' : Nat × Nat} {w' : World} (h1 : w.heap[rb]? = some (.cells rcs e fz)) (hs : SameBut w w' rb) (h2 : w'.heap[rb]? = some (.cells rcs e fz'))
  (hρ : ∀ k A, H[k]? = some A → A.live = true → g.ρ k ≠ some rb) (hκ : ∀ s t, κ s = some t → t.blk ≠ rb) (hr : F.L rb ∨ F.w0.heap.size ≤ rb) : SW F g κ H w' := by
 refine ⟨fun b i v q => ?_, fun k b q => by rw [hs.size]; exact h.dom k b q, fun k A hk hl => ?_, h.inj, fun s t ht => ?_, h.tinj, hs.kept h.kept hr, h.old, h.le⟩
 ·have := h.imm b i v q
  by_cases e : b = rb
  ·subst e
   simp only [World.cell?, h1] at this
   simp only [World.cell?, h2]
   exact this
  ·rw [hs.cell? e]; exact this
 ·obtain ⟨r, o, p1, p2, p3⟩ := h.blk k A hk hl
  have hne : r ≠ rb := by rintro rfl; exact hρ k A hk hl p1
  exact ⟨r, o, p1, by rw [hs.block r hne]; exact p2, p3⟩
 ·obtain ⟨a1, ⟨c, e', a2, a3⟩, a4⟩ := h.tok s t ht
  exact ⟨a1, ⟨c, e', by rw [hs.block _ (hκ s t ht)]; exact a2, a3⟩, a4⟩

theorem SW.allocFz (h : SW F g κ H w) (rcs : Array Value) (e : TypeId) (fz : Nat × Nat) (rs : List Value) (hrs : ∀ (i : Nat) (v : Value), rs[i]? = some v → rcs.toList[i]? = some v) :
  SW F (g.addImm w.heap.size rs) κ H (w.alloc (.cells rcs e fz)) := by
 have h1 := h.allocImm rcs e rs hrs κ (fun s t q => .inl q) (fun s s' t t' q _ b _ => by
  obtain ⟨_, ⟨_, _, c, _⟩, _⟩ := h.tok s t q
  have := lt_of_some c; omega)
 refine h1.refreeze (rb := w.heap.size) (rcs := rcs) (e := e) (fz := (0, 0)) (fz' := fz) heap_alloc_new ⟨rfl, rfl, rfl, by simp, fun b hb => ?_, Nat.le_refl _⟩ heap_alloc_new (fun k A hk hl q => ?_) (fun s t q => ?_) (.inr h.kept.size)
 ·show (w.heap.push _)[b]? = (w.heap.push _)[b]?
  rw [Array.getElem?_push, Array.getElem?_push, if_neg (by omega), if_neg (by omega)]
 ·have := (h.dom k _ q).2; omega
 ·obtain ⟨_, ⟨_, _, c, _⟩, _⟩ := h.tok s t q
  have := lt_of_some c; omega

theorem bytesRow_get (s : List UInt8) (n : Nat) : ∀ (i : Nat) (v : Value), (s.map fun b => Value.int .u8 b.toNat)[i]? = some v → (bytesRow ⟨⟨s⟩⟩ n).toList[i]? = some v := by
 intro i v h
 have hi : i < s.length := by
  have := (List.getElem?_eq_some_iff.1 h).1
  simpa using this
 simp only [bytesRow, Array.toList_append, Array.toList_map]
 rw [List.getElem?_append, if_pos (by simpa using hi)]
 exact h

theorem stringBytes_ok (hs : SW F g κ H w) {src dst e : TypeId} {s : List UInt8} (h1 : K.P.underlying src = some .string) (h2 : K.P.underlying dst = some (.slice e)) (h3 : K.P.underlying e = some (.int .u8)) :
  ∃ r w' g', (convert src dst (.string ⟨⟨s⟩⟩)).run K.P w = .ok r w' ∧ Gh.Le g g' ∧ SW F g' κ H w' ∧ VR g' (.sl (s.map fun b => .v (.int .u8 b.toNat)) .unk) r := by
 have hrun := run_bytes_of_string w src dst e ⟨⟨s⟩⟩ h1 h2 h3
 have hsd := hs.drew
 have hcells : ∀ x ∈ s.map fun b => AV.v (.int .u8 b.toNat), x.cells.length = 1 := by intro x hx; simp at hx; obtain ⟨_, _, rfl⟩ := hx; rfl
 have hfl := flat_bytes s
 refine ⟨_, _, _, hrun, hsd.le_addImm _, hsd.allocFz _ e _ (s.map fun b => Value.int .u8 b.toNat) (bytesRow_get s _), ?_⟩
 have hsz : (⟨⟨s⟩⟩ : ByteArray).size = (s.map fun b => AV.v (.int .u8 b.toNat)).length := by simp; rfl
 rw [hsz]
 have hv := bytes_VRs (g := g) s
 refine .sl (sz := 1) (fun k => (s.map fun b => Value.int .u8 b.toNat).getD k .nilIface) (by simp) hcells (by rw [hfl]; rw [closedL_iff]; intro x hx; simp at hx; obtain ⟨_, _, rfl⟩ := hx; rfl)
  (by rw [hfl]; intro x hx; simp at hx; obtain ⟨_, _, rfl⟩ := hx; rfl) (by rw [← hsz]; simp [grownCap, Question.cut]) (by simp) (fun k y hy => ?_) (fun k y hy => ?_)
 ·rw [hfl] at hy
  obtain ⟨r, p1, p2⟩ := hv.get hy
  simp only [Gh.addImm, Nat.zero_add]
  rw [if_pos (by rfl), List.getD_eq_getElem?_getD, p1]; rfl
 ·rw [hfl] at hy
  obtain ⟨r, p1, p2⟩ := hv.get hy
  rw [List.getD_eq_getElem?_getD, p1]
  exact p2.mono (hsd.le_addImm _)

theorem byteEls {f : AV → Option UInt8} (hf : ∀ y b, f y = some b → ∃ n, y = .v (.int .u8 n) ∧ b = UInt8.ofNat n.toNat) : ∀ {xs : List AV} {l : List UInt8} {rs : List Value}, mapO f xs = some l → VRs g xs rs →
  ∃ ns : List Int, rs = ns.map (Value.int .u8) ∧ l = ns.map fun n => UInt8.ofNat n.toNat
 | [], l, rs, h, hv => by
  simp [mapO] at h; subst h
  have : rs = [] := by cases rs with | nil => rfl | cons => exact absurd hv.1 (by simp)
  subst this; exact ⟨[], rfl, rfl⟩
 | x :: xs, l, rs, h, hv => by
  simp only [mapO] at h
  split at h
  ·simp at h
  ·rename_i y hy
   split at h
   ·simp at h
   ·rename_i ys hys
    simp at h; subst h
    obtain ⟨r, rs', rfl, q1, q2⟩ := hv.head
    obtain ⟨ns, rfl, rfl⟩ := byteEls hf hys q2
    obtain ⟨n, rfl, rfl⟩ := hf _ _ hy
    cases q1
    exact ⟨n :: ns, rfl, rfl⟩

theorem bytesString_ok (hs : SW F g κ H w) {src dst e : TypeId} {xs : List AV} {tl : Tail} {rx : Value} (hx : VR g (.sl xs tl) rx) {l : List UInt8} (h1 : K.P.underlying src = some (.slice e)) (h2 : K.P.underlying dst = some .string) (h3 : K.P.underlying e = some (.int .u8))
  {f : AV → Option UInt8} (hf : ∀ y b, f y = some b → ∃ n, y = .v (.int .u8 n) ∧ b = UInt8.ofNat n.toNat) (hl : mapO f xs = some l) : (convert src dst rx).run K.P w = .ok (.string ⟨⟨l⟩⟩) w := by
 have hfl : xs.flatMap AV.cells = xs := by
  have : ∀ x ∈ xs, x.cells = [x] := by
   intro x hx
   obtain ⟨i, hi⟩ := List.mem_iff_getElem?.1 hx
   obtain ⟨y, hy, _⟩ := mapO_get hl i x hi
   obtain ⟨n, rfl, _⟩ := hf _ _ hy
   rfl
  clear hl hx
  induction xs with
  | nil => rfl
  | cons x xs ih => simp [this x (by simp)]; exact ih fun y hy => this y (by simp [hy])
 rcases sl_lies hs hx with ⟨rfl, rfl, rfl⟩ | ⟨b, o, cap, _, rfl, _, _, _, _, hlies⟩
 ·simp [mapO] at hl; subst hl
  rw [run_convert_bytes_string w src dst e none 0 0 h1 h3 h2]
  rfl
 ·rw [hfl] at hlies
  obtain ⟨rs, v1, v2⟩ := hlies
  obtain ⟨ns, rfl, rfl⟩ := byteEls hf hl v1
  have hlen : xs.length = (ns.map (Value.int .u8)).length := v1.1
  have hc := run_loadCells_list (P := K.P) w ⟨b, o, none⟩ (ns.map (Value.int .u8)) v2
  rw [run_convert_bytes_string w src dst e _ _ _ h1 h3 h2, hlen, run_bytesToString w _ _ cap ns hc, foldl_push_bytes]
  simp

theorem run_shape_cells {rb : Nat} {rcs : Array Value} {e : TypeId} {fz : Nat × Nat} (h : w.heap[rb]? = some (.cells rcs e fz)) : (shape rb).run K.P w = .ok (some (e, rcs.size)) w := by
 simp [shape, Sem.run, World.shape?, h]

theorem run_viewAt_cells {rb : Nat} {rcs : Array Value} {e : TypeId} {fz : Nat × Nat} (h : w.heap[rb]? = some (.cells rcs e fz)) : (viewAt rb).run K.P w = .ok none w := by
 simp [viewAt, run_shape_cells h]

theorem run_seenAt_cells {rb off : Nat} {rcs : Array Value} {e : TypeId} {fz : Nat × Nat} (h : w.heap[rb]? = some (.cells rcs e fz)) : (Conv.seenAt ⟨rb, off, none⟩).run K.P w = .ok ⟨rb, off, none⟩ w := by
 simp [Conv.seenAt, run_viewAt_cells h]

theorem cells_blk (hs : SW F g κ H w) {b rb : Nat} (hρ : g.ρ b = some rb) {t : TypeId × Bool} {cs : List AV} (hH : H[b]? = some (.cells t cs)) :
  ∃ rcs, w.heap[rb]? = some (.cells rcs t.1 (0, 0)) ∧ cs.length ≤ rcs.size ∧ (t.2 = true → rcs.size = cs.length) ∧ ∀ (i : Nat) (x : AV) (r : Value), cs[i]? = some x → rcs.toList[i]? = some r → VR g x r := by
 obtain ⟨rb', o, p1, p2, p3, _⟩ := hs.blk _ _ hH rfl
 rw [hρ] at p1; cases p1
 cases o with
 | cells rcs e fz =>
  obtain ⟨rfl, q1, q2, _, rfl, q3⟩ := p3
  exact ⟨rcs, p2, q1, q3, q2⟩
 | _ => simp [BRo] at p3

theorem rope_blk (hs : SW F g κ H w) {b rb : Nat} (hρ : g.ρ b = some rb) {t : TypeId × Bool} {n : Nat} {q : BT} (hH : H[b]? = some (.rope t n q)) :
  ∃ rcs, w.heap[rb]? = some (.cells rcs t.1 (0, 0)) ∧ q.toL.length ≤ rcs.size ∧ (t.2 = true → rcs.size = q.toL.length) ∧ ∀ (i : Nat) (x : AV) (r : Value), q.toL[i]? = some x → rcs.toList[i]? = some r → VR g x r := by
 obtain ⟨rb', o, p1, p2, p3, _⟩ := hs.blk _ _ hH rfl
 rw [hρ] at p1; cases p1
 cases o with
 | cells rcs e fz =>
  obtain ⟨_, rfl, q1, q2, _, rfl, q3⟩ := p3
  exact ⟨rcs, p2, q1, q3, q2⟩
 | _ => simp [BRo] at p3

theorem unsafe_ok (hs : SW F g κ H w) {src dst : TypeId} {x : AV} {rx : Value} (hx : VR g x rx) {y : AV} (h : aUnsafe K H src dst x = some y) : (convert src dst rx).run K.P w = .ok rx w ∧ y = x := by
 unfold aUnsafe at h
 split at h
 ·rename_i t b off hu hd
  rw [nth_eq] at h
  split at h
  ·rename_i tt cs n hH hn
   split at h
   ·rename_i hlt
    simp at h; subst h
    cases hx with
    | @ptr _ _ rb hρ =>
     obtain ⟨rcs, r1, r2, _, _⟩ := cells_blk hs hρ hH
     refine ⟨?_, rfl⟩
     have hno : ¬ off ≥ rcs.size := by omega
     have hrun : (Conv.unsafePointer src dst (.pointer (some ⟨rb, off, none⟩))).run K.P w = .ok (.pointer (some ⟨rb, off, none⟩)) w := by
      simp [Conv.unsafePointer, run_underlying hu, run_underlying hd, run_seenAt_cells r1, cellsIn, run_tSize hn, hno, World.shape?, r1]
     simp only [convert, Sem.run_bind, run_underlying hu, run_underlying hd, Result.andThen_ok]
     exact hrun
   ·simp at h
  ·simp at h
 ·rename_i u b off hu hd
  rw [nth_eq] at h
  split at h
  ·rename_i e cs n hH hn
   split at h
   ·rename_i hla
    simp at h; subst h
    cases hx with
    | @ptr _ _ rb hρ =>
     obtain ⟨rcs, r1, r2, r3, _⟩ := cells_blk hs hρ hH
     refine ⟨?_, rfl⟩
     have hsz := r3 rfl
     have hrun : (Conv.unsafePointer src dst (.pointer (some ⟨rb, off, none⟩))).run K.P w = .ok (.pointer (some ⟨rb, off, none⟩)) w := by
      simp [Conv.unsafePointer, run_underlying hu, run_underlying hd, run_seenAt_cells r1, variablesAt, run_tSize hn, hsz, hla, World.shape?, r1]
     simp only [convert, Sem.run_bind, run_underlying hu, run_underlying hd, Result.andThen_ok]
     exact hrun
   ·simp at h
  ·simp at h
 ·simp at h

theorem convert_ok (hs : SW F g κ H w) {src dst : TypeId} {x : AV} {rx : Value} (hx : VR g x rx) {y : AV} (h : aConvert K src dst x = some y) :
  ∃ r w' g', (convert src dst rx).run K.P w = .ok r w' ∧ Gh.Le g g' ∧ SW F g' κ H w' ∧ VR g' y r := by
 unfold aConvert at h
 split at h
 ·rename_i s h1 h2
  simp at h; subst h
  cases hx
  exact ⟨_, w, g, by simp [convert, run_underlying h1, run_underlying h2], .refl g, hs, .str⟩
 ·rename_i k1 k n h1 h2
  simp at h; subst h
  cases hx
  exact ⟨_, w, g, by simp [convert, run_underlying h1, run_underlying h2, Conv.intToString], .refl g, hs, .str⟩
 ·rename_i k1 k k0 n h1 h2
  simp at h; subst h
  cases hx
  exact ⟨_, w, g, by simp [convert, run_underlying h1, run_underlying h2, Conv.intToInt], .refl g, hs, .v rfl⟩
 ·rename_i e s h1 h2
  split at h
  ·rename_i h3
   simp at h; subst h
   cases hx
   exact stringBytes_ok hs h1 h2 h3
  ·simp at h
 ·rename_i e xs tl h1 h2
  split at h
  ·rename_i h3
   simp at h
   obtain ⟨l, hl, rfl⟩ := h
   refine ⟨_, w, g, bytesString_ok hs hx h1 h2 h3 (fun y b q => ?_) hl, .refl g, hs, .str⟩
   split at q
   ·simp at q; subst q; exact ⟨_, rfl, rfl⟩
   ·simp at q
  ·simp at h
 ·simp at h

theorem convertM_ok (hs : SW F g κ H w) {src dst : TypeId} {x : AV} {rx : Value} (hx : VR g x rx) {y : AV} (h : aConvertM K H src dst x = some y) : ∃ r, (convert src dst rx).run K.P w = .ok r w ∧ VR g y r := by
 unfold aConvertM at h
 split at h
 ·rename_i e b off len h1 h2
  rw [nth_eq] at h
  split at h
  ·rename_i t cs h3 hH
   split at h
   ·rename_i hle
    simp only [Option.map_eq_some_iff] at h
    obtain ⟨l, hl, rfl⟩ := h
    cases hx with
    | @ms _ _ _ _ rb cap hb hn =>
     obtain ⟨rcs, r1, r2, _, r4⟩ := cells_blk hs hb hH
     have hv : VRs g ((cs.drop off).take len) ((rcs.toList.drop off).take len) := by
      refine ⟨by simp; omega, fun i x r q1 q2 => ?_⟩
      rw [List.getElem?_take] at q1 q2
      split at q1
      ·rename_i hlt
       rw [if_pos hlt] at q2
       rw [List.getElem?_drop] at q1 q2
       exact r4 _ x r q1 q2
      ·simp at q1
     obtain ⟨ns, q1, rfl⟩ := byteEls (fun y b q => by
      split at q
      ·simp at q; subst q; exact ⟨_, rfl, rfl⟩
      ·simp at q) hl hv
     have hlen : len = (ns.map (Value.int .u8)).length := by
      rw [← q1]; simp; omega
     have hc := run_loadCells_list (P := K.P) w ⟨rb, off, none⟩ (ns.map (Value.int .u8)) (fun j v hj => by
      rw [← q1, List.getElem?_take] at hj
      split at hj
      ·rw [List.getElem?_drop] at hj
       rw [add_none]
       simp only [World.cell?, r1]
       simpa using hj
      ·simp at hj)
     refine ⟨_, ?_, .str⟩
     rw [run_convert_bytes_string w src dst e _ _ _ h1 h3 h2]
     rw [← hlen] at hc
     rw [run_bytesToString w _ _ cap ns hc, foldl_push_bytes]
     simp
   ·simp at h
  ·simp at h
 ·simp at h

theorem entry_ok (hs : SW F g κ H w) {it : AV} {rit : Value} (hi : VR g it rit) {z : AV} (h : aEntry H it = some z) : ∃ r, (Instr.entry rit).run K.P w = .ok r w ∧ VR g z r := by
 unfold aEntry at h
 split at h
 ·rename_i b
  rw [nth_eq] at h
  split at h
  ·rename_i m since seen hH
   rw [nth_eq] at h
   split at h
   ·rename_i es clock st hM hst
    split at h
    ·rename_i hcl; subst hcl
     split at h
     ·rename_i e he
      simp at h; subst h
      cases hi with
      | @ptr _ _ rb hρ =>
       obtain ⟨rb', o, p1, p2, p3, _⟩ := hs.blk _ _ hH rfl
       rw [hρ] at p1; cases p1
       cases o with
       | mapIter rm rs rseen stepped =>
        obtain ⟨⟨rbm, rfl, hρm⟩, rfl, rfl, rfl⟩ := p3
        have hg := run_getObj (K := K) p2 (by simp)
        obtain ⟨res, r1, r2, r3⟩ := map_blk hs hρm hM
        have hgm := run_getObj_map (K := K) r1
        have hfind : ∀ {es : List (AV × AV × Nat)} {rl : List MapEntry} {e : AV × AV × Nat}, Ents g es rl → es.find? (fun e => e.2.2 == st) = some e → ∃ re, rl.find? (fun e => e.born == st) = some re ∧ VR g e.1 re.key ∧ VR g e.2.1 re.val := by
         intro es
         induction es with
         | nil => intro rl e _ q; simp at q
         | cons q es ih =>
          intro rl e he hq
          obtain ⟨k, x, n⟩ := q
          obtain ⟨re, rr, rfl, a1, a2, a3, a4⟩ := he.cons
          simp only [List.find?_cons] at hq ⊢
          rw [a3]
          cases hn : n == st with
          | true =>
           simp only [hn] at hq
           simp at hq; subst hq
           exact ⟨re, rfl, a1, a2⟩
          | false =>
           simp only [hn] at hq
           exact ih a4 hq
        obtain ⟨re, q1, q2, q3⟩ := hfind r2 he
        have hback : (⟨seen⟩ : Array Nat).back? = some st := by
         rw [← hst]; simp [Array.back?, List.getLast?_eq_getElem?]
        have hf : res.find? (fun e => e.born == st) = some re := by
         rw [← Array.find?_toList]; exact q1
        refine ⟨.tuple #[re.key, re.val], ?_, ?_⟩
        ·simp only [Instr.entry, Sem.run_bind, hg, Result.andThen_ok, hback, hgm, bne_self_eq_false, Bool.false_eq_true, if_false, hf]
         rfl
        ·have := VRs.cons q2 (VRs.cons q3 VRs.nil)
         exact .tup this.1 this.2
       | _ => simp [BRo] at p3
     ·simp at h
    ·simp at h
   ·simp at h
  ·simp at h
 ·simp at h

theorem tup2 {x y : AV} {rx ry : Value} (h : VR g x rx) (k : VR g y ry) : VR g (.tup [x, y]) (.tuple #[rx, ry]) := by
 have := VRs.cons h (VRs.cons k VRs.nil)
 exact .tup this.1 this.2

theorem typeAssert_ok {x : AV} {rx : Value} (hx : VR g x rx) {xt t : TypeId} {ok : Bool} {z : AV} (h : aTypeAssert K x t ok = some z) : ∃ r, (Instr.typeAssert rx xt t ok).run K.P w = .ok r w ∧ VR g z r := by
 unfold aTypeAssert at h
 split at h
 ·rename_i want dt y hu
  split at h
  ·rename_i i hi
   split at h
   ·rename_i hm
    cases hx with
    | iface hy =>
     cases ok <;> simp at h <;> subst h
     ·exact ⟨_, by simp [Instr.typeAssert, run_underlying hu, run_typeInfo hi, hm], .iface hy⟩
     ·exact ⟨_, by simp [Instr.typeAssert, run_underlying hu, run_typeInfo hi, hm], tup2 (.iface hy) (.v rfl)⟩
   ·simp at h
  ·simp at h
 ·simp at h
 ·rename_i d dt y hd1 hu
  cases hx with
  | iface hy =>
   rename_i ry
   have hne : ∀ want, d ≠ .interface want := by
    intro want e; subst e; exact hd1 want rfl
   split at h
   ·rename_i ht
    cases ok <;> simp at h <;> subst h
    ·refine ⟨ry, ?_, hy⟩
     simp only [Instr.typeAssert, Sem.run_bind, run_underlying hu, Result.andThen_ok]
     cases d <;> first | exact absurd rfl (hne _) | simp [ht]
    ·refine ⟨_, ?_, tup2 hy (.v (x := .bool true) rfl)⟩
     simp only [Instr.typeAssert, Sem.run_bind, run_underlying hu, Result.andThen_ok]
     cases d <;> first | exact absurd rfl (hne _) | simp [ht]
   ·rename_i ht
    cases ok
    ·simp at h
    ·simp only [if_true, Option.map_eq_some_iff] at h
     obtain ⟨zz, hz, rfl⟩ := h
     obtain ⟨v, hv, hvr, _⟩ := run_tZero (w := w) hz
     refine ⟨_, ?_, tup2 (hvr g) (.v (x := .bool false) rfl)⟩
     simp only [Instr.typeAssert, Sem.run_bind, run_underlying hu, Result.andThen_ok]
     cases d <;> first | exact absurd rfl (hne _) | simp [ht, hv]
 ·rename_i d hd1 hd2 hu
  cases hx
  split at h
  ·rename_i hok
   simp only [Option.map_eq_some_iff] at h
   obtain ⟨zz, hz, rfl⟩ := h
   obtain ⟨v, hv, hvr, _⟩ := run_tZero (w := w) hz
   refine ⟨_, ?_, tup2 (hvr g) (.v (x := .bool false) rfl)⟩
   simp only [Instr.typeAssert, Sem.run_bind, run_underlying hu, Result.andThen_ok]
   cases d <;> simp [hok, hv]
  ·simp at h
 ·simp at h

theorem method_ok {t : TypeId} {x : AV} {rx : Value} (hx : VR g x rx) {name : String} {f : FuncId} {y : AV} (h : aMethod K t x name = some (f, y)) (n : Nat) :
  ∃ r, (method (n + 1) t rx name).run K.P w = .ok (f, r) w ∧ VR g y r := by
 unfold aMethod at h
 split at h
 ·rename_i info hi
  split at h
  ·rename_i m hm
   have hm' : info.methods.find? (fun m => m.name == name) = some m := by rw [← Array.find?_toList]; exact hm
   split at h
   ·rename_i f' d hp hf hu
    simp at h
    obtain ⟨rfl, rfl⟩ := h
    have hpl : m.path.toList = [] := by simpa using hp
    exact ⟨rx, by simp [method, run_typeInfo hi, hm', hpl, follow, hf, receiverAt, run_underlying hu, Place.get], hx⟩
   ·simp at h
   ·rename_i f' d hne hp hf hu
    simp at h
    obtain ⟨rfl, rfl⟩ := h
    have hpl : m.path.toList = [] := by simpa using hp
    refine ⟨rx, ?_, hx⟩
    simp only [method, Sem.run_bind, run_typeInfo hi, Result.andThen_ok, hm', hpl, follow, hf, Sem.run_pure, receiverAt, run_underlying hu]
    cases d <;> first | exact absurd rfl (hne _) | rfl
   ·simp at h
  ·simp at h
 ·simp at h

theorem run_loadBytesZ {P : Program} : ∀ (l : List Int) (a : Addr) (acc : ByteArray), (∀ (j : Nat) (x : Int), l[j]? = some x → w.cell? (a.add j) = some (.int .u8 x)) →
  (loadBytes a acc l.length).run P w = .ok ⟨acc.data ++ (l.map fun n => n.toNat.toUInt8).toArray⟩ w
 | [], a, acc, _ => by simp [loadBytes]
 | x :: l, a, acc, h => by
  have h0 : w.cell? a = some (.int .u8 x) := by
   have := h 0 x rfl
   simpa [Addr.add] using this
  have ih := run_loadBytesZ (P := P) l (a.add 1) (acc.push x.toNat.toUInt8) (fun j y hy => by
   have := h (j + 1) y (by simpa using hy)
   have e : (a.add 1).add j = a.add (j + 1) := by
    unfold Addr.add
    by_cases hj : j = 0
    ·subst hj; simp
    ·simp [hj]; omega
   rw [e]; exact this)
  simp only [List.length_cons, loadBytes, Sem.run_bind, run_load, h0, Result.andThen]
  rw [ih]
  congr 1
  apply ByteArray.ext
  simp [ByteArray.push]

theorem asBytes_ok : ∀ {xs : List AV} {l : List UInt8} {rs : List Value}, asBytes xs = some l → VRs g xs rs → ∃ ns : List Int, rs = ns.map (Value.int .u8) ∧ l = ns.map fun n => n.toNat.toUInt8
 | [], l, rs, h, hv => by
  simp [asBytes] at h; subst h
  have : rs = [] := by cases rs with | nil => rfl | cons => exact absurd hv.1 (by simp)
  subst this; exact ⟨[], rfl, rfl⟩
 | x :: xs, l, rs, h, hv => by
  unfold asBytes at h
  split at h
  ·rename_i e; cases e
  ·rename_i n r e
   cases e
   split at h
   ·rename_i l' hl'
    simp at h; subst h
    obtain ⟨r', rs', rfl, q1, q2⟩ := hv.head
    obtain ⟨ns, rfl, rfl⟩ := asBytes_ok hl' q2
    cases q1
    exact ⟨n :: ns, rfl, rfl⟩
   ·simp at h
  ·simp at h

theorem unsafeString_zero {P : Program} {ats : Array TypeId} {pt ty : TypeId} (h0 : ats[0]? = some pt) (k : IntKind) (q : Option Addr) : (Builtin.unsafeString_ ats ty #[.pointer q, .int k 0]).run P w = .ok (.string ⟨⟨[]⟩⟩) w := by
 have hmax : IntKind.i64.max = 9223372036854775807 := rfl
 have he : (⟨⟨[]⟩⟩ : ByteArray) = .empty := rfl
 cases q with
 | none =>
  have hdef : Builtin.unsafeString_ ats ty #[.pointer none, .int k 0] =
    (do
     let n ← asInt (.int k 0)
     let some _pt := ats[0]? | stuck "unsafe.String: no argument types"
     if n < 0 then runtimePanic (.error "unsafe.String: len out of range")
     if n > IntKind.i64.max then unsupported (.unsafePointer "String: a length above the largest int")
     if n = 0 then pure (.string .empty)
     else runtimePanic (.error "unsafe.String: ptr is nil and len is not zero")) := rfl
  rw [hdef]
  simp [asInt, asIntOf, hmax, h0, he]
 | some a =>
  have hdef : Builtin.unsafeString_ ats ty #[.pointer (some a), .int k 0] =
    (do
     let n ← asInt (.int k 0)
     let some pt := ats[0]? | stuck "unsafe.String: no argument types"
     if n < 0 then runtimePanic (.error "unsafe.String: len out of range")
     if n > IntKind.i64.max then unsupported (.unsafePointer "String: a length above the largest int")
     if n = 0 then pure (.string .empty)
     else if ← variablesAt a (← elemOf pt) n.toNat then do
      let s ← loadBytes a .empty n.toNat
      freeze a n.toNat
      pure (.string s)
     else unsupported (.unsafePointer "String: not so many bytes at ptr")) := rfl
  rw [hdef]
  simp [asInt, asIntOf, hmax, h0, he]

theorem unsafeString_ok (hs : SW F g κ H w) {ats : Array TypeId} {pt u ty : TypeId} (h0 : ats[0]? = some pt) (h1 : K.P.underlying pt = some (.pointer u)) {p n : AV} {rp rn : Value} (hp : VR g p rp) (hn : VR g n rn) {z : AV} {H' : List AB}
  (h : aUnsafeString K H u p n = some (z, H')) : ∃ r w', (Builtin.unsafeString_ ats ty #[rp, rn]).run K.P w = .ok r w' ∧ SW F g κ H' w' ∧ VR g z r := by
 have hmax : IntKind.i64.max = 9223372036854775807 := rfl
 unfold aUnsafeString at h
 split at h
 ·rename_i k hi
  simp at h
  obtain ⟨rfl, rfl⟩ := h
  cases asI_eq hn hi
  cases hp
  exact ⟨_, w, unsafeString_zero h0 _ _, hs, .str⟩
 ·rename_i k hi
  simp at h
  obtain ⟨rfl, rfl⟩ := h
  cases asI_eq hn hi
  cases hp
  exact ⟨_, w, unsafeString_zero h0 _ _, hs, .str⟩
 ·rename_i b off k m _ hi
  rw [nth_eq] at h
  split at h
  ·rename_i tt cs hH
   split at h
   ·rename_i hc
    obtain ⟨rfl, c1, c2, c3, rfl, c4⟩ := hc
    split at h
    ·rename_i l hl
     simp at h
     obtain ⟨rfl, rfl⟩ := h
     cases asI_eq hn hi
     cases hp with
     | @ptr _ _ rb hρ =>
      obtain ⟨rcs, r1, r2, _, r4⟩ := cells_blk hs hρ hH
      obtain ⟨m', rfl⟩ : ∃ m' : Nat, m = (m' : Int) := ⟨m.toNat, by omega⟩
      simp only [Int.toNat_natCast] at hl c2
      have hv : VRs g (cs.take m') (rcs.toList.take m') := by
       refine ⟨by simp; omega, fun i x r a b => ?_⟩
       rw [List.getElem?_take] at a b
       split at a
       ·rename_i hlt; rw [if_pos hlt] at b; exact r4 i x r a b
       ·simp at a
      obtain ⟨ns, q1, rfl⟩ := asBytes_ok hl hv
      have hlen : ns.length = m' := by
       have := congrArg List.length q1
       simp at this; omega
      have hlb := run_loadBytesZ (w := w) (P := K.P) ns ⟨rb, 0, none⟩ .empty (fun j x hj => by
       have hjl : j < m' := by rw [← hlen]; exact (List.getElem?_eq_some_iff.1 hj).1
       have : (rcs.toList.take m')[j]? = some (.int .u8 x) := by rw [q1]; simp [hj]
       rw [List.getElem?_take, if_pos hjl] at this
       rw [add_none]
       simp only [World.cell?, r1, Nat.zero_add]
       simpa using this)
      have hlies := Lib.liesAt_bytes (P := K.P) c4 (rcs.size / K.P.cellsOf tt.1) m' (by rw [c4]; simp; omega)
      rw [hlen] at hlb
      have hm0 : m' ≠ 0 := by omega
      have hneg : ¬ (m' : Int) < 0 := by omega
      have h63 : ¬ (9223372036854775807 : Int) < (m' : Int) := by omega
      have hsb : SameBut w (w.freeze ⟨rb, 0, none⟩ m') rb := by
       unfold World.freeze
       rw [if_neg hm0]
       refine ⟨rfl, rfl, rfl, by simp, fun b hb => ?_, Nat.le_refl _⟩
       simp only [Array.getElem?_modify]
       rw [if_neg (fun e => hb e.symm)]
      refine ⟨.string ⟨(ns.map fun n => n.toNat.toUInt8).toArray⟩, w.freeze ⟨rb, 0, none⟩ m', ?_, hs.change hH rfl hρ hsb (by simp [AB.live]), .str⟩
      have hdef : Builtin.unsafeString_ ats ty #[.pointer (some ⟨rb, 0, none⟩), .int k m'] =
       (do
        let n ← asInt (.int k m')
        let some pt := ats[0]? | stuck "unsafe.String: no argument types"
        if n < 0 then runtimePanic (.error "unsafe.String: len out of range")
        if n > IntKind.i64.max then unsupported (.unsafePointer "String: a length above the largest int")
        if n = 0 then pure (.string .empty)
        else if ← variablesAt ⟨rb, 0, none⟩ (← elemOf pt) n.toNat then do
         let s ← loadBytes ⟨rb, 0, none⟩ .empty n.toNat
         freeze ⟨rb, 0, none⟩ n.toNat
         pure (.string s)
        else unsupported (.unsafePointer "String: not so many bytes at ptr")) := rfl
      rw [hdef]
      have hshp : w.shape? rb = some (tt.1, rcs.size) := by simp [World.shape?, r1]
      simp [asInt, asIntOf, hmax, h0, h63, hneg, hm0, variablesAt, hshp, elemOf, run_underlying h1, hlies, hlb]
    ·simp at h
   ·simp at h
  ·simp at h
 ·simp at h
end
end Go.Tm
