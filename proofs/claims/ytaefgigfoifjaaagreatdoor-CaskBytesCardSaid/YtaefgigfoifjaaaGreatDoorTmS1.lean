/- The tree machine: what it is for an abstract value to stand for a value of the model. -/
import Derived.Test.YtaefgigfoifjaaaGreatDoorTmDefs
import Derived.Laws.CopyRow
import Derived.Laws.Rows
set_option linter.unusedVariables false
set_option linter.unusedSimpArgs false
set_option linter.unusedSectionVars false
namespace Go.Tm

theorem nth_eq {α : Type} (l : List α) (i : Nat) : nth l i = l[i]? := by
 induction l generalizing i with
 | nil => simp [nth]
 | cons x r ih => cases i <;> simp [nth, ih]

theorem setAt_eq {α : Type} (l : List α) (i : Nat) (x : α) : setAt l i x = l.set i x := by
 induction l generalizing i with
 | nil => simp [setAt]
 | cons y r ih => cases i <;> simp [setAt, ih]

theorem mapO_len {α β : Type} {f : α → Option β} : ∀ {l : List α} {r : List β}, mapO f l = some r → r.length = l.length
 | [], r, h => by simp [mapO] at h; subst h; rfl
 | x :: l, r, h => by
  simp only [mapO] at h
  cases hx : f x with
  | none => simp [hx] at h
  | some y =>
   cases hl : mapO f l with
   | none => simp [hx, hl] at h
   | some ys => simp [hx, hl] at h; subst h; simp [mapO_len hl]

theorem mapO_get {α β : Type} {f : α → Option β} : ∀ {l : List α} {r : List β}, mapO f l = some r → ∀ (i : Nat) (x : α), l[i]? = some x → ∃ y, f x = some y ∧ r[i]? = some y
 | [], r, h, i, x, hi => by simp at hi
 | z :: l, r, h, i, x, hi => by
  simp only [mapO] at h
  cases hx : f z with
  | none => simp [hx] at h
  | some y =>
   cases hl : mapO f l with
   | none => simp [hx, hl] at h
   | some ys =>
    simp [hx, hl] at h; subst h
    cases i with
    | zero => simp at hi; subst hi; exact ⟨y, hx, by simp⟩
    | succ i => simp at hi; obtain ⟨u, hu, hv⟩ := mapO_get hl i x hi; exact ⟨u, hu, by simpa using hv⟩

structure Gh where
 I : Nat → Nat → Option Value
 ρ : Nat → Option Nat
 /-- how many cells a block has -/
 N : Nat → Nat
 /-- the draws are counted -/
 dr : Bool

structure Gh.Le (g h : Gh) : Prop where
 imm : ∀ b o v, g.I b o = some v → h.I b o = some v
 blk : ∀ k b, g.ρ k = some b → h.ρ k = some b
 len : ∀ k b, g.ρ k = some b → h.N b = g.N b
 dr : h.dr = g.dr

theorem Gh.Le.refl (g : Gh) : Gh.Le g g := ⟨fun _ _ _ h => h, fun _ _ h => h, fun _ _ _ => rfl, rfl⟩
theorem Gh.Le.trans {a b c : Gh} (h : Gh.Le a b) (k : Gh.Le b c) : Gh.Le a c :=
 ⟨fun x o v q => k.imm x o v (h.imm x o v q), fun x y q => k.blk x y (h.blk x y q), fun x y q => (k.len x y (h.blk x y q)).trans (h.len x y q), k.dr.trans h.dr⟩

inductive VR (g : Gh) : AV → Value → Prop where
 | v {x : Value} (h : flat x = true) : VR g (.v x) x
 | str {s : List UInt8} : VR g (.str s) (.string ⟨⟨s⟩⟩)
 | agg {cs : List AV} {rs : List Value} (hl : cs.length = rs.length) (h : ∀ (i : Nat) (x : AV) (r : Value), cs[i]? = some x → rs[i]? = some r → VR g x r) : VR g (.agg cs) (.agg ⟨rs⟩)
 | tup {cs : List AV} {rs : List Value} (hl : cs.length = rs.length) (h : ∀ (i : Nat) (x : AV) (r : Value), cs[i]? = some x → rs[i]? = some r → VR g x r) : VR g (.tup cs) (.tuple ⟨rs⟩)
 | nil : VR g (.sl [] .nil) (.slice none 0 0)
 | sl {xs : List AV} {tl : Tail} {b o cap sz : Nat} (rs : Nat → Value) (ht : tl ≠ .nil) (hs : ∀ x ∈ xs, x.cells.length = sz) (hc : AV.closedL (xs.flatMap AV.cells) = true)
   (h1 : ∀ y ∈ xs.flatMap AV.cells, y.one = true) (hn : xs.length ≤ cap) (hf : tl = .full → cap = xs.length)
   (hi : ∀ (k : Nat) (y : AV), (xs.flatMap AV.cells)[k]? = some y → g.I b (o + k) = some (rs k)) (h : ∀ (k : Nat) (y : AV), (xs.flatMap AV.cells)[k]? = some y → VR g y (rs k)) :
   VR g (.sl xs tl) (.slice (some ⟨b, o, none⟩) xs.length cap)
 | ms {b off len sz rb cap : Nat} (hb : g.ρ b = some rb) (hn : len ≤ cap ∧ off + cap * sz ≤ g.N rb) : VR g (.ms b off len sz) (.slice (some ⟨rb, off, none⟩) len cap)
 | ptr {b off rb : Nat} (hb : g.ρ b = some rb) : VR g (.ptr b off) (.pointer (some ⟨rb, off, none⟩))
 | rp {cs : List AV} {b o : Nat} (rs : Nat → Value) (hc : AV.closedL cs = true) (h1 : ∀ y ∈ cs, y.one = true)
   (hi : ∀ (k : Nat) (y : AV), cs[k]? = some y → g.I b (o + k) = some (rs k)) (h : ∀ (k : Nat) (y : AV), cs[k]? = some y → VR g y (rs k)) : VR g (.rp cs) (.pointer (some ⟨b, o, none⟩))
 | map {b rb : Nat} (hb : g.ρ b = some rb) : VR g (.map b) (.map (some rb))
 | iface {t : TypeId} {x : AV} {r : Value} (h : VR g x r) : VR g (.iface t x) (.iface t r)
 | func {fn : Fn} {f1 f2 : List AV} {r1 r2 : List Value} (l1 : f1.length = r1.length) (l2 : f2.length = r2.length)
   (h1 : ∀ (i : Nat) (x : AV) (r : Value), f1[i]? = some x → r1[i]? = some r → VR g x r) (h2 : ∀ (i : Nat) (x : AV) (r : Value), f2[i]? = some x → r2[i]? = some r → VR g x r) :
   VR g (.func fn f1 f2) (.func fn ⟨r1⟩ ⟨r2⟩)

theorem VR.mono {g h : Gh} (hle : Gh.Le g h) {x : AV} {r : Value} (k : VR g x r) : VR h x r := by
 induction k with
 | v h => exact .v h
 | str => exact .str
 | agg hl _ ih => exact .agg hl ih
 | tup hl _ ih => exact .tup hl ih
 | nil => exact .nil
 | sl rs ht hs hc h1 hn hf hi _ ih => exact .sl rs ht hs hc h1 hn hf (fun k y q => hle.imm _ _ _ (hi k y q)) ih
 | ms hb hn => exact .ms (hle.blk _ _ hb) ⟨hn.1, by rw [hle.len _ _ hb]; exact hn.2⟩
 | ptr hb => exact .ptr (hle.blk _ _ hb)
 | rp rs hc h1 hi _ ih => exact .rp rs hc h1 (fun k y q => hle.imm _ _ _ (hi k y q)) ih
 | map hb => exact .map (hle.blk _ _ hb)
 | iface _ ih => exact .iface ih
 | func l1 l2 _ _ i1 i2 => exact .func l1 l2 i1 i2

def VRs (g : Gh) (cs : List AV) (rs : List Value) : Prop :=
 cs.length = rs.length ∧ ∀ (i : Nat) (x : AV) (r : Value), cs[i]? = some x → rs[i]? = some r → VR g x r

theorem VRs.mono {g h : Gh} (hle : Gh.Le g h) {cs : List AV} {rs : List Value} (k : VRs g cs rs) : VRs h cs rs :=
 ⟨k.1, fun i x r a b => (k.2 i x r a b).mono hle⟩

theorem VRs.nil {g : Gh} : VRs g [] [] := ⟨rfl, fun i x r h => by simp at h⟩
theorem VRs.cons {g : Gh} {x : AV} {r : Value} {cs : List AV} {rs : List Value} (h : VR g x r) (k : VRs g cs rs) : VRs g (x :: cs) (r :: rs) :=
 ⟨by simp [k.1], fun i y s a b => by
  cases i with
  | zero => simp at a b; subst a; subst b; exact h
  | succ i => simp at a b; exact k.2 i y s a b⟩
theorem VRs.head {g : Gh} {x : AV} {cs : List AV} {rs : List Value} (k : VRs g (x :: cs) rs) : ∃ r rs', rs = r :: rs' ∧ VR g x r ∧ VRs g cs rs' := by
 cases rs with
 | nil => simp [VRs] at k
 | cons r rs => exact ⟨r, rs, rfl, k.2 0 x r (by simp) (by simp), by have := k.1; simpa using this, fun i y s a b => k.2 (i + 1) y s (by simpa using a) (by simpa using b)⟩
theorem VRs.append {g : Gh} {a b : List AV} {ra rb : List Value} (h : VRs g a ra) (k : VRs g b rb) : VRs g (a ++ b) (ra ++ rb) := by
 induction a generalizing ra with
 | nil => cases ra with
  | nil => exact k
  | cons _ _ => exact absurd h.1 (by simp)
 | cons x a ih =>
  obtain ⟨r, rs, rfl, h1, h2⟩ := h.head
  exact VRs.cons h1 (ih h2)
theorem VRs.get {g : Gh} {cs : List AV} {rs : List Value} (k : VRs g cs rs) {i : Nat} {x : AV} (h : cs[i]? = some x) : ∃ r, rs[i]? = some r ∧ VR g x r := by
 have hi : i < rs.length := by rw [← k.1]; exact (List.getElem?_eq_some_iff.1 h).1
 exact ⟨rs[i], List.getElem?_eq_getElem hi, k.2 i x _ h (List.getElem?_eq_getElem hi)⟩
theorem VRs.set {g : Gh} {cs : List AV} {rs : List Value} (k : VRs g cs rs) {x : AV} {r : Value} (h : VR g x r) (i : Nat) : VRs g (cs.set i x) (rs.set i r) := by
 refine ⟨by simp [k.1], fun j y s a b => ?_⟩
 rw [List.getElem?_set] at a b
 by_cases hij : i = j
 ·subst hij
  simp only [if_true] at a b
  split at a <;> simp at a
  split at b <;> simp at b
  subst a; subst b; exact h
 ·simp only [hij, if_false] at a b
  exact k.2 j y s a b
theorem VRs.take {g : Gh} {cs : List AV} {rs : List Value} (k : VRs g cs rs) (n : Nat) : VRs g (cs.take n) (rs.take n) := by
 refine ⟨by simp [k.1], fun j y s a b => ?_⟩
 rw [List.getElem?_take] at a b
 by_cases hj : j < n
 ·simp only [hj, if_true] at a b
  exact k.2 j y s a b
 ·simp [hj] at a
theorem VRs.drop {g : Gh} {cs : List AV} {rs : List Value} (k : VRs g cs rs) (n : Nat) : VRs g (cs.drop n) (rs.drop n) := by
 refine ⟨by simp [k.1], fun j y s a b => ?_⟩
 rw [List.getElem?_drop] at a b
 exact k.2 _ y s a b

theorem flat_cells {y : Value} (h : flat y = true) : y.cells.toList = [y] := by cases y <;> simp_all [flat, Value.cells]

theorem VR.cells {g : Gh} {x : AV} {r : Value} (h : VR g x r) (hx : ∀ cs, x ≠ .tup cs) : VRs g x.cells r.cells.toList := by
 cases h with
 | agg hl h => exact ⟨by simpa [AV.cells, Value.cells] using hl, by simpa [AV.cells, Value.cells] using h⟩
 | tup => exact absurd rfl (hx _)
 | v h => rw [flat_cells h]; exact VRs.cons (.v h) VRs.nil
 | str => exact VRs.cons .str VRs.nil
 | nil => exact VRs.cons .nil VRs.nil
 | sl rs ht hs hc h1 hn hf hi h => exact VRs.cons (.sl rs ht hs hc h1 hn hf hi h) VRs.nil
 | ms hb hn => exact VRs.cons (.ms hb hn) VRs.nil
 | ptr hb => exact VRs.cons (.ptr hb) VRs.nil
 | rp rs hc h1 hi h => exact VRs.cons (.rp rs hc h1 hi h) VRs.nil
 | map hb => exact VRs.cons (.map hb) VRs.nil
 | iface h => exact VRs.cons (.iface h) VRs.nil
 | func l1 l2 h1 h2 => exact VRs.cons (.func l1 l2 h1 h2) VRs.nil

theorem VR.one {g : Gh} {x : AV} {r : Value} (h : VR g x r) (hx : x.one = true) : r.oneCell' = true := by
 cases h with
 | v h => cases r <;> first | rfl | simp [flat] at h
 | agg => simp [AV.one] at hx
 | tup => simp [AV.one] at hx
 | _ => rfl

theorem VRs.allOne {g : Gh} {cs : List AV} {rs : List Value} (k : VRs g cs rs) (h : allOne cs = true) : ∀ r ∈ rs, r.oneCell' = true := by
 intro r hr
 obtain ⟨i, hi, rfl⟩ := List.getElem_of_mem hr
 have hic : i < cs.length := by rw [k.1]; exact hi
 have := k.2 i cs[i] rs[i] (List.getElem?_eq_getElem hic) (List.getElem?_eq_getElem hi)
 exact this.one (by simp [Tm.allOne] at h; exact h _ (List.getElem_mem hic))

theorem VR.unown {g : Gh} {x : AV} {r : Value} (h : VR g x r) : VR g x.unown r := by
 cases h with
 | @sl xs tl b o cap sz rs ht hs hc h1 hn hf hi h =>
  cases tl with
  | own => exact .sl rs (by simp) hs hc h1 hn (by simp) hi h
  | nil => exact absurd rfl ht
  | unk => exact .sl rs ht hs hc h1 hn hf hi h
  | full => exact .sl rs ht hs hc h1 hn hf hi h
 | v h => exact .v h
 | str => exact .str
 | agg hl h => exact .agg hl h
 | tup hl h => exact .tup hl h
 | nil => exact .nil
 | ms hb hn => exact .ms hb hn
 | ptr hb => exact .ptr hb
 | rp rs hc h1 hi h => exact .rp rs hc h1 hi h
 | map hb => exact .map hb
 | iface h => exact .iface h
 | func l1 l2 h1 h2 => exact .func l1 l2 h1 h2

theorem AV.cells_unown (x : AV) : x.unown.cells.length = x.cells.length := by
 cases x with
 | sl xs tl => cases tl <;> rfl
 | _ => rfl

theorem AV.one_unown (x : AV) : x.unown.one = x.one := by
 cases x with
 | sl xs tl => cases tl <;> rfl
 | _ => rfl

theorem allOne_unown (x : AV) : Tm.allOne x.unown.cells = Tm.allOne x.cells := by
 cases x with
 | sl xs tl => cases tl <;> rfl
 | _ => rfl

theorem allOne_notTup {x : AV} (h : Tm.allOne x.cells = true) : ∀ cs, x ≠ .tup cs := by
 intro cs e; subst e; simp [Tm.allOne, AV.cells, AV.one] at h

theorem ofV1_VR {g : Gh} {r : Value} {x : AV} (h : AV.ofV1 r = some x) : VR g x r := by
 unfold AV.ofV1 at h
 split at h
 ·simp at h; subst h; exact .str
 ·simp at h; subst h; exact .nil
 ·split at h
  ·simp at h; subst h; exact .v ‹_›
  ·simp at h

theorem mapO_VRs {g : Gh} {f : Value → Option AV} (hf : ∀ r x, f r = some x → VR g x r) {l : List Value} {r : List AV} (h : mapO f l = some r) : VRs g r l := by
 refine ⟨mapO_len h, fun i x v a b => ?_⟩
 obtain ⟨y, hy, hz⟩ := mapO_get h i v b
 rw [hz] at a; cases a
 exact hf _ _ hy

theorem ofV_VR {g : Gh} {r : Value} {x : AV} (h : AV.ofV r = some x) : VR g x r := by
 unfold AV.ofV at h
 split at h
 ·rename_i cs
  cases hm : mapO AV.ofV1 cs with
  | none => simp [hm] at h
  | some l =>
   simp [hm] at h; subst h
   have := mapO_VRs (g := g) (fun r x => ofV1_VR) hm
   exact .agg this.1 this.2
 ·simp at h; subst h; exact .tup rfl (fun i x r h => by simp at h)
 ·exact ofV1_VR h

theorem toV1_VR {g : Gh} {x : AV} {r u : Value} (h : VR g x r) (k : AV.toV1 x = some u) : u = r := by
 cases h <;> simp_all [AV.toV1]

theorem toV_VR {g : Gh} {x : AV} {r u : Value} (h : VR g x r) (k : AV.toV x = some u) : u = r := by
 cases h with
 | @agg cs rs hl h =>
  simp only [AV.toV] at k
  cases hm : mapO AV.toV1 cs with
  | none => simp [hm] at k
  | some l =>
   simp [hm] at k; subst k
   have : l = rs := by
    apply List.ext_getElem?
    intro i
    by_cases hi : i < cs.length
    ·obtain ⟨y, hy, hz⟩ := mapO_get hm i cs[i] (List.getElem?_eq_getElem hi)
     have hr : i < rs.length := by rw [← hl]; exact hi
     rw [hz, List.getElem?_eq_getElem hr]
     congr 1
     exact toV1_VR (h i _ _ (List.getElem?_eq_getElem hi) (List.getElem?_eq_getElem hr)) hy
    ·rw [List.getElem?_eq_none (by rw [mapO_len hm]; omega), List.getElem?_eq_none (by omega)]
   rw [this]
 | tup => simp [AV.toV, AV.toV1] at k
 | v h => exact toV1_VR (g := g) (.v h) (by simpa [AV.toV] using k)
 | str => exact toV1_VR (g := g) .str (by simpa [AV.toV] using k)
 | nil => exact toV1_VR (g := g) .nil (by simpa [AV.toV] using k)
 | sl rs ht hs hc h1 hn hf hi h => exact toV1_VR (g := g) (.sl rs ht hs hc h1 hn hf hi h) (by simpa [AV.toV] using k)
 | ms hb hn => simp [AV.toV, AV.toV1] at k
 | ptr hb => simp [AV.toV, AV.toV1] at k
 | rp rs hc h1 hi h => simp [AV.toV, AV.toV1] at k
 | map hb => simp [AV.toV, AV.toV1] at k
 | iface h => simp [AV.toV, AV.toV1] at k
 | func l1 l2 h1 h2 => simp [AV.toV, AV.toV1] at k

theorem closedL_get {cs : List AV} (h : AV.closedL cs = true) : ∀ {i : Nat} {x : AV}, cs[i]? = some x → x.closed = true := by
 induction cs with
 | nil => intro i x hi; simp at hi
 | cons y r ih =>
  intro i x hi
  simp [AV.closedL] at h
  cases i with
  | zero => simp at hi; subst hi; exact h.1
  | succ i => simp at hi; exact ih h.2 hi

theorem VR.closed {g h : Gh} (hI : ∀ b o v, g.I b o = some v → h.I b o = some v) {x : AV} {r : Value} (k : VR g x r) (hx : x.closed = true) : VR h x r := by
 induction k with
 | v h => exact .v h
 | str => exact .str
 | agg hl _ ih => exact .agg hl fun i x r a b => ih i x r a b (closedL_get (by simpa [AV.closed] using hx) a)
 | tup hl _ ih => exact .tup hl fun i x r a b => ih i x r a b (closedL_get (by simpa [AV.closed] using hx) a)
 | nil => exact .nil
 | sl rs ht hs hc h1 hn hf hi _ ih => exact .sl rs ht hs hc h1 hn hf (fun k y q => hI _ _ _ (hi k y q)) fun k y q => ih k y q (closedL_get hc q)
 | ms => simp [AV.closed] at hx
 | ptr => simp [AV.closed] at hx
 | rp rs hc h1 hi _ ih => exact .rp rs hc h1 (fun k y q => hI _ _ _ (hi k y q)) fun k y q => ih k y q (closedL_get hc q)
 | map => simp [AV.closed] at hx
 | iface _ ih => exact .iface (ih (by simpa [AV.closed] using hx))
 | func l1 l2 _ _ i1 i2 =>
  simp [AV.closed] at hx
  exact .func l1 l2 (fun i x r a b => i1 i x r a b (closedL_get hx.1 a)) (fun i x r a b => i2 i x r a b (closedL_get hx.2 a))

/-! Trees of pieces. -/
theorem BT.wf_node {n : Nat} {l r : BT} (h : (BT.node n l r).wf = true) : l.toL.length = n ∧ l.wf = true ∧ r.wf = true := by
 simp only [BT.wf, Bool.and_eq_true, decide_eq_true_eq] at h
 exact ⟨h.1.1, h.1.2, h.2⟩
theorem putAll_len' {α : Type} (xs cs : List α) (o : Nat) : (putAll cs o xs).length = cs.length := by
 induction xs generalizing cs o with
 | nil => rfl
 | cons x r ih => simp [putAll, ih, setAt_eq]
theorem putAll_left {α : Type} : ∀ (xs a b : List α) (o : Nat), o + xs.length ≤ a.length → putAll (a ++ b) o xs = putAll a o xs ++ b
 | [], a, b, o, _ => rfl
 | x :: r, a, b, o, h => by
  simp only [List.length_cons] at h
  simp only [putAll, setAt_eq]
  rw [List.set_append, if_pos (by omega)]
  exact putAll_left r _ b _ (by simp; omega)
theorem putAll_right {α : Type} : ∀ (xs a b : List α) (o : Nat), a.length ≤ o → putAll (a ++ b) o xs = a ++ putAll b (o - a.length) xs
 | [], a, b, o, _ => rfl
 | x :: r, a, b, o, h => by
  simp only [putAll, setAt_eq]
  rw [List.set_append, if_neg (by omega), putAll_right r a _ _ (by omega), show o + 1 - a.length = o - a.length + 1 by omega]
theorem BT.from_eq : ∀ {t : BT} (off : Nat), t.wf = true → t.from off = t.toL.drop off
 | .leaf cs, off, _ => rfl
 | .node m l r, off, h => by
  obtain ⟨h1, h2, h3⟩ := BT.wf_node h
  simp only [BT.from, BT.toL]
  cases hb : Nat.blt off m with
  | true =>
   have hb' : off < m := Nat.le_of_ble_eq_true hb
   simp only
   rw [BT.from_eq off h2, List.drop_append_of_le_length (by omega)]
  | false =>
   have hb' : ¬ off < m := fun q => by rw [show Nat.blt off m = true from Nat.ble_eq_true_of_le q] at hb; cases hb
   simp only
   have e : l.toL.drop off = [] := List.drop_eq_nil_of_le (by omega)
   rw [BT.from_eq _ h3, List.drop_append, e, List.nil_append, h1]
   rfl
theorem BT.rd_eq : ∀ {t : BT} {off n : Nat} {xs : List AV}, t.wf = true → t.rd off n = some xs → off + n ≤ t.toL.length ∧ xs = (t.toL.drop off).take n
 | .leaf cs, off, n, xs, _, h => by
  unfold BT.rd at h
  split at h
  ·rename_i hb
   cases h
   exact ⟨Nat.le_of_ble_eq_true hb, rfl⟩
  ·cases h
 | .node m l r, off, n, xs, hw, h => by
  obtain ⟨h1, h2, h3⟩ := BT.wf_node hw
  unfold BT.rd at h
  simp only [BT.toL]
  split at h
  ·split at h
   ·rename_i hb hc
    have hc' : off + n ≤ m := Nat.le_of_ble_eq_true hc
    obtain ⟨q1, q2⟩ := BT.rd_eq h2 h
    refine ⟨by simp; omega, ?_⟩
    rw [q2, List.drop_append_of_le_length (by omega), List.take_append_of_le_length (by simp; omega)]
   ·cases h
  ·rename_i hb
   have hb' : ¬ off < m := fun q => by rw [show Nat.blt off m = true from Nat.ble_eq_true_of_le q] at hb; cases hb
   obtain ⟨q1, q2⟩ := BT.rd_eq h3 h
   have q1 : off - m + n ≤ r.toL.length := q1
   refine ⟨by simp; omega, ?_⟩
   have e : l.toL.drop off = [] := List.drop_eq_nil_of_le (by omega)
   rw [q2, List.drop_append, e, List.nil_append, h1]
   rfl
theorem BT.wr_eq : ∀ {t t' : BT} {off : Nat} {xs : List AV}, t.wf = true → t.wr off xs = some t' → off + xs.length ≤ t.toL.length ∧ t'.toL = putAll t.toL off xs ∧ t'.wf = true
 | .leaf cs, t', off, xs, _, h => by
  unfold BT.wr at h
  split at h
  ·rename_i hb
   cases h
   exact ⟨Nat.le_of_ble_eq_true hb, rfl, rfl⟩
  ·cases h
 | .node m l r, t', off, xs, hw, h => by
  obtain ⟨h1, h2, h3⟩ := BT.wf_node hw
  unfold BT.wr at h
  simp only [BT.toL]
  split at h
  ·split at h
   ·rename_i hb hc
    have hc' : off + xs.length ≤ m := Nat.le_of_ble_eq_true hc
    split at h
    ·rename_i l' hl
     cases h
     obtain ⟨q1, q2, q3⟩ := BT.wr_eq h2 hl
     refine ⟨by simp; omega, ?_, ?_⟩
     ·simp only [BT.toL]
      rw [q2, putAll_left _ _ _ _ (by omega)]
     ·simp only [BT.wf, Bool.and_eq_true, decide_eq_true_eq]
      exact ⟨⟨by rw [q2, putAll_len']; exact h1, q3⟩, h3⟩
    ·cases h
   ·cases h
  ·rename_i hb
   have hb' : ¬ off < m := fun q => by rw [show Nat.blt off m = true from Nat.ble_eq_true_of_le q] at hb; cases hb
   split at h
   ·rename_i r' hl
    cases h
    obtain ⟨q1, q2, q3⟩ := BT.wr_eq h3 hl
    have q1 : off - m + xs.length ≤ r.toL.length := q1
    refine ⟨by simp; omega, ?_, ?_⟩
    ·simp only [BT.toL]
     rw [q2, putAll_right _ _ _ _ (by omega), h1]
     rfl
    ·simp only [BT.wf, Bool.and_eq_true, decide_eq_true_eq]
     exact ⟨⟨h1, h2⟩, q3⟩
   ·cases h
theorem zEq_eq {x y : AV} (h : zEq x y = true) : x = y := by
 unfold zEq at h
 split at h
 ·simp only [Bool.and_eq_true, decide_eq_true_eq] at h
  rw [h.1, h.2]
 ·rw [beq_iff_eq] at h; rw [h]
 ·rfl
 ·rfl
 ·rfl
 ·rw [beq_iff_eq] at h; rw [h]
 ·cases h
theorem zEqL_eq : ∀ {l m : List AV}, zEqL l m = true → l = m
 | [], [], _ => rfl
 | [], _ :: _, h => by simp [zEqL] at h
 | _ :: _, [], h => by simp [zEqL] at h
 | x :: r, y :: q, h => by
  simp only [zEqL] at h
  cases hx : zEq x y with
  | false => simp [hx] at h
  | true =>
   simp only [hx] at h
   rw [zEq_eq hx, zEqL_eq h]

end Go.Tm
