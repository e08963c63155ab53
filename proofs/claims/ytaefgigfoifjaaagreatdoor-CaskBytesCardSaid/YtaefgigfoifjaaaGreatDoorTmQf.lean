/- TmTop, TmOpen, TmLaw, joined. -/
import Derived.Test.YtaefgigfoifjaaaGreatDoorTmLib
import Derived.OpenShut
import Derived.SizedLaws
import Derived.Test.YtaefgigfoifjaaaGreatDoorTmQd
import Derived.WideKeyArgs
import Derived.Below
import Derived.WalkKit
set_option linter.unusedVariables false
set_option linter.unusedSimpArgs false
set_option linter.unusedSectionVars false
section
namespace Go.Tm

def ghostOf (w : World) (gs : List (Nat × Nat)) : Gh := ⟨fun b o => if gs.contains (b, o) then w.cell? ⟨b, o, none⟩ else none, fun _ => none, fun _ => 0, false⟩

theorem calls_of_run {K : Cfg} (hk : CfgOk K) {n : Nat} {f : FuncId} {fn : Func} {args : List AV} {r : AV} {p p' : List Bool} (h : aCall K n f args [] p = some ((r, []), [], p')) {w : World} (gs : List (Nat × Nat)) (hg : Glob K (ghostOf w gs)) {rargs : List Value} (hv : VRs (ghostOf w gs) args rargs)
  (hf : K.P.funcs[f]? = some fn) (hb : fn.body.isSome = true) : Calls K.P f ⟨rargs⟩ w fun e w' => ∃ v, e = .returned v ∧ (∃ g', VR g' r v) ∧ Kept false w (fun _ => False) w' := by
 have hlive : Live (ghostOf w gs) [] = fun _ => False := by
  funext rb
  simp [Live]
 have himm : ∀ b o v, (ghostOf w gs).I b o = some v → w.cell? ⟨b, o, none⟩ = some v := fun b o v q => by
  simp only [ghostOf] at q
  split at q
  ·exact q
  ·simp at q
 have hs : SW ⟨w, Live (ghostOf w gs) [], ghostOf w gs⟩ (ghostOf w gs) noTok [] w :=
  ⟨himm, by simp [ghostOf], by simp, by simp, by simp [noTok], by simp [noTok], .refl _ w _, fun _ _ _ _ _ q => q, .refl _⟩
 have hok := call_ok hk n f args [] p p' r [] ⟨[], h, by simp⟩ (ghostOf w gs) w rargs hg hs hv
 have henter : (callFunc f ⟨rargs⟩).run K.P w = .ok (.enter f ⟨rargs⟩) w := by
  have hn := hk.names f fn hf hb
  simp only [callFunc, Sem.run_bind, run_program, Result.andThen_ok, hf]
  rw [if_neg (by rw [hn]; simp), if_neg (by cases hq : fn.body with | none => rw [hq] at hb; cases hb | some c => simp)]
  rfl
 rcases hok with ⟨_, h2⟩ | ⟨v, w', h2, _⟩
 ·refine h2.mono fun e w' q => ?_
  cases e with
  | returned v =>
   obtain ⟨g', q1, q2⟩ := q
   refine ⟨v, rfl, ⟨g', q2⟩, ?_⟩
   have := q1.kept
   rw [hlive] at this
   exact this
  | panicked => exact q.elim
  | outgrown => exact q.elim
 ·rw [henter] at h2; cases h2

theorem glob_cells {w : World} {gs : List (Nat × Nat)} {i : Nat} {cs : List Value} (hflat : ∀ v ∈ cs, flat v = true) (hgs : ∀ k, k < cs.length → gs.contains (i, k) = true) (hc : ∀ k (v : Value), cs[k]? = some v → w.cell? ⟨i, k, none⟩ = some v) :
  VR (ghostOf w gs) (.rp (cs.map AV.v)) (.pointer (some ⟨i, 0, none⟩)) := by
 have get : ∀ (k : Nat) (y : AV), (cs.map AV.v)[k]? = some y → ∃ v, cs[k]? = some v ∧ y = .v v ∧ flat v = true := fun k y hy => by
  simp only [List.getElem?_map, Option.map_eq_some_iff] at hy
  obtain ⟨v, hv, rfl⟩ := hy
  exact ⟨v, hv, rfl, hflat v (List.mem_of_getElem? hv)⟩
 refine .rp (fun k => cs.getD k .nilIface) ?_ ?_ (fun k y hy => ?_) (fun k y hy => ?_)
 ·rw [closedL_iff]; intro x hx; simp at hx; obtain ⟨_, _, rfl⟩ := hx; rfl
 ·intro x hx; simp at hx; obtain ⟨_, _, rfl⟩ := hx; rfl
 ·obtain ⟨v, hv, rfl, _⟩ := get k y hy
  have hlt : k < cs.length := (List.getElem?_eq_some_iff.1 hv).1
  simp only [ghostOf, Nat.zero_add]
  rw [if_pos (hgs k hlt), hc k v hv, List.getD_eq_getElem?_getD, hv]; rfl
 ·obtain ⟨v, hv, rfl, hfl⟩ := get k y hy
  rw [List.getD_eq_getElem?_getD, hv]
  exact .v hfl
end Go.Tm
end
section
namespace Go.Tm

def gAll (w : World) : Gh := ⟨fun b o => w.cell? ⟨b, o, none⟩, fun _ => none, fun _ => 0, false⟩

def Ty (P : Program) : Nat → TypeId → List AV → (R : Nat := reachBytes) → Prop
 | 0, _, _, _ => False
 | n + 1, t, cs, R => match P.underlying t with
  | some .bool => ∃ b, cs = [.v (.bool b)]
  | some (.int k) => ∃ z, cs = [.v (.int k z)] ∧ (Lit.int k z).wf = true
  | some .string => ∃ s, cs = [.str s] ∧ s.length ≤ R
  | some (.slice e) => cs = [.sl [] .nil] ∨ ∃ xs, cs = [.sl xs .unk] ∧ xs.length * P.bytesOf e ≤ R ∧ xs.length ≤ maxLen ∧ ∀ x ∈ xs, Ty P n e x.cells R ∧ x.cells.length = P.cellsOf e ∧ elOf (P.cellsOf e) x.cells = x
  | some (.struct fs) => cs.length = P.cellsOf t ∧ ∀ f ∈ fs.toList, Ty P n f.type ((cs.drop f.offset).take (P.cellsOf f.type)) R
  | some (.array m e) => cs.length = P.cellsOf t ∧ ∀ i, i < m → Ty P n e ((cs.drop (i * P.cellsOf e)).take (P.cellsOf e)) R
  | _ => False

def tiles (P : Program) : List Field → Nat → Nat → Bool
 | [], a, b => a == b
 | f :: r, a, b => f.offset == a && tiles P r (a + P.cellsOf f.type) b
def okF (P : Program) (sl : Bool) : Nat → TypeId → Bool
 | 0, _ => false
 | n + 1, t => match P.underlying t with
  | some .bool | some (.int _) | some .string => P.cellsOf t == 1
  | some (.slice e) => sl && okF P false n e && Nat.ble 1 (P.cellsOf e) && (P.cellsOf t == 1)
  | some (.struct fs) => tiles P fs.toList 0 (P.cellsOf t) && fs.toList.all fun f => okF P sl n f.type
  | some (.array m e) => okF P sl n e && (P.cellsOf t == m * P.cellsOf e)
  | _ => false
def Unspot : Value → Prop
 | .slice (some a) _ _ => a.spot = none
 | _ => True

structure Cells (w : World) (P : Program) (n : Nat) (t : TypeId) (xs : List AV) (cs : List Value) (R : Nat := reachBytes) : Prop where
 ty : Ty P n t xs R
 vr : VRs (gAll w) xs cs
 closed : AV.closedL xs = true
 one : ∀ y ∈ xs, y.one = true

section
variable {H : Type} {enc : TypeId × Value → H} {P : Program} {R : Nat} {w : World} {sp : Nat → Bool} {held : Bool}

theorem tiles_open {n : Nat} {cs : List Value} :
  ∀ (fs : List Field) (a b : Nat), tiles P fs a b = true → b ≤ cs.length → (∀ f ∈ fs, ∃ xs, Cells w P n f.type xs ((cs.drop f.offset).take (P.cellsOf f.type)) R) →
   ∃ ys, VRs (gAll w) ys ((cs.drop a).take (b - a)) ∧ AV.closedL ys = true ∧ (∀ y ∈ ys, y.one = true) ∧ a ≤ b ∧ ∀ f ∈ fs, a ≤ f.offset ∧ Ty P n f.type ((ys.drop (f.offset - a)).take (P.cellsOf f.type)) R
 | [], a, b, h, _, _ => by
  have : a = b := by simpa [tiles] using h
  subst this
  exact ⟨[], by simp [VRs.nil], rfl, by simp, Nat.le_refl _, by simp⟩
 | f :: r, a, b, h, hb, hf => by
  simp only [tiles, Bool.and_eq_true, beq_iff_eq] at h
  obtain ⟨ho, hr⟩ := h
  obtain ⟨xs, hx⟩ := hf f (by simp)
  obtain ⟨ys, h1, h2, h3, h4, h5⟩ := tiles_open r (a + P.cellsOf f.type) b hr hb fun g hg => hf g (by simp [hg])
  have hxl : xs.length = P.cellsOf f.type := by
   rw [hx.vr.1, List.length_take, List.length_drop, ho]; omega
  refine ⟨xs ++ ys, ?_, closedL_app.2 ⟨hx.closed, h2⟩, fun y hy => ?_, by omega, fun g hg => ?_⟩
  ·have e : (cs.drop a).take (b - a) = (cs.drop a).take (P.cellsOf f.type) ++ (cs.drop (a + P.cellsOf f.type)).take (b - (a + P.cellsOf f.type)) := by
    rw [← List.drop_drop, show b - a = P.cellsOf f.type + (b - (a + P.cellsOf f.type)) by omega, List.take_add]
   rw [e]
   have hv := hx.vr
   rw [ho] at hv
   exact hv.append h1
  ·rcases List.mem_append.1 hy with q | q
   ·exact hx.one y q
   ·exact h3 y q
  ·rcases List.mem_cons.1 hg with rfl | hg
   ·refine ⟨by omega, ?_⟩
    rw [ho, Nat.sub_self, List.drop_zero, ← hxl, List.take_left]
    exact hx.ty
   ·obtain ⟨q1, q2⟩ := h5 g hg
    refine ⟨by omega, ?_⟩
    rw [List.drop_append, List.drop_eq_nil_of_le (by omega), List.nil_append, show g.offset - a - xs.length = g.offset - (a + P.cellsOf f.type) by omega]
    exact q2
theorem rows_open {n : Nat} {cs : List Value} {e : TypeId} : ∀ (m : Nat), m * P.cellsOf e ≤ cs.length → (∀ i, i < m → ∃ xs, Cells w P n e xs ((cs.drop (i * P.cellsOf e)).take (P.cellsOf e)) R) →
   ∃ ys, VRs (gAll w) ys (cs.take (m * P.cellsOf e)) ∧ AV.closedL ys = true ∧ (∀ y ∈ ys, y.one = true) ∧ ∀ i, i < m → Ty P n e ((ys.drop (i * P.cellsOf e)).take (P.cellsOf e)) R
 | 0, _, _ => ⟨[], by simp [VRs.nil], rfl, by simp, fun i h => absurd h (by omega)⟩
 | m + 1, hl, hf => by
  have hm : (m + 1) * P.cellsOf e = m * P.cellsOf e + P.cellsOf e := Nat.succ_mul _ _
  obtain ⟨ys, h1, h2, h3, h4⟩ := rows_open m (by omega) fun i hi => hf i (by omega)
  obtain ⟨xs, hx⟩ := hf m (by omega)
  have hyl : ys.length = m * P.cellsOf e := by rw [h1.1, List.length_take]; omega
  have hxl : xs.length = P.cellsOf e := by rw [hx.vr.1, List.length_take, List.length_drop]; omega
  refine ⟨ys ++ xs, ?_, closedL_app.2 ⟨h2, hx.closed⟩, fun y hy => ?_, fun i hi => ?_⟩
  ·rw [hm, List.take_add]
   exact h1.append hx.vr
  ·rcases List.mem_append.1 hy with q | q
   ·exact h3 y q
   ·exact hx.one y q
  ·rcases Nat.lt_or_ge i m with q | q
   ·have hle : i * P.cellsOf e + P.cellsOf e ≤ m * P.cellsOf e := by rw [← Nat.succ_mul]; exact Nat.mul_le_mul_right _ q
    rw [List.drop_append_of_le_length (by omega), List.take_append_of_le_length (by rw [List.length_drop]; omega)]
    exact h4 i q
   ·obtain rfl : i = m := by omega
    rw [← hyl, List.drop_left, ← hxl, List.take_length]
    exact hx.ty
theorem weightsEach_all : ∀ (ts : List TypeId) (ds : List (DataW H)), (DataW.weightsEach P ts ds).all (· ≤ R) = true → ∀ (i : Nat) (t : TypeId) (d : DataW H), ts[i]? = some t → ds[i]? = some d → (d.weights P t).all (· ≤ R) = true
 | [], _, _, i, t, d, ht, _ => by simp at ht
 | _ :: _, [], _, i, t, d, _, hd => by simp at hd
 | t0 :: ts, d0 :: ds, h, i, t, d, ht, hd => by
  simp only [DataW.weightsEach, List.all_append, Bool.and_eq_true] at h
  cases i with
  | zero => simp at ht hd; subst ht hd; exact h.1
  | succ i => exact weightsEach_all ts ds h.2 i t d (by simpa using ht) (by simpa using hd)
theorem weightsAll_all {e : TypeId} : ∀ (ds : List (DataW H)), (DataW.weightsAll P e ds).all (· ≤ R) = true → ∀ d ∈ ds, (d.weights P e).all (· ≤ R) = true
 | [], _, d, hd => by cases hd
 | d0 :: ds, h, d, hd => by
  simp only [DataW.weightsAll, List.all_append, Bool.and_eq_true] at h
  rcases List.mem_cons.1 hd with rfl | hd
  ·exact h.1
  ·exact weightsAll_all ds h.2 d hd
theorem el_cells {sz : Nat} {c : List AV} (hl : c.length = sz) (h1 : ∀ y ∈ c, y.one = true) : (elOf sz c).cells = c := by
 unfold elOf
 split
 ·obtain ⟨x, rfl⟩ := List.length_eq_one_iff.1 hl
  have := h1 x (by simp)
  cases x <;> first | rfl | (simp [AV.one] at this)
 ·simp [AV.cells, ← hl]
theorem elOf_take {sz : Nat} (hz : 0 < sz) (c : List AV) : elOf sz (c.take sz) = elOf sz c := by
 unfold elOf
 split
 ·cases c <;> rfl
 ·rw [List.take_take, Nat.min_self]
theorem chunk_ty {n e : Nat} {sz : Nat} (hz : 0 < sz) : ∀ (len : Nat) (ys : List AV), ys.length = len * sz → (∀ y ∈ ys, y.one = true) → (∀ i, i < len → Ty P n e ((ys.drop (i * sz)).take sz) R) →
   ∀ x ∈ chunk sz len ys, Ty P n e x.cells R ∧ x.cells.length = sz ∧ elOf sz x.cells = x
 | 0, _, _, _, _, x, hx => by simp [chunk] at hx
 | len + 1, ys, hl, h1, ht, x, hx => by
  have hm : (len + 1) * sz = len * sz + sz := Nat.succ_mul _ _
  simp only [chunk, List.mem_cons] at hx
  rcases hx with rfl | hx
  ·have htl : (ys.take sz).length = sz := by rw [List.length_take]; omega
   have e1 : (elOf sz ys).cells = ys.take sz := by
    rw [← elOf_take hz, el_cells htl fun y hy => h1 y (List.mem_of_mem_take hy)]
   refine ⟨?_, by rw [e1, htl], by rw [e1, elOf_take hz]⟩
   rw [e1]
   simpa using ht 0 (by omega)
  ·refine chunk_ty hz len (ys.drop sz) (by rw [List.length_drop]; omega) (fun y hy => h1 y (List.mem_of_mem_drop hy)) (fun i hi => ?_) x hx
   have := ht (i + 1) (by omega)
   rw [List.drop_drop, show sz + i * sz = (i + 1) * sz by rw [Nat.succ_mul]; omega]
   exact this

theorem cells_open : ∀ (m : Nat) (sl : Bool) (t : TypeId) (cs : List Value) (n : Nat) (d : DataW H) (ps : List MemPlace), okF P sl m t = true → DataW.trod enc P w 0 sp held n t cs = some (d, ps) → (d.weights P t).all (· ≤ R) = true → (sl = true → ∀ v ∈ cs, Unspot v) → ∃ xs, Cells w P m t xs cs R
 | 0, _, _, _, _, _, _, h, _, _, _ => by cases h
 | m + 1, sl, t, cs, n, d, ps, h, hd, hw, hs => by
  unfold okF at h
  split at h
  ·rename_i hu
   obtain ⟨b, rfl, _⟩ := DataW.trod_bool hu hd
   exact ⟨[.v (.bool b)], by unfold Ty; rw [hu]; exact ⟨b, rfl⟩, VRs.cons (.v rfl) VRs.nil, rfl, by simp [AV.one]⟩
  ·rename_i k hu
   obtain ⟨z, rfl, _, hz⟩ := DataW.trod_int hu hd
   exact ⟨[.v (.int k z)], by unfold Ty; rw [hu]; exact ⟨z, rfl, hz⟩, VRs.cons (.v rfl) VRs.nil, rfl, by simp [AV.one]⟩
  ·rename_i hu
   obtain ⟨s, rfl, hx, _⟩ := DataW.trod_string hu hd
   have hd' : d = .lit (.string s.data.toList) := congrArg Prod.fst hx
   subst hd'
   refine ⟨[.str s.data.toList], ?_, VRs.cons .str VRs.nil, rfl, by simp [AV.one]⟩
   unfold Ty; rw [hu]
   exact ⟨_, rfl, by simpa [DataW.weights] using hw⟩
  ·rename_i e hu
   simp only [Bool.and_eq_true] at h
   obtain ⟨⟨⟨hsl, hok⟩, hz⟩, _⟩ := h
   have hz := Nat.le_of_ble_eq_true hz
   rcases DataW.trod_slice hu hd with ⟨rfl, _⟩ | ⟨a, len, cap, elems, rest, n', _, rfl, hx, _, hlc, hcm, hlen, hel, _, _⟩
   ·exact ⟨[.sl [] .nil], by unfold Ty; rw [hu]; exact .inl rfl, VRs.cons .nil VRs.nil, rfl, by simp [AV.one]⟩
   ·have hsp : a.spot = none := hs hsl (.slice (some a) len cap) (by simp)
    obtain ⟨b, off, spot⟩ := a
    simp only at hsp
    subst hsp
    have hd' : d = .slice (elems.map (·.1)) (rest.map (·.1)) := congrArg Prod.fst hx
    subst hd'
    have hwt : (elems.map (·.1)).length * P.bytesOf e ≤ R ∧ ∀ y ∈ elems, (y.1.weights P e).all (· ≤ R) = true := by
     simp only [DataW.weights, hu, List.all_cons, List.all_append, Bool.and_eq_true, decide_eq_true_eq] at hw
     refine ⟨Nat.le_trans (Nat.mul_le_mul_right _ (Nat.le_add_right _ _)) hw.1, fun y hy => ?_⟩
     have := hw.2.1
     clear hx hel hw hlen hd
     induction elems with
     | nil => cases hy
     | cons z r ih =>
      simp only [List.map_cons, DataW.weightsAll, List.all_append, Bool.and_eq_true] at this
      rcases List.mem_cons.1 hy with rfl | hy
      ·exact this.1
      ·exact ih hy this.2
    have each : ∀ i, i < len → ∃ cs', w.cells? 0 ((⟨b, off, none⟩ : Addr).add (i * P.cellsOf e)) (P.cellsOf e) = some cs' ∧ ∃ xs, Cells w P m e xs cs' R := fun i hi => by
     have h1 := hel i hi
     rw [List.getElem?_eq_getElem (by omega), Option.bind_eq_some_iff] at h1
     obtain ⟨cs', h2, h3⟩ := h1
     exact ⟨cs', h2, cells_open m false e cs' n' _ _ hok h3 (hwt.2 _ (List.getElem_mem _)) (by simp)⟩
    have addr : ∀ i j, ((⟨b, off, none⟩ : Addr).add i).add j = ⟨b, off + i + j, none⟩ := fun i j => by
     unfold Addr.add
     split <;> split <;> simp_all
    obtain ⟨CS, hCS⟩ : ∃ CS : List Value, CS = (List.range (len * P.cellsOf e)).map fun k => (w.cell? ⟨b, off + k, none⟩).getD .nilIface := ⟨_, rfl⟩
    have hCl : CS.length = len * P.cellsOf e := by rw [hCS]; simp
    have seg : ∀ i, i < len → ∃ cs', w.cells? 0 ((⟨b, off, none⟩ : Addr).add (i * P.cellsOf e)) (P.cellsOf e) = some cs' ∧ (CS.drop (i * P.cellsOf e)).take (P.cellsOf e) = cs' ∧ (∃ xs, Cells w P m e xs cs' R) ∧ ∀ j, j < P.cellsOf e → w.cell? ⟨b, off + (i * P.cellsOf e + j), none⟩ = cs'[j]? := fun i hi => by
     obtain ⟨cs', h1, h2⟩ := each i hi
     obtain ⟨_, h3, h4⟩ := World.cells?_some h1
     have h5 : ∀ j, j < P.cellsOf e → w.cell? ⟨b, off + (i * P.cellsOf e + j), none⟩ = cs'[j]? := fun j hj => by
      rw [← h4 j hj, addr, Nat.add_assoc]
     refine ⟨cs', h1, ?_, h2, h5⟩
     have hle : i * P.cellsOf e + P.cellsOf e ≤ len * P.cellsOf e := by rw [← Nat.succ_mul]; exact Nat.mul_le_mul_right _ hi
     apply List.ext_getElem?
     intro j
     rw [List.getElem?_take, List.getElem?_drop]
     split
     ·rename_i hj
      rw [hCS, List.getElem?_map, List.getElem?_range (by omega)]
      simp only [Option.map_some]
      rw [h5 j hj, List.getElem?_eq_getElem (by omega)]
      rfl
     ·rename_i hj
      rw [List.getElem?_eq_none (by omega)]
    obtain ⟨ys, y1, y2, y3, y4⟩ := rows_open (w := w) (P := P) (n := m) (cs := CS) (e := e) len (by omega) fun i hi => by
     obtain ⟨cs', _, q2, q3, _⟩ := seg i hi
     rw [q2]; exact q3
    rw [← hCl, List.take_length] at y1
    have hyl : ys.length = len * P.cellsOf e := by rw [y1.1, hCl]
    obtain ⟨k1, k2, k3⟩ := chunk_ok hz len ys (allOne_iff.2 y3) hyl
    have hcell : ∀ k y, ys[k]? = some y → ∃ v, CS[k]? = some v ∧ w.cell? ⟨b, off + k, none⟩ = some v ∧ VR (gAll w) y v := fun k y hk => by
     obtain ⟨v, q1, q2⟩ := y1.get hk
     refine ⟨v, q1, ?_, q2⟩
     have hk' : k < len * P.cellsOf e := by rw [← hyl]; exact (List.getElem?_eq_some_iff.1 hk).1
     have hlt : k / P.cellsOf e < len := Nat.div_lt_of_lt_mul (by rw [Nat.mul_comm]; exact hk')
     obtain ⟨cs', _, q4, _, q6⟩ := seg (k / P.cellsOf e) hlt
     have hmod := Nat.mod_lt k hz
     have := q6 (k % P.cellsOf e) hmod
     rw [Nat.mul_comm, Nat.div_add_mod] at this
     rw [this, ← q4, List.getElem?_take, if_pos hmod, List.getElem?_drop, Nat.mul_comm, Nat.div_add_mod]
     exact q1
    refine ⟨[.sl (chunk (P.cellsOf e) len ys) .unk], ?_, ?_, rfl, by simp [AV.one]⟩
    ·unfold Ty; rw [hu]
     exact .inr ⟨_, rfl, by rw [k1, ← hlen]; simpa using hwt.1, by rw [k1]; omega, chunk_ty hz len ys hyl y3 y4⟩
    ·refine VRs.cons ?_ VRs.nil
     have := VR.sl (g := gAll w) (xs := chunk (P.cellsOf e) len ys) (tl := .unk) (b := b) (o := off) (cap := cap) (sz := P.cellsOf e) (fun k => CS.getD k .nilIface) (by simp) k2 (by rw [k3]; exact y2) (by rw [k3]; exact y3) (by rw [k1]; exact hlc) (by simp)
      (fun k y hy => by
       rw [k3] at hy
       obtain ⟨v, q1, q2, _⟩ := hcell k y hy
       rw [List.getD_eq_getElem?_getD, q1]
       exact q2)
      (fun k y hy => by
       rw [k3] at hy
       obtain ⟨v, q1, _, q3⟩ := hcell k y hy
       rw [List.getD_eq_getElem?_getD, q1]
       exact q3)
     rw [k1] at this
     exact this
  ·rename_i fs hu
   simp only [Bool.and_eq_true] at h
   obtain ⟨ht, hfs⟩ := h
   obtain ⟨xs, n', _, hx, hl, hxl, hf⟩ := DataW.trod_struct hu hd
   have hd' : d = .agg (xs.map (·.1)) := congrArg Prod.fst hx
   subst hd'
   obtain ⟨ys, y1, y2, y3, _, y5⟩ := tiles_open (w := w) (P := P) (n := m) (cs := cs) fs.toList 0 (P.cellsOf t) ht (by omega) fun f hfm => by
    obtain ⟨i, hi⟩ := List.mem_iff_getElem?.1 hfm
    have hi' : fs[i]? = some f := by simpa using hi
    have hlt : i < fs.size := (Array.getElem?_eq_some_iff.1 hi').1
    have h1 := hf i f hi'
    rw [List.getElem?_eq_getElem (by omega)] at h1
    refine cells_open m sl f.type _ n' _ _ (List.all_eq_true.1 hfs f hfm) h1 ?_ fun q v hv => hs q v (List.mem_of_mem_drop (List.mem_of_mem_take hv))
    simp only [DataW.weights, hu] at hw
    have hz : (fs.toList.map (·.type))[i]? = some f.type := by rw [List.getElem?_map, hi]; rfl
    exact weightsEach_all _ _ hw i _ _ hz (by rw [List.getElem?_map, List.getElem?_eq_getElem (by omega)]; rfl)
   refine ⟨ys, ?_, ?_, y2, y3⟩
   ·unfold Ty; rw [hu]
    refine ⟨?_, fun f hf => ?_⟩
    ·rw [y1.1, List.drop_zero, List.length_take]; omega
    ·have := (y5 f hf).2
     rwa [Nat.sub_zero] at this
   ·rw [List.drop_zero, Nat.sub_zero, ← hl, List.take_length] at y1
    exact y1
  ·rename_i k e hu
   simp only [Bool.and_eq_true, beq_iff_eq] at h
   obtain ⟨hok, hsz⟩ := h
   obtain ⟨xs, n', _, hx, hl, hxl, hf⟩ := DataW.trod_array hu hd
   have hd' : d = .agg (xs.map (·.1)) := congrArg Prod.fst hx
   subst hd'
   obtain ⟨ys, y1, y2, y3, y4⟩ := rows_open (w := w) (P := P) (n := m) (cs := cs) (e := e) k (by omega) fun i hi => by
    have h1 := hf i hi
    rw [List.getElem?_eq_getElem (by omega)] at h1
    refine cells_open m sl e _ n' _ _ hok h1 ?_ fun q v hv => hs q v (List.mem_of_mem_drop (List.mem_of_mem_take hv))
    simp only [DataW.weights, hu] at hw
    exact weightsAll_all _ hw _ (List.mem_map.2 ⟨xs[i], List.getElem_mem _, rfl⟩)
   refine ⟨ys, ?_, ?_, y2, y3⟩
   ·unfold Ty; rw [hu]
    exact ⟨by rw [y1.1, List.length_take]; omega, y4⟩
   ·rw [← hsz, ← hl, List.take_length] at y1
    exact y1
  ·cases h
end
end Go.Tm
end
section
namespace Go.Tm
open Go.ChangeShapes Go.RowKit

structure Opened (w : World) (P : Program) (m : Nat) (t : TypeId) (x : AV) (v : Value) (R : Nat := reachBytes) : Prop where
 ty : Ty P m t x.cells R
 vr : VR (gAll w) x v
 closed : x.closed = true
 shape : match P.underlying t with
  | some (.struct _) | some (.array _ _) => x = .agg x.cells
  | _ => x.cells = [x]

theorem cell_unspot {P : Program} {w : World} {r : Reach} {base : Nat} {u : TypeId} {v : Value} (h : Cell.okWide P w r base u v) : Unspot v := by
 unfold Cell.okWide at h
 cases v with
 | slice a len cap =>
  cases a with
  | none => trivial
  | some a =>
   show a.spot = none
   have h' : Cell.ok P w r base u (.slice (some a) len cap) := by
    split at h <;> simp_all
   unfold Cell.ok at h'
   split at h' <;> simp_all
   exact h'.2.2.2.1
 | _ => trivial

theorem value_open {H : Type} {enc : TypeId × Value → H} {P : Program} {R : Nat} {W : World} {r : Reach} {base : Nat} {sp : Nat → Bool} {held : Bool} {t : TypeId} {v : Value} {d : DataW H} {ps : List MemPlace} {m : Nat} (hok : okF P true m t = true) (hval : Value.okWide P W r base t v) (hd : DataW.Trod enc P W 0 sp held t v d ps) (hw : (d.weights P t).all (· ≤ R) = true) :
  ∃ x, Opened W P m t x v R := by
 obtain ⟨n, hd⟩ := hd
 have fin : ∀ (agg : Bool), (match P.underlying t with | some (.struct _) | some (.array _ _) => agg = true | _ => agg = false) → (agg = true → ∃ cs, v = .agg cs) → (agg = false → v.cells = #[v]) → (∀ v' ∈ v.cells.toList, Unspot v') → ∃ x, Opened W P m t x v R := fun agg ha h1 h2 hs => by
  obtain ⟨xs, hx⟩ := cells_open (w := W) m true t v.cells.toList n d ps hok hd hw fun _ => hs
  cases agg with
  | true =>
   obtain ⟨cs, rfl⟩ := h1 rfl
   refine ⟨.agg xs, hx.ty, ?_, hx.closed, ?_⟩
   ·exact .agg hx.vr.1 hx.vr.2
   ·split <;> simp_all <;> rfl
  | false =>
   have hc := h2 rfl
   have hv := hx.vr
   rw [hc] at hv
   obtain ⟨x, rfl⟩ := List.length_eq_one_iff.1 hv.1
   have h1 := hx.one x (by simp)
   have hcell : x.cells = [x] := by cases x <;> first | rfl | (simp [AV.one] at h1)
   refine ⟨x, by rw [hcell]; exact hx.ty, hv.2 0 x v rfl rfl, ?_, ?_⟩
   ·have := hx.closed
    simpa [AV.closedL] using this
   ·split <;> simp_all
 unfold Value.okWide at hval
 split at hval
 ·rename_i fs hu
  obtain ⟨cs, rfl, _, ts, _, _, hrow⟩ := hval
  refine fin true (by rw [hu]) (fun _ => ⟨cs, rfl⟩) (fun h => by cases h) fun v' hv' => ?_
  obtain ⟨i, hi⟩ := List.mem_iff_getElem?.1 hv'
  obtain ⟨u, _, hu⟩ := hrow i v' (by simpa [Value.cells] using hi)
  exact cell_unspot hu
 ·rename_i k e hu
  obtain ⟨cs, rfl, _, ts, _, _, hrow⟩ := hval
  refine fin true (by rw [hu]) (fun _ => ⟨cs, rfl⟩) (fun h => by cases h) fun v' hv' => ?_
  obtain ⟨i, hi⟩ := List.mem_iff_getElem?.1 hv'
  obtain ⟨u, _, hu⟩ := hrow i v' (by simpa [Value.cells] using hi)
  exact cell_unspot hu
 ·rename_i h1 h2
  have hva : v.cells = #[v] := by
   cases v with
   | agg cs =>
    exfalso
    unfold Cell.okWide at hval
    split at hval <;> first | (rename_i he _; cases he) | skip
    all_goals (try (rename_i h; cases h))
    unfold Cell.ok at hval
    split at hval <;> simp_all
   | _ => rfl
  refine fin false ?_ (fun h => by cases h) (fun _ => hva) fun v' hv' => ?_
  ·split <;> simp_all
  ·rw [hva] at hv'
   obtain rfl : v' = v := by simpa using hv'
   exact cell_unspot hval

theorem calls_of_tells {K : Cfg} (hk : CfgOk K) {f : FuncId} {fn : Func} {args : List AV} {Q : AV → List AB → Prop} (h : Tells K f args [] Q) {w : World} (hg : Glob K (gAll w)) {rargs : List Value} (hv : VRs (gAll w) args rargs) (hf : K.P.funcs[f]? = some fn) (hb : fn.body.isSome = true) :
  Calls K.P f ⟨rargs⟩ w fun e w' => ∃ v, e = .returned v ∧ (∃ g' r H', VR g' r v ∧ Q r H') ∧ Kept false w (fun _ => False) w' := by
 obtain ⟨⟨r, H'⟩, N, h1, h2⟩ := h
 have h1 := h1 N (Nat.le_refl _)
 have hlive : Live (gAll w) [] = fun _ => False := by
  funext rb
  simp [Live]
 have hs : SW ⟨w, Live (gAll w) [], gAll w⟩ (gAll w) noTok [] w :=
  ⟨fun b o v q => q, by simp [gAll], by simp, by simp, by simp [noTok], by simp [noTok], .refl _ w _, fun _ _ _ _ _ q => q, .refl _⟩
 have hok := call_ok hk N f args [] [] [] r H' ⟨[], h1, by simp⟩ (gAll w) w rargs hg hs hv
 have henter : (callFunc f ⟨rargs⟩).run K.P w = .ok (.enter f ⟨rargs⟩) w := by
  have hn := hk.names f fn hf hb
  simp only [callFunc, Sem.run_bind, run_program, Result.andThen_ok, hf]
  rw [if_neg (by rw [hn]; simp), if_neg (by cases hq : fn.body with | none => rw [hq] at hb; cases hb | some c => simp)]
  rfl
 rcases hok with ⟨_, h3⟩ | ⟨v, w', h3, _⟩
 ·refine h3.mono fun e w' q => ?_
  cases e with
  | returned v =>
   obtain ⟨g', q1, q2⟩ := q
   refine ⟨v, rfl, ⟨g', r, H', q2, h2⟩, ?_⟩
   have := q1.kept
   rw [hlive] at this
   exact this
  | panicked => exact q.elim
  | outgrown => exact q.elim
 ·rw [henter] at h3; cases h3

theorem kept_below {W W' : World} (h : Kept false W (fun _ => False) W') : Below W.heap.size W W' := ⟨h.os, h.tape, h.output, h.size, fun k hk => h.block k hk (fun q => q)⟩

theorem args_again {H : Type} {enc : TypeId × Value → H} {P : Program} {W W' : World} (hl : laidOutB P = true) (hb : Below W.heap.size W W') : ∀ {ts : List TypeId} {vs : List Value} {ds : List (DataW H)} {ps : List MemPlace}, (∀ t ∈ ts, P.readableRec t = true ∧ t < P.types.size) → DataW.TrodAll enc P W 0 (fun _ => true) true ts vs ds ps → DataW.TrodAll enc P W' 0 (fun b => decide (b < W.heap.size)) true ts vs ds ps
 | [], [], [], _, _, h => h
 | t :: ts, v :: vs, d :: ds, _, ht, ⟨p, q, h1, h2, e⟩ => by
  have hlt := DataW.TrodAll.lt (ts := [t]) (vs := [v]) (ds := [d]) (ps := p) ⟨p, [], h1, rfl, by simp⟩
  refine ⟨p, q, ?_, args_again hl hb (fun t h => ht t (by simp [h])) h2, e⟩
  exact WideElems.Trod_stays hl (ht t (by simp)).1 (ht t (by simp)).2 h1 (fun x hx => hb.same (hlt x hx)) (fun x hx => by simpa using hlt x hx)
end Go.Tm
end
