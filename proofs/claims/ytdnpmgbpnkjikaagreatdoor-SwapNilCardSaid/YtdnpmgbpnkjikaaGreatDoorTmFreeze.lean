/- The tree machine: a call that only reads what its arguments lead to: run over what they hold just now. -/
import Derived.Test.YtdnpmgbpnkjikaaGreatDoorTmCut
import Derived.Test.YtdnpmgbpnkjikaaGreatDoorTmCollect
set_option linter.unusedVariables false
set_option linter.unusedSimpArgs false
set_option linter.unusedSectionVars false
namespace Go.Tm

theorem bareL_mem : ∀ {l : List AV}, AV.bareL l = true → ∀ {i : Nat} {x : AV}, l[i]? = some x → x.bare = true
  | [], _, i, x, h => by simp at h
  | y :: r, h, i, x, hi => by
    simp only [AV.bareL, Bool.and_eq_true] at h
    cases i with
    | zero => simp at hi; subst hi; exact h.1
    | succ i => exact bareL_mem h.2 (by simpa using hi)
theorem VR.ofBare {g h : Gh} {x : AV} {r : Value} (k : VR g x r) : x.bare = true → VR h x r := by
  induction k with
  | v h => intro _; exact .v h
  | str => intro _; exact .str
  | agg hl _ ih => intro q; simp only [AV.bare] at q; exact .agg hl fun i x r a b => ih i x r a b (bareL_mem q a)
  | tup hl _ ih => intro q; simp only [AV.bare] at q; exact .tup hl fun i x r a b => ih i x r a b (bareL_mem q a)
  | nil => intro _; exact .nil
  | @sl xs tl b o cap sz rs ht hs hc h1 hn hf hi _ ih =>
    intro q
    exfalso
    cases xs with
    | nil => cases tl <;> first | exact ht rfl | (simp [AV.bare] at q; done)
    | cons y l => simp [AV.bare] at q
  | ms hb hn => intro q; simp [AV.bare] at q
  | ptr hb => intro q; simp [AV.bare] at q
  | rp rs hc h1 hi _ ih => intro q; simp [AV.bare] at q
  | map hb => intro q; simp [AV.bare] at q
  | iface _ ih => intro q; simp only [AV.bare] at q; exact .iface (ih q)
  | func l1 l2 _ _ i1 i2 => intro q; simp [AV.bare] at q

open Classical in
/-- The ghost in which the blocks that live are held for unchangeable. -/
noncomputable def froz (g : Gh) (H : List AB) (w : World) : Gh :=
  ⟨fun b o => if ∃ k A, H[k]? = some A ∧ A.live = true ∧ g.ρ k = some b then w.cell? ⟨b, o, none⟩ else g.I b o, fun _ => none, g.N⟩

theorem CallOk.freeze {K : Cfg} {f : FuncId} {args args1 : List AV} {H : List AB} {r : AV} {n : Nat} (hm : mapO (snap H n) args = some args1) (hr : r.bare = true) (h : CallOk K f args1 [] r []) : CallOk K f args H r H := by
  intro g w rargs hg hs hv
  have hI : ∀ b o v, g.I b o = some v → (froz g H w).I b o = some v := fun b o v q => by
    simp only [froz]
    split
    · rename_i hl
      obtain ⟨k, A, hk, hlv, hρ⟩ := hl
      obtain ⟨rb, oo, h1, _, _, _, h5, _⟩ := hs.blk k A hk hlv
      rw [hρ] at h1
      cases h1
      rw [h5 o] at q; cases q
    · exact q
  have hnew : ∀ k A rb, H[k]? = some A → A.live = true → g.ρ k = some rb → ∀ i v, w.cell? ⟨rb, i, none⟩ = some v → (froz g H w).I rb i = some v := fun k A rb hk hl hρ i v q => by
    simp only [froz]
    rw [if_pos ⟨k, A, hk, hl, hρ⟩]
    exact q
  have himm : ∀ b o v, (froz g H w).I b o = some v → w.cell? ⟨b, o, none⟩ = some v := fun b o v q => by
    simp only [froz] at q
    split at q
    · exact q
    · exact hs.imm b o v q
  have hs1 : SW ⟨w, Live (froz g H w) [], froz g H w⟩ (froz g H w) noTok [] w :=
    ⟨himm, by simp [froz], by simp, by simp, by simp [noTok], by simp [noTok], .refl w _, fun _ _ _ _ _ q => q, .refl _⟩
  have hv1 : VRs (froz g H w) args1 rargs := by
    refine ⟨by rw [mapO_len hm]; exact hv.1, fun i y r q1 q2 => ?_⟩
    have hi : i < args.length := by rw [hv.1]; exact (List.getElem?_eq_some_iff.1 q2).1
    obtain ⟨z, hz, hw⟩ := mapO_get hm i args[i] (List.getElem?_eq_getElem hi)
    rw [q1] at hw; cases hw
    exact snap_ok hs hI hnew n (hv.2 i _ r (List.getElem?_eq_getElem hi) q2) hz
  have hg1 : Glob K (froz g H w) := ⟨fun i cs q => (hg.gl i cs q).closed hI rfl, fun i q => let ⟨m, hm⟩ := hg.ints i q; ⟨m, hI _ _ _ hm⟩⟩
  refine (h (froz g H w) w rargs hg1 hs1 hv1).mono fun v w' ⟨g', h1, h2⟩ => ⟨g, hs.below ?_, h2.ofBare hr⟩
  have hk := h1.kept
  exact ⟨hk.os, hk.tape, hk.output, hk.size, fun b hb => hk.block b hb fun ⟨k, A, q, _⟩ => by simp at q⟩

/-- A call run over what its arguments hold. -/
noncomputable def toldFrozen (K : Cfg) (n : Nat) (f : FuncId) (args : List AV) (H : List AB) : Option (AV × List AB) :=
  match mapO (snap H 1) args with
  | none => none
  | some args1 => match callF K n f args1 [] with
    | none => none
    | some x => match x.1.bare with
      | false => none
      | true => match x.2 with
        | [] => some (x.1, H)
        | _ :: _ => none
theorem frozen_told {K : Cfg} (hk : CfgOk K) (hs : K.sym = false) (har : K.ar = Ar.real) {n : Nat} {f : FuncId} {args : List AV} {H H' : List AB} {r : AV} (h : toldFrozen K n f args H = some (r, H')) : CallOk K f args H r H' := by
  unfold toldFrozen at h
  cases hm : mapO (snap H 1) args with
  | none => simp [hm] at h
  | some args1 =>
    simp only [hm] at h
    cases hx : callF K n f args1 [] with
    | none => simp [hx] at h
    | some x =>
      obtain ⟨v, H1⟩ := x
      simp only [hx] at h
      cases hb : v.bare with
      | false => simp [hb] at h
      | true =>
        simp only [hb] at h
        cases H1 with
        | cons _ _ => simp at h
        | nil =>
          simp only [Option.some.injEq, Prod.mk.injEq] at h
          obtain ⟨rfl, rfl⟩ := h
          exact CallOk.freeze hm hb (callOk_run hk hs har hx)
end Go.Tm
