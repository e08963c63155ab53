/- The tree machine: code. -/
import Derived.Test.YtdnpmgbpnkjikaaGreatDoorTmS20
set_option linter.unusedVariables false
set_option linter.unusedSimpArgs false
set_option linter.unusedSectionVars false
namespace Go.Tm

def ax : AX → Exit
  | .normal => .normal
  | .exit i => .exit i
  | .ret => .ret

section
variable {K : Cfg} {f : FuncId} {call : Orc} {F : Fr}

theorem iter_ok {c : Code} {body : St → E (AX × St)} (hb : ∀ {s s' : St} {e : AX} {p p' : List Bool}, Ok (body s) p (e, s') p' → ∀ (a : Act) (w : World), Rel F s a w → ∀ Q : Exit → Act → World → Prop, (∀ a' w', Rel F s' a' w' → Q (ax e) a' w') → c.wp K.P Q a w) :
    ∀ (k : Nat) {s s' : St} {e : AX} {p p' : List Bool}, Ok (iter body k s) p (e, s') p' → ∀ (a : Act) (w : World), Rel F s a w → ∀ Q : Exit → Act → World → Prop, (∀ a' w', Rel F s' a' w' → Q (ax e) a' w') → Code.rounds K.P c Q k a w
  | 0, s, s', e, p, p', h, _, _, _, _, _ => absurd h Ok_fail
  | k + 1, s, s', e, p, p', h, a, w, hR, Q, hQ => by
    simp only [iter] at h
    rw [Ok_bind] at h
    obtain ⟨⟨e1, s1⟩, p1, h1, h2⟩ := h
    rw [rounds_succ]
    refine hb h1 a w hR _ fun a' w' hR' => ?_
    cases e1 with
    | normal => exact iter_ok hb k h2 a' w' hR' Q hQ
    | exit i =>
      simp only at h2
      rw [Ok_pure] at h2
      obtain ⟨h2, _⟩ := h2
      cases h2
      exact hQ a' w' hR'
    | ret =>
      simp only at h2
      rw [Ok_pure] at h2
      obtain ⟨h2, _⟩ := h2
      cases h2
      exact hQ a' w' hR'

theorem code_ok (hc : OrcOk K call) (hp : OrcPure K call) (hm : K.P.follows .mixedOrders = true) (hg : Glob K F.g0) (k : Nat) : ∀ (c : Code) {s s' : St} {e : AX} {p p' : List Bool}, Ok (aCode K call f k c s) p (e, s') p' →
    ∀ (a : Act) (w : World), Rel F s a w → ∀ Q : Exit → Act → World → Prop, (∀ a' w', Rel F s' a' w' → Q (ax e) a' w') → c.wp K.P Q a w := by
  intro c
  induction c with
  | skip =>
    intro s s' e p p' h a w hR Q hQ
    simp only [aCode] at h
    rw [Ok_pure] at h
    obtain ⟨h, _⟩ := h
    cases h
    exact wp_skip (hQ a w hR)
  | region id ops draw =>
    intro s s' e p p' h a w hR Q hQ
    cases draw with
    | false =>
      simp only [aCode] at h
      rw [Ok_bind] at h
      obtain ⟨s1, p1, h1, h2⟩ := h
      rw [Ok_pure] at h2
      obtain ⟨h2, _⟩ := h2
      cases h2
      exact wp_region_list (aList_ok hg hc hR h1 hQ)
    | true =>
      simp only [aCode] at h
      rw [Ok_bind] at h
      obtain ⟨s1, p1, h1, h2⟩ := h
      rw [Ok_pure] at h2
      obtain ⟨h2, _⟩ := h2
      cases h2
      exact drawn_ok hc hp hm hg hR h1 hQ
  | seq x y ihx ihy =>
    intro s s' e p p' h a w hR Q hQ
    simp only [aCode] at h
    rw [Ok_bind] at h
    obtain ⟨⟨e1, s1⟩, p1, h1, h2⟩ := h
    refine wp_seq (ihx h1 a w hR _ fun a' w' hR' => ?_)
    cases e1 with
    | normal => exact ihy h2 a' w' hR' Q hQ
    | exit i =>
      simp only at h2
      rw [Ok_pure] at h2
      obtain ⟨h2, _⟩ := h2
      cases h2
      exact hQ a' w' hR'
    | ret =>
      simp only at h2
      rw [Ok_pure] at h2
      obtain ⟨h2, _⟩ := h2
      cases h2
      exact hQ a' w' hR'
  | cond c x y ihx ihy =>
    intro s s' e p p' h a w hR Q hQ
    simp only [aCode] at h
    split at h
    · rename_i t ht
      rw [Ok_bind] at h
      obtain ⟨b, p1, h1, h2⟩ := h
      have hb := Ok_branch h1
      subst hb
      obtain ⟨hd, g, κ, hs, hr⟩ := hR
      have hv := (evalO_RV (hg.mono hs.le) hr ht).1
      obtain ⟨hv', _⟩ := vr_v hv
      refine wp_cond hv'.symm ?_
      cases b with
      | true =>
        simp only [if_true] at h2 ⊢
        exact ihx h2 a w ⟨hd, g, κ, hs, hr⟩ Q hQ
      | false =>
        simp only [Bool.false_eq_true, if_false] at h2 ⊢
        exact ihy h2 a w ⟨hd, g, κ, hs, hr⟩ Q hQ
    · exact absurd h Ok_fail
  | block id c ih =>
    intro s s' e p p' h a w hR Q hQ
    simp only [aCode] at h
    rw [Ok_bind] at h
    obtain ⟨⟨e1, s1⟩, p1, h1, h2⟩ := h
    refine wp_block (ih h1 a w hR _ fun a' w' hR' => ?_)
    cases e1 with
    | exit i =>
      simp only at h2
      simp only [ax, Exit.inBlock]
      split at h2
      · rename_i hi
        rw [Ok_pure] at h2
        obtain ⟨h2, _⟩ := h2
        cases h2
        rw [if_pos hi]
        exact hQ a' w' hR'
      · rename_i hi
        rw [Ok_pure] at h2
        obtain ⟨h2, _⟩ := h2
        cases h2
        rw [if_neg hi]
        exact hQ a' w' hR'
    | normal =>
      simp only at h2
      rw [Ok_pure] at h2
      obtain ⟨h2, _⟩ := h2
      cases h2
      exact hQ a' w' hR'
    | ret =>
      simp only at h2
      rw [Ok_pure] at h2
      obtain ⟨h2, _⟩ := h2
      cases h2
      exact hQ a' w' hR'
  | loop c ih =>
    intro s s' e p p' h a w hR Q hQ
    simp only [aCode] at h
    exact wp_loop_rounds k (iter_ok (fun h a w hR Q hQ => ih h a w hR Q hQ) k h a w hR Q hQ)
  | exit id =>
    intro s s' e p p' h a w hR Q hQ
    simp only [aCode] at h
    rw [Ok_pure] at h
    obtain ⟨h, _⟩ := h
    cases h
    exact wp_exit (hQ a w hR)
  | ret =>
    intro s s' e p p' h a w hR Q hQ
    simp only [aCode] at h
    rw [Ok_pure] at h
    obtain ⟨h, _⟩ := h
    cases h
    exact wp_ret (hQ a w hR)
  | _ =>
    intro s s' e p p' h
    simp only [aCode] at h
    exact absurd h Ok_fail
end
end Go.Tm
