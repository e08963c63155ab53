/- The tree machine: from an evaluation to what a call does, in any world that holds the package-level variables that are read. -/
import Derived.Test.YtfihfpgphipglaaGreatDoorTmLib
set_option linter.unusedVariables false
set_option linter.unusedSimpArgs false
set_option linter.unusedSectionVars false
namespace Go.Tm

/-- The ghost of a world in which only these cells are known: of the variables that are read, and of those that hold some int. -/
def ghostOf (w : World) (gs : List (Nat × Nat)) : Gh := ⟨fun b o => if gs.contains (b, o) then w.cell? ⟨b, o, none⟩ else none, fun _ => none, fun _ => 0⟩

theorem calls_of_run {K : Cfg} (hk : CfgOk K) {n : Nat} {f : FuncId} {fn : Func} {args : List AV} {r : AV} {p p' : List Bool} (h : aCall K n f args [] p = some ((r, []), [], p')) {w : World} (gs : List (Nat × Nat)) (hg : Glob K (ghostOf w gs)) {rargs : List Value} (hv : VRs (ghostOf w gs) args rargs)
    (hf : K.P.funcs[f]? = some fn) (hb : fn.body.isSome = true) : Calls K.P f ⟨rargs⟩ w fun e w' => ∃ v, e = .returned v ∧ (∃ g', VR g' r v) ∧ Kept w (fun _ => False) w' := by
  have hlive : Live (ghostOf w gs) [] = fun _ => False := by
    funext rb
    simp [Live]
  have himm : ∀ b o v, (ghostOf w gs).I b o = some v → w.cell? ⟨b, o, none⟩ = some v := fun b o v q => by
    simp only [ghostOf] at q
    split at q
    · exact q
    · simp at q
  have hs : SW ⟨w, Live (ghostOf w gs) [], ghostOf w gs⟩ (ghostOf w gs) noTok [] w :=
    ⟨himm, by simp [ghostOf], by simp, by simp, by simp [noTok], by simp [noTok], .refl w _, fun _ _ _ _ _ q => q, .refl _⟩
  have hok := call_ok hk n f args [] p p' r [] ⟨[], h, by simp⟩ (ghostOf w gs) w rargs hg hs hv
  have henter : (callFunc f ⟨rargs⟩).run K.P w = .ok (.enter f ⟨rargs⟩) w := by
    have hn := hk.names f fn hf hb
    simp only [callFunc, Sem.run_bind, run_program, Result.andThen_ok, hf]
    rw [if_neg (by rw [hn]; simp), if_neg (by cases hq : fn.body with | none => rw [hq] at hb; cases hb | some c => simp)]
    rfl
  rcases hok with ⟨_, h2⟩ | ⟨v, w', h2, _⟩
  · refine h2.mono fun e w' q => ?_
    cases e with
    | returned v =>
      obtain ⟨g', q1, q2⟩ := q
      refine ⟨v, rfl, ⟨g', q2⟩, ?_⟩
      have := q1.kept
      rw [hlive] at this
      exact this
    | panicked => exact q.elim
    | outgrown => exact q.elim
  · rw [henter] at h2; cases h2

/-- Cells of a variable, as it is read. -/
theorem glob_cells {w : World} {gs : List (Nat × Nat)} {i : Nat} {cs : List Value} (hflat : ∀ v ∈ cs, flat v = true) (hgs : ∀ k, k < cs.length → gs.contains (i, k) = true) (hc : ∀ k (v : Value), cs[k]? = some v → w.cell? ⟨i, k, none⟩ = some v) :
    VR (ghostOf w gs) (.rp (cs.map AV.v)) (.pointer (some ⟨i, 0, none⟩)) := by
  have get : ∀ (k : Nat) (y : AV), (cs.map AV.v)[k]? = some y → ∃ v, cs[k]? = some v ∧ y = .v v ∧ flat v = true := fun k y hy => by
    simp only [List.getElem?_map, Option.map_eq_some_iff] at hy
    obtain ⟨v, hv, rfl⟩ := hy
    exact ⟨v, hv, rfl, hflat v (List.mem_of_getElem? hv)⟩
  refine .rp (fun k => cs.getD k .nilIface) ?_ ?_ (fun k y hy => ?_) (fun k y hy => ?_)
  · rw [closedL_iff]; intro x hx; simp at hx; obtain ⟨_, _, rfl⟩ := hx; rfl
  · intro x hx; simp at hx; obtain ⟨_, _, rfl⟩ := hx; rfl
  · obtain ⟨v, hv, rfl, _⟩ := get k y hy
    have hlt : k < cs.length := (List.getElem?_eq_some_iff.1 hv).1
    simp only [ghostOf, Nat.zero_add]
    rw [if_pos (hgs k hlt), hc k v hv, List.getD_eq_getElem?_getD, hv]; rfl
  · obtain ⟨v, hv, rfl, hfl⟩ := get k y hy
    rw [List.getD_eq_getElem?_getD, hv]
    exact .v hfl
end Go.Tm
