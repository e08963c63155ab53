/- The tree machine: a call that leaves a new variable of one piece leaves it as a tree of pieces. -/
import Derived.Test.YtdnpmgbpnkjikaaGreatDoorTmCut
set_option linter.unusedVariables false
set_option linter.unusedSimpArgs false
set_option linter.unusedSectionVars false
namespace Go.Tm
theorem CallOk.rope {K : Cfg} {f : FuncId} {args : List AV} {H : List AB} {r : AV} {t : TypeId} {cs : List AV} {n : Nat} {bt : BT} (h : CallOk K f args H r (H ++ [.cells (t, true) cs])) (hcs : bt.toL = cs) (hn : bt.toL.length = n) (hw : bt.wf = true) : CallOk K f args H r (H ++ [.rope (t, true) n bt]) :=
  fun g w rargs hg hs hv => (h g w rargs hg hs hv).mono fun _ _ ⟨g', h1, h2⟩ => by
    refine ⟨g', ?_, h2⟩
    have hk : (H ++ [AB.cells (t, true) cs])[H.length]? = some (.cells (t, true) cs) := by simp
    have := h1.swap (A' := .rope (t, true) n bt) hk rfl fun o q => BRo.rope (by rw [hcs]; exact q) hn hw
    have e : setAt (H ++ [AB.cells (t, true) cs]) H.length (.rope (t, true) n bt) = H ++ [.rope (t, true) n bt] := by
      rw [setAt_eq]; simp
    rwa [e] at this
/-- A new variable in pieces. -/
def toldRope (t : TypeId) (n : Nat) (bt : BT) (args : List AV) (H : List AB) : Option (AV × List AB) :=
  match args with
  | [] => some (.ptr H.length 0, H ++ [.rope (t, true) n bt])
  | _ => none
theorem rope_told {K : Cfg} (hk : CfgOk K) (hs : K.sym = false) (har : K.ar = Ar.real) {f : FuncId} {t : TypeId} {n m : Nat} {bt : BT} {z : AV} (hz : tZero K.P t = some z) (hb : bigOk K.P t n bt = true) (hrun : ∀ H, callF K m f [] H = some (.ptr H.length 0, H ++ [.cells (t, true) (match tZero K.P t with | some z => z.cells | none => [])])) {args : List AV} {H H' : List AB} {r : AV} (h : toldRope t n bt args H = some (r, H')) : CallOk K f args H r H' := by
  cases args with
  | cons a b => cases h
  | nil =>
    obtain ⟨rfl, rfl⟩ : AV.ptr H.length 0 = r ∧ H ++ [AB.rope (t, true) n bt] = H' := by simpa [toldRope] using h
    obtain ⟨b1, b2, b3⟩ := bigOk_eq hz hb
    have hr := hrun H
    rw [hz] at hr
    exact (call_ok hk m f [] H [] [] _ _ ⟨[], callF_ok hs har m f [] H _ hr, by simp⟩ : CallOk K f [] H _ _).rope b3 b1 b2
end Go.Tm
