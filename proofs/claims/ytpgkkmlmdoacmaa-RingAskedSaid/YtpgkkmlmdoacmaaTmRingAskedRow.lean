/- RingAsked: the contract, in every world. -/
import Derived.Test.YtpgkkmlmdoacmaaTmRingRow
import Derived.Test.YtpgkkmlmdoacmaaTmRingLaw
set_option linter.unusedVariables false
set_option linter.unusedSimpArgs false
set_option linter.unusedSectionVars false
namespace Go.Proofs.Ytpgkkmlmdoacmaa.ringAsked
open Go.Proofs Go.ChangeShapes Go.RowKit Go.Tm
theorem fields37 : ∃ fs, Try.prog.underlying 37 = some (.struct fs) ∧ fs.toList.map (fun f => (f.type, f.offset)) = [(3, 0), (3, 1), (24, 2)] ∧ Try.prog.cellsOf 37 = 3 := by
  refine ⟨_, Try.underlying37, ?_, by kernel_rfl⟩
  rfl
theorem cells24 : Try.prog.cellsOf 24 = 1 := by kernel_rfl
theorem ty37 {n : Nat} {x : AV} {v : Value} {w : World} (h : Opened w Try.prog (n + 3) 37 x v) : ∃ (p q : Int) (l : List Int) (tl : Tail), x = .agg [i64 p, i64 q, .sl (l.map i64) tl] ∧ tl.un = tl ∧ l.length * 8 ≤ reachBytes := by
  obtain ⟨fs, hu, hf, hc⟩ := fields37
  have hty := h.ty
  have hs := h.shape
  unfold Ty at hty
  rw [hu] at hty hs
  simp only at hs
  obtain ⟨hl, hi⟩ := hty
  rw [hc] at hl
  have get : ∀ t o, (t, o) ∈ fs.toList.map (fun f => (f.type, f.offset)) → Ty Try.prog (n + 2) t ((x.cells.drop o).take (Try.prog.cellsOf t)) := fun t o q => by
    obtain ⟨f, hf, e⟩ := List.mem_map.1 q
    cases e
    exact hi f hf
  rw [hf] at get
  generalize x.cells = cs at *
  obtain ⟨a, b, c, rfl⟩ : ∃ a b c, cs = [a, b, c] := by
    match cs, hl with
    | [a, b, c], _ => exact ⟨a, b, c, rfl⟩
  obtain ⟨p, hp, _⟩ := ty3 (get 3 0 (by simp))
  obtain ⟨q, hq, _⟩ := ty3 (get 3 1 (by simp))
  obtain ⟨l, tl, h1, h2, h3, _⟩ := ty24c (get 24 2 (by simp))
  rw [cells3] at hp hq
  rw [cells24] at h1
  simp at hp hq h1
  exact ⟨p, q, l, tl, by rw [hs, hp, hq, h1], h2, h3⟩
theorem contract (H : Type) (enc : TypeId × Value → H) (W : World) (base : Nat) (args : Array Value) (ds gs : List (DataW H)) (before : List MemPlace)
    (hval : ∀ (j : Nat) t v, Try.f5.params[j]? = some t → args[j]? = some v → Value.okWide Try.prog W .any base t v)
    (hW : DataW.Whole enc Try.prog Try.f5.params.toList Rows.ringAskedSpec.vars false W args.toList ds gs before)
    (hsz : (DataW.weightsEach Try.prog (Try.f5.params.toList ++ (OpenSpec.ofChange Rows.ringAskedSpec).bare.plain.varTypes Try.prog) (ds ++ gs)).all (· ≤ reachBytes) = true) :
    Calls Try.prog 5 args W fun e W' => ∃ v, e = .returned v ∧ Rows.ringAskedSpec.post enc Try.prog Try.f5 false true false false W args v W' := by
  have hW' := hW
  obtain ⟨p, q, hA0, hV, rfl, hfz, hnd⟩ := hW
  have hA : DataW.TrodAll enc Try.prog W 0 (fun _ => true) true Try.f5.params.toList args.toList ds p := hA0
  obtain ⟨rfl, rfl⟩ := trodVars_none hV
  rw [Try.params5] at hA hval hsz
  obtain ⟨v0, v1, d0, d1, p0, p1, hargs, rfl, rfl, h0, h1⟩ := trodAll_two hA
  have hsz' := fun i t d => weightsEach_all (P := Try.prog) _ _ hsz i t d
  obtain ⟨x0, o0⟩ := value_open (m := 4) (by kernel_rfl) (hval 0 23 v0 rfl (by rw [hargs]; rfl)) h0 (hsz' 0 23 d0 rfl rfl)
  obtain ⟨x1, o1⟩ := value_open (m := 4) (by kernel_rfl) (hval 1 37 v1 rfl (by rw [hargs]; rfl)) h1 (hsz' 1 37 d1 rfl rfl)
  obtain ⟨o, ho, rfl⟩ := ty23 o0
  obtain ⟨a, b, l, tl, rfl, htl, hl⟩ := ty37 o1
  have hl' : l.length < 2 ^ 62 := by
    have : reachBytes = 140737488351232 := rfl
    omega
  subst hargs
  refine (calls_of_tells kz_ok (law_tells o ho a b l tl htl hl' []) (kz_glob W) (VRs.cons o0.vr (VRs.cons o1.vr VRs.nil)) (fn := Try.f5) Try.func5 (by kernel_rfl)).mono ?_
  rintro e W' ⟨v, rfl, ⟨g', r, H', hvr, rfl, _⟩, hk⟩
  cases hvr
  refine ⟨_, rfl, ?_⟩
  have bel := kept_below hk
  refine ⟨_, _, _, [], _, [], hW', trodAll_cons_mk (shut_bool Try.underlying4 _) trodAll_mk0, args_again (by kernel_rfl) bel ?_ hA, rfl, bel.frame _, fun h => by cases h⟩
  intro t ht
  simp at ht
  rcases ht with rfl | rfl
  · exact ⟨by kernel_rfl, Nat.le_of_ble_eq_true (by kernel_rfl)⟩
  · exact ⟨by kernel_rfl, Nat.le_of_ble_eq_true (by kernel_rfl)⟩
end Go.Proofs.Ytpgkkmlmdoacmaa.ringAsked
