/- RingMoves: where a ring is balanced, and one more member comes, only partitions move that go to it; and where one goes, only those that were its own: for every input the law tells true and leaves the input as it was; no condition. -/
import Derived.Test.YtpgkkmlmdoacmaaRingRow
import Derived.Test.YtpgkkmlmdoacmaaRgMoves
set_option linter.unusedVariables false
set_option linter.unusedSimpArgs false
set_option linter.unusedSectionVars false
namespace Go.Proofs.Ytpgkkmlmdoacmaa.ringMoves
open Go.Proofs Go.ChangeShapes Go.RowKit Go.Tm Go.WideShapes Go.ChangeAt
theorem ty3o {n : Nat} {x : AV} {v : Value} {w : World} (h : Opened w Try.prog (n + 1) 3 x v) : ∃ z : Int, x = i64 z := by
  have hs := h.shape
  rw [Try.underlying3] at hs
  simp only at hs
  obtain ⟨z, hz, _⟩ := ty3 h.ty
  rw [hs] at hz
  exact ⟨z, by simpa using hz⟩
theorem contract (H : Type) (enc : TypeId × Value → H) (W : World) (base : Nat) (args : Array Value) (ds gs : List (DataW H)) (before : List MemPlace)
    (hval : ∀ (j : Nat) t v, Try.f6.params[j]? = some t → args[j]? = some v → Value.okWide Try.prog W .any base t v)
    (hW : DataW.Whole enc Try.prog Try.f6.params.toList Rows.ringMovesSpec.vars false W args.toList ds gs before)
    (hsz : (DataW.weightsEach Try.prog (Try.f6.params.toList ++ (OpenSpec.ofChange Rows.ringMovesSpec).bare.plain.varTypes Try.prog) (ds ++ gs)).all (· ≤ reachBytes) = true) :
    Calls Try.prog 6 args W fun e W' => ∃ v, e = .returned v ∧ Rows.ringMovesSpec.post enc Try.prog Try.f6 false true false false W args v W' := by
  have hW' := hW
  obtain ⟨p, q, hA0, hV, rfl, hfz, hnd⟩ := hW
  have hA : DataW.TrodAll enc Try.prog W 0 (fun _ => true) true Try.f6.params.toList args.toList ds p := hA0
  obtain ⟨rfl, rfl⟩ := trodVars_none hV
  rw [Try.params6] at hA hval hsz
  obtain ⟨v0, v1, d0, d1, p0, p1, hargs, rfl, rfl, h0, h1⟩ := trodAll_two hA
  have hsz' := fun i t d => weightsEach_all (P := Try.prog) _ _ hsz i t d
  obtain ⟨x0, o0⟩ := value_open (m := 4) (by kernel_rfl) (hval 0 24 v0 rfl (by rw [hargs]; rfl)) h0 (hsz' 0 24 d0 rfl rfl)
  obtain ⟨x1, o1⟩ := value_open (m := 4) (by kernel_rfl) (hval 1 3 v1 rfl (by rw [hargs]; rfl)) h1 (hsz' 1 3 d1 rfl rfl)
  obtain ⟨ms, tl, rfl, htl, hl, hnil, _⟩ := ty24w o0
  obtain ⟨more, rfl⟩ := ty3o o1
  subst hargs
  refine (calls_of_tells kz_ok (moves_tells ms tl htl hnil hl more []) (kz_glob W) (VRs.cons o0.vr (VRs.cons o1.vr VRs.nil)) (fn := Try.f6) Try.func6 (by kernel_rfl)).mono ?_
  rintro e W' ⟨v, rfl, ⟨g', r, H', hvr, rfl, _⟩, hk⟩
  cases hvr
  refine ⟨_, rfl, ?_⟩
  have bel := kept_below hk
  refine ⟨_, _, _, [], _, [], hW', trodAll_cons_mk (shut_bool Try.underlying4 _) trodAll_mk0, args_again (by kernel_rfl) bel ?_ hA, rfl, bel.frame _, fun h => by cases h⟩
  intro t ht
  simp at ht
  rcases ht with rfl | rfl
  · exact ⟨by kernel_rfl, Nat.le_of_ble_eq_true (by kernel_rfl)⟩
  · exact ⟨by kernel_rfl, Nat.le_of_ble_eq_true (by kernel_rfl)⟩
theorem own : ownKnob Try.prog.godebug = none := by kernel_rfl
set_option maxRecDepth 100000 in
theorem lifted (os : Os) (started : os.Started) (H : Type) (enc : TypeId × Value → H) :
    ReturnsInHanded {} Try.checked os 6 .any (Rows.ringMovesSpec.pre6 enc Try.prog Try.f6 Rows.ringMovesRow.domain false) (Rows.ringMovesSpec.post enc Try.prog Try.f6 false true false false) := by
  refine returnsInHanded_of_change_sized (C := Try.checked) own started (by kernel_rfl) Try.func6
    (ChangeSpec.witness6 (enc := enc) (C := Try.checked) false ⟨#[], #[.slice none 0 0, .int .i64 0], []⟩ 8 (by kernel_rfl) (by kernel_rfl) (by kernel_rfl) (by kernel_rfl)) ?_
  intro W base args ds gs before hval0 hW _ hsz0 _
  exact contract H enc W base args ds gs before hval0 hW hsz0
theorem said : Rows.RingMovesSaid :=
  OpenClaim.holds_of_wide 6 Try.f6 rfl rfl rfl rfl rfl rfl rfl ⟨rfl, rfl, rfl, rfl, rfl⟩ rfl rfl rfl rfl rfl (by kernel_rfl) Try.func6 (by kernel_rfl)
    (of_decide_eq_true (by kernel_rfl)) (by unfold Func.isWrapper; first | (rw [if_pos (by decide +kernel)]; kernel_rfl) | (rw [if_neg (by decide +kernel)]; exact ⟨rfl, rfl⟩))
    (fun os started H enc _ => lifted os started H enc)
end Go.Proofs.Ytpgkkmlmdoacmaa.ringMoves
