/- RingClaims: what the ring transfers, claims and calls balanced is what the reference does: for every input the law tells true and leaves the input as it was; no condition. -/
import Derived.Test.YtpgkkmlmdoacmaaRingRow
import Derived.Test.YtpgkkmlmdoacmaaRgClaims
set_option linter.unusedVariables false
set_option linter.unusedSimpArgs false
set_option linter.unusedSectionVars false
namespace Go.Proofs.Ytpgkkmlmdoacmaa.ringClaims
open Go.Proofs Go.ChangeShapes Go.RowKit Go.Tm Go.WideShapes Go.ChangeAt
theorem contract (H : Type) (enc : TypeId × Value → H) (W : World) (base : Nat) (args : Array Value) (ds gs : List (DataW H)) (before : List MemPlace)
  (hval : ∀ (j : Nat) t v, Try.f3.params[j]? = some t → args[j]? = some v → Value.okWide Try.prog W .any base t v)
  (hW : DataW.Whole enc Try.prog Try.f3.params.toList Rows.ringClaimsSpec.vars false W args.toList ds gs before)
  (hsz : (DataW.weightsEach Try.prog (Try.f3.params.toList ++ (OpenSpec.ofChange Rows.ringClaimsSpec).bare.plain.varTypes Try.prog) (ds ++ gs)).all (· ≤ reachBytes) = true) :
  Calls Try.prog 3 args W fun e W' => ∃ v, e = .returned v ∧ Rows.ringClaimsSpec.post enc Try.prog Try.f3 false true false false W args v W' := by
 have hW' := hW
 obtain ⟨pp, qq, hA0, hV, rfl, hfz, hnd⟩ := hW
 have hA : DataW.TrodAll enc Try.prog W 0 (fun _ => true) true Try.f3.params.toList args.toList ds pp := hA0
 obtain ⟨rfl, rfl⟩ := trodVars_none hV
 rw [Try.params3] at hA hval hsz
 obtain ⟨v0, v1, v2, d0, d1, d2, p0, p1, p2, hargs, rfl, rfl, h0, h1, h2⟩ := trodAll_three hA
 have hsz' := fun i t d => weightsEach_all (P := Try.prog) _ _ hsz i t d
 obtain ⟨x0, o0⟩ := value_open (m := 4) (by kernel_rfl) (hval 0 23 v0 rfl (by rw [hargs]; rfl)) h0 (hsz' 0 23 d0 rfl rfl)
 obtain ⟨x1, o1⟩ := value_open (m := 4) (by kernel_rfl) (hval 1 24 v1 rfl (by rw [hargs]; rfl)) h1 (hsz' 1 24 d1 rfl rfl)
 obtain ⟨x2, o2⟩ := value_open (m := 4) (by kernel_rfl) (hval 2 23 v2 rfl (by rw [hargs]; rfl)) h2 (hsz' 2 23 d2 rfl rfl)
 obtain ⟨o, ho, rfl⟩ := ty23 o0
 obtain ⟨ms, tl, rfl, htl, hl, hnil, _⟩ := ty24w o1
 obtain ⟨p, hp, rfl⟩ := ty23 o2
 subst hargs
 refine (calls_of_tells kz_ok (claims_tells o ho ms tl htl hnil hl p hp []) (kz_glob W) (VRs.cons o0.vr (VRs.cons o1.vr (VRs.cons o2.vr VRs.nil))) (fn := Try.f3) Try.func3 (by kernel_rfl)).mono ?_
 rintro e W' ⟨v, rfl, ⟨g', r, H', hvr, rfl, _⟩, hk⟩
 cases hvr
 refine ⟨_, rfl, ?_⟩
 have bel := kept_below hk
 refine ⟨_, _, _, [], _, [], hW', trodAll_cons_mk (shut_bool Try.underlying4 _) trodAll_mk0, args_again (by kernel_rfl) bel ?_ hA, rfl, bel.frame _, fun h => by cases h⟩
 intro t ht
 simp at ht
 rcases ht with rfl | rfl | rfl
 ·exact ⟨by kernel_rfl, Nat.le_of_ble_eq_true (by kernel_rfl)⟩
 ·exact ⟨by kernel_rfl, Nat.le_of_ble_eq_true (by kernel_rfl)⟩
 ·exact ⟨by kernel_rfl, Nat.le_of_ble_eq_true (by kernel_rfl)⟩
theorem own : ownKnob Try.prog.godebug = none := by kernel_rfl
set_option maxRecDepth 100000 in
theorem lifted (os : Os) (started : os.Started) (H : Type) (enc : TypeId × Value → H) :
  ReturnsInHanded {} Try.checked os 3 .any (Rows.ringClaimsSpec.pre6 enc Try.prog Try.f3 Rows.ringClaimsRow.domain false) (Rows.ringClaimsSpec.post enc Try.prog Try.f3 false true false false) := by
 refine returnsInHanded_of_change_sized (C := Try.checked) own started (by kernel_rfl) Try.func3
  (ChangeSpec.witness6 (enc := enc) (C := Try.checked) false ⟨#[], #[.agg #[.int .i64 0, .int .i64 0, .int .i64 0, .int .i64 0, .int .i64 0, .int .i64 0, .int .i64 0, .int .i64 0], .slice none 0 0, .agg #[.int .i64 0, .int .i64 0, .int .i64 0, .int .i64 0, .int .i64 0, .int .i64 0, .int .i64 0, .int .i64 0]], []⟩ 8 (by kernel_rfl) (by kernel_rfl) (by kernel_rfl) (by kernel_rfl)) ?_
 intro W base args ds gs before hval0 hW _ hsz0 _
 exact contract H enc W base args ds gs before hval0 hW hsz0
theorem said : Rows.RingClaimsSaid :=
 OpenClaim.holds_of_wide 3 Try.f3 rfl rfl rfl rfl rfl rfl rfl ⟨rfl, rfl, rfl, rfl, rfl⟩ rfl rfl rfl rfl rfl (by kernel_rfl) Try.func3 (by kernel_rfl)
  (of_decide_eq_true (by kernel_rfl)) (by unfold Func.isWrapper; first | (rw [if_pos (by decide +kernel)]; kernel_rfl) | (rw [if_neg (by decide +kernel)]; exact ⟨rfl, rfl⟩))
  (fun os started H enc _ => lifted os started H enc)
end Go.Proofs.Ytpgkkmlmdoacmaa.ringClaims
