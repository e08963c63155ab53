/- CaskBytes: names of files and bytes of records are as P4.1 says, and are parsed again as they were: for any name, any number and any change the law tells true and leaves the inputs as they were; the conditions are the given card's own (the program's listed variables as its text lays them, in a started outside world), and no other. -/
import Derived.Test.YtaefgigfoifjaaaGreatDoorCkBytes
import Derived.Test.YtaefgigfoifjaaaGreatDoorCkRow
set_option linter.unusedVariables false
set_option linter.unusedSimpArgs false
set_option linter.unusedSectionVars false
namespace Go.Proofs.YtaefgigfoifjaaaGreatDoor.caskBytes
open Go Go.Proofs Go.Proofs.Ck Go.ChangeShapes Go.WideShapes Go.ChangeAt Go.RowKit Go.Tm
set_option maxRecDepth 100000
theorem contract (H : Type) (enc : TypeId × Value → H) (W : World) (base : Nat) (args : Array Value) (ds gs : List (DataW H)) (before : List MemPlace)
  (hval : ∀ (j : Nat) t v, Tryz.f3.params[j]? = some t → args[j]? = some v → Value.okWide Tryz.prog W .any base t v)
  (hW : DataW.Whole enc Tryz.prog Tryz.f3.params.toList Rows.caskBytesSpec.vars false W args.toList ds gs before) (hL : laidMetH Tryz.prog Rows.caskBytesRow.laid W)
  (hsz : (DataW.weightsEach Tryz.prog (Tryz.f3.params.toList ++ (OpenSpec.ofChange Rows.caskBytesSpec).bare.plain.varTypes Tryz.prog) (ds ++ gs)).all (· ≤ reachBytes) = true) :
  Calls Tryz.prog 3 args W fun e W' => ∃ v, e = .returned v ∧ Rows.caskBytesSpec.post enc Tryz.prog Tryz.f3 false true false false W args v W' := by
 have hW' := hW
 obtain ⟨p, q, hA0, hV, rfl, hfz, hnd⟩ := hW
 have hA : DataW.TrodAll enc Tryz.prog W 0 (fun _ => true) true Tryz.f3.params.toList args.toList ds p := hA0
 obtain ⟨rfl, rfl⟩ := trodVars_none hV
 rw [Tryz.params3] at hA hval hsz
 obtain ⟨v0, vs0, d0, ds0, p0, q0, hargs, rfl, rfl, h0, r0⟩ := trodAll_cons hA
 obtain ⟨v1, vs1, d1, ds1, p1, q1, e1, rfl, rfl, h1, r1⟩ := trodAll_cons r0
 obtain ⟨v2, vs2, d2, ds2, p2, q2, e2, rfl, rfl, h2, r2⟩ := trodAll_cons r1
 obtain ⟨rfl, rfl, rfl⟩ := trodAll_nil r2
 subst e2
 subst e1
 obtain rfl : args = #[v0, v1, v2] := by cases args; simp_all
 have hsz' := fun i t d => weightsEach_all (P := Tryz.prog) _ _ hsz i t d
 obtain ⟨x0, o0⟩ := value_open (m := 4) (by kernel_rfl) (hval 0 9 v0 rfl rfl) h0 (hsz' 0 9 d0 rfl rfl)
 obtain ⟨x1, o1⟩ := value_open (m := 4) (by kernel_rfl) (hval 1 3 v1 rfl rfl) h1 (hsz' 1 3 d1 rfl rfl)
 obtain ⟨x2, o2⟩ := value_open (m := 4) (by kernel_rfl) (hval 2 23 v2 rfl rfl) h2 (hsz' 2 23 d2 rfl rfl)
 obtain ⟨s, rfl, hsl⟩ := ty9 o0
 obtain ⟨z, rfl, _⟩ := ty3 o1
 obtain ⟨x, rfl, hk, hv⟩ := ty23 o2
 have hr : reachBytes = 140737488351232 := rfl
 refine (calls_of_tells kk_ok (bytes_tells s z x (by omega) (by omega) (by omega) []) (kk_glob hL) (VRs.cons o0.vr (VRs.cons o1.vr (VRs.cons o2.vr VRs.nil))) (fn := Tryz.f3) Tryz.func3 (by kernel_rfl)).mono ?_
 rintro e W' ⟨v, rfl, ⟨g', r, H', hvr, ⟨_, rfl⟩⟩, hkp⟩
 cases hvr
 refine ⟨_, rfl, ?_⟩
 have bel := kept_below hkp
 refine ⟨_, _, _, [], _, [], hW', trodAll_cons_mk (shut_bool Tryz.underlying4 _) trodAll_mk0, args_again (by kernel_rfl) bel ?_ hA, rfl, bel.frame _, fun h => by cases h⟩
 intro t ht
 simp at ht
 rcases ht with rfl | rfl | rfl
 ·exact ⟨by kernel_rfl, Nat.le_of_ble_eq_true (by kernel_rfl)⟩
 ·exact ⟨by kernel_rfl, Nat.le_of_ble_eq_true (by kernel_rfl)⟩
 ·exact ⟨by kernel_rfl, Nat.le_of_ble_eq_true (by kernel_rfl)⟩
abbrev wargs : Array Value := #[.string ⟨#[]⟩, .int .i64 0, .agg #[.string ⟨#[]⟩, .string ⟨#[]⟩, .bool false]]
noncomputable def memory (os : Os) : World := ((laidWorld os).forCall (fun _ _ => 0) ⟨#[], wargs, []⟩).memory
theorem laid_met (os : Os) : laidMet Tryz.prog Rows.caskBytesRow.laid (memory os) := by
 obtain ⟨p1, h1, _⟩ := (laidWith_of_run 8 4096 [1, 2, 3, 4, 5, 11, 12] (by kernel_rfl) : ∃ ps, LaidWith Tryz.prog Rows.caskBytesRow.laid (memory os) ps ∧ ∀ p ∈ ps, p.block ∈ [1, 2, 3, 4, 5, 11, 12])
 exact h1.met
theorem vars_ok (os : Os) : ((laidWorld os).forCall (fun _ _ => 0) ⟨#[], wargs, []⟩).variablesRefB Tryz.prog = true := by kernel_rfl
theorem reads (os : Os) {H : Type} (enc : TypeId × Value → H) : ∃ places, DataW.whole enc Tryz.prog (memory os) Tryz.f3.params.toList Rows.caskBytesSpec.vars false wargs.toList 8 = some ([.lit (.string []), .lit (.int .i64 0), .agg [.lit (.string []), .lit (.string []), .lit (.bool false)]], [], places) :=
 ⟨[], by kernel_rfl⟩
theorem lifted (os : Os) (started : os.Started) (H : Type) (enc : TypeId × Value → H) (F : Stop.Interp) :
  ReturnsInHanded {} Tryz.checked os 3 .any ((OpenSpec.ofChange Rows.caskBytesSpec).preRow enc Tryz.prog Tryz.f3 Rows.caskBytesRow.domain false Rows.caskBytesRow.laid) (((OpenSpec.ofChange Rows.caskBytesSpec).at F).post enc Tryz.prog Tryz.f3 false true false false) := by
 obtain ⟨places, hx⟩ := reads os enc
 refine returnsInHanded_of_row (C := Tryz.checked) (s := OpenSpec.ofChange Rows.caskBytesSpec) own started (by kernel_rfl) Tryz.func3
  (witness_row_atRef (enc := enc) (C := Tryz.checked) false (laidWorld os) wargs (os_eq os) (vars_ok os) (by kernel_rfl) (by kernel_rfl)
   (OpenSpec.preRow_of_cond 8 hx (by kernel_rfl) (fun k hk => by cases hk) (by kernel_rfl) (laid_met os))) ?_
 intro W base args ds gs before hval hW _ _ hsz hL hsh _
 exact contract H enc W base args ds gs before hval hW hL hsz
theorem said : Rows.CaskBytesSaid :=
 OpenClaim.holds_of_cond 3 Tryz.f3 rfl rfl rfl rfl rfl rfl rfl ⟨rfl, rfl, rfl, rfl, rfl⟩ rfl rfl rfl rfl rfl (by kernel_rfl) Tryz.func3 (by kernel_rfl)
  (of_decide_eq_true (by kernel_rfl)) (by unfold Func.isWrapper; first | (rw [if_pos (by decide +kernel)]; kernel_rfl) | (rw [if_neg (by decide +kernel)]; exact ⟨rfl, rfl⟩))
  (fun os started H enc _ F => by rw [OpenClaim.pre_eq_preRow]; exact lifted os started H enc F)
theorem plain (f : FuncId) (fn : Func) (hf : Tryz.pinned.checked.prog.funcNamed "murmuration/murmurationlaw04.CaskBytes" = some f) (hfn : Tryz.pinned.checked.prog.funcs[f]? = some fn) :
  true = Tryz.pinned.checked.prog.looks [] ∧ ∀ (j : Nat) t, fn.params[j]? = some t → Tryz.pinned.checked.prog.wantsStandIn t = false := by
 obtain rfl : f = 3 := Option.some.inj ((show Tryz.prog.funcNamed "murmuration/murmurationlaw04.CaskBytes" = some 3 by kernel_rfl).symm.trans hf) |>.symm
 obtain rfl : fn = Tryz.f3 := (Option.some.inj (Tryz.func3.symm.trans hfn)).symm
 refine ⟨by kernel_rfl, fun j t ht => ?_⟩
 rw [Tryz.params3] at ht
 have h3 : t = 9 ∨ t = 3 ∨ t = 23 := by simpa using Array.mem_of_getElem? ht
 rcases h3 with rfl | rfl | rfl
 ·exact (show Tryz.prog.wantsStandIn 9 = false by kernel_rfl)
 ·exact (show Tryz.prog.wantsStandIn 3 = false by kernel_rfl)
 ·exact (show Tryz.prog.wantsStandIn 23 = false by kernel_rfl)
theorem card : Rows.CaskBytesCardSaid :=
 Claim7.holds_tied_plain_at .later [] _ _ _ _ said (fun _ h => by cases h) (by kernel_rfl) (fun _ h => by cases h) caskBytes_row_tie rfl ⟨rfl, rfl⟩ (by kernel_rfl) rfl plain (by kernel_rfl)
end Go.Proofs.YtaefgigfoifjaaaGreatDoor.caskBytes
