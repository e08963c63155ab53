/- RingAsks: who has a partition, who is asked for it, and who owns what, is as the document says: for any owners, any numbers, any nodes that are up and any key the law tells true and leaves the input as it was; the conditions are the given card's own (the program's listed variable as its text lays it, in a started outside world), and no other. -/
import Derived.Test.YtbhjnkdediijnaaDoorRxG
import Derived.LaidByTextLater
import Derived.Deep.DeepWitnessRowRef
set_option linter.unusedVariables false
set_option linter.unusedSimpArgs false
set_option linter.unusedSectionVars false
namespace Go.Proofs.YtbhjnkdediijnaaDoor.ringAsks
open Go Go.Tm Go.Proofs Go.ChangeShapes Go.WideShapes Go.ChangeAt Go.RowKit
set_option maxRecDepth 100000
def z8 : Value := .agg #[.int .i64 0, .int .i64 0, .int .i64 0, .int .i64 0, .int .i64 0, .int .i64 0, .int .i64 0, .int .i64 0]
def zAsk : Value := .agg #[.int .i64 0, .int .i64 0, .slice none 0 0]
noncomputable def laidWorld (os : Os) : World := varsWorld Tryd.prog 6 103 os (fun _ _ => 0)
noncomputable def memory (os : Os) : World := ((laidWorld os).forCall (fun _ _ => 0) ⟨#[], #[z8, zAsk, .string ⟨#[]⟩], []⟩).memory
theorem laid_met (os : Os) : laidMet Tryd.prog Rows.ringAsksRow.laid (memory os) := by
 obtain ⟨p1, h1, _⟩ := (laidWith_of_run 8 4096 [0] (by kernel_rfl) : ∃ ps, LaidWith Tryd.prog Rows.ringAsksRow.laid (memory os) ps ∧ ∀ p ∈ ps, p.block ∈ [0])
 exact h1.met
theorem os_eq (os : Os) : (laidWorld os).os = os := by kernel_rfl
theorem vars_ok (os : Os) : ((laidWorld os).forCall (fun _ _ => 0) ⟨#[], #[z8, zAsk, .string ⟨#[]⟩], []⟩).variablesRefB Tryd.prog = true := by kernel_rfl
theorem own : ownKnob Tryd.prog.godebug = none := by kernel_rfl
theorem reads (os : Os) {H : Type} (enc : TypeId × Value → H) : ∃ places, DataW.whole enc Tryd.prog (memory os) Tryd.f3.params.toList Rows.ringAsksSpec.vars false #[z8, zAsk, .string ⟨#[]⟩].toList 8 = some ([.agg [.lit (.int .i64 0), .lit (.int .i64 0), .lit (.int .i64 0), .lit (.int .i64 0), .lit (.int .i64 0), .lit (.int .i64 0), .lit (.int .i64 0), .lit (.int .i64 0)], .agg [.lit (.int .i64 0), .lit (.int .i64 0), .nil], .lit (.string [])], [], places) :=
 ⟨[], by kernel_rfl⟩
theorem lifted (os : Os) (started : os.Started) (H : Type) (enc : TypeId × Value → H) (F : Stop.Interp) :
  ReturnsInHanded {} Tryd.checked os 3 .any ((OpenSpec.ofChange Rows.ringAsksSpec).preRow enc Tryd.prog Tryd.f3 Rows.ringAsksRow.domain false Rows.ringAsksRow.laid) (((OpenSpec.ofChange Rows.ringAsksSpec).at F).post enc Tryd.prog Tryd.f3 false true false false) := by
 obtain ⟨places, hx⟩ := reads os enc
 refine returnsInHanded_of_row (C := Tryd.checked) (s := OpenSpec.ofChange Rows.ringAsksSpec) own started (by kernel_rfl) Tryd.func3
  (witness_row_atRef (enc := enc) (C := Tryd.checked) false (laidWorld os) #[z8, zAsk, .string ⟨#[]⟩] (os_eq os) (vars_ok os) (by kernel_rfl) (by kernel_rfl)
   (OpenSpec.preRow_of_cond 8 hx (by kernel_rfl) (fun k hk => by cases hk) (by kernel_rfl) (laid_met os))) ?_
 intro W base args ds gs before hval hW _ _ hsz hL _ _
 exact contract H enc W base args ds gs before hval hW hL hsz
theorem said : Rows.RingAsksSaid :=
 OpenClaim.holds_of_cond 3 Tryd.f3 rfl rfl rfl rfl rfl rfl rfl ⟨rfl, rfl, rfl, rfl, rfl⟩ rfl rfl rfl rfl rfl (by kernel_rfl) Tryd.func3 (by kernel_rfl)
  (of_decide_eq_true (by kernel_rfl)) (by unfold Func.isWrapper; first | (rw [if_pos (by decide +kernel)]; kernel_rfl) | (rw [if_neg (by decide +kernel)]; exact ⟨rfl, rfl⟩))
  (fun os started H enc _ F => by rw [OpenClaim.pre_eq_preRow]; exact lifted os started H enc F)
theorem plain (f : FuncId) (fn : Func) (hf : Tryd.pinned.checked.prog.funcNamed "murmuration/murmurationlaw11.RingAsks" = some f) (hfn : Tryd.pinned.checked.prog.funcs[f]? = some fn) :
  false = Tryd.pinned.checked.prog.looks [] ∧ ∀ (j : Nat) t, fn.params[j]? = some t → Tryd.pinned.checked.prog.wantsStandIn t = false := by
 obtain rfl : f = 3 := Option.some.inj ((show Tryd.prog.funcNamed "murmuration/murmurationlaw11.RingAsks" = some 3 by kernel_rfl).symm.trans hf) |>.symm
 obtain rfl : fn = Tryd.f3 := (Option.some.inj (Tryd.func3.symm.trans hfn)).symm
 refine ⟨by kernel_rfl, fun j t ht => ?_⟩
 rw [Tryd.params3] at ht
 have h3 : t = 23 ∨ t = 26 ∨ t = 9 := by simpa using Array.mem_of_getElem? ht
 rcases h3 with rfl | rfl | rfl
 ·exact (show Tryd.prog.wantsStandIn 23 = false by kernel_rfl)
 ·exact (show Tryd.prog.wantsStandIn 26 = false by kernel_rfl)
 ·exact (show Tryd.prog.wantsStandIn 9 = false by kernel_rfl)
theorem card : Rows.RingAsksCardSaid :=
 Claim7.holds_tied_plain_at .later [] _ _ _ _ said (fun _ h => by cases h) (by kernel_rfl) (fun _ h => by cases h) ringAsks_row_tie rfl ⟨rfl, rfl⟩ (by kernel_rfl) rfl plain (by kernel_rfl)
end Go.Proofs.YtbhjnkdediijnaaDoor.ringAsks
