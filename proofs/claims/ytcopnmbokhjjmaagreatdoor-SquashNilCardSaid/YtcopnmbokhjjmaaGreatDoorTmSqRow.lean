/- SquashNil's contract: what the row asks, in every world. -/
import Derived.Test.YtcopnmbokhjjmaaGreatDoorTmSqNil
import Derived.Test.YtcopnmbokhjjmaaGreatDoorTmLaid
import Derived.Test.YtcopnmbokhjjmaaGreatDoorCards
import Derived.Test.YtcopnmbokhjjmaaGreatDoorTie
import Derived.WalkKit
import Derived.ProofKit
import Derived.OpenShut
import Derived.Deep.DeepHandedRow
import Derived.Lib.LaidTab
import Derived.ChangeMaps5
import Derived.Shelf.Vars
namespace Go.Proofs.YtcopnmbokhjjmaaGreatDoor.squashNil
open Go.ChangeShapes Go.WideShapes Go.ChangeAt Go.RowKit Go.Tm
open Go.ChangeMaps (open_string shut_string)

theorem kept_below {W W' : World} (h : Kept W (fun _ => False) W') : Below W.heap.size W W' := ⟨h.os, h.tape, h.output, h.size, fun k hk => h.block k hk (fun q => q)⟩

set_option maxRecDepth 100000 in
theorem contract (H : Type) (enc : TypeId × Value → H) (W : World) (base : Nat) (args : Array Value) (ds gs : List (DataW H)) (before : List MemPlace)
    (hval : ∀ (j : Nat) t v, Tryz.f5.params[j]? = some t → args[j]? = some v → Value.okWide Tryz.prog W .any base t v)
    (hW : DataW.Whole enc Tryz.prog Tryz.f5.params.toList Rows.squashNilSpec.vars false W args.toList ds gs before) (hL : laidMetH Tryz.prog Rows.squashNilRow.laid W) (hsh : W.ShapedOpen Tryz.prog) :
    Calls Tryz.prog 5 args W fun e W' => ∃ v, e = .returned v ∧ Rows.squashNilSpec.post enc Tryz.prog Tryz.f5 false true false false W args v W' := by
  have hW' := hW
  obtain ⟨p, q, hA0, hV, rfl, hfz, hnd⟩ := hW
  have hA : DataW.TrodAll enc Tryz.prog W 0 (fun _ => true) true Tryz.f5.params.toList args.toList ds p := hA0
  rw [Tryz.params5] at hA hval
  obtain ⟨v0, vs0, d0, ds0, p0, q0, hargs, rfl, rfl, h0, r0⟩ := trodAll_cons hA
  obtain ⟨rfl, rfl, rfl⟩ := trodAll_nil r0
  obtain rfl : args = #[v0] := by cases args; simp_all
  obtain ⟨rfl, rfl⟩ := trodVars_none hV
  obtain ⟨s, rfl, rfl, rfl, ws⟩ := open_string Tryz.underlying9 (hval 0 9 v0 rfl rfl) h0
  clear hA0
  refine (walk W s).mono fun e W' ⟨he, hk⟩ => ?_
  subst he
  refine ⟨_, rfl, ?_⟩
  have bel := kept_below hk
  exact ⟨_, _, _, [], [], [], hW', trodAll_cons_mk (shut_bool Tryz.underlying4 _) trodAll_mk0, trodAll_cons_mk (shut_string Tryz.underlying9 ws) trodAll_mk0, rfl, bel.frame _, fun h => by cases h⟩
end Go.Proofs.YtcopnmbokhjjmaaGreatDoor.squashNil
