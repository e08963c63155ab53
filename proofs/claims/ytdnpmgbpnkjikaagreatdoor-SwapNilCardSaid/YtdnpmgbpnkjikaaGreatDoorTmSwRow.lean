/- SwapNil's contract: what the row asks, in every world. -/
import Derived.Test.YtdnpmgbpnkjikaaGreatDoorTmSwNil
import Derived.Test.YtdnpmgbpnkjikaaGreatDoorTmLaid
import Derived.Test.YtdnpmgbpnkjikaaGreatDoorCards
import Derived.Test.YtdnpmgbpnkjikaaGreatDoorTie
import Derived.WalkKit
import Derived.ProofKit
import Derived.OpenShut
import Derived.Carry
import Derived.Deep.DeepHandedRow
import Derived.Lib.LaidTab
import Derived.ChangeMaps5
import Derived.Shelf.Vars
set_option linter.unusedVariables false
set_option linter.unusedSimpArgs false
set_option linter.unusedSectionVars false
namespace Go.Proofs.YtdnpmgbpnkjikaaGreatDoor.swapNil
open Go.ChangeShapes Go.WideShapes Go.ChangeAt Go.RowKit Go.Tm

theorem kept_below {W W' : World} (h : Kept W (fun _ => False) W') : Below W.heap.size W W' := ⟨h.os, h.tape, h.output, h.size, fun k hk => h.block k hk (fun q => q)⟩
def shaZ : List Int := shaK.map fun (n : Nat) => Int.ofNat n
theorem table {W : World} (h : laidMetH Tryz.prog Rows.swapNilRow.laid W) : Lib.TabIs Tryz.prog W "murmuration/sha.constants" .u32 shaZ := by
  have h' : laidMet Tryz.prog Rows.swapNilRow.laid W := h
  exact Lib.tabIs_of_head (g := 0) (t := 236) (e := 141) (n := 64) (by kernel_rfl) (by kernel_rfl) (by kernel_rfl) (by kernel_rfl) (by kernel_rfl) (by kernel_rfl) (laidMet_tail (laidMet_tail (laidMet_tail h')))
theorem laidOut : laidOutB Tryz.prog = true := by kernel_rfl

set_option maxRecDepth 100000 in
theorem contract (H : Type) (enc : TypeId × Value → H) (W : World) (base : Nat) (args : Array Value) (ds gs : List (DataW H)) (before : List MemPlace)
    (hval : ∀ (j : Nat) t v, Tryz.f3.params[j]? = some t → args[j]? = some v → Value.okWide Tryz.prog W .any base t v)
    (hW : DataW.Whole enc Tryz.prog Tryz.f3.params.toList Rows.swapNilSpec.vars false W args.toList ds gs before) (hL : laidMetH Tryz.prog Rows.swapNilRow.laid W) (hsh : W.ShapedOpen Tryz.prog) :
    Calls Tryz.prog 3 args W fun e W' => ∃ v, e = .returned v ∧ Rows.swapNilSpec.post enc Tryz.prog Tryz.f3 false true false false W args v W' := by
  have hW' := hW
  have hlt0 := hW'.lt
  obtain ⟨p, q, hA0, hV, rfl, hfz, hnd⟩ := hW
  have hA : DataW.TrodAll enc Tryz.prog W 0 (fun _ => true) true Tryz.f3.params.toList args.toList ds p := hA0
  rw [Tryz.params3] at hA hval
  obtain ⟨v0, vs0, d0, ds0, p0, q0, hargs, rfl, rfl, h0, r0⟩ := trodAll_cons hA
  obtain ⟨rfl, rfl, rfl⟩ := trodAll_nil r0
  obtain rfl : args = #[v0] := by cases args; simp_all
  obtain ⟨rfl, rfl⟩ := trodVars_none hV
  clear hA0
  have hlt : ∀ x ∈ p0, x.block < W.heap.size := fun x hx => hlt0 x (by simpa using hx)
  have ht : ∀ k (v : Value), shaV[k]? = some v → W.cell? ⟨0, k, none⟩ = some v := by
    intro k v hk
    unfold shaV at hk
    simp only [List.getElem?_map, Option.map_eq_some_iff] at hk
    obtain ⟨n, hn, rfl⟩ := hk
    have hlt := (List.getElem?_eq_some_iff.1 hn).1
    rw [(table hL).cell (g := 0) (by kernel_rfl) k (by unfold shaZ; rw [List.length_map]; exact hlt), List.getD_eq_getElem?_getD]
    unfold shaZ
    rw [List.getElem?_map, hn]; rfl
  refine (walk W ht (hval 0 28 v0 rfl rfl)).mono fun e W' ⟨he, hk⟩ => ?_
  subst he
  refine ⟨_, rfl, ?_⟩
  have bel := kept_below hk
  exact ⟨_, _, _, [], _, [], hW', trodAll_cons_mk (shut_bool Tryz.underlying4 _) trodAll_mk0, trodAll_cons_mk (Below.trod laidOut (by kernel_rfl) (of_decide_eq_true (by kernel_rfl)) h0 bel hlt) trodAll_mk0, rfl, bel.frame _, fun h => by cases h⟩
end Go.Proofs.YtdnpmgbpnkjikaaGreatDoor.swapNil
