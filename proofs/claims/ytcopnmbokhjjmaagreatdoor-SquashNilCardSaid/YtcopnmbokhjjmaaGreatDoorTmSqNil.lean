/- SquashNil: the run, and what the call does in every world. -/
import Derived.Test.YtcopnmbokhjjmaaGreatDoorTmSqCfg
namespace Go.Proofs.YtcopnmbokhjjmaaGreatDoor.squashNil
open Go.Tm Go.Shelf
theorem run1 (s : List UInt8) : callF Kt 1000 5 [.str s] [] = some (.v (.bool true), []) := by kernel_rfl

theorem walk (W : World) (s : ByteArray) : Calls Tryz.prog 5 #[.string s] W fun e w' => e = .returned (.bool true) ∧ Kept W (fun _ => False) w' := by
  have hg : Glob Kt (ghostOf W []) := by
    refine ⟨fun i cs q => ?_, fun i hi => ?_⟩
    · exact absurd q (by show (none : Option (List AV)) ≠ some cs; simp)
    · exact absurd hi (by show i ∉ ([] : List Nat); simp)
  have hv : VRs (ghostOf W []) [.str s.data.toList] [.string s] := VRs.cons .str VRs.nil
  refine (calls_of_run cfgt (callF_ok (K := Kt) rfl 1000 5 _ _ _ (run1 s.data.toList)) [] hg hv (fn := Tryz.f5) Tryz.func5 (by kernel_rfl)).mono fun e w' ⟨v, he, ⟨g', hr⟩, hk⟩ => ⟨?_, hk⟩
  cases hr
  exact he
end Go.Proofs.YtcopnmbokhjjmaaGreatDoor.squashNil
