/- A part of the proof: the tree machine and its use. -/
import Derived.Test.YtbgebdobpfoelaaGreatDoorTmCfg
namespace Go.Proofs
open Go.Tm Go.Shelf
theorem run1 (s : List UInt8) : aCall Kc 1000 5 [.str s] [] [] = some ((.v (.bool true), []), [], []) := by kernel_rfl

def known : List (Nat × Nat) := (0, 0) :: (List.range 20).map fun k => (3, k)

theorem walk (W : World) (hm : ∃ m, W.cell? ⟨0, 0, none⟩ = some (.int .i64 m)) (ht : ∀ k (v : Value), (pow10.map (Value.int .u64))[k]? = some v → W.cell? ⟨3, k, none⟩ = some v) (s : ByteArray) :
    Calls Tryz.prog 5 #[.string s] W fun e w' => e = .returned (.bool true) ∧ Kept W (fun _ => False) w' := by
  have hg : Glob Kc (ghostOf W known) := by
    refine ⟨fun i cs q => ?_, fun i hi => ?_⟩
    · by_cases e : i = 3
      · subst e
        have hcs : cs = (pow10.map (Value.int .u64)).map AV.v := by
          have : some (pow10.map fun n => AV.v (.int .u64 n)) = some cs := q
          rw [List.map_map]; exact (Option.some.inj this).symm
        subst hcs
        exact glob_cells (by intro v hv; simp at hv; obtain ⟨_, _, rfl⟩ := hv; rfl) (fun k hk => by
          have : (pow10.map (Value.int .u64)).length = 20 := rfl
          rw [this] at hk
          simp only [known, List.contains_eq_mem, List.mem_cons, List.mem_map, List.mem_range, decide_eq_true_eq]
          exact .inr ⟨k, hk, rfl⟩) ht
      · exact absurd q (by show (if i == 3 then some (pow10.map fun n => AV.v (.int .u64 n)) else none) ≠ some cs; simp [e])
    · have hi0 : i = 0 := by
        have : i ∈ [0] := hi
        simpa using this
      subst hi0
      obtain ⟨m, hm⟩ := hm
      refine ⟨m, ?_⟩
      simp only [ghostOf]
      rw [if_pos (by simp [known])]
      exact hm
  have hv : VRs (ghostOf W known) [.str s.data.toList] [.string s] := VRs.cons .str VRs.nil
  refine (calls_of_run cfg (run1 s.data.toList) known hg hv (fn := Tryz.f5) Tryz.func5 (by kernel_rfl)).mono fun e w' ⟨v, he, ⟨g', hr⟩, hk⟩ => ⟨?_, hk⟩
  cases hr
  exact he
end Go.Proofs
