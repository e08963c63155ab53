/- SwapNil: the law's run over any argument, and what the call does in every world that bears sha's table. -/
import Derived.Test.YtdnpmgbpnkjikaaGreatDoorTmSwRun
import Derived.Test.YtdnpmgbpnkjikaaGreatDoorTmMemo
import Derived.Test.YtdnpmgbpnkjikaaGreatDoorTmArg
import Derived.Test.YtdnpmgbpnkjikaaGreatDoorTmTop
set_option linter.unusedVariables false
set_option linter.unusedSimpArgs false
set_option linter.unusedSectionVars false
namespace Go.Proofs.YtdnpmgbpnkjikaaGreatDoor.swapNil
open Go.Tm Go.Shelf
def awakeTbl : List (List AV × AV) := [([], .v (.bool true))]
noncomputable def Kw4 : Cfg := { Kw0 with libv := fun f => if f == 7 then some (toldMemo awakeTbl) else Kw0.libv f }
theorem cfgw4 : CfgOk Kw4 where
  mixed := by kernel_rfl
  names := names_ok
  lib := fun f h args H r H' hl hr => callOk_like (K := Kw0) (K' := Kw4) rfl rfl rfl (lib_ok f h args H r H' hl hr)
  libv := fun f h args H r hl hr => by
    refine callOk_like (K := Kw0) (K' := Kw4) rfl rfl rfl ?_
    have hl : (if f == 7 then some (toldMemo awakeTbl) else Kw0.libv f) = some h := hl
    by_cases q1 : f = 7
    · subst q1
      obtain rfl := Option.some.inj hl
      have hm := toldMemo_some hr
      obtain ⟨rfl, rfl⟩ : args = [] ∧ r = .v (.bool true) := by simpa [awakeTbl] using hm
      exact callOk_like (K := Kw3) (K' := Kw0) rfl rfl rfl (callOk_run cfgw3 rfl rfl (awake_run H))
    · rw [if_neg (by simp [q1])] at hl
      exact libv_ok f h args H r hl hr
theorem run1 (a b c d e f : Value) : callF Kw4 1000 3 [.agg [.v a, .v b, .v c, .v d, .v e, .v f]] [] = some (.v (.bool true), []) := by kernel_rfl
def shaV : List Value := shaK.map fun (n : Nat) => Value.int .u32 (.ofNat n)
def known : List (Nat × Nat) := (List.range 64).map fun k => (0, k)
set_option maxRecDepth 100000 in
theorem walk (W : World) (ht : ∀ k (v : Value), shaV[k]? = some v → W.cell? ⟨0, k, none⟩ = some v) {base : Nat} {v : Value} (hv : Value.okWide Tryz.prog W .any base 28 v) :
    Calls Tryz.prog 3 #[v] W fun e w' => e = .returned (.bool true) ∧ Kept W (fun _ => False) w' := by
  have hg : Glob Kw4 (ghostOf W known) := by
    refine ⟨fun i cs q => ?_, fun i hi => ?_⟩
    · by_cases e : i = 0
      · subst e
        have hcs : cs = shaV.map AV.v := by
          have : some (shaK.map fun (n : Nat) => AV.v (.int .u32 (.ofNat n))) = some cs := q
          unfold shaV
          rw [List.map_map]; exact (Option.some.inj this).symm
        subst hcs
        exact glob_cells (by intro v hv; simp only [shaV, List.mem_map] at hv; obtain ⟨_, _, rfl⟩ := hv; rfl) (fun k hk => by
          have : shaV.length = 64 := rfl
          rw [this] at hk
          simp only [known, List.contains_eq_mem, List.mem_map, List.mem_range, decide_eq_true_eq]
          exact ⟨k, hk, rfl⟩) ht
      · exact absurd q (by show (if i == 0 then some (shaK.map fun (n : Nat) => AV.v (.int .u32 (.ofNat n))) else none) ≠ some cs; simp [e])
    · exact absurd hi (by show i ∉ ([] : List Nat); simp)
  obtain ⟨cs, rfl, hsz⟩ : ∃ cs : Array Value, v = .agg cs ∧ cs.size = 6 := by
    have h := hv
    unfold Value.okWide at h
    rw [Tryz.underlying28] at h
    obtain ⟨cs, rfl, hs, _⟩ := h
    exact ⟨cs, rfl, by rw [hs]; kernel_rfl⟩
  obtain ⟨l⟩ := cs
  obtain ⟨a, b, c, d, e, f, rfl⟩ : ∃ a b c d e f, l = [a, b, c, d, e, f] := by
    match l, hsz with
    | [a, b, c, d, e, f], _ => exact ⟨a, b, c, d, e, f, rfl⟩
  have hvs : VRs (ghostOf W known) [.agg [.v a, .v b, .v c, .v d, .v e, .v f]] [.agg ⟨[a, b, c, d, e, f]⟩] := VRs.cons (opaque_ok hv) VRs.nil
  refine (calls_of_run cfgw4 (callF_ok (K := Kw4) rfl rfl 1000 3 _ _ _ (run1 a b c d e f)) known hg hvs (fn := Tryz.f3) Tryz.func3 (by kernel_rfl)).mono fun e w' ⟨v, he, ⟨g', hr⟩, hk⟩ => ⟨?_, hk⟩
  cases hr
  exact he
end Go.Proofs.YtdnpmgbpnkjikaaGreatDoor.swapNil
