/- The ring's slices.Values: the values come one behind the other. -/
import Derived.Test.YtbhjnkdediijnaaDoorTmSeqVal
import Derived.RangeFuncBox
import Derived.RangeFuncLeaves
import Derived.WalkKit
import Derived.OwnWalkIn
import Derived.TacticsInMore
import Derived.LoopNIn
import Derived.LoopIn
import Derived.Test.YtbhjnkdediijnaaDoorProg
set_option linter.unusedVariables false
set_option linter.unusedSimpArgs false
set_option linter.unusedSectionVars false
namespace Go.Proofs
open Go.RowKit Go.Tm
attribute [local go_sem] Oper.semAt_some
set_option maxRecDepth 100000
set_option maxHeartbeats 2000000 in
theorem Tryd.values1_in (F : Fence) (n : Nat) (h7 : F.fn 46) (hro : F.round = none) (hn : F.depth = none) (l Bs b off len cap : Nat) (zs : Nat → Int) (hreach : len * 8 ≤ 140737488351232) (J : Nat → World → Prop) (Jx : World → Prop)
  (hcs : ∀ i W, J i W → ∀ j, j < len → W.cell? ⟨b, off + j, none⟩ = some (.int .i64 (zs j)))
  (hY : ∀ i W, J i W → i < len → YieldAt F (n - 1) Tryd.prog l #[.int .i64 (zs i)] W fun e W' =>
   (e = .returned (.bool true) ∧ J (i + 1) W') ∨ (e = .returned (.bool false) ∧ Jx W'))
  (W : World) (hBs : W.cell? ⟨Bs, 0, none⟩ = some (.slice (some ⟨b, off, none⟩) len cap)) (h0 : J 0 W) :
  CallsIn F n Tryd.prog 46 #[.func (.yield l) #[] #[], .pointer (some ⟨Bs, 0, none⟩)] W fun e W' => (∃ v, e = .returned v) ∧ (J len W' ∨ Jx W') := by
 refine callsIn_of_wp Tryd.func46 rfl h7 ?_ hro
 simp only [Tryd.ntmps46, List.size_toArray, List.length_cons, List.length_nil, Nat.reduceAdd, Nat.reduceSub, Array.replicate_succ, Array.replicate_zero, List.push_toArray, List.append_toArray, List.nil_append, List.cons_append]
 gi_wp2
 gi_loopw [7] (fun i wr => ∃ k : Nat, k ≤ len ∧ i = .int .i64 k ∧ J k wr)
  (fun i _ => len - (intOf i).toNat)
 case atStart => exact ⟨0, Nat.zero_le _, rfl, h0⟩
 case round =>
  obtain ⟨k, hk, rfl, hJs⟩ := hrel
  have hcx := hcs k wr hJs k
  by_cases hlt : k < len
  ·obtain ⟨fn, tmps, assign, body, hy, hR⟩ := hY k wr hJs hlt
   have hcx' := hcx hlt
   gi_wp2
   refine hR.mono ?_
   rintro e W3 (⟨rfl, hJ3⟩ | ⟨rfl, hJx3⟩)
   ·gi_wp2
    go_roundw
    case rel => exact ⟨k + 1, by omega, by simp, hJ3⟩
    case measure => simp [intOf]; omega
   ·gi_wp2
    refine bodyPost_ret (results_none rfl _ _ _) rfl ?_
    exact ⟨⟨_, rfl⟩, .inr hJx3⟩
  ·obtain rfl : k = len := by omega
   gi_wp2
   go_end0
   exact ⟨⟨_, rfl⟩, .inl hJs⟩
set_option maxHeartbeats 1000000 in
theorem Tryd.values1_nil_in (F : Fence) (n : Nat) (h7 : F.fn 46) (hro : F.round = none) (l Bs : Nat) (J : Nat → World → Prop) (W : World) (hBs : W.cell? ⟨Bs, 0, none⟩ = some (.slice none 0 0)) (h0 : J 0 W) :
  CallsIn F n Tryd.prog 46 #[.func (.yield l) #[] #[], .pointer (some ⟨Bs, 0, none⟩)] W fun e W' => (∃ v, e = .returned v) ∧ J 0 W' := by
 refine callsIn_of_wp Tryd.func46 rfl h7 ?_ hro
 simp only [Tryd.ntmps46, List.size_toArray, List.length_cons, List.length_nil, Nat.reduceAdd, Nat.reduceSub, Array.replicate_succ, Array.replicate_zero, List.push_toArray, List.append_toArray, List.nil_append, List.cons_append]
 gi_wp2
 gi_loopw [7] (fun i wr => i = .int .i64 0 ∧ J 0 wr) (fun _ _ => 0)
 case atStart => exact ⟨rfl, h0⟩
 case round =>
  obtain ⟨rfl, hJs⟩ := hrel
  gi_wp2
  go_end0
  exact ⟨⟨_, rfl⟩, hJs⟩
theorem values46_enters (args : Array Value) (w : World) : (callFunc 46 args).run Tryd.prog w = .ok (.enter 46 args) w := by
 simp only [callFunc, Sem.run_bind, run_program, Result.andThen_ok, Tryd.func46]
 rfl
theorem seq46 {K : Cfg} (hP : K.P = Tryd.prog) (hd : K.dr = false) : SeqOk K 46 toldValues := by
 refine ⟨hd, ?_⟩
 intro cap H xss hx
 rw [hP]
 refine ⟨values46_enters, fun F g κ w rcap hg hs hv l J Jx hJ _ hY h0 => ?_⟩
 obtain ⟨Bs, xs, rfl, h1, h2, rfl, h3⟩ := values_lies hx hs hv
 have hlen : (xs.map fun x => [x]).length = xs.length := by simp
 rw [hlen]
 rcases h3 with ⟨rfl, hc⟩ | ⟨b, off, cap', hc, hI⟩
 ·exact (Tryd.values1_nil_in (wd none) 0 trivial rfl l Bs J w hc h0).mono fun e W' q => ⟨q.1, .inl q.2⟩
 ·obtain ⟨zs, hzs⟩ : ∃ zs : Nat → Int, zs = fun k => ((xs[k]?).bind i64Of).getD 0 := ⟨_, rfl⟩
  have hz : ∀ k, k < xs.length → xs[k]? = some (.v (.int .i64 (zs k))) := fun k hk => by
   obtain ⟨n, hn⟩ := i64s_get h1 (List.getElem?_eq_getElem hk)
   rw [hzs]
   simp only [List.getElem?_eq_getElem hk, hn]
   rfl
  refine Tryd.values1_in (wd none) 0 trivial rfl rfl l Bs b off xs.length cap' zs (by omega) J Jx (fun i W q j hj => hJ i W q b (off + j) _ (hI j _ (hz j hj))) (fun i W q hi => ?_) w hc h0
  refine hY i [.v (.int .i64 (zs i))] W [.int .i64 (zs i)] ?_ q ?_
  ·rw [List.getElem?_map, hz i hi]; rfl
  ·exact VRs.cons (.v rfl) VRs.nil
end Go.Proofs
