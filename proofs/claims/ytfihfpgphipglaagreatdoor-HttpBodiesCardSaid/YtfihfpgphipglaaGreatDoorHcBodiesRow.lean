/- HttpBodies: a body has just as many bytes as its length says, one more than 30000 is too large, what stands behind is the next request: for any body and any size the law tells true and leaves the input as it was; the conditions are the given card's own (the program's listed variables as its text lays them, in a started outside world), and no other. -/
import Derived.Test.YtfihfpgphipglaaGreatDoorHcBodies
import Derived.LaidByTextLater
import Derived.Deep.DeepWitnessRowRef
set_option linter.unusedVariables false
set_option linter.unusedSimpArgs false
set_option linter.unusedSectionVars false
namespace Go.Proofs.YtfihfpgphipglaaGreatDoor.httpBodies
open Go Go.Proofs Go.Proofs.Hc Go.ChangeShapes Go.WideShapes Go.ChangeAt Go.RowKit Go.Tm
open Go.ChangeMaps (open_string shut_string)
set_option maxRecDepth 100000
theorem ty9 {n : Nat} {x : AV} {v : Value} {w : World} (h : Opened w Tryz.prog (n + 1) 9 x v) : ∃ s, x = .str s ∧ s.length ≤ reachBytes := by
 have ht := h.ty
 unfold Ty at ht
 rw [Tryz.underlying9] at ht
 obtain ⟨s, hs, hl⟩ := ht
 have hsh := h.shape
 rw [Tryz.underlying9] at hsh
 simp only at hsh
 rw [hs] at hsh
 exact ⟨s, by simpa using hsh.symm, hl⟩
theorem cells3 : Tryz.prog.cellsOf 3 = 1 := by kernel_rfl
theorem bytes3 : Tryz.prog.bytesOf 3 = 8 := by kernel_rfl
theorem ty3 {n : Nat} {cs : List AV} (h : Ty Tryz.prog (n + 1) 3 cs) : ∃ z, cs = [i64v z] ∧ (Lit.int .i64 z).wf = true := by
 unfold Ty at h
 rw [Tryz.underlying3] at h
 exact h
theorem ty3o {n : Nat} {x : AV} {v : Value} {w : World} (h : Opened w Tryz.prog (n + 1) 3 x v) : ∃ z, x = i64v z := by
 obtain ⟨z, hz, _⟩ := ty3 h.ty
 have hsh := h.shape
 rw [Tryz.underlying3] at hsh
 simp only at hsh
 rw [hz] at hsh
 exact ⟨z, by simpa using hsh.symm⟩
theorem table {W : World} (h : laidMetH Tryz.prog Rows.httpBodiesRow.laid W) : Lib.TabIs Tryz.prog W "internal/strconv.uint64pow10" .u64 pow10 := by
 have h' : laidMet Tryz.prog Rows.httpBodiesRow.laid W := h
 exact Lib.tabIs_of_head (g := 3) (t := 128) (e := 76) (n := 20) (by kernel_rfl) (by kernel_rfl) (by kernel_rfl) (by kernel_rfl) (by kernel_rfl) (by kernel_rfl) (laidMet_tail (laidMet_tail h'))
theorem contract (H : Type) (enc : TypeId × Value → H) (W : World) (base : Nat) (args : Array Value) (ds gs : List (DataW H)) (before : List MemPlace)
  (hval : ∀ (j : Nat) t v, Tryz.f5.params[j]? = some t → args[j]? = some v → Value.okWide Tryz.prog W .any base t v)
  (hW : DataW.Whole enc Tryz.prog Tryz.f5.params.toList Rows.httpBodiesSpec.vars false W args.toList ds gs before) (hL : laidMetH Tryz.prog Rows.httpBodiesRow.laid W) (hsh : W.ShapedOpen Tryz.prog)
  (hsz : (DataW.weightsEach Tryz.prog (Tryz.f5.params.toList ++ (OpenSpec.ofChange Rows.httpBodiesSpec).bare.plain.varTypes Tryz.prog) (ds ++ gs)).all (· ≤ reachBytes) = true) :
  Calls Tryz.prog 5 args W fun e W' => ∃ v, e = .returned v ∧ Rows.httpBodiesSpec.post enc Tryz.prog Tryz.f5 false true false false W args v W' := by
 have hW' := hW
 obtain ⟨p, q, hA0, hV, rfl, hfz, hnd⟩ := hW
 have hA : DataW.TrodAll enc Tryz.prog W 0 (fun _ => true) true Tryz.f5.params.toList args.toList ds p := hA0
 obtain ⟨rfl, rfl⟩ := trodVars_none hV
 rw [Tryz.params5] at hA hval hsz
 obtain ⟨v0, vs0, d0, ds0, p0, q0, hargs, rfl, rfl, h0, r0⟩ := trodAll_cons hA
 obtain ⟨v1, vs1, d1, ds1, p1, q1, e1, rfl, rfl, h1, r1⟩ := trodAll_cons r0
 obtain ⟨rfl, rfl, rfl⟩ := trodAll_nil r1
 subst e1
 obtain rfl : args = #[v0, v1] := by cases args; simp_all
 have hsz' := fun i t d => weightsEach_all (P := Tryz.prog) _ _ hsz i t d
 obtain ⟨x0, o0⟩ := value_open (m := 4) (by kernel_rfl) (hval 0 9 v0 rfl rfl) h0 (hsz' 0 9 d0 rfl rfl)
 obtain ⟨x1, o1⟩ := value_open (m := 4) (by kernel_rfl) (hval 1 3 v1 rfl rfl) h1 (hsz' 1 3 d1 rfl rfl)
 obtain ⟨s, rfl, hsl⟩ := ty9 o0
 obtain ⟨z, rfl⟩ := ty3o o1
 have hr : reachBytes = 140737488351232 := rfl
 have hm : ∃ m, W.cell? ⟨0, 0, none⟩ = some (.int .i64 m) := cell_of_shapedOpen_int (t := 3) (zero := #[.int .i64 0]) hsh (of_decide_eq_true (by kernel_rfl)) (by kernel_rfl) rfl (by kernel_rfl) (by kernel_rfl) (by kernel_rfl)
 have ht : ∀ k (v : Value), (pow10.map (Value.int .u64))[k]? = some v → W.cell? ⟨3, k, none⟩ = some v := by
  intro k v hk
  simp only [List.getElem?_map, Option.map_eq_some_iff] at hk
  obtain ⟨z, hz, rfl⟩ := hk
  have hlt := (List.getElem?_eq_some_iff.1 hz).1
  rw [(table hL).cell (g := 3) (by kernel_rfl) k hlt, List.getD_eq_getElem?_getD, hz]; rfl
 obtain ⟨x, hx, hc⟩ := err_cell (laidMet_tail (laidMet_tail (laidMet_tail (laidMet_tail (laidMet_tail (show laidMet Tryz.prog Rows.httpBodiesRow.laid W from hL))))))
 refine (calls_of_tells (kq_ok x) (bodies_tells s (by omega) z []) (kq_glob (kp_glob W x hx hc hm ht)) (VRs.cons o0.vr (VRs.cons o1.vr VRs.nil)) (fn := Tryz.f5) Tryz.func5 (by kernel_rfl)).mono ?_
 rintro e W' ⟨v, rfl, ⟨g', r, H', hvr, ⟨rfl, _⟩⟩, hkp⟩
 cases hvr
 refine ⟨_, rfl, ?_⟩
 have bel := kept_below hkp
 refine ⟨_, _, _, [], _, [], hW', trodAll_cons_mk (shut_bool Tryz.underlying4 _) trodAll_mk0, args_again (by kernel_rfl) bel ?_ hA, rfl, bel.frame _, fun h => by cases h⟩
 intro t ht
 simp at ht
 rcases ht with rfl | rfl
 ·exact ⟨by kernel_rfl, Nat.le_of_ble_eq_true (by kernel_rfl)⟩
 ·exact ⟨by kernel_rfl, Nat.le_of_ble_eq_true (by kernel_rfl)⟩
/-! A world that bears the listed variables. -/
def firstCells8 : List Value := Go.Pinned.utf8FirstZ.map fun (n : Nat) => Value.int .u8 n
noncomputable def laidWorld (os : Os) : World :=
 let w := varsWorld Tryz.prog 64 152 os (fun _ _ => 0)
 let h := (w.heap.modify 7 fun | .cells _ t f => .cells firstCells8.toArray t f | o => o).modify 4 fun | .cells _ t f => .cells #[.slice (some ⟨16, 0, none⟩) 336 336] t f | o => o
 { w with heap := h.push (.cells (Go.Pinned.caseRows.flatMap crCells).toArray 161) }
noncomputable def memory (os : Os) : World := ((laidWorld os).forCall (fun _ _ => 0) ⟨#[], #[.string ⟨#[]⟩, .int .i64 0], []⟩).memory
theorem caseTypes : ∃ f0 f1 f2, CaseTypes Tryz.prog 146 161 109 21 159 f0 f1 f2 :=
 ⟨_, _, _, { hS := Tryz.underlying146, hR := Tryz.underlying161, hU := Tryz.underlying109, hI := Tryz.underlying21, hD := Tryz.underlying159, cR := by kernel_rfl, cU := by kernel_rfl, cI := by kernel_rfl, cD := by kernel_rfl, e0 := rfl, e1 := rfl, e2 := rfl, o0 := rfl, o1 := rfl, o2 := rfl }⟩
theorem laid1 (os : Os) : ∃ ps, LaidWith Tryz.prog (Rows.httpBodiesRow.laid.take 6) (memory os) ps ∧ ∀ p ∈ ps, p.block ∈ [1, 2, 3, 5, 6, 8, 14, 15] := laidWith_of_run 8 4096 _ (by kernel_rfl)
theorem laid3 (os : Os) : ∃ ps, LaidWith Tryz.prog (Rows.httpBodiesRow.laid.drop 7) (memory os) ps ∧ ∀ p ∈ ps, p.block ∈ [7] := laidWith_of_run 8 4096 _ (by kernel_rfl)
theorem rows_wf : Go.Pinned.caseRows.all crWf = true := by kernel_rfl
theorem rows_length : Go.Pinned.caseRows.length = 336 := by kernel_rfl
theorem case_var (os : Os) : (memory os).heap[4]? = some (.cells #[.slice (some ⟨16, 0, none⟩) 336 336] 146 (0, 0)) := by kernel_rfl
theorem case_block (os : Os) : (memory os).heap[16]? = some (.cells (Go.Pinned.caseRows.flatMap crCells).toArray 161 (0, 0)) := by kernel_rfl
theorem laid2 (os : Os) : ∃ ps, LaidWith Tryz.prog [("unicode.CaseRanges", .slice (Go.Pinned.caseRows.map Go.Pinned.caseRange) [])] (memory os) ps ∧ ∀ p ∈ ps, p.block = 4 ∨ p.block = 16 := by
 obtain ⟨f0, f1, f2, L⟩ := caseTypes
 exact case_laid L (by decide) (by kernel_rfl) (by kernel_rfl) rows_wf (by rw [rows_length]; decide) (by rw [rows_length]; exact case_var os) (case_block os)
theorem laid_met (os : Os) : laidMet Tryz.prog Rows.httpBodiesRow.laid (memory os) := by
 obtain ⟨p1, h1, b1⟩ := laid1 os
 obtain ⟨p2, h2, b2⟩ := laid2 os
 obtain ⟨p3, h3, b3⟩ := laid3 os
 have h12 := h1.append h2 fun p hp hq => by
  have a := b1 p hp
  rcases b2 p hq with b | b <;> rw [b] at a <;> revert a <;> decide
 exact (h12.append h3 fun p hp hq => by
  have b := b3 p hq
  simp only [List.mem_singleton] at b
  rcases List.mem_append.1 hp with hp | hp
  ·have a := b1 p hp
   rw [b] at a
   revert a
   decide
  ·rcases b2 p hp with a | a <;> rw [b] at a <;> revert a <;> decide).met
theorem os_eq (os : Os) : (laidWorld os).os = os := by kernel_rfl
theorem vars_ok (os : Os) : ((laidWorld os).forCall (fun _ _ => 0) ⟨#[], #[.string ⟨#[]⟩, .int .i64 0], []⟩).variablesRefB Tryz.prog = true := by kernel_rfl
theorem own : ownKnob Tryz.prog.godebug = none := by kernel_rfl
theorem reads (os : Os) {H : Type} (enc : TypeId × Value → H) : ∃ places, DataW.whole enc Tryz.prog (memory os) Tryz.f5.params.toList Rows.httpBodiesSpec.vars false #[Value.string ⟨#[]⟩, Value.int .i64 0].toList 8 = some ([.lit (.string []), .lit (.int .i64 0)], [], places) :=
 ⟨[], by kernel_rfl⟩
theorem lifted (os : Os) (started : os.Started) (H : Type) (enc : TypeId × Value → H) (F : Stop.Interp) :
  ReturnsInHanded {} Tryz.checked os 5 .any ((OpenSpec.ofChange Rows.httpBodiesSpec).preRow enc Tryz.prog Tryz.f5 Rows.httpBodiesRow.domain false Rows.httpBodiesRow.laid) (((OpenSpec.ofChange Rows.httpBodiesSpec).at F).post enc Tryz.prog Tryz.f5 false true false false) := by
 obtain ⟨places, hx⟩ := reads os enc
 refine returnsInHanded_of_row (C := Tryz.checked) (s := OpenSpec.ofChange Rows.httpBodiesSpec) own started (by kernel_rfl) Tryz.func5
  (witness_row_atRef (enc := enc) (C := Tryz.checked) false (laidWorld os) #[.string ⟨#[]⟩, .int .i64 0] (os_eq os) (vars_ok os) (by kernel_rfl) (by kernel_rfl)
   (OpenSpec.preRow_of_cond 8 hx (by kernel_rfl) (fun k hk => by cases hk) (by kernel_rfl) (laid_met os))) ?_
 intro W base args ds gs before hval hW _ _ hsz hL hsh _
 exact contract H enc W base args ds gs before hval hW hL hsh hsz
theorem said : Rows.HttpBodiesSaid :=
 OpenClaim.holds_of_cond 5 Tryz.f5 rfl rfl rfl rfl rfl rfl rfl ⟨rfl, rfl, rfl, rfl, rfl⟩ rfl rfl rfl rfl rfl (by kernel_rfl) Tryz.func5 (by kernel_rfl)
  (of_decide_eq_true (by kernel_rfl)) (by unfold Func.isWrapper; first | (rw [if_pos (by decide +kernel)]; kernel_rfl) | (rw [if_neg (by decide +kernel)]; exact ⟨rfl, rfl⟩))
  (fun os started H enc _ F => by rw [OpenClaim.pre_eq_preRow]; exact lifted os started H enc F)
theorem plain (f : FuncId) (fn : Func) (hf : Tryz.pinned.checked.prog.funcNamed "murmuration/murmurationlaw21.HttpBodies" = some f) (hfn : Tryz.pinned.checked.prog.funcs[f]? = some fn) :
  true = Tryz.pinned.checked.prog.looks [] ∧ ∀ (j : Nat) t, fn.params[j]? = some t → Tryz.pinned.checked.prog.wantsStandIn t = false := by
 obtain rfl : f = 5 := Option.some.inj ((show Tryz.prog.funcNamed "murmuration/murmurationlaw21.HttpBodies" = some 5 by kernel_rfl).symm.trans hf) |>.symm
 obtain rfl : fn = Tryz.f5 := (Option.some.inj (Tryz.func5.symm.trans hfn)).symm
 refine ⟨by kernel_rfl, fun j t ht => ?_⟩
 rw [Tryz.params5] at ht
 have h3 : t = 9 ∨ t = 3 := by simpa using Array.mem_of_getElem? ht
 rcases h3 with rfl | rfl
 ·exact (show Tryz.prog.wantsStandIn 9 = false by kernel_rfl)
 ·exact (show Tryz.prog.wantsStandIn 3 = false by kernel_rfl)
theorem card : Rows.HttpBodiesCardSaid :=
 Claim7.holds_tied_plain_at .later [] _ _ _ _ said (fun _ h => by cases h) (by kernel_rfl) (fun _ h => by cases h) httpBodies_row_tie rfl ⟨rfl, rfl⟩ (by kernel_rfl) rfl plain (by kernel_rfl)
end Go.Proofs.YtfihfpgphipglaaGreatDoor.httpBodies
