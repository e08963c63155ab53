/- HttpBack, where what it reads holds together at most 1048576 values and letters: a request that was written comes out of a stream as it was; the conditions are the given card's own (the program's listed variables as its text lays them, in a started outside world), and no other. -/
import Derived.Test.YtfihfpgphipglaaGreatDoorHcWeigh
import Derived.LaidByTextLater
import Derived.Deep.DeepWitnessRowRef
set_option linter.unusedVariables false
set_option linter.unusedSimpArgs false
set_option linter.unusedSectionVars false
namespace Go.Proofs.YtfihfpgphipglaaGreatDoor.httpBack
open Go Go.Proofs Go.Proofs.Hc Go.ChangeShapes Go.WideShapes Go.ChangeAt Go.RowKit Go.Tm
open Go.ChangeMaps (open_string shut_string)
set_option maxRecDepth 100000
theorem ty9c {n R : Nat} {cs : List AV} (h : Ty Tryz.prog (n + 1) 9 cs R) : ∃ s, cs = [.str s] ∧ s.length ≤ R := by
 unfold Ty at h
 rw [Tryz.underlying9] at h
 exact h
theorem cells9 : Tryz.prog.cellsOf 9 = 1 := by kernel_rfl
theorem cells28 : Tryz.prog.cellsOf 28 = 1 := by kernel_rfl
theorem cells29 : Tryz.prog.cellsOf 29 = 1 := by kernel_rfl
theorem cells31 : Tryz.prog.cellsOf 31 = 5 := by kernel_rfl
theorem cells52 : Tryz.prog.cellsOf 52 = 2 := by kernel_rfl
theorem bytes9 : Tryz.prog.bytesOf 9 = 16 := by kernel_rfl
theorem bytes52 : Tryz.prog.bytesOf 52 = 32 := by kernel_rfl
theorem fields52 : ∃ fs, Tryz.prog.underlying 52 = some (.struct fs) ∧ fs.toList.map (fun f => (f.type, f.offset)) = [(9, 0), (9, 1)] := by
 refine ⟨_, Tryz.underlying52, ?_⟩
 rfl
theorem fields31 : ∃ fs, Tryz.prog.underlying 31 = some (.struct fs) ∧ fs.toList.map (fun f => (f.type, f.offset)) = [(9, 0), (28, 1), (29, 2), (29, 3), (9, 4)] := by
 refine ⟨_, Tryz.underlying31, ?_⟩
 rfl
theorem ty52c {n R : Nat} {cs : List AV} (h : Ty Tryz.prog (n + 2) 52 cs R) (hl : cs.length = 2) : ∃ e : Hd, cs = [.str e.1, .str e.2] ∧ e.1.length ≤ R ∧ e.2.length ≤ R := by
 obtain ⟨fs, hu, hf⟩ := fields52
 unfold Ty at h
 rw [hu] at h
 obtain ⟨_, hi⟩ := h
 have get : ∀ t o, (t, o) ∈ fs.toList.map (fun f => (f.type, f.offset)) → Ty Tryz.prog (n + 1) t ((cs.drop o).take (Tryz.prog.cellsOf t)) R := fun t o q => by
  obtain ⟨f, hf, e⟩ := List.mem_map.1 q
  cases e
  exact hi f hf
 rw [hf] at get
 match cs, hl with
 | [a, b], _ =>
  obtain ⟨s, hs, h1⟩ := ty9c (get 9 0 (by simp))
  obtain ⟨t, ht, h2⟩ := ty9c (get 9 1 (by simp))
  rw [cells9] at hs ht
  simp at hs ht
  exact ⟨(s, t), by rw [hs, ht], h1, h2⟩
theorem ty28c {n R : Nat} {cs : List AV} (h : Ty Tryz.prog (n + 2) 28 cs R) : ∃ (l : List Bs) (tl : Tail), cs = [.sl (l.map AV.str) tl] ∧ tl.un = tl ∧ l.length * 16 ≤ R ∧ ∀ p ∈ l, p.length ≤ R := by
 unfold Ty at h
 rw [Tryz.underlying28] at h
 rcases h with hc | ⟨xs, hc, hl, hmx, hx⟩
 ·exact ⟨[], .nil, by simpa using hc, rfl, by simp, by simp⟩
 ·rw [bytes9] at hl
  obtain ⟨o, ho, hol, hob⟩ : ∃ o : List Bs, xs = o.map AV.str ∧ o.length = xs.length ∧ ∀ p ∈ o, p.length ≤ R := by
   clear hl hc hmx
   induction xs with
   | nil => exact ⟨[], rfl, rfl, by simp⟩
   | cons y r ih =>
    obtain ⟨h1, h2, h3⟩ := hx y (by simp)
    rw [cells9] at h2 h3
    obtain ⟨e, he, hb⟩ := ty9c h1
    rw [he] at h3
    have hy : y = .str e := h3.symm
    obtain ⟨o, ho, hol, hob⟩ := ih fun z hz => hx z (by simp [hz])
    refine ⟨e :: o, by rw [List.map_cons, hy, ← ho], by simp [hol], fun p hp => ?_⟩
    rcases List.mem_cons.1 hp with rfl | hp
    ·exact hb
    ·exact hob p hp
  exact ⟨o, .unk, by rw [← ho]; exact hc, rfl, by rw [hol]; exact hl, hob⟩
theorem ty29c {n R : Nat} {cs : List AV} (h : Ty Tryz.prog (n + 3) 29 cs R) : ∃ (l : List Hd) (tl : Tail), cs = [.sl (l.map hdV) tl] ∧ tl.un = tl ∧ l.length * 32 ≤ R ∧ ∀ p ∈ l, p.1.length ≤ R ∧ p.2.length ≤ R := by
 unfold Ty at h
 rw [Tryz.underlying29] at h
 rcases h with hc | ⟨xs, hc, hl, hmx, hx⟩
 ·exact ⟨[], .nil, by simpa using hc, rfl, by simp, by simp⟩
 ·rw [bytes52] at hl
  obtain ⟨o, ho, hol, hob⟩ : ∃ o : List Hd, xs = o.map hdV ∧ o.length = xs.length ∧ ∀ p ∈ o, p.1.length ≤ R ∧ p.2.length ≤ R := by
   clear hl hc hmx
   induction xs with
   | nil => exact ⟨[], rfl, rfl, by simp⟩
   | cons y r ih =>
    obtain ⟨h1, h2, h3⟩ := hx y (by simp)
    rw [cells52] at h2 h3
    obtain ⟨e, he, hb⟩ := ty52c h1 h2
    rw [he] at h3
    have hy : y = hdV e := h3.symm
    obtain ⟨o, ho, hol, hob⟩ := ih fun z hz => hx z (by simp [hz])
    refine ⟨e :: o, by rw [List.map_cons, hy, ← ho], by simp [hol], fun p hp => ?_⟩
    rcases List.mem_cons.1 hp with rfl | hp
    ·exact hb
    ·exact hob p hp
  exact ⟨o, .unk, by rw [← ho]; exact hc, rfl, by rw [hol]; exact hl, hob⟩
theorem psum_le {R : Nat} : ∀ l : List Bs, (∀ p ∈ l, p.length ≤ R) → psum l ≤ l.length * R
 | [], _ => by simp [psum]
 | p :: r, h => by
  have := psum_le r fun q hq => h q (by simp [hq])
  have := h p (by simp)
  simp only [psum, List.length_cons, Nat.succ_mul]
  omega
theorem qsum_le {R : Nat} : ∀ l : List Hd, (∀ p ∈ l, p.1.length ≤ R ∧ p.2.length ≤ R) → qsum l ≤ l.length * (2 * R)
 | [], _ => by simp [qsum]
 | p :: r, h => by
  have := qsum_le r fun q hq => h q (by simp [hq])
  have := h p (by simp)
  rw [qsum, List.length_cons, Nat.succ_mul]
  omega
theorem ty31 {n : Nat} {x : AV} {v : Value} {w : World} (h : Opened w Tryz.prog (n + 4) 31 x v 33554432) : ∃ (f : First) (hs : List Hd) (ta tb tc : Tail) (bd : Bs), x = callT f hs ta tb tc bd ∧ ta.un = ta ∧ tb.un = tb ∧ f.method.length ≤ 33554432 ∧ psum f.path + qsum f.query < 4611686018427387904 := by
 obtain ⟨fs, hu, hf⟩ := fields31
 have hty := h.ty
 have hs := h.shape
 unfold Ty at hty
 rw [hu] at hty hs
 simp only at hs
 obtain ⟨hl, hi⟩ := hty
 rw [cells31] at hl
 have get : ∀ t o, (t, o) ∈ fs.toList.map (fun f => (f.type, f.offset)) → Ty Tryz.prog (n + 3) t ((x.cells.drop o).take (Tryz.prog.cellsOf t)) 33554432 := fun t o q => by
  obtain ⟨f, hf, e⟩ := List.mem_map.1 q
  cases e
  exact hi f hf
 rw [hf] at get
 generalize x.cells = cs at *
 obtain ⟨a, b, c, d, e, rfl⟩ : ∃ a b c d e, cs = [a, b, c, d, e] := by
  match cs, hl with
  | [a, b, c, d, e], _ => exact ⟨a, b, c, d, e, rfl⟩
 obtain ⟨m, hm, hml⟩ := ty9c (get 9 0 (by simp))
 obtain ⟨p, ta, hp, hta, hpl, hpb⟩ := ty28c (get 28 1 (by simp))
 obtain ⟨q, tb, hq, htb, hql, hqb⟩ := ty29c (get 29 2 (by simp))
 obtain ⟨hh, tc, hh1, _, _, _⟩ := ty29c (get 29 3 (by simp))
 obtain ⟨bd, hbd, _⟩ := ty9c (get 9 4 (by simp))
 rw [cells9] at hm hbd
 rw [cells28] at hp
 rw [cells29] at hq hh1
 simp at hm hp hq hh1 hbd
 have := psum_le p hpb
 have := qsum_le q hqb
 exact ⟨⟨m, p, q⟩, hh, ta, tb, tc, bd, by rw [hs, hm, hp, hq, hh1, hbd]; rfl, hta, htb, hml, by simp only; omega⟩
theorem table {W : World} (h : laidMetH Tryz.prog Rows.httpBackUptoRow.laid W) : Lib.TabIs Tryz.prog W "internal/strconv.uint64pow10" .u64 pow10 := by
 have h' : laidMet Tryz.prog Rows.httpBackUptoRow.laid W := h
 exact Lib.tabIs_of_head (g := 3) (t := 128) (e := 76) (n := 20) (by kernel_rfl) (by kernel_rfl) (by kernel_rfl) (by kernel_rfl) (by kernel_rfl) (by kernel_rfl) (laidMet_tail (laidMet_tail h'))
theorem contract (H : Type) (enc : TypeId × Value → H) (W : World) (base : Nat) (args : Array Value) (ds gs : List (DataW H)) (before : List MemPlace)
  (hval : ∀ (j : Nat) t v, Tryz.f4.params[j]? = some t → args[j]? = some v → Value.okWide Tryz.prog W .any base t v)
  (hW : DataW.Whole enc Tryz.prog Tryz.f4.params.toList Rows.httpBackSpec.vars false W args.toList ds gs before) (hL : laidMetH Tryz.prog Rows.httpBackUptoRow.laid W) (hsh : W.ShapedOpen Tryz.prog)
  (hk : Rows.uptoSmall H (ds ++ gs) = true)
  (_ : (DataW.weightsEach Tryz.prog (Tryz.f4.params.toList ++ (Rows.OpenSpec.upto Rows.httpBackSpec).bare.plain.varTypes Tryz.prog) (ds ++ gs)).all (· ≤ reachBytes) = true) :
  Calls Tryz.prog 4 args W fun e W' => ∃ v, e = .returned v ∧ Rows.httpBackSpec.post enc Tryz.prog Tryz.f4 false true false false W args v W' := by
 have hW' := hW
 obtain ⟨p, q, hA0, hV, rfl, hfz, hnd⟩ := hW
 have hA : DataW.TrodAll enc Tryz.prog W 0 (fun _ => true) true Tryz.f4.params.toList args.toList ds p := hA0
 obtain ⟨rfl, rfl⟩ := trodVars_none hV
 rw [Tryz.params4] at hA hval
 obtain ⟨v0, vs0, d0, ds0, p0, q0, hargs, rfl, rfl, h0, r0⟩ := trodAll_cons hA
 obtain ⟨rfl, rfl, rfl⟩ := trodAll_nil r0
 obtain rfl : args = #[v0] := by cases args; simp_all
 have hsz : (DataW.weightsEach Tryz.prog ((#[31] : Array TypeId).toList ++ (Rows.OpenSpec.upto Rows.httpBackSpec).bare.plain.varTypes Tryz.prog) ([d0] ++ [])).all (· ≤ 1048576 * 32) = true := light 8 (by omega) (by kernel_rfl) (of_decide_eq_true hk)
 have hsz' := fun i t d => weightsEach_all (P := Tryz.prog) _ _ hsz i t d
 obtain ⟨x0, o0⟩ := value_open (m := 8) (by kernel_rfl) (hval 0 31 v0 rfl rfl) h0 (hsz' 0 31 d0 rfl rfl)
 obtain ⟨f, hs, ta, tb, tc, bd, rfl, hta, htb, hml, hpq⟩ := ty31 o0
 have hm : ∃ m, W.cell? ⟨0, 0, none⟩ = some (.int .i64 m) := cell_of_shapedOpen_int (t := 3) (zero := #[.int .i64 0]) hsh (of_decide_eq_true (by kernel_rfl)) (by kernel_rfl) rfl (by kernel_rfl) (by kernel_rfl) (by kernel_rfl)
 have ht : ∀ k (v : Value), (pow10.map (Value.int .u64))[k]? = some v → W.cell? ⟨3, k, none⟩ = some v := by
  intro k v hk
  simp only [List.getElem?_map, Option.map_eq_some_iff] at hk
  obtain ⟨z, hz, rfl⟩ := hk
  have hlt := (List.getElem?_eq_some_iff.1 hz).1
  rw [(table hL).cell (g := 3) (by kernel_rfl) k hlt, List.getD_eq_getElem?_getD, hz]; rfl
 obtain ⟨x, hx, hc⟩ := err_cell (laidMet_tail (laidMet_tail (laidMet_tail (laidMet_tail (laidMet_tail (show laidMet Tryz.prog Rows.httpBackUptoRow.laid W from hL))))))
 refine (calls_of_tells (kq_ok x) (back_tells f hs ta tb tc bd hta htb (by omega) hpq []) (kq_glob (kp_glob W x hx hc hm ht)) (VRs.cons o0.vr VRs.nil) (fn := Tryz.f4) Tryz.func4 (by kernel_rfl)).mono ?_
 rintro e W' ⟨v, rfl, ⟨g', r, H', hvr, ⟨rfl, _⟩⟩, hkp⟩
 cases hvr
 refine ⟨_, rfl, ?_⟩
 have bel := kept_below hkp
 refine ⟨_, _, _, [], _, [], hW', trodAll_cons_mk (shut_bool Tryz.underlying4 _) trodAll_mk0, args_again (by kernel_rfl) bel ?_ hA, rfl, bel.frame _, fun h => by cases h⟩
 intro t ht
 simp at ht
 subst ht
 exact ⟨by kernel_rfl, Nat.le_of_ble_eq_true (by kernel_rfl)⟩
/-! A world that bears the listed variables. -/
def firstCells8 : List Value := Go.Pinned.utf8FirstZ.map fun (n : Nat) => Value.int .u8 n
noncomputable def laidWorld (os : Os) : World :=
 let w := varsWorld Tryz.prog 64 152 os (fun _ _ => 0)
 let h := (w.heap.modify 7 fun | .cells _ t f => .cells firstCells8.toArray t f | o => o).modify 4 fun | .cells _ t f => .cells #[.slice (some ⟨16, 0, none⟩) 336 336] t f | o => o
 { w with heap := h.push (.cells (Go.Pinned.caseRows.flatMap crCells).toArray 161) }
noncomputable def memory (os : Os) : World := ((laidWorld os).forCall (fun _ _ => 0) ⟨#[], #[.agg #[.string ⟨#[]⟩, .slice none 0 0, .slice none 0 0, .slice none 0 0, .string ⟨#[]⟩]], []⟩).memory
theorem caseTypes : ∃ f0 f1 f2, CaseTypes Tryz.prog 146 161 109 21 159 f0 f1 f2 :=
 ⟨_, _, _, { hS := Tryz.underlying146, hR := Tryz.underlying161, hU := Tryz.underlying109, hI := Tryz.underlying21, hD := Tryz.underlying159, cR := by kernel_rfl, cU := by kernel_rfl, cI := by kernel_rfl, cD := by kernel_rfl, e0 := rfl, e1 := rfl, e2 := rfl, o0 := rfl, o1 := rfl, o2 := rfl }⟩
theorem laid1 (os : Os) : ∃ ps, LaidWith Tryz.prog (Rows.httpBackUptoRow.laid.take 6) (memory os) ps ∧ ∀ p ∈ ps, p.block ∈ [1, 2, 3, 5, 6, 8, 14, 15] := laidWith_of_run 8 4096 _ (by kernel_rfl)
theorem laid3 (os : Os) : ∃ ps, LaidWith Tryz.prog (Rows.httpBackUptoRow.laid.drop 7) (memory os) ps ∧ ∀ p ∈ ps, p.block ∈ [7] := laidWith_of_run 8 4096 _ (by kernel_rfl)
theorem rows_wf : Go.Pinned.caseRows.all crWf = true := by kernel_rfl
theorem rows_length : Go.Pinned.caseRows.length = 336 := by kernel_rfl
theorem case_var (os : Os) : (memory os).heap[4]? = some (.cells #[.slice (some ⟨16, 0, none⟩) 336 336] 146 (0, 0)) := by kernel_rfl
theorem case_block (os : Os) : (memory os).heap[16]? = some (.cells (Go.Pinned.caseRows.flatMap crCells).toArray 161 (0, 0)) := by kernel_rfl
theorem laid2 (os : Os) : ∃ ps, LaidWith Tryz.prog [("unicode.CaseRanges", .slice (Go.Pinned.caseRows.map Go.Pinned.caseRange) [])] (memory os) ps ∧ ∀ p ∈ ps, p.block = 4 ∨ p.block = 16 := by
 obtain ⟨f0, f1, f2, L⟩ := caseTypes
 exact case_laid L (by decide) (by kernel_rfl) (by kernel_rfl) rows_wf (by rw [rows_length]; decide) (by rw [rows_length]; exact case_var os) (case_block os)
theorem laid_met (os : Os) : laidMet Tryz.prog Rows.httpBackUptoRow.laid (memory os) := by
 obtain ⟨p1, h1, b1⟩ := laid1 os
 obtain ⟨p2, h2, b2⟩ := laid2 os
 obtain ⟨p3, h3, b3⟩ := laid3 os
 have h12 := h1.append h2 fun p hp hq => by
  have a := b1 p hp
  rcases b2 p hq with b | b <;> rw [b] at a <;> revert a <;> decide
 exact (h12.append h3 fun p hp hq => by
  have b := b3 p hq
  simp only [List.mem_singleton] at b
  rcases List.mem_append.1 hp with hp | hp
  ·have a := b1 p hp
   rw [b] at a
   revert a
   decide
  ·rcases b2 p hp with a | a <;> rw [b] at a <;> revert a <;> decide).met
theorem os_eq (os : Os) : (laidWorld os).os = os := by kernel_rfl
theorem vars_ok (os : Os) : ((laidWorld os).forCall (fun _ _ => 0) ⟨#[], #[.agg #[.string ⟨#[]⟩, .slice none 0 0, .slice none 0 0, .slice none 0 0, .string ⟨#[]⟩]], []⟩).variablesRefB Tryz.prog = true := by kernel_rfl
theorem own : ownKnob Tryz.prog.godebug = none := by kernel_rfl
theorem reads (os : Os) {H : Type} (enc : TypeId × Value → H) : ∃ places, DataW.whole enc Tryz.prog (memory os) Tryz.f4.params.toList Rows.httpBackSpec.vars false #[Value.agg #[.string ⟨#[]⟩, .slice none 0 0, .slice none 0 0, .slice none 0 0, .string ⟨#[]⟩]].toList 8 = some ([.agg [.lit (.string []), .nil, .nil, .nil, .lit (.string [])]], [], places) :=
 ⟨[], by kernel_rfl⟩
theorem lifted (os : Os) (started : os.Started) (H : Type) (enc : TypeId × Value → H) (F : Stop.Interp) :
  ReturnsInHanded {} Tryz.checked os 4 .any ((Rows.OpenSpec.upto Rows.httpBackSpec).preRow enc Tryz.prog Tryz.f4 Rows.httpBackUptoRow.domain false Rows.httpBackUptoRow.laid) (((Rows.OpenSpec.upto Rows.httpBackSpec).at F).post enc Tryz.prog Tryz.f4 false true false false) := by
 obtain ⟨places, hx⟩ := reads os enc
 refine returnsInHanded_of_row (C := Tryz.checked) (s := Rows.OpenSpec.upto Rows.httpBackSpec) own started (by kernel_rfl) Tryz.func4
  (witness_row_atRef (enc := enc) (C := Tryz.checked) false (laidWorld os) #[.agg #[.string ⟨#[]⟩, .slice none 0 0, .slice none 0 0, .slice none 0 0, .string ⟨#[]⟩]] (os_eq os) (vars_ok os) (by kernel_rfl) (by kernel_rfl)
   (OpenSpec.preRow_of_cond 8 hx (by kernel_rfl) (fun k hk => by cases hk; kernel_rfl) (by kernel_rfl) (laid_met os))) ?_
 intro W base args ds gs before hval hW _ hcond hsz hL hsh _
 exact contract H enc W base args ds gs before hval hW hL hsh (hcond _ rfl) hsz
theorem said : Rows.HttpBackUptoSaid :=
 OpenClaim.holds_of_cond 4 Tryz.f4 rfl rfl rfl rfl rfl rfl rfl ⟨rfl, rfl, rfl, rfl, rfl⟩ rfl rfl rfl rfl rfl (by kernel_rfl) Tryz.func4 (by kernel_rfl)
  (of_decide_eq_true (by kernel_rfl)) (by unfold Func.isWrapper; first | (rw [if_pos (by decide +kernel)]; kernel_rfl) | (rw [if_neg (by decide +kernel)]; exact ⟨rfl, rfl⟩))
  (fun os started H enc _ F => by rw [OpenClaim.pre_eq_preRow]; exact lifted os started H enc F)
theorem plain (f : FuncId) (fn : Func) (hf : Tryz.pinned.checked.prog.funcNamed "murmuration/murmurationlaw21.HttpBack" = some f) (hfn : Tryz.pinned.checked.prog.funcs[f]? = some fn) :
  true = Tryz.pinned.checked.prog.looks [] ∧ ∀ (j : Nat) t, fn.params[j]? = some t → Tryz.pinned.checked.prog.wantsStandIn t = false := by
 obtain rfl : f = 4 := Option.some.inj ((show Tryz.prog.funcNamed "murmuration/murmurationlaw21.HttpBack" = some 4 by kernel_rfl).symm.trans hf) |>.symm
 obtain rfl : fn = Tryz.f4 := (Option.some.inj (Tryz.func4.symm.trans hfn)).symm
 refine ⟨by kernel_rfl, fun j t ht => ?_⟩
 rw [Tryz.params4] at ht
 have h3 : t = 31 := by simpa using Array.mem_of_getElem? ht
 subst h3
 exact (show Tryz.prog.wantsStandIn 31 = false by kernel_rfl)
theorem card : Rows.HttpBackUptoCardSaid :=
 Claim7.holds_tied_plain_at .later [] _ _ _ _ said (fun _ h => by cases h) (by kernel_rfl) (fun _ h => by cases h) httpBackUpto_row_tie rfl ⟨rfl, rfl⟩ (by kernel_rfl) rfl plain (by kernel_rfl)
end Go.Proofs.YtfihfpgphipglaaGreatDoor.httpBack
