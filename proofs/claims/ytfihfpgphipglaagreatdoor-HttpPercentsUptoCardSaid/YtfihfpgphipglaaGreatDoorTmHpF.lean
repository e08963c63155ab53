/- HpRow, HpPercRow, HpWit, HpCard, joined. -/
import Derived.Test.YtfihfpgphipglaaGreatDoorTmHpE
import Derived.Test.YtfihfpgphipglaaGreatDoorTmLaw
import Derived.Test.YtfihfpgphipglaaGreatDoorTmLaid
import Derived.Test.YtfihfpgphipglaaGreatDoorCards
import Derived.Test.YtfihfpgphipglaaGreatDoorTie
import Derived.WalkKit
import Derived.ProofKit
import Derived.OpenShut
import Derived.Deep.DeepHandedRow
import Derived.Lib.LaidTab
import Derived.ChangeMaps5
import Derived.Shelf.Vars
import Derived.LaidByTextLater
import Derived.Deep.DeepWitnessRowRef
set_option linter.unusedVariables false
set_option linter.unusedSimpArgs false
set_option linter.unusedSectionVars false
section
/- HttpPercents: the program as the machine runs it; what the listed variables give. -/
namespace Go.Proofs
set_option maxRecDepth 100000
open Go.ChangeShapes Go.RowKit Go.Tm
theorem kp_of {x : Value} {f : FuncId} {args : List AV} {H H' : List AB} {r : AV} (h : CallOk (Kb x) f args H r H') : CallOk (Kp x) f args H r H' := fun g w rargs hg hs hv => h g w rargs ⟨hg.1, hg.2⟩ hs hv
theorem kp_libv (x : Value) : ∀ (f : FuncId) (h : List AV → Option AV) (args : List AV) (H : List AB) (r : AV), (Kp x).libv f = some h → h args = some r → CallOk (Kp x) f args H r H := fun f h args H r hl hr => by
  by_cases e : f = 7
  · subst e
    have hh : h = toldTrue := (Option.some.inj hl).symm
    subst hh
    cases args with
    | nil =>
      simp only [toldTrue, Option.some.injEq] at hr
      subst hr
      exact kp_of (awake_call x H)
    | cons a l => cases hr
  · have hl' : (Kb x).libv f = some h := by
      have : (if f == 7 then some toldTrue else (Kb x).libv f) = some h := hl
      rwa [if_neg (by simpa using e)] at this
    exact kp_of (kb_libv x f h args H r hl' hr)
theorem kp_ok (x : Value) : CfgOk (Kp x) where
  mixed := by kernel_rfl
  names := http_names_ok
  lib := fun f h args H r H' hl hr => kp_of (kb_lib x f h args H r H' hl hr)
  libv := kp_libv x
theorem glob_all {w : World} {i : Nat} {cs : List Value} (hflat : ∀ v ∈ cs, flat v = true) (hc : ∀ k (v : Value), cs[k]? = some v → w.cell? ⟨i, k, none⟩ = some v) :
    VR (gAll w) (.rp (cs.map AV.v)) (.pointer (some ⟨i, 0, none⟩)) := by
  have get : ∀ (k : Nat) (y : AV), (cs.map AV.v)[k]? = some y → ∃ v, cs[k]? = some v ∧ y = .v v ∧ flat v = true := fun k y hy => by
    simp only [List.getElem?_map, Option.map_eq_some_iff] at hy
    obtain ⟨v, hv, rfl⟩ := hy
    exact ⟨v, hv, rfl, hflat v (List.mem_of_getElem? hv)⟩
  refine .rp (fun k => cs.getD k .nilIface) ?_ ?_ (fun k y hy => ?_) (fun k y hy => ?_)
  · rw [closedL_iff]; intro x hx; simp at hx; obtain ⟨_, _, rfl⟩ := hx; rfl
  · intro x hx; simp at hx; obtain ⟨_, _, rfl⟩ := hx; rfl
  · obtain ⟨v, hv, rfl, _⟩ := get k y hy
    simp only [gAll, Nat.zero_add]
    rw [hc k v hv, List.getD_eq_getElem?_getD, hv]; rfl
  · obtain ⟨v, hv, rfl, hfl⟩ := get k y hy
    rw [List.getD_eq_getElem?_getD, hv]
    exact .v hfl
theorem kp_glob (W : World) (x : Value) (hx : flat x = true) (h1 : W.cell? ⟨1, 0, none⟩ = some x) (hm : ∃ m, W.cell? ⟨0, 0, none⟩ = some (.int .i64 m)) (ht : ∀ k (v : Value), (pow10.map (Value.int .u64))[k]? = some v → W.cell? ⟨3, k, none⟩ = some v) : Glob (Kp x) (gAll W) := by
  refine ⟨fun i cs q => ?_, fun i hi => ?_⟩
  · by_cases e : i = 3
    · subst e
      have hcs : cs = (pow10.map (Value.int .u64)).map AV.v := by
        have : some (pow10.map fun n => AV.v (.int .u64 n)) = some cs := q
        rw [List.map_map]; exact (Option.some.inj this).symm
      subst hcs
      exact glob_all (by intro v hv; simp at hv; obtain ⟨_, _, rfl⟩ := hv; rfl) ht
    · by_cases e1 : i = 1
      · subst e1
        have hcs : cs = [x].map AV.v := (Option.some.inj (show some [AV.v x] = some cs from q)).symm
        subst hcs
        refine glob_all (by intro v hv; simp at hv; subst hv; exact hx) fun k v hk => ?_
        match k, hk with
        | 0, hk => cases hk; exact h1
      · exact absurd q (by show (if i == 3 then some (pow10.map fun n => AV.v (.int .u64 n)) else if i == 1 then some [AV.v x] else none) ≠ some cs; simp [e, e1])
  · have hi0 : i = 0 := by
      have : i ∈ [0] := hi
      simpa using this
    subst hi0
    exact hm
/-- What strconv.ErrSyntax holds. -/
theorem err_cell {W : World} {l : List (String × DataW Unit)} (h : laidMet Tryz.prog (("strconv.ErrSyntax", YtfihfpgphipglaaGreatDoor.Rows.laid_strconv_ErrSyntax) :: l) W) : ∃ x, flat x = true ∧ W.cell? ⟨1, 0, none⟩ = some x := by
  obtain ⟨ps, ⟨g, t, cs, fuel, p, q, h1, h2, h3, h4, _⟩, _⟩ := h
  have hg : Tryz.prog.globalNamed "strconv.ErrSyntax" = some 1 := by kernel_rfl
  obtain rfl : g = 1 := Option.some.inj (h1.symm.trans hg)
  have ht : (Tryz.prog.globals[1]?).map (·.type) = some 73 := by kernel_rfl
  obtain rfl : t = 73 := Option.some.inj (h2.symm.trans ht)
  have key : ∃ x, flat x = true ∧ cs.toList = [x] := by
    cases fuel with
    | zero => cases h4
    | succ n =>
      unfold DataW.trod at h4
      rw [Tryz.underlying73] at h4
      revert h4
      generalize cs.toList = l'
      intro h4
      match l', h4 with
      | [.nilIface], _ => exact ⟨_, rfl, rfl⟩
      | [.iface u v], _ => exact ⟨_, rfl, rfl⟩
  obtain ⟨x, hx, hcs⟩ := key
  refine ⟨x, hx, ?_⟩
  have := World.var?_cell hg h3 0
  rw [show cs = #[x] by cases cs; simp_all] at this
  simpa using this
end Go.Proofs
end
section
/- HttpPercents: the contract, in every world that holds the listed variables, where what it reads is small. -/
namespace Go.Proofs.YtfihfpgphipglaaGreatDoor.httpPercents
open Go.Proofs Go.ChangeShapes Go.WideShapes Go.ChangeAt Go.RowKit Go.Tm
open Go.ChangeMaps (open_string shut_string)
set_option maxRecDepth 100000
theorem ty9c {n : Nat} {cs : List AV} (h : Ty Tryz.prog (n + 1) 9 cs) : ∃ s, cs = [.str s] := by
  unfold Ty at h
  rw [Tryz.underlying9] at h
  obtain ⟨s, rfl, _⟩ := h
  exact ⟨s, rfl⟩
theorem ty9 {n : Nat} {x : AV} {v : Value} {w : World} (h : Opened w Tryz.prog (n + 1) 9 x v) : ∃ s, x = .str s ∧ v = .string ⟨⟨s⟩⟩ := by
  obtain ⟨s, hs⟩ := ty9c h.ty
  have hsh := h.shape
  rw [Tryz.underlying9] at hsh
  simp only at hsh
  rw [hs] at hsh
  obtain rfl : x = .str s := by simpa using hsh.symm
  have hv := h.vr
  cases hv
  exact ⟨s, rfl, rfl⟩
theorem cells9 : Tryz.prog.cellsOf 9 = 1 := by kernel_rfl
theorem cells52 : Tryz.prog.cellsOf 52 = 2 := by kernel_rfl
theorem bytes52 : Tryz.prog.bytesOf 52 = 32 := by kernel_rfl
theorem fields52 : ∃ fs, Tryz.prog.underlying 52 = some (.struct fs) ∧ fs.toList.map (fun f => (f.type, f.offset)) = [(9, 0), (9, 1)] := by
  refine ⟨_, Tryz.underlying52, ?_⟩
  rfl
theorem ty52c {n : Nat} {cs : List AV} (h : Ty Tryz.prog (n + 2) 52 cs) (hl : cs.length = 2) : ∃ e : Hd, cs = [.str e.1, .str e.2] := by
  obtain ⟨fs, hu, hf⟩ := fields52
  unfold Ty at h
  rw [hu] at h
  obtain ⟨_, hi⟩ := h
  have get : ∀ t o, (t, o) ∈ fs.toList.map (fun f => (f.type, f.offset)) → Ty Tryz.prog (n + 1) t ((cs.drop o).take (Tryz.prog.cellsOf t)) := fun t o q => by
    obtain ⟨f, hf, e⟩ := List.mem_map.1 q
    cases e
    exact hi f hf
  rw [hf] at get
  match cs, hl with
  | [a, b], _ =>
    obtain ⟨s, hs⟩ := ty9c (get 9 0 (by simp))
    obtain ⟨t, ht⟩ := ty9c (get 9 1 (by simp))
    rw [cells9] at hs ht
    simp at hs ht
    exact ⟨(s, t), by rw [hs, ht]⟩
theorem ty29 {n : Nat} {x : AV} {v : Value} {w : World} (h : Opened w Tryz.prog (n + 3) 29 x v) : ∃ (l : List Hd) (tl : Tail), x = .sl (l.map hdV) tl ∧ tl.un = tl ∧ l.length * 32 ≤ reachBytes := by
  have hs := h.shape
  rw [Tryz.underlying29] at hs
  simp only at hs
  have hty := h.ty
  unfold Ty at hty
  rw [Tryz.underlying29] at hty
  rcases hty with hc | ⟨xs, hc, hl, hmx, hx⟩
  · rw [hs] at hc
    exact ⟨[], .nil, by simpa using hc, rfl, by simp⟩
  · rw [bytes52] at hl
    obtain ⟨o, ho, hol⟩ : ∃ o : List Hd, xs = o.map hdV ∧ o.length = xs.length := by
      clear hl hc hmx
      induction xs with
      | nil => exact ⟨[], rfl, rfl⟩
      | cons y r ih =>
        obtain ⟨h1, h2, h3⟩ := hx y (by simp)
        rw [cells52] at h2 h3
        obtain ⟨e, he⟩ := ty52c h1 h2
        rw [he] at h3
        have hy : y = hdV e := h3.symm
        obtain ⟨o, ho, hol⟩ := ih fun z hz => hx z (by simp [hz])
        exact ⟨e :: o, by rw [List.map_cons, hy, ← ho], by simp [hol]⟩
    rw [hs] at hc
    exact ⟨o, .unk, by rw [← ho]; simpa using hc, rfl, by rw [hol]; exact hl⟩
theorem table {W : World} (h : laidMetH Tryz.prog Rows.httpPercentsRow.laid W) : Lib.TabIs Tryz.prog W "internal/strconv.uint64pow10" .u64 pow10 := by
  have h' : laidMet Tryz.prog Rows.httpPercentsRow.laid W := h
  exact Lib.tabIs_of_head (g := 3) (t := 128) (e := 76) (n := 20) (by kernel_rfl) (by kernel_rfl) (by kernel_rfl) (by kernel_rfl) (by kernel_rfl) (by kernel_rfl) (laidMet_tail (laidMet_tail h'))
theorem contract (H : Type) (enc : TypeId × Value → H) (W : World) (base : Nat) (args : Array Value) (ds gs : List (DataW H)) (before : List MemPlace)
    (hval : ∀ (j : Nat) t v, Tryz.f6.params[j]? = some t → args[j]? = some v → Value.okWide Tryz.prog W .any base t v)
    (hW : DataW.Whole enc Tryz.prog Tryz.f6.params.toList Rows.httpPercentsSpec.vars false W args.toList ds gs before) (hL : laidMetH Tryz.prog Rows.httpPercentsRow.laid W) (hsh : W.ShapedOpen Tryz.prog)
    (hk : Rows.uptoSmall H (ds ++ gs) = true)
    (hsz : (DataW.weightsEach Tryz.prog (Tryz.f6.params.toList ++ (OpenSpec.ofChange Rows.httpPercentsSpec).bare.plain.varTypes Tryz.prog) (ds ++ gs)).all (· ≤ reachBytes) = true) :
    Calls Tryz.prog 6 args W fun e W' => ∃ v, e = .returned v ∧ Rows.httpPercentsSpec.post enc Tryz.prog Tryz.f6 false true false false W args v W' := by
  have hW' := hW
  obtain ⟨p, q, hA0, hV, rfl, hfz, hnd⟩ := hW
  have hA : DataW.TrodAll enc Tryz.prog W 0 (fun _ => true) true Tryz.f6.params.toList args.toList ds p := hA0
  obtain ⟨rfl, rfl⟩ := trodVars_none hV
  rw [Tryz.params6] at hA hval hsz
  obtain ⟨v0, vs0, d0, ds0, p0, q0, hargs, rfl, rfl, h0, r0⟩ := trodAll_cons hA
  obtain ⟨v1, vs1, d1, ds1, p1, q1, e1, rfl, rfl, h1, r1⟩ := trodAll_cons r0
  obtain ⟨v2, vs2, d2, ds2, p2, q2, e2, rfl, rfl, h2, r2⟩ := trodAll_cons r1
  obtain ⟨rfl, rfl, rfl⟩ := trodAll_nil r2
  subst e1 e2
  obtain rfl : args = #[v0, v1, v2] := by cases args; simp_all
  have hsz' := fun i t d => weightsEach_all (P := Tryz.prog) _ _ hsz i t d
  obtain ⟨x0, o0⟩ := value_open (m := 4) (by kernel_rfl) (hval 0 9 v0 rfl rfl) h0 (hsz' 0 9 d0 rfl rfl)
  obtain ⟨x1, o1⟩ := value_open (m := 4) (by kernel_rfl) (hval 1 29 v1 rfl rfl) h1 (hsz' 1 29 d1 rfl rfl)
  obtain ⟨x2, o2⟩ := value_open (m := 4) (by kernel_rfl) (hval 2 9 v2 rfl rfl) h2 (hsz' 2 9 d2 rfl rfl)
  obtain ⟨s, rfl, hv0⟩ := ty9 o0
  obtain ⟨l, tl, rfl, htl, hl⟩ := ty29 o1
  obtain ⟨n, rfl, hv2⟩ := ty9 o2
  have hlen : s.length ≤ 1048576 := by
    obtain ⟨sb, hs0, hd0, _, _⟩ := open_string Tryz.underlying9 (hval 0 9 v0 rfl rfl) h0
    rw [hv0] at hs0
    have hb := of_decide_eq_true hk
    have hsb : sb = ⟨⟨s⟩⟩ := by cases hs0; rfl
    rw [hd0, hsb] at hb
    simp only [List.append_nil, Rows.uptoBulkAll, Rows.uptoBulk] at hb
    simp at hb
    omega
  have hl' : l.length < 2 ^ 62 := by
    have : reachBytes = 140737488351232 := rfl
    omega
  have hm : ∃ m, W.cell? ⟨0, 0, none⟩ = some (.int .i64 m) := cell_of_shapedOpen_int (t := 3) (zero := #[.int .i64 0]) hsh (of_decide_eq_true (by kernel_rfl)) (by kernel_rfl) rfl (by kernel_rfl) (by kernel_rfl) (by kernel_rfl)
  have ht : ∀ k (v : Value), (pow10.map (Value.int .u64))[k]? = some v → W.cell? ⟨3, k, none⟩ = some v := by
    intro k v hk
    simp only [List.getElem?_map, Option.map_eq_some_iff] at hk
    obtain ⟨z, hz, rfl⟩ := hk
    have hlt := (List.getElem?_eq_some_iff.1 hz).1
    rw [(table hL).cell (g := 3) (by kernel_rfl) k hlt, List.getD_eq_getElem?_getD, hz]; rfl
  obtain ⟨x, hx, hc⟩ := err_cell (laidMet_tail (laidMet_tail (laidMet_tail (laidMet_tail (laidMet_tail (show laidMet Tryz.prog Rows.httpPercentsRow.laid W from hL))))))
  have hcl : AV.closedL [.str s, .sl (l.map hdV) tl, .str n] = true := rfl
  refine (calls_of_tells (kp_ok x) (law_tells s (by omega) l tl htl n hl' [] hcl) (kp_glob W x hx hc hm ht) (VRs.cons o0.vr (VRs.cons o1.vr (VRs.cons o2.vr VRs.nil))) (fn := Tryz.f6) Tryz.func6 (by kernel_rfl)).mono ?_
  rintro e W' ⟨v, rfl, ⟨g', r, H', hvr, ⟨rfl, _⟩⟩, hkp⟩
  cases hvr
  refine ⟨_, rfl, ?_⟩
  have bel := kept_below hkp
  refine ⟨_, _, _, [], _, [], hW', trodAll_cons_mk (shut_bool Tryz.underlying4 _) trodAll_mk0, args_again (by kernel_rfl) bel ?_ hA, rfl, bel.frame _, fun h => by cases h⟩
  intro t ht
  simp at ht
  rcases ht with rfl | rfl | rfl
  · exact ⟨by kernel_rfl, Nat.le_of_ble_eq_true (by kernel_rfl)⟩
  · exact ⟨by kernel_rfl, Nat.le_of_ble_eq_true (by kernel_rfl)⟩
  · exact ⟨by kernel_rfl, Nat.le_of_ble_eq_true (by kernel_rfl)⟩
end Go.Proofs.YtfihfpgphipglaaGreatDoor.httpPercents
end
section
/- A world that bears the listed variables: what the program's own door leaves, with the two pinned tables laid. -/
namespace Go.Proofs.YtfihfpgphipglaaGreatDoor.httpPercents
open Go Go.Tm
set_option maxRecDepth 100000
def firstCells8 : List Value := Go.Pinned.utf8FirstZ.map fun (n : Nat) => Value.int .u8 n
noncomputable def laidWorld (os : Os) : World :=
  let w := varsWorld Tryz.prog 64 152 os (fun _ _ => 0)
  let h := (w.heap.modify 7 fun | .cells _ t f => .cells firstCells8.toArray t f | o => o).modify 4 fun | .cells _ t f => .cells #[.slice (some ⟨16, 0, none⟩) 336 336] t f | o => o
  { w with heap := h.push (.cells (Go.Pinned.caseRows.flatMap crCells).toArray 161) }
noncomputable def memory (os : Os) : World := ((laidWorld os).forCall (fun _ _ => 0) ⟨#[], #[.string ⟨#[]⟩, .slice none 0 0, .string ⟨#[]⟩], []⟩).memory
theorem caseTypes : ∃ f0 f1 f2, CaseTypes Tryz.prog 146 161 109 21 159 f0 f1 f2 :=
  ⟨_, _, _, { hS := Tryz.underlying146, hR := Tryz.underlying161, hU := Tryz.underlying109, hI := Tryz.underlying21, hD := Tryz.underlying159, cR := by kernel_rfl, cU := by kernel_rfl, cI := by kernel_rfl, cD := by kernel_rfl, e0 := rfl, e1 := rfl, e2 := rfl, o0 := rfl, o1 := rfl, o2 := rfl }⟩
theorem laid1 (os : Os) : ∃ ps, LaidWith Tryz.prog (Rows.httpPercentsUptoRow.laid.take 6) (memory os) ps ∧ ∀ p ∈ ps, p.block ∈ [1, 2, 3, 5, 6, 8, 14, 15] := laidWith_of_run 8 4096 _ (by kernel_rfl)
theorem laid3 (os : Os) : ∃ ps, LaidWith Tryz.prog (Rows.httpPercentsUptoRow.laid.drop 7) (memory os) ps ∧ ∀ p ∈ ps, p.block ∈ [7] := laidWith_of_run 8 4096 _ (by kernel_rfl)
theorem rows_wf : Go.Pinned.caseRows.all crWf = true := by kernel_rfl
theorem rows_length : Go.Pinned.caseRows.length = 336 := by kernel_rfl
theorem case_var (os : Os) : (memory os).heap[4]? = some (.cells #[.slice (some ⟨16, 0, none⟩) 336 336] 146 (0, 0)) := by kernel_rfl
theorem case_block (os : Os) : (memory os).heap[16]? = some (.cells (Go.Pinned.caseRows.flatMap crCells).toArray 161 (0, 0)) := by kernel_rfl
theorem laid2 (os : Os) : ∃ ps, LaidWith Tryz.prog [("unicode.CaseRanges", .slice (Go.Pinned.caseRows.map Go.Pinned.caseRange) [])] (memory os) ps ∧ ∀ p ∈ ps, p.block = 4 ∨ p.block = 16 := by
  obtain ⟨f0, f1, f2, L⟩ := caseTypes
  exact case_laid L (by decide) (by kernel_rfl) (by kernel_rfl) rows_wf (by rw [rows_length]; decide) (by rw [rows_length]; exact case_var os) (case_block os)
theorem laid_met (os : Os) : laidMet Tryz.prog Rows.httpPercentsUptoRow.laid (memory os) := by
  obtain ⟨p1, h1, b1⟩ := laid1 os
  obtain ⟨p2, h2, b2⟩ := laid2 os
  obtain ⟨p3, h3, b3⟩ := laid3 os
  have h12 := h1.append h2 fun p hp hq => by
    have a := b1 p hp
    rcases b2 p hq with b | b <;> rw [b] at a <;> revert a <;> decide
  exact (h12.append h3 fun p hp hq => by
    have b := b3 p hq
    simp only [List.mem_singleton] at b
    rcases List.mem_append.1 hp with hp | hp
    · have a := b1 p hp
      rw [b] at a
      revert a
      decide
    · rcases b2 p hp with a | a <;> rw [b] at a <;> revert a <;> decide).met
theorem os_eq (os : Os) : (laidWorld os).os = os := by kernel_rfl
theorem vars_ok (os : Os) : ((laidWorld os).forCall (fun _ _ => 0) ⟨#[], #[.string ⟨#[]⟩, .slice none 0 0, .string ⟨#[]⟩], []⟩).variablesRefB Tryz.prog = true := by kernel_rfl
end Go.Proofs.YtfihfpgphipglaaGreatDoor.httpPercents
end
section
namespace Go.Proofs.YtfihfpgphipglaaGreatDoor.httpPercents
open Go.ChangeShapes Go.WideShapes Go.ChangeAt Go.RowKit
theorem own : ownKnob Tryz.prog.godebug = none := by kernel_rfl
theorem reads (os : Os) {H : Type} (enc : TypeId × Value → H) : ∃ places, DataW.whole enc Tryz.prog (memory os) Tryz.f6.params.toList Rows.httpPercentsSpec.vars false #[Value.string ⟨#[]⟩, Value.slice none 0 0, Value.string ⟨#[]⟩].toList 8 = some ([.lit (.string []), .nil, .lit (.string [])], [], places) :=
  ⟨[], by kernel_rfl⟩
set_option maxRecDepth 100000 in
theorem lifted (os : Os) (started : os.Started) (H : Type) (enc : TypeId × Value → H) (F : Stop.Interp) :
    ReturnsInHanded {} Tryz.checked os 6 .any ((Rows.OpenSpec.upto Rows.httpPercentsSpec).preRow enc Tryz.prog Tryz.f6 Rows.httpPercentsUptoRow.domain false Rows.httpPercentsUptoRow.laid) (((Rows.OpenSpec.upto Rows.httpPercentsSpec).at F).post enc Tryz.prog Tryz.f6 false true false false) := by
  obtain ⟨places, hx⟩ := reads os enc
  refine returnsInHanded_of_row (C := Tryz.checked) (s := Rows.OpenSpec.upto Rows.httpPercentsSpec) own started (by kernel_rfl) Tryz.func6
    (witness_row_atRef (enc := enc) (C := Tryz.checked) false (laidWorld os) #[.string ⟨#[]⟩, .slice none 0 0, .string ⟨#[]⟩] (os_eq os) (vars_ok os) (by kernel_rfl) (by kernel_rfl)
      (OpenSpec.preRow_of_cond 8 hx (by kernel_rfl) (fun k hk => by cases hk; kernel_rfl) (by kernel_rfl) (laid_met os))) ?_
  intro W base args ds gs before hval hW _ hcond hsz hL hsh _
  exact contract H enc W base args ds gs before hval hW hL hsh (hcond _ rfl) hsz
theorem said : Rows.HttpPercentsUptoSaid :=
  OpenClaim.holds_of_cond 6 Tryz.f6 rfl rfl rfl rfl rfl rfl rfl ⟨rfl, rfl, rfl, rfl, rfl⟩ rfl rfl rfl rfl rfl (by kernel_rfl) Tryz.func6 (by kernel_rfl)
    (of_decide_eq_true (by kernel_rfl)) (by unfold Func.isWrapper; first | (rw [if_pos (by decide +kernel)]; kernel_rfl) | (rw [if_neg (by decide +kernel)]; exact ⟨rfl, rfl⟩))
    (fun os started H enc _ F => by rw [OpenClaim.pre_eq_preRow]; exact lifted os started H enc F)
theorem plain (f : FuncId) (fn : Func) (hf : Tryz.pinned.checked.prog.funcNamed "murmuration/murmurationlaw21.HttpPercents" = some f) (hfn : Tryz.pinned.checked.prog.funcs[f]? = some fn) :
    true = Tryz.pinned.checked.prog.looks [] ∧ ∀ (j : Nat) t, fn.params[j]? = some t → Tryz.pinned.checked.prog.wantsStandIn t = false := by
  obtain rfl : f = 6 := Option.some.inj ((show Tryz.prog.funcNamed "murmuration/murmurationlaw21.HttpPercents" = some 6 by kernel_rfl).symm.trans hf) |>.symm
  obtain rfl : fn = Tryz.f6 := (Option.some.inj (Tryz.func6.symm.trans hfn)).symm
  refine ⟨by kernel_rfl, fun j t ht => ?_⟩
  rw [Tryz.params6] at ht
  have h3 : t = 9 ∨ t = 29 ∨ t = 9 := by simpa using Array.mem_of_getElem? ht
  rcases h3 with rfl | rfl | rfl
  · exact (show Tryz.prog.wantsStandIn 9 = false by kernel_rfl)
  · exact (show Tryz.prog.wantsStandIn 29 = false by kernel_rfl)
  · exact (show Tryz.prog.wantsStandIn 9 = false by kernel_rfl)
theorem card : Rows.HttpPercentsUptoCardSaid :=
  Claim7.holds_tied_plain_at .later [] _ _ _ _ said (fun _ h => by cases h) (by kernel_rfl) (fun _ h => by cases h) httpPercentsUpto_row_tie rfl ⟨rfl, rfl⟩ (by kernel_rfl) rfl plain (by kernel_rfl)
end Go.Proofs.YtfihfpgphipglaaGreatDoor.httpPercents
end
