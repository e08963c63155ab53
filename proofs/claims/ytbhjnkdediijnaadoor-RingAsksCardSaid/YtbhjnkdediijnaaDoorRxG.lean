/- RsRow, RsAskRow, joined. -/
import Derived.Test.YtbhjnkdediijnaaDoorRsLaw
import Derived.Test.YtbhjnkdediijnaaDoorRsAwake
import Derived.Test.YtbhjnkdediijnaaDoorTmQf
import Derived.Test.YtbhjnkdediijnaaDoorTmLaid
import Derived.Test.YtbhjnkdediijnaaDoorTmCut
import Derived.Test.YtbhjnkdediijnaaDoorCards
import Derived.Test.YtbhjnkdediijnaaDoorTie
import Derived.WalkKit
import Derived.ProofKit
import Derived.OpenShut
import Derived.Deep.DeepHandedRow
import Derived.Lib.LaidTab
import Derived.ChangeMaps5
import Derived.Shelf.Vars
set_option linter.unusedVariables false
set_option linter.unusedSimpArgs false
set_option linter.unusedSectionVars false
section
namespace Go.Proofs
set_option maxRecDepth 100000
open Go.ChangeShapes Go.RowKit Go.Tm
theorem kq_ok : CfgOk (Kq Ar.real) where
 mixed := by kernel_rfl
 names := ring_names_ok
 lib := fun f h args H r H' hl hr => by cases hl
 libv := fun f h args H r hl hr => by cases hl
 seq := fun f q h => by cases h
theorem kz_told : ∀ (f : FuncId) (h : List AV → Option AV) (args : List AV) (H : List AB) (r : AV), Kz.libv f = some h → h args = some r → CallOk Kz f args H r H := fun f h args H r hl hr => by
 by_cases e : f = 4
 ·subst e
  have hh : h = toldTrue := (Option.some.inj hl).symm
  subst hh
  cases args with
  | nil =>
   simp only [toldTrue, Option.some.injEq] at hr
   subst hr
   exact fun g w rargs hg hs hv => awake_call H g w rargs ⟨(fun i cs q => by cases q), hg.2, hg.3⟩ hs hv
  | cons a l => cases hr
 ·exact absurd hl (by show (if f == 4 then some toldTrue else none) ≠ some h; simp [e])
theorem kz_lib : ∀ (f : FuncId) (h : List AV → List AB → Option (AV × List AB)) (args : List AV) (H : List AB) (r : AV) (H' : List AB), Kz.lib f = some h → h args H = some (r, H') → CallOk Kz f args H r H' := fun f h args H r H' hl hr => by
 by_cases e : f = 49
 ·subst e
  have hh : h = toldFeed := (Option.some.inj hl).symm
  subst hh
  exact fun g w rargs hg hs hv => feed_told kq_ok rfl rfl (fun a b c d e f' g h s t rest => feed_run Ar.real a b c d e f' g h s t rest) hr g w rargs ⟨hg.1, hg.2, hg.3⟩ hs hv
 ·exact absurd hl (by show (if f == 49 then some toldFeed else none) ≠ some h; simp [e])
theorem kz_ok : CfgOk Kz where
 mixed := by kernel_rfl
 names := ring_names_ok
 lib := kz_lib
 libv := kz_told
 seq := fun f q h => by cases h
def shaV : List Value := shaK.map fun (n : Nat) => Value.int .u32 (.ofNat n)
theorem glob_all {w : World} {i : Nat} {cs : List Value} (hflat : ∀ v ∈ cs, flat v = true) (hc : ∀ k (v : Value), cs[k]? = some v → w.cell? ⟨i, k, none⟩ = some v) :
  VR (gAll w) (.rp (cs.map AV.v)) (.pointer (some ⟨i, 0, none⟩)) := by
 have get : ∀ (k : Nat) (y : AV), (cs.map AV.v)[k]? = some y → ∃ v, cs[k]? = some v ∧ y = .v v ∧ flat v = true := fun k y hy => by
  simp only [List.getElem?_map, Option.map_eq_some_iff] at hy
  obtain ⟨v, hv, rfl⟩ := hy
  exact ⟨v, hv, rfl, hflat v (List.mem_of_getElem? hv)⟩
 refine .rp (fun k => cs.getD k .nilIface) ?_ ?_ (fun k y hy => ?_) (fun k y hy => ?_)
 ·rw [closedL_iff]; intro x hx; simp at hx; obtain ⟨_, _, rfl⟩ := hx; rfl
 ·intro x hx; simp at hx; obtain ⟨_, _, rfl⟩ := hx; rfl
 ·obtain ⟨v, hv, rfl, _⟩ := get k y hy
  simp only [gAll, Nat.zero_add]
  rw [hc k v hv, List.getD_eq_getElem?_getD, hv]; rfl
 ·obtain ⟨v, hv, rfl, hfl⟩ := get k y hy
  rw [List.getD_eq_getElem?_getD, hv]
  exact .v hfl
theorem kz_glob (w : World) (ht : ∀ k (v : Value), shaV[k]? = some v → w.cell? ⟨0, k, none⟩ = some v) : Glob Kz (gAll w) := by
 refine ⟨fun i cs q => ?_, fun i hi => ?_, fun q => by cases q⟩
 ·by_cases e : i = 0
  ·subst e
   have hcs : cs = shaV.map AV.v := by
    have : some (shaK.map cellU) = some cs := q
    unfold shaV
    rw [List.map_map]; exact (Option.some.inj this).symm
   subst hcs
   exact glob_all (by intro v hv; unfold shaV at hv; simp at hv; obtain ⟨_, _, rfl⟩ := hv; rfl) ht
  ·exact absurd q (by show (if i == 0 then some (shaK.map cellU) else none) ≠ some cs; simp [e])
 ·exact absurd hi (by show i ∉ ([] : List Nat); simp)
theorem ty3 {n : Nat} {cs : List AV} (h : Ty Tryd.prog (n + 1) 3 cs) : ∃ z, cs = [i64 z] ∧ (Lit.int .i64 z).wf = true := by
 unfold Ty at h
 rw [Tryd.underlying3] at h
 exact h
theorem cells3 : Tryd.prog.cellsOf 3 = 1 := by kernel_rfl
theorem bytes3 : Tryd.prog.bytesOf 3 = 8 := by kernel_rfl
theorem cells23 : Tryd.prog.cellsOf 23 = 8 := by kernel_rfl
theorem ints_of (n : Nat) : ∀ (cs : List AV), (∀ i, i < cs.length → Ty Tryd.prog (n + 1) 3 ((cs.drop i).take 1)) → ∃ o : List Int, cs = o.map i64 ∧ o.length = cs.length
 | [], _ => ⟨[], rfl, rfl⟩
 | c :: cs, h => by
  obtain ⟨z, hz, _⟩ := ty3 (h 0 (by simp))
  have hc : c = i64 z := by simpa using hz
  obtain ⟨o, h1, h2⟩ := ints_of n cs fun i hi => by simpa using h (i + 1) (by simpa using hi)
  exact ⟨z :: o, by rw [hc, List.map_cons, ← h1], by simp [h2]⟩
theorem ty23 {n : Nat} {x : AV} {v : Value} {w : World} (h : Opened w Tryd.prog (n + 2) 23 x v) : ∃ o : List Int, o.length = 8 ∧ x = .agg (o.map i64) := by
 have hty := h.ty
 unfold Ty at hty
 rw [Tryd.underlying23] at hty
 obtain ⟨hl, hi⟩ := hty
 rw [cells23] at hl
 obtain ⟨o, ho, hol⟩ := ints_of n x.cells fun i q => by
  have := hi i (by omega)
  rwa [cells3, Nat.mul_one] at this
 have hs := h.shape
 rw [Tryd.underlying23] at hs
 simp only at hs
 exact ⟨o, by omega, by rw [hs, ← ho]⟩
theorem ty24c {n : Nat} {cs : List AV} (h : Ty Tryd.prog (n + 2) 24 cs) : ∃ (l : List Int) (tl : Tail), cs = [.sl (l.map i64) tl] ∧ tl.un = tl ∧ l.length * 8 ≤ reachBytes ∧ (tl = .nil → l = []) := by
 unfold Ty at h
 rw [Tryd.underlying24] at h
 rcases h with rfl | ⟨xs, rfl, hl, hm, hx⟩
 ·exact ⟨[], .nil, rfl, rfl, by simp, fun _ => rfl⟩
 ·rw [bytes3] at hl
  obtain ⟨o, ho, hol⟩ : ∃ o : List Int, xs = o.map i64 ∧ o.length = xs.length := by
   clear hl hm
   induction xs with
   | nil => exact ⟨[], rfl, rfl⟩
   | cons x r ih =>
    obtain ⟨h1, h2, h3⟩ := hx x (by simp)
    obtain ⟨z, hz, _⟩ := ty3 h1
    rw [cells3] at h3
    rw [hz] at h3
    have hxz : x = i64 z := h3.symm
    obtain ⟨o, ho, hol⟩ := ih fun y hy => hx y (by simp [hy])
    exact ⟨z :: o, by rw [List.map_cons, hxz, ← ho], by simp [hol]⟩
  exact ⟨o, .unk, by rw [ho], rfl, by rw [hol]; exact hl, by simp⟩
theorem ty24w {n : Nat} {x : AV} {v : Value} {w : World} (h : Opened w Tryd.prog (n + 2) 24 x v) : ∃ (l : List Int) (tl : Tail), x = .sl (l.map i64) tl ∧ tl.un = tl ∧ l.length ≤ 17592186043904 ∧ (tl = .nil → l = []) ∧ ∀ z ∈ l, -(2 ^ 63) ≤ z ∧ z < 2 ^ 63 := by
 have hs := h.shape
 rw [Tryd.underlying24] at hs
 simp only at hs
 have ht := h.ty
 unfold Ty at ht
 rw [Tryd.underlying24] at ht
 rcases ht with e | ⟨xs, e, hl, hm, hx⟩
 ·rw [hs] at e
  have : x = .sl [] .nil := by simpa using e
  exact ⟨[], .nil, this, rfl, by simp, fun _ => rfl, by simp⟩
 ·rw [bytes3] at hl
  have hr : reachBytes = 140737488351232 := rfl
  obtain ⟨o, ho, hol, how⟩ : ∃ o : List Int, xs = o.map i64 ∧ o.length = xs.length ∧ ∀ z ∈ o, -(2 ^ 63) ≤ z ∧ z < 2 ^ 63 := by
   clear hl hm e
   induction xs with
   | nil => exact ⟨[], rfl, rfl, by simp⟩
   | cons x r ih =>
    obtain ⟨h1, h2, h3⟩ := hx x (by simp)
    obtain ⟨z, hz, hw⟩ := ty3 h1
    rw [cells3] at h3
    rw [hz] at h3
    have hxz : x = i64 z := h3.symm
    obtain ⟨o, ho, hol, how⟩ := ih fun y hy => hx y (by simp [hy])
    refine ⟨z :: o, by rw [List.map_cons, hxz, ← ho], by simp [hol], fun y hy => ?_⟩
    rcases List.mem_cons.1 hy with rfl | hy
    ·have h1 : IntKind.i64.min ≤ y ∧ y ≤ 9223372036854775807 := by simpa [Lit.wf] using hw
     have h2 : IntKind.i64.min = -9223372036854775808 := rfl
     omega
    ·exact how y hy
  rw [hs] at e
  exact ⟨o, .unk, by simpa [ho] using e, rfl, by omega, by simp, how⟩
theorem ty24 {n : Nat} {x : AV} {v : Value} {w : World} (h : Opened w Tryd.prog (n + 2) 24 x v) : ∃ (l : List Int) (tl : Tail), x = .sl (l.map i64) tl ∧ tl.un = tl ∧ l.length * 8 ≤ reachBytes ∧ (tl = .nil → l = []) := by
 have hs := h.shape
 rw [Tryd.underlying24] at hs
 simp only at hs
 obtain ⟨l, tl, h1, h2⟩ := ty24c h.ty
 rw [hs] at h1
 exact ⟨l, tl, by simpa using h1, h2⟩
end Go.Proofs
end
section
namespace Go.Proofs.YtbhjnkdediijnaaDoor.ringAsks
open Go.Proofs Go.ChangeShapes Go.WideShapes Go.ChangeAt Go.RowKit Go.Tm
set_option maxRecDepth 100000
theorem ty9 {n : Nat} {x : AV} {v : Value} {w : World} (h : Opened w Tryd.prog (n + 1) 9 x v) : ∃ s, x = .str s ∧ s.length ≤ reachBytes := by
 have hty := h.ty
 unfold Ty at hty
 rw [Tryd.underlying9] at hty
 obtain ⟨s, hs, hl⟩ := hty
 have hsh := h.shape
 rw [Tryd.underlying9] at hsh
 simp only at hsh
 rw [hs] at hsh
 exact ⟨s, by simpa using hsh.symm, hl⟩
theorem fields26 : ∃ fs, Tryd.prog.underlying 26 = some (.struct fs) ∧ fs.toList.map (fun f => (f.type, f.offset)) = [(3, 0), (3, 1), (24, 2)] ∧ Tryd.prog.cellsOf 26 = 3 := by
 refine ⟨_, Tryd.underlying26, ?_, by kernel_rfl⟩
 rfl
theorem cells24 : Tryd.prog.cellsOf 24 = 1 := by kernel_rfl
theorem ty26 {n : Nat} {x : AV} {v : Value} {w : World} (h : Opened w Tryd.prog (n + 3) 26 x v) : ∃ (p q : Int) (l : List Int) (tl : Tail), x = .agg [i64 p, i64 q, .sl (l.map i64) tl] ∧ tl.un = tl ∧ l.length * 8 ≤ reachBytes := by
 obtain ⟨fs, hu, hf, hc⟩ := fields26
 have hty := h.ty
 have hs := h.shape
 unfold Ty at hty
 rw [hu] at hty hs
 simp only at hs
 obtain ⟨hl, hi⟩ := hty
 rw [hc] at hl
 have get : ∀ t o, (t, o) ∈ fs.toList.map (fun f => (f.type, f.offset)) → Ty Tryd.prog (n + 2) t ((x.cells.drop o).take (Tryd.prog.cellsOf t)) := fun t o q => by
  obtain ⟨f, hf, e⟩ := List.mem_map.1 q
  cases e
  exact hi f hf
 rw [hf] at get
 generalize x.cells = cs at *
 obtain ⟨a, b, c, rfl⟩ : ∃ a b c, cs = [a, b, c] := by
  match cs, hl with
  | [a, b, c], _ => exact ⟨a, b, c, rfl⟩
 obtain ⟨p, hp, _⟩ := ty3 (get 3 0 (by simp))
 obtain ⟨q, hq, _⟩ := ty3 (get 3 1 (by simp))
 obtain ⟨l, tl, h1, h2, h3, _⟩ := ty24c (get 24 2 (by simp))
 rw [cells3] at hp hq
 rw [cells24] at h1
 simp at hp hq h1
 exact ⟨p, q, l, tl, by rw [hs, hp, hq, h1], h2, h3⟩
def shaZ : List Int := shaK.map fun (n : Nat) => Int.ofNat n
theorem table {W : World} (h : laidMetH Tryd.prog Rows.ringAsksRow.laid W) : Lib.TabIs Tryd.prog W "murmuration/sha.constants" .u32 shaZ := by
 have h' : laidMet Tryd.prog Rows.ringAsksRow.laid W := h
 exact Lib.tabIs_of_head (g := 0) (t := 70) (e := 62) (n := 64) (by kernel_rfl) (by kernel_rfl) (by kernel_rfl) (by kernel_rfl) (by kernel_rfl) (by kernel_rfl) h'
theorem contract (H : Type) (enc : TypeId × Value → H) (W : World) (base : Nat) (args : Array Value) (ds gs : List (DataW H)) (before : List MemPlace)
  (hval : ∀ (j : Nat) t v, Tryd.f3.params[j]? = some t → args[j]? = some v → Value.okWide Tryd.prog W .any base t v)
  (hW : DataW.Whole enc Tryd.prog Tryd.f3.params.toList Rows.ringAsksSpec.vars false W args.toList ds gs before) (hL : laidMetH Tryd.prog Rows.ringAsksRow.laid W)
  (hsz : (DataW.weightsEach Tryd.prog (Tryd.f3.params.toList ++ (OpenSpec.ofChange Rows.ringAsksSpec).bare.plain.varTypes Tryd.prog) (ds ++ gs)).all (· ≤ reachBytes) = true) :
  Calls Tryd.prog 3 args W fun e W' => ∃ v, e = .returned v ∧ Rows.ringAsksSpec.post enc Tryd.prog Tryd.f3 false true false false W args v W' := by
 have hW' := hW
 obtain ⟨pp, qq, hA0, hV, rfl, hfz, hnd⟩ := hW
 have hA : DataW.TrodAll enc Tryd.prog W 0 (fun _ => true) true Tryd.f3.params.toList args.toList ds pp := hA0
 obtain ⟨rfl, rfl⟩ := trodVars_none hV
 rw [Tryd.params3] at hA hval hsz
 obtain ⟨v0, v1, v2, d0, d1, d2, p0, p1, p2, hargs, rfl, rfl, h0, h1, h2⟩ := trodAll_three hA
 have hsz' := fun i t d => weightsEach_all (P := Tryd.prog) _ _ hsz i t d
 obtain ⟨x0, o0⟩ := value_open (m := 4) (by kernel_rfl) (hval 0 23 v0 rfl (by rw [hargs]; rfl)) h0 (hsz' 0 23 d0 rfl rfl)
 obtain ⟨x1, o1⟩ := value_open (m := 4) (by kernel_rfl) (hval 1 26 v1 rfl (by rw [hargs]; rfl)) h1 (hsz' 1 26 d1 rfl rfl)
 obtain ⟨x2, o2⟩ := value_open (m := 4) (by kernel_rfl) (hval 2 9 v2 rfl (by rw [hargs]; rfl)) h2 (hsz' 2 9 d2 rfl rfl)
 obtain ⟨o, ho, rfl⟩ := ty23 o0
 obtain ⟨a, b, l, tl, rfl, htl, hl⟩ := ty26 o1
 obtain ⟨s, rfl, hs⟩ := ty9 o2
 have hr : reachBytes = 140737488351232 := rfl
 have hl' : l.length < 2 ^ 62 := by omega
 have ht : ∀ k (v : Value), shaV[k]? = some v → W.cell? ⟨0, k, none⟩ = some v := by
  intro k v hk
  unfold shaV at hk
  simp only [List.getElem?_map, Option.map_eq_some_iff] at hk
  obtain ⟨n, hn, rfl⟩ := hk
  have hlt := (List.getElem?_eq_some_iff.1 hn).1
  rw [(table hL).cell (g := 0) (by kernel_rfl) k (by unfold shaZ; rw [List.length_map]; exact hlt), List.getD_eq_getElem?_getD]
  unfold shaZ
  rw [List.getElem?_map, hn]; rfl
 subst hargs
 refine (calls_of_tells kz_ok (asks_tells o ho a b l tl htl hl' s (by omega) []) (kz_glob W ht) (VRs.cons o0.vr (VRs.cons o1.vr (VRs.cons o2.vr VRs.nil))) (fn := Tryd.f3) Tryd.func3 (by kernel_rfl)).mono ?_
 rintro e W' ⟨v, rfl, ⟨g', r, H', hvr, rfl, _⟩, hk⟩
 cases hvr
 refine ⟨_, rfl, ?_⟩
 have bel := kept_below hk
 refine ⟨_, _, _, [], _, [], hW', trodAll_cons_mk (shut_bool Tryd.underlying4 _) trodAll_mk0, args_again (by kernel_rfl) bel ?_ hA, rfl, bel.frame _, fun h => by cases h⟩
 intro t ht
 simp at ht
 rcases ht with rfl | rfl | rfl
 ·exact ⟨by kernel_rfl, Nat.le_of_ble_eq_true (by kernel_rfl)⟩
 ·exact ⟨by kernel_rfl, Nat.le_of_ble_eq_true (by kernel_rfl)⟩
 ·exact ⟨by kernel_rfl, Nat.le_of_ble_eq_true (by kernel_rfl)⟩
end Go.Proofs.YtbhjnkdediijnaaDoor.ringAsks
end
