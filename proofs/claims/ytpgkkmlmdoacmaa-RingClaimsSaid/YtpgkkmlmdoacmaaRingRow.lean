/- The ring's laws: the program as the machine runs it; what came in. -/
import Derived.Test.YtpgkkmlmdoacmaaRingIx
import Derived.Test.YtpgkkmlmdoacmaaRgToldOk
import Derived.Test.YtpgkkmlmdoacmaaTmQf
import Derived.Test.YtpgkkmlmdoacmaaRows
import Derived.WalkKit
import Derived.ProofKit
import Derived.OpenShut
import Derived.Deep.DeepHandedRow
set_option linter.unusedVariables false
set_option linter.unusedSimpArgs false
set_option linter.unusedSectionVars false
namespace Go.Proofs
open Go.ChangeShapes Go.RowKit Go.Tm
theorem kz_told : ∀ (f : FuncId) (h : List AV → Option AV) (args : List AV) (H : List AB) (r : AV), Kz.libv f = some h → h args = some r → CallOk Kz f args H r H := fun f h args H r hl hr => by
 by_cases e : f = 7
 ·subst e
  have hh : h = toldTrue := (Option.some.inj hl).symm
  subst hh
  cases args with
  | nil =>
   simp only [toldTrue, Option.some.injEq] at hr
   subst hr
   exact fun g w rargs hg hs hv => awake_call H g w rargs ⟨hg.1, hg.2, hg.3⟩ hs hv
  | cons a l => cases hr
 ·exact absurd hl (by show (if f == 7 then some toldTrue else none) ≠ some h; simp [e])
theorem run34n (H : List AB) : callF Kr 1000 34 [.sl [] .nil] H = some (.tup [], H) := by kernel_rfl
theorem run34f (H : List AB) : callF Kr 1000 34 [.sl [] .full] H = some (.tup [], H) := by kernel_rfl
theorem run35n (H : List AB) : callF Kr 1000 35 [.sl [] .nil] H = some (.sl [] .nil, H) := by kernel_rfl
theorem run35f (H : List AB) : callF Kr 1000 35 [.sl [] .full] H = some (.sl [] .full, H) := by kernel_rfl
theorem kr_kz {f : FuncId} {args : List AV} {H H' : List AB} {r : AV} (h : CallOk Kr f args H r H') : CallOk Kz f args H r H' := fun g w rargs hg hs hv => h g w rargs ⟨hg.1, hg.2, hg.3⟩ hs hv
theorem kz_lib : ∀ (f : FuncId) (h : List AV → List AB → Option (AV × List AB)) (args : List AV) (H : List AB) (r : AV) (H' : List AB), Kz.lib f = some h → h args H = some (r, H') → CallOk Kz f args H r H' := fun f h args H r H' hl hr => by
 by_cases e : f = 34
 ·subst e
  have hh : h = toldSort := (Option.some.inj hl).symm
  subst hh
  exact sort_ok rfl (fun H => kr_kz (callOk_run kr_ok rfl rfl (run34n H))) (fun H => kr_kz (callOk_run kr_ok rfl rfl (run34f H))) hr
 ·by_cases e2 : f = 35
  ·subst e2
   have hh : h = toldComp := (Option.some.inj hl).symm
   subst hh
   exact comp_ok rfl (fun H => kr_kz (callOk_run kr_ok rfl rfl (run35n H))) (fun H => kr_kz (callOk_run kr_ok rfl rfl (run35f H))) hr
  ·by_cases e3 : f = 37
   ·subst e3
    have hh : h = toldSortF := (Option.some.inj hl).symm
    subst hh
    exact sortF_ok rfl rfl rfl hr
   ·exact absurd hl (by show (if f == 34 then some toldSort else if f == 35 then some toldComp else if f == 37 then some toldSortF else none) ≠ some h; simp [e, e2, e3])
theorem kz_ok : CfgOk Kz where
 mixed := by kernel_rfl
 names := ring_names_ok
 lib := kz_lib
 libv := kz_told
 seq := fun f q h => ring_seq rfl rfl f q h
theorem kz_glob (w : World) : Glob Kz (gAll w) := by
 refine ⟨fun i cs q => ?_, fun i hi => ?_, fun q => by cases q⟩
 ·exact absurd q (by show (none : Option (List AV)) ≠ some cs; simp)
 ·exact absurd hi (by show i ∉ ([] : List Nat); simp)
theorem ty3 {n : Nat} {cs : List AV} (h : Ty Try.prog (n + 1) 3 cs) : ∃ z, cs = [i64 z] ∧ (Lit.int .i64 z).wf = true := by
 unfold Ty at h
 rw [Try.underlying3] at h
 exact h
theorem cells3 : Try.prog.cellsOf 3 = 1 := by kernel_rfl
theorem bytes3 : Try.prog.bytesOf 3 = 8 := by kernel_rfl
theorem cells23 : Try.prog.cellsOf 23 = 8 := by kernel_rfl
theorem ints_of (n : Nat) : ∀ (cs : List AV), (∀ i, i < cs.length → Ty Try.prog (n + 1) 3 ((cs.drop i).take 1)) → ∃ o : List Int, cs = o.map i64 ∧ o.length = cs.length
 | [], _ => ⟨[], rfl, rfl⟩
 | c :: cs, h => by
  obtain ⟨z, hz, _⟩ := ty3 (h 0 (by simp))
  have hc : c = i64 z := by simpa using hz
  obtain ⟨o, h1, h2⟩ := ints_of n cs fun i hi => by simpa using h (i + 1) (by simpa using hi)
  exact ⟨z :: o, by rw [hc, List.map_cons, ← h1], by simp [h2]⟩
theorem ty23 {n : Nat} {x : AV} {v : Value} {w : World} (h : Opened w Try.prog (n + 2) 23 x v) : ∃ o : List Int, o.length = 8 ∧ x = .agg (o.map i64) := by
 have hty := h.ty
 unfold Ty at hty
 rw [Try.underlying23] at hty
 obtain ⟨hl, hi⟩ := hty
 rw [cells23] at hl
 obtain ⟨o, ho, hol⟩ := ints_of n x.cells fun i q => by
  have := hi i (by omega)
  rwa [cells3, Nat.mul_one] at this
 have hs := h.shape
 rw [Try.underlying23] at hs
 simp only at hs
 exact ⟨o, by omega, by rw [hs, ← ho]⟩
theorem ty24c {n : Nat} {cs : List AV} (h : Ty Try.prog (n + 2) 24 cs) : ∃ (l : List Int) (tl : Tail), cs = [.sl (l.map i64) tl] ∧ tl.un = tl ∧ l.length * 8 ≤ reachBytes ∧ (tl = .nil → l = []) := by
 unfold Ty at h
 rw [Try.underlying24] at h
 rcases h with rfl | ⟨xs, rfl, hl, hm, hx⟩
 ·exact ⟨[], .nil, rfl, rfl, by simp, fun _ => rfl⟩
 ·rw [bytes3] at hl
  obtain ⟨o, ho, hol⟩ : ∃ o : List Int, xs = o.map i64 ∧ o.length = xs.length := by
   clear hl hm
   induction xs with
   | nil => exact ⟨[], rfl, rfl⟩
   | cons x r ih =>
    obtain ⟨h1, h2, h3⟩ := hx x (by simp)
    obtain ⟨z, hz, _⟩ := ty3 h1
    rw [cells3] at h3
    rw [hz] at h3
    have hxz : x = i64 z := h3.symm
    obtain ⟨o, ho, hol⟩ := ih fun y hy => hx y (by simp [hy])
    exact ⟨z :: o, by rw [List.map_cons, hxz, ← ho], by simp [hol]⟩
  exact ⟨o, .unk, by rw [ho], rfl, by rw [hol]; exact hl, by simp⟩
theorem ty24w {n : Nat} {x : AV} {v : Value} {w : World} (h : Opened w Try.prog (n + 2) 24 x v) : ∃ (l : List Int) (tl : Tail), x = .sl (l.map i64) tl ∧ tl.un = tl ∧ l.length ≤ 17592186043904 ∧ (tl = .nil → l = []) ∧ ∀ z ∈ l, -(2 ^ 63) ≤ z ∧ z < 2 ^ 63 := by
 have hs := h.shape
 rw [Try.underlying24] at hs
 simp only at hs
 have ht := h.ty
 unfold Ty at ht
 rw [Try.underlying24] at ht
 rcases ht with e | ⟨xs, e, hl, hm, hx⟩
 ·rw [hs] at e
  have : x = .sl [] .nil := by simpa using e
  exact ⟨[], .nil, this, rfl, by simp, fun _ => rfl, by simp⟩
 ·rw [bytes3] at hl
  have hr : reachBytes = 140737488351232 := rfl
  obtain ⟨o, ho, hol, how⟩ : ∃ o : List Int, xs = o.map i64 ∧ o.length = xs.length ∧ ∀ z ∈ o, -(2 ^ 63) ≤ z ∧ z < 2 ^ 63 := by
   clear hl hm e
   induction xs with
   | nil => exact ⟨[], rfl, rfl, by simp⟩
   | cons x r ih =>
    obtain ⟨h1, h2, h3⟩ := hx x (by simp)
    obtain ⟨z, hz, hw⟩ := ty3 h1
    rw [cells3] at h3
    rw [hz] at h3
    have hxz : x = i64 z := h3.symm
    obtain ⟨o, ho, hol, how⟩ := ih fun y hy => hx y (by simp [hy])
    refine ⟨z :: o, by rw [List.map_cons, hxz, ← ho], by simp [hol], fun y hy => ?_⟩
    rcases List.mem_cons.1 hy with rfl | hy
    ·have h1 : IntKind.i64.min ≤ y ∧ y ≤ 9223372036854775807 := by simpa [Lit.wf] using hw
     have h2 : IntKind.i64.min = -9223372036854775808 := rfl
     omega
    ·exact how y hy
  rw [hs] at e
  exact ⟨o, .unk, by simpa [ho] using e, rfl, by omega, by simp, how⟩
theorem ty24 {n : Nat} {x : AV} {v : Value} {w : World} (h : Opened w Try.prog (n + 2) 24 x v) : ∃ (l : List Int) (tl : Tail), x = .sl (l.map i64) tl ∧ tl.un = tl ∧ l.length * 8 ≤ reachBytes ∧ (tl = .nil → l = []) := by
 have hs := h.shape
 rw [Try.underlying24] at hs
 simp only at hs
 obtain ⟨l, tl, h1, h2⟩ := ty24c h.ty
 rw [hs] at h1
 exact ⟨l, tl, by simpa using h1, h2⟩
end Go.Proofs
