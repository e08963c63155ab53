/- The cask's program: the configuration is right; what the listed variables give; what comes in; a world that bears the listed variables. -/
import Derived.Test.YtaefgigfoifjaaaGreatDoorCkParse
import Derived.Test.YtaefgigfoifjaaaGreatDoorCkKd
import Derived.Test.YtaefgigfoifjaaaGreatDoorCkLay1
import Derived.Test.YtaefgigfoifjaaaGreatDoorTmQf
import Derived.Test.YtaefgigfoifjaaaGreatDoorTmLaid
import Derived.Test.YtaefgigfoifjaaaGreatDoorCards
import Derived.Test.YtaefgigfoifjaaaGreatDoorTie
import Derived.WalkKit
import Derived.ProofKit
import Derived.OpenShut
import Derived.Deep.DeepHandedRow
import Derived.Lib.LaidTab
import Derived.ChangeMaps5
import Derived.Shelf.Vars
import Derived.LaidByTextLater
import Derived.Deep.DeepWitnessRowRef
set_option linter.unusedVariables false
set_option linter.unusedSimpArgs false
set_option linter.unusedSectionVars false
namespace Go.Proofs
set_option maxRecDepth 100000
open Go.ChangeShapes Go.RowKit Go.Tm Go.Proofs.Ck Go.Proofs.YtaefgigfoifjaaaGreatDoor
theorem kk_of {f : FuncId} {args : List AV} {H H' : List AB} {r : AV} (h : CallOk Kd f args H r H') : CallOk Kk f args H r H' := fun g w rargs hg hs hv => h g w rargs ⟨fun i cs q => (by cases q), hg.2, hg.3⟩ hs hv
theorem kk_libv : ∀ (f : FuncId) (h : List AV → Option AV) (args : List AV) (H : List AB) (r : AV), Kk.libv f = some h → h args = some r → CallOk Kk f args H r H := fun f h args H r hl hr => by
 by_cases e171 : f = 171
 ·subst e171
  obtain rfl : h = toldSame := (Option.some.inj hl).symm
  exact same_told (K := Kk) (fn := Tryz.f171) Tryz.func171 (by kernel_rfl) (by kernel_rfl) (by kernel_rfl) (by kernel_rfl) hr
 by_cases e146 : f = 146
 ·subst e146
  obtain rfl : h = toldIndexByte := (Option.some.inj hl).symm
  exact indexByte_told (K := Kk) (fn := Tryz.f146) Tryz.func146 (by kernel_rfl) (by kernel_rfl) (by kernel_rfl) (by kernel_rfl) hr
 by_cases e10 : f = 10
 ·subst e10
  obtain rfl : h = toldTrue := (Option.some.inj hl).symm
  cases args with
  | nil =>
   simp only [toldTrue, Option.some.injEq] at hr
   subst hr
   exact kk_of (awake_call H)
  | cons a l => cases hr
 by_cases e187 : f = 187
 ·subst e187
  obtain rfl : h = toldLen64 := (Option.some.inj hl).symm
  exact len64_told (K := Kk) rfl (enters_of Tryz.func187 (by kernel_rfl) rfl) (fun z w h1 h2 => Tryz.bits_Len64 z w h1 h2) hr
 by_cases e201 : f = 201
 ·subst e201
  obtain rfl : h = toldL10 := (Option.some.inj hl).symm
  exact l10_told (K := Kk) rfl (enters_of Tryz.func201 (by kernel_rfl) rfl) (fun z w h1 => Tryz.internal_strconv_log10Pow2 z h1 w) hr
 by_cases e167 : f = 167
 ·subst e167
  obtain rfl : h = toldSmall := (Option.some.inj hl).symm
  exact small_told (K := Kk) rfl (enters_of Tryz.func167 (by kernel_rfl) rfl) (fun z w h1 => Tryz.internal_strconv_small z h1 w) hr
 exact absurd hl (by show (if f == 171 then some toldSame else if f == 146 then some toldIndexByte else if f == 10 then some toldTrue else if f == 187 then some toldLen64 else if f == 201 then some toldL10 else if f == 167 then some toldSmall else none) ≠ some h; simp [e171, e146, e10, e187, e201, e167])
theorem kk_lib : ∀ (f : FuncId) h args H r H', Kk.lib f = some h → h args H = some (r, H') → CallOk Kk f args H r H' := fun f h args H r H' hl hr => by
 by_cases q : f = 172
 ·subst q
  have hh : h = toldNew 5 := (Option.some.inj hl).symm
  subst hh
  exact new_told (K := Kk) (fn := Tryz.f172) Tryz.func172 (by kernel_rfl) (by kernel_rfl) (by kernel_rfl) (t := 37) (by kernel_rfl) (by kernel_rfl) (by kernel_rfl) hr
 ·by_cases q2 : f = 169
  ·subst q2
   have hh : h = toldFmt := (Option.some.inj hl).symm
   subst hh
   exact fmt_told (K := Kk) rfl (enters_of Tryz.func169 (by kernel_rfl) rfl) (fun blk off cap u d w h1 h2 h3 h4 => Tryz.internal_strconv_formatBase10 blk off cap u d w h1 h2 h3 h4) hr
  ·exact absurd hl (by show (if f == 172 then some (toldNew 5) else if f == 169 then some toldFmt else none) ≠ some h; simp [q, q2])
theorem kk_ok : CfgOk Kk where
 mixed := by kernel_rfl
 names := ck_names_ok
 lib := kk_lib
 libv := kk_libv
theorem glob_all {w : World} {i : Nat} {cs : List Value} (hflat : ∀ v ∈ cs, flat v = true) (hc : ∀ k (v : Value), cs[k]? = some v → w.cell? ⟨i, k, none⟩ = some v) :
  VR (gAll w) (.rp (cs.map AV.v)) (.pointer (some ⟨i, 0, none⟩)) := by
 have get : ∀ (k : Nat) (y : AV), (cs.map AV.v)[k]? = some y → ∃ v, cs[k]? = some v ∧ y = .v v ∧ flat v = true := fun k y hy => by
  simp only [List.getElem?_map, Option.map_eq_some_iff] at hy
  obtain ⟨v, hv, rfl⟩ := hy
  exact ⟨v, hv, rfl, hflat v (List.mem_of_getElem? hv)⟩
 refine .rp (fun k => cs.getD k .nilIface) ?_ ?_ (fun k y hy => ?_) (fun k y hy => ?_)
 ·rw [closedL_iff]; intro x hx; simp at hx; obtain ⟨_, _, rfl⟩ := hx; rfl
 ·intro x hx; simp at hx; obtain ⟨_, _, rfl⟩ := hx; rfl
 ·obtain ⟨v, hv, rfl, _⟩ := get k y hy
  simp only [gAll, Nat.zero_add]
  rw [hc k v hv, List.getD_eq_getElem?_getD, hv]; rfl
 ·obtain ⟨v, hv, rfl, hfl⟩ := get k y hy
  rw [List.getD_eq_getElem?_getD, hv]
  exact .v hfl
abbrev ckLaid : List (String × DataW Unit) := [("math/bits.deBruijn32tab", Rows.laid_math_bits_deBruijn32tab), ("math/bits.deBruijn64tab", Rows.laid_math_bits_deBruijn64tab), ("internal/strconv.uint64pow10", Rows.laid_internal_strconv_uint64pow10), ("strconv.ErrRange", Rows.laid_strconv_ErrRange), ("strconv.ErrSyntax", Rows.laid_strconv_ErrSyntax)]
theorem ck_table {W : World} (h : laidMet Tryz.prog ckLaid W) : Lib.TabIs Tryz.prog W "internal/strconv.uint64pow10" .u64 pow10 :=
 Lib.tabIs_of_head (g := 1) (t := 212) (e := 136) (n := 20) (by kernel_rfl) (by kernel_rfl) (by kernel_rfl) (by kernel_rfl) (by kernel_rfl) (by kernel_rfl) (laidMet_tail (laidMet_tail h))
theorem kk_glob {W : World} (h : laidMet Tryz.prog ckLaid W) : Glob Kk (gAll W) := by
 have ht : ∀ k (v : Value), (pow10.map (Value.int .u64))[k]? = some v → W.cell? ⟨1, k, none⟩ = some v := by
  intro k v hk
  simp only [List.getElem?_map, Option.map_eq_some_iff] at hk
  obtain ⟨z, hz, rfl⟩ := hk
  have hlt := (List.getElem?_eq_some_iff.1 hz).1
  rw [(ck_table h).cell (g := 1) (by kernel_rfl) k hlt, List.getD_eq_getElem?_getD, hz]; rfl
 refine ⟨fun i cs q => ?_, fun i hi => ?_, fun q => by cases q⟩
 ·by_cases e : i = 1
  ·subst e
   have hcs : cs = (pow10.map (Value.int .u64)).map AV.v := by
    have : some (pow10.map fun n => AV.v (.int .u64 n)) = some cs := q
    rw [List.map_map]; exact (Option.some.inj this).symm
   subst hcs
   exact glob_all (by intro v hv; simp at hv; obtain ⟨_, _, rfl⟩ := hv; rfl) ht
  ·exact absurd q (by show (if i == 1 then some (pow10.map fun n => AV.v (.int .u64 n)) else none) ≠ some cs; simp [e])
 ·exact absurd hi (by show i ∉ ([] : List Nat); simp)
/-! What comes in. -/
theorem ty9c {n R : Nat} {cs : List AV} (h : Ty Tryz.prog (n + 1) 9 cs R) : ∃ s, cs = [.str s] ∧ s.length ≤ R := by
 unfold Ty at h
 rw [Tryz.underlying9] at h
 exact h
theorem ty9 {n R : Nat} {x : AV} {v : Value} {w : World} (h : Opened w Tryz.prog (n + 1) 9 x v R) : ∃ s, x = .str s ∧ s.length ≤ R := by
 obtain ⟨s, hs, hl⟩ := ty9c h.ty
 have hsh := h.shape
 rw [Tryz.underlying9] at hsh
 simp only at hsh
 rw [hs] at hsh
 exact ⟨s, by simpa using hsh.symm, hl⟩
theorem ty3c {n R : Nat} {cs : List AV} (h : Ty Tryz.prog (n + 1) 3 cs R) : ∃ z, cs = [i64v z] ∧ (Lit.int .i64 z).wf = true := by
 unfold Ty at h
 rw [Tryz.underlying3] at h
 exact h
theorem ty3 {n R : Nat} {x : AV} {v : Value} {w : World} (h : Opened w Tryz.prog (n + 1) 3 x v R) : ∃ z, x = i64v z ∧ (Lit.int .i64 z).wf = true := by
 obtain ⟨z, hz, hw⟩ := ty3c h.ty
 have hsh := h.shape
 rw [Tryz.underlying3] at hsh
 simp only at hsh
 rw [hz] at hsh
 exact ⟨z, by simpa using hsh.symm, hw⟩
theorem ty4c {n R : Nat} {cs : List AV} (h : Ty Tryz.prog (n + 1) 4 cs R) : ∃ b, cs = [.v (.bool b)] := by
 unfold Ty at h
 rw [Tryz.underlying4] at h
 exact h
theorem cells9 : Tryz.prog.cellsOf 9 = 1 := by kernel_rfl
theorem cells4 : Tryz.prog.cellsOf 4 = 1 := by kernel_rfl
theorem cells23 : Tryz.prog.cellsOf 23 = 3 := by kernel_rfl
theorem fields23 : ∃ fs, Tryz.prog.underlying 23 = some (.struct fs) ∧ fs.toList.map (fun f => (f.type, f.offset)) = [(9, 0), (9, 1), (4, 2)] := by
 refine ⟨_, Tryz.underlying23, ?_⟩
 rfl
theorem ty23c {n R : Nat} {cs : List AV} (h : Ty Tryz.prog (n + 2) 23 cs R) (hl : cs.length = 3) : ∃ e : Ck.Chg, cs = (Ck.chgV e).cells ∧ e.key.length ≤ R ∧ e.value.length ≤ R := by
 obtain ⟨fs, hu, hf⟩ := fields23
 unfold Ty at h
 rw [hu] at h
 obtain ⟨_, hi⟩ := h
 have get : ∀ t o, (t, o) ∈ fs.toList.map (fun f => (f.type, f.offset)) → Ty Tryz.prog (n + 1) t ((cs.drop o).take (Tryz.prog.cellsOf t)) R := fun t o q => by
  obtain ⟨f, hf, e⟩ := List.mem_map.1 q
  cases e
  exact hi f hf
 rw [hf] at get
 match cs, hl with
 | [a, b, c], _ =>
  obtain ⟨s, hs, h1⟩ := ty9c (get 9 0 (by simp))
  obtain ⟨t, ht, h2⟩ := ty9c (get 9 1 (by simp))
  obtain ⟨d, hd⟩ := ty4c (get 4 2 (by simp))
  rw [cells9] at hs ht
  rw [cells4] at hd
  simp at hs ht hd
  exact ⟨⟨s, t, d⟩, by rw [hs, ht, hd]; rfl, h1, h2⟩
theorem ty23 {n R : Nat} {x : AV} {v : Value} {w : World} (h : Opened w Tryz.prog (n + 2) 23 x v R) : ∃ e : Ck.Chg, x = Ck.chgV e ∧ e.key.length ≤ R ∧ e.value.length ≤ R := by
 obtain ⟨fs, hu, hf⟩ := fields23
 have hty := h.ty
 have hsh := h.shape
 have hl : x.cells.length = 3 := by
  unfold Ty at hty
  rw [hu] at hty
  rw [← cells23]
  exact hty.1
 rw [hu] at hsh
 simp only at hsh
 obtain ⟨e, he, h1, h2⟩ := ty23c hty hl
 exact ⟨e, by rw [hsh, he]; rfl, h1, h2⟩
/-! A world that bears the listed variables. -/
noncomputable def laidWorld (os : Os) : World := varsWorld Tryz.prog 54 250 os (fun _ _ => 0)
theorem os_eq (os : Os) : (laidWorld os).os = os := by kernel_rfl
theorem own : ownKnob Tryz.prog.godebug = none := by kernel_rfl
end Go.Proofs
