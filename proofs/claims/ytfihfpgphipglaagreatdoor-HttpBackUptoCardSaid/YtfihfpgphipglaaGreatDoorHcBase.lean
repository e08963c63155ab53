/- The http's program as the machine runs it; what the listed variables give; steps by patterns. -/
import Derived.Test.YtfihfpgphipglaaGreatDoorHpD
import Derived.Test.YtfihfpgphipglaaGreatDoorTmQf
import Derived.Test.YtfihfpgphipglaaGreatDoorTmLaid
import Derived.Test.YtfihfpgphipglaaGreatDoorCards
import Derived.Test.YtfihfpgphipglaaGreatDoorTie
import Derived.WalkKit
import Derived.ProofKit
import Derived.OpenShut
import Derived.Deep.DeepHandedRow
import Derived.Lib.LaidTab
import Derived.ChangeMaps5
import Derived.Shelf.Vars
set_option linter.unusedVariables false
set_option linter.unusedSimpArgs false
set_option linter.unusedSectionVars false
namespace Go.Proofs
set_option maxRecDepth 100000
open Go.ChangeShapes Go.RowKit Go.Tm
abbrev Hd := List UInt8 × List UInt8
abbrev hdV (h : Hd) : AV := .agg [.str h.1, .str h.2]
theorem closed_hd : ∀ hs : List Hd, AV.closedL (hs.map hdV) = true
 | [] => rfl
 | h :: r => by
  simp only [List.map_cons, AV.closedL, closed_hd r]; rfl
theorem op_add_str {K : Cfg} (hs : K.sym = false) {f : FuncId} {o : Oper} {R : List AV} {own : Nat → Nat} {H : List AB} {t yt : TypeId} {y z : Operand} {a b : List UInt8} (ho : o.op = .binOp .add t y z yt) (hx : evalO K R y = some (.str a)) (hy : evalO K R z = some (.str b)) (hl : a.length + b.length ≤ 9223372036854775807) : aOp K f ⟨R, own, H⟩ o [] = some (.val (.str (a ++ b)) own H, [], []) := by
 refine (op_bin_str (r := .str (a ++ b)) ho hx hy ?_).trans rfl
 simp only [aStrOp, hs]
 rw [decide_eq_true hl]
 exact (E.bind_nil (a := ()) rfl).trans rfl
theorem kp_of {x : Value} {f : FuncId} {args : List AV} {H H' : List AB} {r : AV} (h : CallOk (Kb x) f args H r H') : CallOk (Kp x) f args H r H' := fun g w rargs hg hs hv => h g w rargs ⟨hg.1, hg.2, hg.3⟩ hs hv
theorem kp_libv (x : Value) : ∀ (f : FuncId) (h : List AV → Option AV) (args : List AV) (H : List AB) (r : AV), (Kp x).libv f = some h → h args = some r → CallOk (Kp x) f args H r H := fun f h args H r hl hr => by
 by_cases e : f = 7
 ·subst e
  have hh : h = toldTrue := (Option.some.inj hl).symm
  subst hh
  cases args with
  | nil =>
   simp only [toldTrue, Option.some.injEq] at hr
   subst hr
   exact kp_of (awake_call x H)
  | cons a l => cases hr
 ·have hl' : (Kb x).libv f = some h := by
   have : (if f == 7 then some toldTrue else (Kb x).libv f) = some h := hl
   rwa [if_neg (by simpa using e)] at this
  exact kp_of (kb_libv x f h args H r hl' hr)
theorem kp_ok (x : Value) : CfgOk (Kp x) where
 mixed := by kernel_rfl
 names := http_names_ok
 lib := fun f h args H r H' hl hr => kp_of (kb_lib x f h args H r H' hl hr)
 libv := kp_libv x
theorem glob_all {w : World} {i : Nat} {cs : List Value} (hflat : ∀ v ∈ cs, flat v = true) (hc : ∀ k (v : Value), cs[k]? = some v → w.cell? ⟨i, k, none⟩ = some v) :
  VR (gAll w) (.rp (cs.map AV.v)) (.pointer (some ⟨i, 0, none⟩)) := by
 have get : ∀ (k : Nat) (y : AV), (cs.map AV.v)[k]? = some y → ∃ v, cs[k]? = some v ∧ y = .v v ∧ flat v = true := fun k y hy => by
  simp only [List.getElem?_map, Option.map_eq_some_iff] at hy
  obtain ⟨v, hv, rfl⟩ := hy
  exact ⟨v, hv, rfl, hflat v (List.mem_of_getElem? hv)⟩
 refine .rp (fun k => cs.getD k .nilIface) ?_ ?_ (fun k y hy => ?_) (fun k y hy => ?_)
 ·rw [closedL_iff]; intro x hx; simp at hx; obtain ⟨_, _, rfl⟩ := hx; rfl
 ·intro x hx; simp at hx; obtain ⟨_, _, rfl⟩ := hx; rfl
 ·obtain ⟨v, hv, rfl, _⟩ := get k y hy
  simp only [gAll, Nat.zero_add]
  rw [hc k v hv, List.getD_eq_getElem?_getD, hv]; rfl
 ·obtain ⟨v, hv, rfl, hfl⟩ := get k y hy
  rw [List.getD_eq_getElem?_getD, hv]
  exact .v hfl
theorem kp_glob (W : World) (x : Value) (hx : flat x = true) (h1 : W.cell? ⟨1, 0, none⟩ = some x) (hm : ∃ m, W.cell? ⟨0, 0, none⟩ = some (.int .i64 m)) (ht : ∀ k (v : Value), (pow10.map (Value.int .u64))[k]? = some v → W.cell? ⟨3, k, none⟩ = some v) : Glob (Kp x) (gAll W) := by
 refine ⟨fun i cs q => ?_, fun i hi => ?_, fun q => by cases q⟩
 ·by_cases e : i = 3
  ·subst e
   have hcs : cs = (pow10.map (Value.int .u64)).map AV.v := by
    have : some (pow10.map fun n => AV.v (.int .u64 n)) = some cs := q
    rw [List.map_map]; exact (Option.some.inj this).symm
   subst hcs
   exact glob_all (by intro v hv; simp at hv; obtain ⟨_, _, rfl⟩ := hv; rfl) ht
  ·by_cases e1 : i = 1
   ·subst e1
    have hcs : cs = [x].map AV.v := (Option.some.inj (show some [AV.v x] = some cs from q)).symm
    subst hcs
    refine glob_all (by intro v hv; simp at hv; subst hv; exact hx) fun k v hk => ?_
    match k, hk with
    | 0, hk => cases hk; exact h1
   ·exact absurd q (by show (if i == 3 then some (pow10.map fun n => AV.v (.int .u64 n)) else if i == 1 then some [AV.v x] else none) ≠ some cs; simp [e, e1])
 ·have hi0 : i = 0 := by
   have : i ∈ [0] := hi
   simpa using this
  subst hi0
  exact hm
theorem err_cell {W : World} {l : List (String × DataW Unit)} (h : laidMet Tryz.prog (("strconv.ErrSyntax", YtfihfpgphipglaaGreatDoor.Rows.laid_strconv_ErrSyntax) :: l) W) : ∃ x, flat x = true ∧ W.cell? ⟨1, 0, none⟩ = some x := by
 obtain ⟨ps, ⟨g, t, cs, fuel, p, q, h1, h2, h3, h4, _⟩, _⟩ := h
 have hg : Tryz.prog.globalNamed "strconv.ErrSyntax" = some 1 := by kernel_rfl
 obtain rfl : g = 1 := Option.some.inj (h1.symm.trans hg)
 have ht : (Tryz.prog.globals[1]?).map (·.type) = some 73 := by kernel_rfl
 obtain rfl : t = 73 := Option.some.inj (h2.symm.trans ht)
 have key : ∃ x, flat x = true ∧ cs.toList = [x] := by
  cases fuel with
  | zero => cases h4
  | succ n =>
   unfold DataW.trod at h4
   rw [Tryz.underlying73] at h4
   revert h4
   generalize cs.toList = l'
   intro h4
   match l', h4 with
   | [.nilIface], _ => exact ⟨_, rfl, rfl⟩
   | [.iface u v], _ => exact ⟨_, rfl, rfl⟩
 obtain ⟨x, hx, hcs⟩ := key
 refine ⟨x, hx, ?_⟩
 have := World.var?_cell hg h3 0
 rw [show cs = #[x] by cases cs; simp_all] at this
 simpa using this
end Go.Proofs
