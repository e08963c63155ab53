/- The tree machine: library functions over texts, told by the shelf's contracts: a world that has more blocks behind, or drew, stays the machine's. -/
import Derived.Test.YtaefgigfoifjaaaGreatDoorTmLib
import Derived.Lib.IndexMore
import Derived.Lib.Split
import Derived.Lib.SplitLaws
import Derived.Lib.Case
import Derived.Lib.SlTrimSet
import Derived.Lib.AtoiAll
import Derived.Lib.ItoaNum
import Derived.Below
import Derived.Deep.Draws
set_option linter.unusedVariables false
set_option linter.unusedSimpArgs false
set_option linter.unusedSectionVars false
namespace Go.Tm
open Go.RowKit
section
variable {K : Cfg} {f : FuncId} {H : List AB}
theorem callOk_below (hdr : K.dr = false) {args : List AV} {r : AV} (henter : ∀ (args : Array Value) (w : World), (callFunc f args).run K.P w = .ok (.enter f args) w)
  (h : ∀ (g : Gh) (w : World) (rargs : List Value), Glob K g → SW ⟨w, Live g H, g⟩ g noTok H w → VRs g args rargs → ∃ v, VR g r v ∧ Calls K.P f ⟨rargs⟩ w fun e w' => e = .returned v ∧ Below w.heap.size w w') : CallOk K f args H r H := by
 intro g w rargs hg hs hv
 obtain ⟨v, h1, h3⟩ := h g w rargs hg hs hv
 refine .inl ⟨henter _ w, h3.mono fun e w' ⟨he, hw⟩ => ?_⟩
 subst he
 exact ⟨g, hs.grow hw (fun q => by have := hg.dr q; rw [hdr] at this; cases this), h1⟩
theorem below_drewN (w : World) : ∀ n, Below w.heap.size w (w.drewN n) := fun _ => ⟨rfl, rfl, rfl, Nat.le_refl _, fun _ _ => rfl⟩
def toldCut : List AV → Option AV
 | [.str s, .str t] => if s.length < 4294967281 then some (.tup [.str (Lib.cut s t).1, .str (Lib.cut s t).2.1, .v (.bool (Lib.cut s t).2.2)]) else none
 | _ => none
def toldPrefix : List AV → Option AV
 | [.str s, .str t] => some (.v (.bool (Lib.hasPrefix s t)))
 | _ => none
def toldLower : List AV → Option AV
 | [.str s] => if s.length ≤ 140737488355328 ∧ (s.all fun b => decide (b.toNat < 128)) = true then some (.str (Lib.toLowerA s)) else none
 | _ => none
def toldTrim : List AV → Option AV
 | [.str s, .str t] => if s.length ≤ 9223372036854775807 ∧ t.length < 4294967281 ∧ (t.all fun b => decide (b.toNat < 128)) = true then some (.str (Lib.trimS s t)) else none
 | _ => none
def toldItoa : List AV → Option AV
 | [.v (.int .i64 n)] => if -9223372036854775808 ≤ n ∧ n ≤ 9223372036854775807 then some (.str (Lib.itoa n)) else none
 | _ => none
def toldAtoi : List AV → Option AV
 | [.str s] => if s.length ≤ 9223372036854775806 then match Lib.atoiAll s with
  | .ok v => some (.tup [.v (.int .i64 v), .v .nilIface])
  | _ => none
  else none
 | _ => none
def toldSplit : List AV → Option AV
 | [.str s, .str t] => if s.length < 4294967281 ∧ 1 ≤ t.length then some (.sl ((Lib.split s t).map AV.str) .unk) else none
 | _ => none
theorem one_str {g : Gh} {s : List UInt8} {rargs : List Value} (h : VRs g [.str s] rargs) : rargs = [.string ⟨⟨s⟩⟩] := by
 obtain ⟨v, rfl, hx⟩ := one_arg h
 cases hx
 rfl
theorem two_str {g : Gh} {s t : List UInt8} {rargs : List Value} (h : VRs g [.str s, .str t] rargs) : rargs = [.string ⟨⟨s⟩⟩, .string ⟨⟨t⟩⟩] := by
 obtain ⟨v, u, rfl, hx, hy⟩ := two_args h
 cases hx; cases hy
 rfl
section
variable (hdr : K.dr = false) (henter : ∀ (args : Array Value) (w : World), (callFunc f args).run K.P w = .ok (.enter f args) w)
include hdr henter
theorem cut_told {b : Nat} (hb : b ∈ K.ints)
  (hcall : ∀ (s t : ByteArray) (m : Int) (w : World), s.size < 4294967281 → w.cell? ⟨b, 0, none⟩ = some (.int .i64 m) → Calls K.P f #[.string s, .string t] w fun e w' => e = .returned (.tuple #[.string ⟨(Lib.cut s.data.toList t.data.toList).1.toArray⟩, .string ⟨(Lib.cut s.data.toList t.data.toList).2.1.toArray⟩, .bool (Lib.cut s.data.toList t.data.toList).2.2]) ∧ ∃ n, w' = w.drewN n)
  {args : List AV} {r : AV} (h : toldCut args = some r) : CallOk K f args H r H := by
 unfold toldCut at h
 split at h
 ·split at h
  ·rename_i s t hlt
   cases h
   refine callOk_below hdr henter fun g w rargs hg hs hv => ?_
   obtain rfl := two_str hv
   obtain ⟨m, hm⟩ := hg.ints b hb
   refine ⟨_, ?_, (hcall ⟨⟨s⟩⟩ ⟨⟨t⟩⟩ m w hlt (hs.imm _ _ _ hm)).mono fun e w' ⟨he, n, hw⟩ => ⟨he, hw ▸ below_drewN w n⟩⟩
   refine .tup rfl fun i x r hx hr => ?_
   match i, hx, hr with
   | 0, hx, hr => cases hx; cases hr; exact .str
   | 1, hx, hr => cases hx; cases hr; exact .str
   | 2, hx, hr => cases hx; cases hr; exact .v rfl
  ·cases h
 ·cases h
theorem prefix_told
  (hcall : ∀ (s t : ByteArray) (w : World), Calls K.P f #[.string s, .string t] w fun e w' => e = .returned (.bool (Lib.hasPrefix s.data.toList t.data.toList)) ∧ w' = w)
  {args : List AV} {r : AV} (h : toldPrefix args = some r) : CallOk K f args H r H := by
 unfold toldPrefix at h
 split at h
 ·rename_i s t
  cases h
  refine callOk_below hdr henter fun g w rargs hg hs hv => ?_
  obtain rfl := two_str hv
  exact ⟨_, .v rfl, (hcall ⟨⟨s⟩⟩ ⟨⟨t⟩⟩ w).mono fun e w' ⟨he, hw⟩ => ⟨he, hw ▸ Below.refl _ _⟩⟩
 ·cases h
theorem lower_told
  (hcall : ∀ (s : ByteArray) (w : World), s.size ≤ 140737488355328 → (∀ (j : Nat) (b : UInt8), s.data.toList[j]? = some b → b.toNat < 128) → Calls K.P f #[.string s] w fun e w' => e = .returned (.string ⟨(Lib.toLowerA s.data.toList).toArray⟩) ∧ Below w.heap.size w w')
  {args : List AV} {r : AV} (h : toldLower args = some r) : CallOk K f args H r H := by
 unfold toldLower at h
 split at h
 ·split at h
  ·rename_i s hlt
   cases h
   refine callOk_below hdr henter fun g w rargs hg hs hv => ?_
   obtain rfl := one_str hv
   exact ⟨_, .str, hcall ⟨⟨s⟩⟩ w hlt.1 fun j b hb => of_decide_eq_true (List.all_eq_true.1 hlt.2 b (List.mem_of_getElem? hb))⟩
  ·cases h
 ·cases h
theorem trim_told
  (hcall : ∀ (s t : ByteArray) (w : World), s.size ≤ 9223372036854775807 → t.size < 4294967281 → (∀ (j : Nat) (b : UInt8), t.data.toList[j]? = some b → b.toNat < 128) → Calls K.P f #[.string s, .string t] w fun e w' => e = .returned (.string ⟨(Lib.trimS s.data.toList t.data.toList).toArray⟩) ∧ Below w.heap.size w w')
  {args : List AV} {r : AV} (h : toldTrim args = some r) : CallOk K f args H r H := by
 unfold toldTrim at h
 split at h
 ·split at h
  ·rename_i s t hlt
   cases h
   refine callOk_below hdr henter fun g w rargs hg hs hv => ?_
   obtain rfl := two_str hv
   exact ⟨_, .str, hcall ⟨⟨s⟩⟩ ⟨⟨t⟩⟩ w hlt.1 hlt.2.1 fun j b hb => of_decide_eq_true (List.all_eq_true.1 hlt.2.2 b (List.mem_of_getElem? hb))⟩
  ·cases h
 ·cases h
theorem itoa_told
  (hcall : ∀ (n : Int) (g : Gh) (w : World), Glob K g → (∀ b o v, g.I b o = some v → w.cell? ⟨b, o, none⟩ = some v) → -9223372036854775808 ≤ n → n ≤ 9223372036854775807 → Calls K.P f #[.int .i64 n] w fun e w' => e = .returned (.string ⟨(Lib.itoa n).toArray⟩) ∧ Below w.heap.size w w')
  {args : List AV} {r : AV} (h : toldItoa args = some r) : CallOk K f args H r H := by
 unfold toldItoa at h
 split at h
 ·split at h
  ·rename_i n hlt
   cases h
   refine callOk_below hdr henter fun g w rargs hg hs hv => ?_
   obtain ⟨v, rfl, hx⟩ := one_arg hv
   obtain ⟨rfl, _⟩ := vr_v hx
   exact ⟨_, .str, hcall n g w hg hs.imm hlt.1 hlt.2⟩
  ·cases h
 ·cases h
theorem atoi_told
  (hcall : ∀ (s : ByteArray) (w : World) (v : Int), s.size ≤ 9223372036854775806 → Lib.atoiAll s.data.toList = .ok v → Calls K.P f #[.string s] w fun e w' => e = .returned (.tuple #[.int .i64 v, .nilIface]) ∧ Below w.heap.size w w')
  {args : List AV} {r : AV} (h : toldAtoi args = some r) : CallOk K f args H r H := by
 unfold toldAtoi at h
 split at h
 ·split at h
  ·rename_i s hlt
   split at h
   ·rename_i v hv'
    cases h
    refine callOk_below hdr henter fun g w rargs hg hs hv => ?_
    obtain rfl := one_str hv
    refine ⟨_, ?_, hcall ⟨⟨s⟩⟩ w v hlt hv'⟩
    refine .tup rfl fun i x r hx hr => ?_
    match i, hx, hr with
    | 0, hx, hr => cases hx; cases hr; exact .v rfl
    | 1, hx, hr => cases hx; cases hr; exact .v rfl
   ·cases h
  ·cases h
 ·cases h
end
theorem flat_strs (l : List (List UInt8)) : (l.map AV.str).flatMap AV.cells = l.map AV.str := by
 induction l with
 | nil => rfl
 | cons a r ih => simp only [List.map_cons, List.flatMap_cons, ih]; rfl
theorem split_told (henter : ∀ (args : Array Value) (w : World), (callFunc f args).run K.P w = .ok (.enter f args) w) {b t9 : Nat} (hb : b ∈ K.ints)
  (hcall : ∀ (s t : ByteArray) (m : Int) (w : World), s.size < 4294967281 → w.cell? ⟨b, 0, none⟩ = some (.int .i64 m) → 1 ≤ t.size → Calls K.P f #[.string s, .string t] w fun e w' =>
   e = .returned (.slice (some ⟨w.heap.size, 0, none⟩) (Lib.countB s t + 1) (Lib.countB s t + 1)) ∧ w' = w.alloc (.cells ((Lib.splitB t 0 (Lib.countB s t) s).map Value.string).toArray t9))
  {args : List AV} {r : AV} (h : toldSplit args = some r) : CallOk K f args H r H := by
 intro g w rargs hg hs hv
 unfold toldSplit at h
 split at h
 ·split at h
  ·rename_i s t hlt
   cases h
   obtain rfl := two_str hv
   obtain ⟨m, hm⟩ := hg.ints b hb
   refine .inl ⟨henter _ w, (hcall ⟨⟨s⟩⟩ ⟨⟨t⟩⟩ m w hlt.1 (hs.imm _ _ _ hm) hlt.2).mono fun e w' ⟨he, hw⟩ => ?_⟩
   subst he hw
   have hl : (Lib.split s t).length = Lib.countB ⟨⟨s⟩⟩ ⟨⟨t⟩⟩ + 1 := by
    have := Lib.splitB_all ⟨⟨t⟩⟩ hlt.2 0 _ ⟨⟨s⟩⟩ rfl
    rw [← this, ← List.length_map (f := fun x : ByteArray => x.data.toList), Lib.splitB_data]
    rfl
   have hd : (Lib.splitB ⟨⟨t⟩⟩ 0 (Lib.countB ⟨⟨s⟩⟩ ⟨⟨t⟩⟩) ⟨⟨s⟩⟩).map (·.data.toList) = Lib.split s t := by
    rw [Lib.splitB_data]; rfl
   have hrs : (Lib.splitB ⟨⟨t⟩⟩ 0 (Lib.countB ⟨⟨s⟩⟩ ⟨⟨t⟩⟩) ⟨⟨s⟩⟩).map Value.string = (Lib.split s t).map fun x => Value.string ⟨⟨x⟩⟩ := by
    rw [← hd, List.map_map]
    rfl
   have hvs : ∀ l : List (List UInt8), VRs g (l.map AV.str) (l.map fun x => Value.string ⟨⟨x⟩⟩) := fun l => ⟨by simp, fun i x r hx hr => by
    simp only [List.getElem?_map, Option.map_eq_some_iff] at hx hr
    obtain ⟨a, ha, rfl⟩ := hx
    obtain ⟨c, hc, rfl⟩ := hr
    rw [ha] at hc; cases hc
    exact .str⟩
   have hcl : ∀ l : List (List UInt8), AV.closedL (l.map AV.str) = true := fun l => by
    rw [closedL_iff]; intro x hx; simp at hx; obtain ⟨_, _, rfl⟩ := hx; rfl
   have h1 : ∀ l : List (List UInt8), allOne (l.map AV.str) = true := fun l => by
    unfold allOne; rw [List.all_eq_true]; intro x hx; simp at hx; obtain ⟨_, _, rfl⟩ := hx; rfl
   have hnew := newImm hs (xs := (Lib.split s t).map AV.str) (sz := 1) ((Lib.splitB ⟨⟨t⟩⟩ 0 (Lib.countB ⟨⟨s⟩⟩ ⟨⟨t⟩⟩) ⟨⟨s⟩⟩).map Value.string).toArray t9 (fun x hx => by simp at hx; obtain ⟨_, _, rfl⟩ := hx; rfl) (by rw [flat_strs]; exact hcl _) (by rw [flat_strs]; exact h1 _)
    ((Lib.split s t).map fun x => Value.string ⟨⟨x⟩⟩) (by rw [flat_strs]; exact hvs _) (fun i v q => by rw [hrs]; exact q) ((Lib.split s t).map AV.str).length (Nat.le_refl _) .unk (by simp) (by simp)
   rw [List.length_map, hl] at hnew
   refine ⟨g.addImm w.heap.size ((Lib.split s t).map fun x => Value.string ⟨⟨x⟩⟩), ?_, by simpa using hnew⟩
   exact hs.allocImm _ _ _ (fun i v q => by rw [hrs]; exact q) noTok (fun s t q => by cases q) (fun s s' t t' q => by cases q)
  ·cases h
 ·cases h
end
end Go.Tm
