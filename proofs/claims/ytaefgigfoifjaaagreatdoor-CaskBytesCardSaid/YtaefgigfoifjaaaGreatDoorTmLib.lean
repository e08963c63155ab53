/- The tree machine: functions that are told, not run: the entries of the library's own that have no body, and what the shelf's contracts say. -/
import Derived.Test.YtaefgigfoifjaaaGreatDoorTmS22
import Derived.Lib.Bytealg
import Derived.Lib.Strings
import Derived.Lib.Index
set_option linter.unusedVariables false
set_option linter.unusedSimpArgs false
set_option linter.unusedSectionVars false
namespace Go.Tm
section
variable {K : Cfg} {f : FuncId} {fn : Func} {H : List AB}

theorem digits_size : ∀ (n t : Nat) (acc : Array Value), (Extern.BytealgMakeNoZero.digits n t acc).size = acc.size + n
 | 0, t, acc => by simp [Extern.BytealgMakeNoZero.digits]
 | n + 1, t, acc => by simp only [Extern.BytealgMakeNoZero.digits]; rw [digits_size n]; simp; omega

theorem does_extern {P : Program} (hf : P.funcs[f]? = some fn) (hname : (fn.name == "runtime.NumGoroutine") = false) (hb : fn.body.isNone = true) (hn : Extern.findNext fn = none) {e : Array Value → Sem Value} (he : Extern.find fn = some e) {args : Array Value} {w w' : World} {v : Value}
  (hrun : (e args).run P w = .ok v w') {R : Value → World → Prop} (hR : R v w') : Does P f args w R := by
 right
 refine ⟨v, w', ?_, hR⟩
 simp only [callFunc, Sem.run_bind, run_program, Result.andThen_ok, hf]
 rw [if_neg (by rw [hname]; simp), if_pos hb]
 simp [mark, Sem.run, hn, he, hrun]

theorem callOk_same {args : List AV} {r : AV} (h : ∀ (g : Gh) (w : World) (rargs : List Value), Glob K g → SW ⟨w, Live g H, g⟩ g noTok H w → VRs g args rargs → ∃ v, VR g r v ∧ ((∃ e, (callFunc f ⟨rargs⟩).run K.P w = .ok (.value v) w ∧ e = ()) ∨
  ((callFunc f ⟨rargs⟩).run K.P w = .ok (.enter f ⟨rargs⟩) w ∧ Calls K.P f ⟨rargs⟩ w fun e w' => e = .returned v ∧ w' = w))) : CallOk K f args H r H := by
 intro g w rargs hg hs hv
 obtain ⟨v, h1, h2⟩ := h g w rargs hg hs hv
 rcases h2 with ⟨_, h2, _⟩ | ⟨h2, h3⟩
 ·exact .inr ⟨v, w, h2, g, hs, h1⟩
 ·refine .inl ⟨h2, h3.mono fun e w' ⟨he, hw⟩ => ?_⟩
  subst he; subst hw
  exact ⟨g, hs, h1⟩

def toldSame : List AV → Option AV
 | [x] => some x
 | _ => none
def toldCount : List AV → Option AV
 | [.str s, .v (.int .u8 c)] => some (.v (.int .i64 (Lib.countByte s c.toNat.toUInt8)))
 | _ => none
def toldIndexByte : List AV → Option AV
 | [.str s, .v (.int .u8 c)] => some (.v (.int .i64 (Lib.indexByte s c.toNat.toUInt8)))
 | _ => none
def toldIndex : List AV → Option AV
 | [.str s, .str t] => if s.length < 4294967281 then some (.v (.int .i64 (Lib.index s t))) else none
 | _ => none
def toldNew (u8 : TypeId) : List AV → List AB → Option (AV × List AB)
 | [.v (.int .i64 n)], H => if 0 ≤ n ∧ n ≤ 140737488355328 then some (.ms H.length 0 n.toNat 1, H ++ [.cells (u8, false) []]) else none
 | _, _ => none

section
variable (hf : K.P.funcs[f]? = some fn) (hname : (fn.name == "runtime.NumGoroutine") = false) (hb : fn.body.isNone = true) (hn : Extern.findNext fn = none)
include hf hname hb hn

theorem same_told (he : Extern.find fn = some Extern.AbiNoEscape.same) {args : List AV} {r : AV} (h : toldSame args = some r) : CallOk K f args H r H := by
 intro g w rargs hg hs hv
 unfold toldSame at h
 split at h
 ·cases h
  obtain ⟨v, rfl, hx⟩ := one_arg hv
  exact does_extern hf hname hb hn he (v := v) (w' := w) rfl ⟨g, hs, hx⟩
 ·cases h

theorem count_told (he : Extern.find fn = some Extern.BytealgCount.count) {args : List AV} {r : AV} (h : toldCount args = some r) : CallOk K f args H r H := by
 intro g w rargs hg hs hv
 unfold toldCount at h
 split at h
 ·cases h
  obtain ⟨v, u, rfl, hx, hy⟩ := two_args hv
  cases hx
  obtain ⟨rfl, _⟩ := vr_v hy
  exact does_extern hf hname hb hn he (Lib.run_countString _ _ w) ⟨g, hs, .v rfl⟩
 ·cases h

theorem indexByte_told (he : Extern.find fn = some Extern.BytealgIndexByte.indexByte) {args : List AV} {r : AV} (h : toldIndexByte args = some r) : CallOk K f args H r H := by
 intro g w rargs hg hs hv
 unfold toldIndexByte at h
 split at h
 ·cases h
  obtain ⟨v, u, rfl, hx, hy⟩ := two_args hv
  cases hx
  obtain ⟨rfl, _⟩ := vr_v hy
  exact does_extern hf hname hb hn he (Lib.run_indexByteString _ _ w) ⟨g, hs, .v rfl⟩
 ·cases h

theorem new_told {u8 t : TypeId} (he : Extern.find fn = some (Extern.BytealgMakeNoZero.makeNoZero fn.params fn.resultTypes)) (ht : fn.resultTypes[0]? = some t) (hu : K.P.underlying t = some (.slice u8))
  {args : List AV} {r : AV} {H' : List AB} (h : toldNew u8 args H = some (r, H')) : CallOk K f args H r H' := by
 intro g w rargs hg hs hv
 unfold toldNew at h
 split at h
 ·rename_i n
  split at h
  ·rename_i hn'
   obtain ⟨n0, n1⟩ := hn'
   cases h
   obtain ⟨v, rfl, hx⟩ := one_arg hv
   obtain ⟨rfl, _⟩ := vr_v hx
   obtain ⟨m, rfl⟩ : ∃ m : Nat, n = (m : Int) := ⟨n.toNat, by omega⟩
   obtain ⟨c, bytes, hmc, hrun⟩ : ∃ c bytes, m ≤ c ∧ (Extern.BytealgMakeNoZero.makeNoZero fn.params fn.resultTypes #[.int .i64 m]).run K.P w = .ok (.slice (some ⟨w.heap.size, 0, none⟩) m c) (w.drew.drew.alloc (.cells (Extern.BytealgMakeNoZero.digits c bytes #[]) u8)) := by
    refine ⟨grownCap w m 0 u8, (Question.extern "internal/bytealg.MakeNoZero.bytes" 0).cut (w.drew.tape w.drew.drawn (.extern "internal/bytealg.MakeNoZero.bytes" 0)), by simp [grownCap, Question.cut], ?_⟩
    have h1 : ¬ ((m : Int) < 0) := by omega
    have h2 : ¬ ((m : Int) > 2 ^ 48) := by
     have : (2 : Int) ^ 48 = 281474976710656 := by decide
     omega
    have hf1 : (Question.appendCap m 0 u8).forced = false := rfl
    have hf2 : (Question.extern "internal/bytealg.MakeNoZero.bytes" 0).forced = false := rfl
    have hdef : Extern.BytealgMakeNoZero.makeNoZero fn.params fn.resultTypes #[.int .i64 m] = (do
      let some t := fn.resultTypes[0]? | stuck "bytealg.MakeNoZero: no result type"
      let .slice elem ← underlying t | stuck "bytealg.MakeNoZero: slice type expected"
      if (m : Int) < 0 || (m : Int) > 2 ^ 48 then runtimePanic (.error "makeslice: len out of range")
      let cap ← choose (.appendCap (m : Int).toNat 0 elem)
      askRoom cap
      let bytes ← choose (.extern "internal/bytealg.MakeNoZero.bytes" 0)
      let a ← newRow elem (Extern.BytealgMakeNoZero.digits cap bytes #[])
      pure (.slice (some a) (m : Int).toNat cap)) := rfl
    rw [hdef]
    simp only [ht, Sem.run_bind, run_underlying hu, Result.andThen_ok]
    rw [if_neg (by simp [h1]; omega)]
    simp only [Int.toNat_natCast, Sem.run_bind, run_choose, hf1, hf2, run_askRoom, Result.andThen_ok, newRow, run_newObj, Sem.run_pure, Bool.false_eq_true, if_false]
    rfl
   refine does_extern hf hname hb hn he hrun ?_
   have hsd := hs.drew.drew
   have hsz := digits_size c bytes #[]
   simp at hsz
   have hA : BRo (g.addBlk H.length w.drew.drew.heap.size (objLen (.cells (Extern.BytealgMakeNoZero.digits c bytes #[]) u8))) (.cells (u8, false) []) (.cells (Extern.BytealgMakeNoZero.digits c bytes #[]) u8) := ⟨rfl, by simp, by simp, rfl, rfl, by simp⟩
   refine ⟨_, hsd.alloc _ _ hA, .ms (by simp [Gh.addBlk]) ⟨hmc, ?_⟩⟩
   have hN : (g.addBlk H.length w.drew.drew.heap.size (objLen (.cells (Extern.BytealgMakeNoZero.digits c bytes #[]) u8))).N w.heap.size = c := by
    show (if w.heap.size = w.drew.drew.heap.size then _ else _) = c
    rw [if_pos (show w.heap.size = w.drew.drew.heap.size from rfl)]
    simp [objLen, hsz]
   rw [hN]; omega
  ·cases h
 ·cases h
end

theorem index_told {b : Nat} (hb : b ∈ K.ints) (henter : ∀ (args : Array Value) (w : World), (callFunc f args).run K.P w = .ok (.enter f args) w)
  (hcall : ∀ (s t : ByteArray) (m : Int) (w : World), s.size < 4294967281 → w.cell? ⟨b, 0, none⟩ = some (.int .i64 m) → Calls K.P f #[.string s, .string t] w fun e w' => e = .returned (.int .i64 (Lib.index s.data.toList t.data.toList)) ∧ w' = w)
  {args : List AV} {r : AV} (h : toldIndex args = some r) : CallOk K f args H r H := by
 intro g w rargs hg hs hv
 unfold toldIndex at h
 split at h
 ·split at h
  ·rename_i s t hlt
   cases h
   obtain ⟨v, u, rfl, hx, hy⟩ := two_args hv
   cases hx; cases hy
   obtain ⟨m, hm⟩ := hg.ints b hb
   refine .inl ⟨henter _ w, (hcall ⟨⟨s⟩⟩ ⟨⟨t⟩⟩ m w hlt (hs.imm _ _ _ hm)).mono fun e w' ⟨he, hw⟩ => ?_⟩
   subst he; subst hw
   exact ⟨g, hs, .v rfl⟩
  ·cases h
 ·cases h
end
end Go.Tm
