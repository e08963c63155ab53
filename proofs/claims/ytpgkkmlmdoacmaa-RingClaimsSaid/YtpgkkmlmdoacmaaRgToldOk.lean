/- The ring's sorts and slices.Compact: what is told of them is so, by the library's contracts. -/
import Derived.Test.YtpgkkmlmdoacmaaRgCmp
import Derived.Test.YtpgkkmlmdoacmaaRgTold
import Derived.Test.YtpgkkmlmdoacmaaTmRow
import Derived.Test.YtpgkkmlmdoacmaaRgLayPlain
import Derived.Lib.RowBridge
set_option linter.unusedVariables false
set_option linter.unusedSimpArgs false
set_option linter.unusedSectionVars false
namespace Go.Proofs
open Go.Tm Go.Sort Go.Proofs.RgPlain
theorem try_enters {f : FuncId} {fn : Func} (hf : Try.prog.funcs[f]? = some fn) (hb : fn.body.isSome = true) (args : Array Value) (w : World) : (callFunc f args).run Try.prog w = .ok (.enter f args) w := by
 have hn := ring_names_ok f fn hf hb
 simp only [callFunc, Sem.run_bind, run_program, Result.andThen_ok, hf]
 rw [if_neg (by rw [hn]; simp), if_neg (by cases hq : fn.body with | none => rw [hq] at hb; cases hb | some c => simp)]
 rfl
theorem len_sortI (xs : List Int) : (sortI xs).length = xs.length := (List.mergeSort_perm _ _).length_eq
theorem sort_ok {K : Cfg} (hP : K.P = Try.prog) {args : List AV} {H H' : List AB} {r : AV} (hn : ∀ H, CallOk K 34 [.sl [] .nil] H (.tup []) H) (hf : ∀ H, CallOk K 34 [.sl [] .full] H (.tup []) H) (h : toldSort args H = some (r, H')) : CallOk K 34 args H r H' := by
 unfold toldSort at h
 split at h
 ·rename_i b off len sz
  cases hq : rowOf H b off len sz with
  | none => rw [hq] at h; cases h
  | some q =>
   obtain ⟨t, m, cs, xs⟩ := q
   rw [hq] at h
   simp only [Option.some.injEq, Prod.mk.injEq] at h
   obtain ⟨rfl, rfl⟩ := h
   obtain ⟨h1, h2, h3, h4, rfl, h6⟩ := rowOf_some hq
   intro g w rargs hg hs hv
   obtain ⟨v, _, rfl, hv1, hv2⟩ := hv.head
   have : _ = ([] : List Value) := List.length_eq_zero_iff.1 hv2.1.symm
   subst this
   cases hv1 with
   | @ms _ _ _ _ rb cap hb hn' =>
    obtain ⟨hH, hlt⟩ := hs.holds h1 hb xs h2 h6
    subst h3
    have hc := AnyM.slices_Sort_int Try.sortI rb off cap xs w hH hlt h4
    rw [hP]
    refine .inl ⟨try_enters Try.func34 (by kernel_rfl) _ w, Calls.mono hc fun e w' q => ?_⟩
    obtain ⟨rfl, n, os, rfl⟩ := q
    exact ⟨g, hs.rowed h1 hb (sortI xs) (by rw [len_sortI]; exact h2) n os, .tup rfl (by simp)⟩
 ·simp only [Option.some.injEq, Prod.mk.injEq] at h; obtain ⟨rfl, rfl⟩ := h; exact hn _
 ·simp only [Option.some.injEq, Prod.mk.injEq] at h; obtain ⟨rfl, rfl⟩ := h; exact hf _
 ·cases h
theorem comp_ok {K : Cfg} (hP : K.P = Try.prog) {args : List AV} {H H' : List AB} {r : AV} (hn : ∀ H, CallOk K 35 [.sl [] .nil] H (.sl [] .nil) H) (hf : ∀ H, CallOk K 35 [.sl [] .full] H (.sl [] .full) H) (h : toldComp args H = some (r, H')) : CallOk K 35 args H r H' := by
 unfold toldComp at h
 split at h
 ·rename_i b off len sz
  cases hq : rowOf H b off len sz with
  | none => rw [hq] at h; cases h
  | some q =>
   obtain ⟨t, m, cs, xs⟩ := q
   rw [hq] at h
   simp only [Option.some.injEq, Prod.mk.injEq] at h
   obtain ⟨rfl, rfl⟩ := h
   obtain ⟨h1, h2, h3, h4, rfl, h6⟩ := rowOf_some hq
   intro g w rargs hg hs hv
   obtain ⟨v, _, rfl, hv1, hv2⟩ := hv.head
   have : _ = ([] : List Value) := List.length_eq_zero_iff.1 hv2.1.symm
   subst this
   cases hv1 with
   | @ms _ _ _ _ rb cap hb hn' =>
    obtain ⟨hH, hlt⟩ := hs.holds h1 hb xs h2 h6
    subst h3
    have hc := Any.slices_Compact_int Try.compI rb off cap xs w hH (by omega) hn'.1
    have hle := Lib.compact_length_le xs
    rw [hP]
    refine .inl ⟨try_enters Try.func35 (by kernel_rfl) _ w, Calls.mono hc fun e w' q => ?_⟩
    obtain ⟨rfl, n, rfl⟩ := q
    have hlen : (Lib.compact xs ++ List.replicate (xs.length - (Lib.compact xs).length) (0 : Int)).length = xs.length := by rw [List.length_append, List.length_replicate]; omega
    have hrow := hs.rowed h1 hb (Lib.compact xs ++ List.replicate (xs.length - (Lib.compact xs).length) 0) (by rw [hlen]; exact h2) n #[]
    rw [grow_empty] at hrow
    exact ⟨g, hrow, .ms hb ⟨by omega, hn'.2⟩⟩
 ·simp only [Option.some.injEq, Prod.mk.injEq] at h; obtain ⟨rfl, rfl⟩ := h; exact hn _
 ·simp only [Option.some.injEq, Prod.mk.injEq] at h; obtain ⟨rfl, rfl⟩ := h; exact hf _
 ·cases h
theorem kd_ok : CfgOk Dr.Kd where
 mixed := by kernel_rfl
 names := ring_names_ok
 lib := fun f h args H r H' hl hr => by cases hl
 libv := fun f h args H r hl hr => by cases hl
 seq := fun f q h => by cases h
theorem sortF_ok {K : Cfg} (hP : K.P = Try.prog) (hgl : K.gl = fun _ => none) (hi : K.ints = []) {args : List AV} {H H' : List AB} {r : AV} (h : toldSortF args H = some (r, H')) : CallOk K 37 args H r H' := by
 unfold toldSortF at h
 split at h
 ·rename_i b off len sz b2
  split at h
  ·rename_i t m cs xs t2 os hq hb2
   cases ho : asInts os with
   | none => rw [ho] at h; cases h
   | some o =>
    rw [ho] at h
    simp only at h
    split at h
    ·rename_i hc
     obtain ⟨ho8, hne⟩ := hc
     simp only [Option.some.injEq, Prod.mk.injEq] at h
     obtain ⟨rfl, rfl⟩ := h
     obtain ⟨h1, h2, h3, h4, rfl, h6⟩ := rowOf_some hq
     have hos := asInts_eq ho
     subst hos
     rw [nth_eq] at hb2
     intro g w rargs hg hs hv
     obtain ⟨v, _, rfl, hv1, hv2⟩ := hv.head
     obtain ⟨v2, _, rfl, hv3, hv4⟩ := hv2.head
     have : _ = ([] : List Value) := List.length_eq_zero_iff.1 hv4.1.symm
     subst this
     cases hv1 with
     | @ms _ _ _ _ rb cap hb hn' =>
      cases hv3 with
      | @func _ _ _ r1 r2 l1 l2 w1 w2 =>
       have hr1 : r1 = [] := List.length_eq_zero_iff.1 l1.symm
       subst hr1
       obtain ⟨c, rfl⟩ : ∃ c, r2 = [c] := List.length_eq_one_iff.1 l2.symm
       have hc := w2 0 _ _ rfl rfl
       cases hc with
       | @ptr _ _ rb2 hr2 =>
        obtain ⟨hH, hlt⟩ := hs.holds h1 hb xs h2 h6
        subst h3
        have hlays := cmp_lays (K := K) (Kd := Dr.Kd) (cf := cfo o) (size := xs.length) hP.symm (by rw [hgl]; rfl) (by rw [hi]; rfl) rfl (f := 21) (fun args w => by rw [hP]; exact try_enters Try.func21 (by kernel_rfl) args w)
         (fun H1 hH1 x y => callOk_tells kd_ok (Dr.less_tells o ho8 x y H1 b2 (t2, true) (by rw [nth_eq]; exact hH1))) hg hs h1 hb h2 hb2 hr2 hne
        rw [hP] at hlays ⊢
        have hcon := Any.slices_SortFunc Try.sortF (Value.int .i64) (fun _ => rfl) (cfo o) (swo o) 21 #[.pointer (some ⟨rb2, 0, none⟩)] rb off cap xs.toArray w (fun args w => try_enters Try.func21 (by kernel_rfl) args w) (by simpa using hlays) hH hlt (by simpa using h4)
        refine .inl ⟨try_enters Try.func37 (by kernel_rfl) _ w, Calls.mono hcon fun e w' q => ?_⟩
        obtain ⟨rfl, d', n, os, hp, hsd, rfl⟩ := q
        have hd := sorted_one o xs.toArray d' (by simpa using hp) (by simpa using hsd)
        have hl : (xs.mergeSort (leO o)).length = xs.length := (List.mergeSort_perm _ _).length_eq
        have hrow := hs.rowed h1 hb (xs.mergeSort (leO o)) (by rw [hl]; exact h2) n os
        have hd' : (xs.mergeSort (leO o)).toArray = d' := by
         have := congrArg List.toArray hd
         simpa using this.symm
        rw [hd'] at hrow
        exact ⟨g, hrow, .tup rfl (by simp)⟩
    ·cases h
  ·cases h
 ·cases h
end Go.Proofs
