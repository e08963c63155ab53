/- The ring's sorts and slices.Compact, told: what the library's contracts say of a row of ints. -/
import Derived.Test.YtpgkkmlmdoacmaaRgPlain
import Derived.Test.YtpgkkmlmdoacmaaRgKit
import Derived.Test.YtpgkkmlmdoacmaaRingAwake
import Derived.Test.YtpgkkmlmdoacmaaTmQd
set_option linter.unusedVariables false
set_option linter.unusedSimpArgs false
set_option linter.unusedSectionVars false
namespace Go.Tm
theorem callOk_tells {K : Cfg} (hk : CfgOk K) {f : FuncId} {args : List AV} {H H' : List AB} {r : AV} (h : Tells K f args H fun r' H'' => r' = r ∧ H'' = H') : CallOk K f args H r H' := by
 obtain ⟨⟨r', H''⟩, N, h1, rfl, rfl⟩ := h
 exact call_ok hk N f args H [] [] _ _ ⟨[], h1 N (Nat.le_refl _), by simp⟩
theorem Tells.lib {K : Cfg} {f : FuncId} {g : List AV → List AB → Option (AV × List AB)} {args : List AV} {H H' : List AB} {r : AV} {Q : AV → List AB → Prop} (h0 : K.libv f = none) (hf : K.lib f = some g) (hr : g args H = some (r, H')) (h : Q r H') : Tells K f args H Q := by
 refine ⟨(r, H'), 1, fun n hn => ?_, h⟩
 obtain ⟨n, rfl⟩ : ∃ j, n = j + 1 := ⟨n - 1, by omega⟩
 show aCallW K (aCall K n) (n + 1) f args H [] = _
 unfold aCallW
 simp only [h0, hf, hr]
 rfl
end Go.Tm
namespace Go.Proofs
open Go.Tm Go.Sort Go.Proofs.RgPlain
def asInts : List AV → Option (List Int)
 | [] => some []
 | x :: r => match x with
  | .v (.int .i64 n) => match asInts r with
   | some l => some (n :: l)
   | none => none
  | _ => none
theorem asInts_map : ∀ xs : List Int, asInts (xs.map i64) = some xs
 | [] => rfl
 | x :: r => by simp only [List.map_cons, asInts, asInts_map r]
theorem asInts_eq : ∀ {cs : List AV} {xs : List Int}, asInts cs = some xs → cs = xs.map i64
 | [], xs, h => by simp only [asInts, Option.some.injEq] at h; subst h; rfl
 | x :: r, xs, h => by
  unfold asInts at h
  split at h
  ·rename_i n
   cases hr : asInts r with
   | none => rw [hr] at h; cases h
   | some l =>
    rw [hr] at h
    simp only [Option.some.injEq] at h
    subst h
    rw [asInts_eq hr]; rfl
  ·cases h
def rowOf (H : List AB) (b off len sz : Nat) : Option (TypeId × Bool × List AV × List Int) :=
 match nth H b with
 | some (.cells tt cs) => if off + len ≤ cs.length ∧ len < 2 ^ 62 ∧ sz = 1 then match asInts ((cs.drop off).take len) with
   | some xs => some (tt.1, tt.2, cs, xs)
   | none => none
  else none
 | _ => none
theorem rowOf_some {H : List AB} {b off len sz : Nat} {t : TypeId} {m : Bool} {cs : List AV} {xs : List Int} (h : rowOf H b off len sz = some (t, m, cs, xs)) : H[b]? = some (.cells (t, m) cs) ∧ off + xs.length ≤ cs.length ∧ xs.length = len ∧ len < 2 ^ 62 ∧ sz = 1 ∧ ∀ (j : Nat) (h : j < xs.length), cs[off + j]? = some (i64 xs[j]) := by
 unfold rowOf at h
 rw [nth_eq] at h
 split at h
 ·rename_i tt cs' hb
  split at h
  ·rename_i hc
   cases hx : asInts ((cs'.drop off).take len) with
   | none => rw [hx] at h; cases h
   | some l =>
    rw [hx] at h
    simp only [Option.some.injEq, Prod.mk.injEq] at h
    obtain ⟨rfl, rfl, rfl, rfl⟩ := h
    have he := asInts_eq hx
    have hl : l.length = len := by
     have := congrArg List.length he
     simp at this
     omega
    refine ⟨hb, by omega, hl, hc.2.1, hc.2.2, fun j hj => ?_⟩
    have := congrArg (fun q => q[j]?) he
    simp only [List.getElem?_take, List.getElem?_drop, List.getElem?_map] at this
    rw [if_pos (by omega), List.getElem?_eq_getElem hj] at this
    exact this
  ·cases h
 ·cases h
theorem rowOf_mk {H : List AB} {b off : Nat} {tt : TypeId × Bool} {cs : List AV} {xs : List Int} (hb : nth H b = some (.cells tt cs)) (hle : off + xs.length ≤ cs.length) (hl : xs.length < 2 ^ 62) (hc : ∀ (j : Nat) (h : j < xs.length), cs[off + j]? = some (i64 xs[j])) : rowOf H b off xs.length 1 = some (tt.1, tt.2, cs, xs) := by
 have hcs : (cs.drop off).take xs.length = xs.map i64 := by
  apply List.ext_getElem?
  intro k
  rw [List.getElem?_take, List.getElem?_drop, List.getElem?_map]
  by_cases hk : k < xs.length
  ·rw [if_pos hk, hc k hk, List.getElem?_eq_getElem hk]; rfl
  ·rw [if_neg hk, List.getElem?_eq_none (by omega)]; rfl
 unfold rowOf
 rw [hb]
 simp only
 rw [if_pos ⟨hle, hl, trivial⟩, hcs, asInts_map]
def sortI (xs : List Int) : List Int := xs.mergeSort fun x y => decide (x ≤ y)
def toldSort : List AV → List AB → Option (AV × List AB)
 | [.ms b off len sz], H => match rowOf H b off len sz with
  | some (t, m, cs, xs) => some (.tup [], setAt H b (.cells (t, m) (putAll cs off ((sortI xs).map i64))))
  | none => none
 | [.sl [] .nil], H => some (.tup [], H)
 | [.sl [] .full], H => some (.tup [], H)
 | _, _ => none
def toldComp : List AV → List AB → Option (AV × List AB)
 | [.ms b off len sz], H => match rowOf H b off len sz with
  | some (t, m, cs, xs) => some (.ms b off (Lib.compact xs).length 1, setAt H b (.cells (t, m) (putAll cs off ((Lib.compact xs ++ List.replicate (xs.length - (Lib.compact xs).length) 0).map i64))))
  | none => none
 | [.sl [] .nil], H => some (.sl [] .nil, H)
 | [.sl [] .full], H => some (.sl [] .full, H)
 | _, _ => none
def toldSortF : List AV → List AB → Option (AV × List AB)
 | [.ms b off len sz, .func (.func 21) [] [.ptr b2 0]], H => match rowOf H b off len sz, nth H b2 with
  | some (t, m, cs, xs), some (.cells (t2, true) os) => match asInts os with
   | some o => if o.length = 8 ∧ b2 ≠ b then some (.tup [], setAt H b (.cells (t, m) (putAll cs off ((xs.mergeSort (leO o)).map i64)))) else none
   | none => none
  | _, _ => none
 | _, _ => none
end Go.Proofs
