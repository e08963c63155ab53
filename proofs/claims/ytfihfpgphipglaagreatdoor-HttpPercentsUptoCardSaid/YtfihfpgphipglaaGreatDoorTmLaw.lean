/- The tree machine: from what a run tells to what a call does, whatever came in. -/
import Derived.Test.YtfihfpgphipglaaGreatDoorTmOpen
import Derived.Test.YtfihfpgphipglaaGreatDoorTmSym
import Derived.WideKeyArgs
import Derived.Below
import Derived.WalkKit
set_option linter.unusedVariables false
set_option linter.unusedSimpArgs false
set_option linter.unusedSectionVars false
namespace Go.Tm
open Go.ChangeShapes Go.RowKit

/-- A value that came in, seen. -/
structure Opened (w : World) (P : Program) (m : Nat) (t : TypeId) (x : AV) (v : Value) : Prop where
  ty : Ty P m t x.cells
  vr : VR (gAll w) x v
  closed : x.closed = true
  shape : match P.underlying t with
    | some (.struct _) | some (.array _ _) => x = .agg x.cells
    | _ => x.cells = [x]

theorem cell_unspot {P : Program} {w : World} {r : Reach} {base : Nat} {u : TypeId} {v : Value} (h : Cell.okWide P w r base u v) : Unspot v := by
  unfold Cell.okWide at h
  cases v with
  | slice a len cap =>
    cases a with
    | none => trivial
    | some a =>
      show a.spot = none
      have h' : Cell.ok P w r base u (.slice (some a) len cap) := by
        split at h <;> simp_all
      unfold Cell.ok at h'
      split at h' <;> simp_all
      exact h'.2.2.2.1
  | _ => trivial

theorem value_open {H : Type} {enc : TypeId × Value → H} {P : Program} {W : World} {r : Reach} {base : Nat} {sp : Nat → Bool} {held : Bool} {t : TypeId} {v : Value} {d : DataW H} {ps : List MemPlace} {m : Nat} (hok : okF P true m t = true) (hval : Value.okWide P W r base t v) (hd : DataW.Trod enc P W 0 sp held t v d ps) (hw : (d.weights P t).all (· ≤ reachBytes) = true) :
    ∃ x, Opened W P m t x v := by
  obtain ⟨n, hd⟩ := hd
  have fin : ∀ (agg : Bool), (match P.underlying t with | some (.struct _) | some (.array _ _) => agg = true | _ => agg = false) → (agg = true → ∃ cs, v = .agg cs) → (agg = false → v.cells = #[v]) → (∀ v' ∈ v.cells.toList, Unspot v') → ∃ x, Opened W P m t x v := fun agg ha h1 h2 hs => by
    obtain ⟨xs, hx⟩ := cells_open (w := W) m true t v.cells.toList n d ps hok hd hw fun _ => hs
    cases agg with
    | true =>
      obtain ⟨cs, rfl⟩ := h1 rfl
      refine ⟨.agg xs, hx.ty, ?_, hx.closed, ?_⟩
      · exact .agg hx.vr.1 hx.vr.2
      · split <;> simp_all <;> rfl
    | false =>
      have hc := h2 rfl
      have hv := hx.vr
      rw [hc] at hv
      obtain ⟨x, rfl⟩ := List.length_eq_one_iff.1 hv.1
      have h1 := hx.one x (by simp)
      have hcell : x.cells = [x] := by cases x <;> first | rfl | (simp [AV.one] at h1)
      refine ⟨x, by rw [hcell]; exact hx.ty, hv.2 0 x v rfl rfl, ?_, ?_⟩
      · have := hx.closed
        simpa [AV.closedL] using this
      · split <;> simp_all
  unfold Value.okWide at hval
  split at hval
  · rename_i fs hu
    obtain ⟨cs, rfl, _, ts, _, _, hrow⟩ := hval
    refine fin true (by rw [hu]) (fun _ => ⟨cs, rfl⟩) (fun h => by cases h) fun v' hv' => ?_
    obtain ⟨i, hi⟩ := List.mem_iff_getElem?.1 hv'
    obtain ⟨u, _, hu⟩ := hrow i v' (by simpa [Value.cells] using hi)
    exact cell_unspot hu
  · rename_i k e hu
    obtain ⟨cs, rfl, _, ts, _, _, hrow⟩ := hval
    refine fin true (by rw [hu]) (fun _ => ⟨cs, rfl⟩) (fun h => by cases h) fun v' hv' => ?_
    obtain ⟨i, hi⟩ := List.mem_iff_getElem?.1 hv'
    obtain ⟨u, _, hu⟩ := hrow i v' (by simpa [Value.cells] using hi)
    exact cell_unspot hu
  · rename_i h1 h2
    have hva : v.cells = #[v] := by
      cases v with
      | agg cs =>
        exfalso
        unfold Cell.okWide at hval
        split at hval <;> first | (rename_i he _; cases he) | skip
        all_goals (try (rename_i h; cases h))
        unfold Cell.ok at hval
        split at hval <;> simp_all
      | _ => rfl
    refine fin false ?_ (fun h => by cases h) (fun _ => hva) fun v' hv' => ?_
    · split <;> simp_all
    · rw [hva] at hv'
      obtain rfl : v' = v := by simpa using hv'
      exact cell_unspot hval

/-- What is told of a run, said of a call in any world. -/
theorem calls_of_tells {K : Cfg} (hk : CfgOk K) {f : FuncId} {fn : Func} {args : List AV} {Q : AV → List AB → Prop} (h : Tells K f args [] Q) {w : World} (hg : Glob K (gAll w)) {rargs : List Value} (hv : VRs (gAll w) args rargs) (hf : K.P.funcs[f]? = some fn) (hb : fn.body.isSome = true) :
    Calls K.P f ⟨rargs⟩ w fun e w' => ∃ v, e = .returned v ∧ (∃ g' r H', VR g' r v ∧ Q r H') ∧ Kept w (fun _ => False) w' := by
  obtain ⟨⟨r, H'⟩, N, h1, h2⟩ := h
  have h1 := h1 N (Nat.le_refl _)
  have hlive : Live (gAll w) [] = fun _ => False := by
    funext rb
    simp [Live]
  have hs : SW ⟨w, Live (gAll w) [], gAll w⟩ (gAll w) noTok [] w :=
    ⟨fun b o v q => q, by simp [gAll], by simp, by simp, by simp [noTok], by simp [noTok], .refl w _, fun _ _ _ _ _ q => q, .refl _⟩
  have hok := call_ok hk N f args [] [] [] r H' ⟨[], h1, by simp⟩ (gAll w) w rargs hg hs hv
  have henter : (callFunc f ⟨rargs⟩).run K.P w = .ok (.enter f ⟨rargs⟩) w := by
    have hn := hk.names f fn hf hb
    simp only [callFunc, Sem.run_bind, run_program, Result.andThen_ok, hf]
    rw [if_neg (by rw [hn]; simp), if_neg (by cases hq : fn.body with | none => rw [hq] at hb; cases hb | some c => simp)]
    rfl
  rcases hok with ⟨_, h3⟩ | ⟨v, w', h3, _⟩
  · refine h3.mono fun e w' q => ?_
    cases e with
    | returned v =>
      obtain ⟨g', q1, q2⟩ := q
      refine ⟨v, rfl, ⟨g', r, H', q2, h2⟩, ?_⟩
      have := q1.kept
      rw [hlive] at this
      exact this
    | panicked => exact q.elim
    | outgrown => exact q.elim
  · rw [henter] at h3; cases h3

theorem kept_below {W W' : World} (h : Kept W (fun _ => False) W') : Below W.heap.size W W' := ⟨h.os, h.tape, h.output, h.size, fun k hk => h.block k hk (fun q => q)⟩

/-- The arguments read again as they did. -/
theorem args_again {H : Type} {enc : TypeId × Value → H} {P : Program} {W W' : World} (hl : laidOutB P = true) (hb : Below W.heap.size W W') : ∀ {ts : List TypeId} {vs : List Value} {ds : List (DataW H)} {ps : List MemPlace}, (∀ t ∈ ts, P.readableRec t = true ∧ t < P.types.size) → DataW.TrodAll enc P W 0 (fun _ => true) true ts vs ds ps → DataW.TrodAll enc P W' 0 (fun b => decide (b < W.heap.size)) true ts vs ds ps
  | [], [], [], _, _, h => h
  | t :: ts, v :: vs, d :: ds, _, ht, ⟨p, q, h1, h2, e⟩ => by
    have hlt := DataW.TrodAll.lt (ts := [t]) (vs := [v]) (ds := [d]) (ps := p) ⟨p, [], h1, rfl, by simp⟩
    refine ⟨p, q, ?_, args_again hl hb (fun t h => ht t (by simp [h])) h2, e⟩
    exact WideElems.Trod_stays hl (ht t (by simp)).1 (ht t (by simp)).2 h1 (fun x hx => hb.same (hlt x hx)) (fun x hx => by simpa using hlt x hx)
end Go.Tm
