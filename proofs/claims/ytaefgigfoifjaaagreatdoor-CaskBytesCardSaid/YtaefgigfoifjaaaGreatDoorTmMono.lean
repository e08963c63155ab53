/- The tree machine: more fuel tells the same; so a run is a telling. -/
import Derived.Test.YtaefgigfoifjaaaGreatDoorTmQd
import Derived.Test.YtaefgigfoifjaaaGreatDoorTmFast5
set_option linter.unusedVariables false
set_option linter.unusedSimpArgs false
set_option linter.unusedSectionVars false
namespace Go.Tm
def LeE {α : Type} (x y : E α) : Prop := ∀ p r, x p = some r → y p = some r
theorem LeE.rfl {α : Type} {x : E α} : LeE x x := fun _ _ h => h
theorem LeE.bind {α β : Type} {x x' : E α} {f f' : α → E β} (h : LeE x x') (k : ∀ a, LeE (f a) (f' a)) : LeE (x >>= f) (x' >>= f') := fun p r q => by
 change E.bind x f p = some r at q
 show E.bind x' f' p = some r
 unfold E.bind at q ⊢
 cases hx : x p with
 | none => rw [hx] at q; cases q
 | some y =>
  obtain ⟨a, cs, p1⟩ := y
  rw [hx] at q
  rw [h p _ hx]
  simp only at q ⊢
  cases hf : f a p1 with
  | none => rw [hf] at q; cases q
  | some z => rw [hf] at q; rw [k a p1 _ hf]; exact q
theorem LeE.fail {α : Type} {y : E α} : LeE E.fail y := fun _ _ h => by cases h
section
variable {K : Cfg} {c c' : Orc} (hc : ∀ f args H, LeE (c f args H) (c' f args H))
include hc
theorem aDo_le {f : FuncId} {o : Oper} {s : St} : LeE (aDo K c f o s) (aDo K c' f o s) := by
 unfold aDo
 refine LeE.bind .rfl fun an => ?_
 cases an with
 | val x own H => exact .rfl
 | skip H => exact .rfl
 | call g args => exact LeE.bind (hc _ _ _) fun _ => .rfl
theorem aList_le {f : FuncId} {ops : Array Oper} : ∀ {l : List Oper} {s : St}, LeE (aList K c f ops l s) (aList K c' f ops l s)
 | [], _ => .rfl
 | o :: l, s => by
  unfold aList
  split
  ·exact LeE.bind (aDo_le hc) fun _ => aList_le
  ·split
   ·exact aList_le
   ·refine LeE.bind .rfl fun t => ?_
    split
    ·exact LeE.bind (aDo_le hc) fun _ => aList_le
    ·exact aList_le
theorem aTrDo_le {f : FuncId} {i : Nat} {o : Oper} {m : Nat} {s : St} : LeE (aTrDo K c f i o m s) (aTrDo K c' f i o m s) := by
 unfold aTrDo
 refine LeE.bind .rfl fun an => ?_
 cases an with
 | val x own H => exact .rfl
 | skip H => exact .rfl
 | call g args => exact LeE.bind (hc _ _ _) fun _ => .rfl
theorem aTr_le {f : FuncId} {ops : Array Oper} {i : Nat} {o : Oper} {m : Nat} {s : St} : LeE (aTr K c f ops i o m s) (aTr K c' f ops i o m s) := by
 unfold aTr
 split
 ·exact aTrDo_le hc
 ·split
  ·exact .rfl
  ·refine LeE.bind .rfl fun t => ?_
   split
   ·exact aTrDo_le hc
   ·exact .rfl
theorem aDrawn_le {f : FuncId} {ops : Array Oper} : ∀ {l : List Oper} {befs : List Nat} {acc : List Tr} {s : St}, LeE (aDrawn K c f ops l befs acc s) (aDrawn K c' f ops l befs acc s)
 | [], _, _, _ => .rfl
 | o :: l, befs, acc, s => by
  unfold aDrawn
  split
  ·exact .rfl
  ·exact LeE.bind (aTr_le hc) fun _ => LeE.bind .rfl fun _ => aDrawn_le
omit hc in
theorem iter_le {b b' : St → E (AX × St)} (hb : ∀ s, LeE (b s) (b' s)) : ∀ {k k' : Nat} {s : St}, k ≤ k' → LeE (iter b k s) (iter b' k' s)
 | 0, _, _, _ => .fail
 | k + 1, 0, _, h => absurd h (by omega)
 | k + 1, k' + 1, s, h => by
  unfold iter
  refine LeE.bind (hb s) fun x => ?_
  obtain ⟨e, s'⟩ := x
  cases e with
  | normal => exact iter_le hb (by omega)
  | exit i => exact .rfl
  | ret => exact .rfl
omit hc in
theorem rounds_le {r r' : St → E (AX × List AB)} {regs : List AV} {ps : List Nat} (hr : ∀ s, LeE (r s) (r' s)) : ∀ {xs : List (List AV)} {H : List AB}, LeE (seqRounds r regs ps xs H) (seqRounds r' regs ps xs H)
 | [], _ => .rfl
 | x :: xs, H => by
  unfold seqRounds
  refine LeE.bind .rfl fun _ => LeE.bind (hr _) fun y => ?_
  obtain ⟨e, H'⟩ := y
  cases e with
  | normal => exact rounds_le hr
  | exit i => exact .rfl
  | ret => exact .rfl
theorem aCode_le {f : FuncId} : ∀ (d : Code) {k k' : Nat} {s : St}, k ≤ k' → LeE (aCode K c f k d s) (aCode K c' f k' d s) := by
 intro d
 induction d with
 | region id ops dr =>
  intro k k' s _
  cases dr with
  | false => unfold aCode; exact LeE.bind (aList_le hc) fun _ => .rfl
  | true => unfold aCode; exact LeE.bind (aDrawn_le hc) fun _ => .rfl
 | seq a b iha ihb =>
  intro k k' s h
  unfold aCode
  refine LeE.bind (iha h) fun x => ?_
  obtain ⟨e, s'⟩ := x
  cases e with
  | normal => exact ihb h
  | exit i => exact .rfl
  | ret => exact .rfl
 | cond x a b iha ihb =>
  intro k k' s h
  unfold aCode
  split
  ·refine LeE.bind .rfl fun t => ?_
   split
   ·exact iha h
   ·exact ihb h
  ·exact .rfl
 | block id a ih =>
  intro k k' s h
  unfold aCode
  exact LeE.bind (ih h) fun _ => .rfl
 | loop a ih =>
  intro k k' s h
  unfold aCode
  exact iter_le (fun s => ih h) h
 | rangeFunc g ps as b iha ihb =>
  intro k k' s h
  unfold aCode
  split
  ·split
   ·refine LeE.bind (rounds_le fun s1 => ?_) fun _ => .rfl
    refine LeE.bind (iha h) fun x => ?_
    obtain ⟨e, s'⟩ := x
    cases e with
    | normal => exact LeE.bind (ihb h) fun _ => .rfl
    | exit i => exact .rfl
    | ret => exact .rfl
   ·exact .rfl
  ·exact .rfl
 | _ =>
  intro k k' s h
  unfold aCode
  exact .rfl
theorem aBody_le {f : FuncId} {k k' : Nat} {args : List AV} {H : List AB} (h : k ≤ k') : LeE (aBody K c k f args H) (aBody K c' k' f args H) := by
 unfold aBody
 split
 ·exact .rfl
 ·split
  ·exact .rfl
  ·exact LeE.bind (aCode_le hc _ h) fun _ => .rfl
theorem aCallW_le {f : FuncId} {k k' : Nat} {args : List AV} {H : List AB} (h : k ≤ k') : LeE (aCallW K c k f args H) (aCallW K c' k' f args H) := by
 unfold aCallW
 split
 ·exact .rfl
 ·split
  ·exact .rfl
  ·split
   ·exact LeE.bind (aBody_le hc h) fun _ => .rfl
   ·exact aBody_le hc h
end
theorem aCall_le {K : Cfg} : ∀ {n m : Nat}, n ≤ m → ∀ (f : FuncId) (args : List AV) (H : List AB), LeE (aCall K n f args H) (aCall K m f args H)
 | 0, _, _, _, _, _ => .fail
 | n + 1, 0, h, _, _, _ => absurd h (by omega)
 | n + 1, m + 1, h, f, args, H => aCallW_le (fun f args H => aCall_le (by omega) f args H) h
theorem Tells.run {K : Cfg} (hs : K.sym = false) (har : K.ar = Ar.real) {n : Nat} {f : FuncId} {args : List AV} {H H' : List AB} {r : AV} {Q : AV → List AB → Prop} (h : callF K n f args H = some (r, H')) (hq : Q r H') : Tells K f args H Q :=
 ⟨(r, H'), n, fun m hm => aCall_le hm f args H [] _ (callF_ok hs har n f args H _ h), hq⟩
end Go.Tm
namespace Go.Tm
theorem Tells.runv {K : Cfg} (hs : K.sym = false) (har : K.ar = Ar.real) {n : Nat} {f : FuncId} {args : List AV} {H : List AB} {r : AV} (e1 : K.libv f = none) (e2 : K.lib f = none) (e3 : (K.vals f && AV.closedL args) = true) (h : callF K (n + 1) f args [] = some (r, [])) : Tells K f args H fun r' H' => r' = r ∧ H' = H := by
 have h1 : aCallW K (aCall K n) (n + 1) f args [] [] = some ((r, []), [], []) := callF_ok hs har (n + 1) f args [] _ h
 have h2 : aCallW K (aCall K n) (n + 1) f args H [] = some ((r, H), [], []) := by
  unfold aCallW at h1 ⊢
  simp only [e1, e2, e3] at h1 ⊢
  change E.bind (aBody K (aCall K n) (n + 1) f args []) _ [] = _ at h1
  show E.bind (aBody K (aCall K n) (n + 1) f args []) _ [] = _
  unfold E.bind at h1 ⊢
  cases hb : aBody K (aCall K n) (n + 1) f args [] [] with
  | none => rw [hb] at h1; cases h1
  | some x =>
   obtain ⟨⟨r0, H0⟩, cs, p1⟩ := x
   rw [hb] at h1
   simp only at h1 ⊢
   cases hsn : snap H0 6 r0 with
   | none => simp [hsn, E.of, E.fail, bind, E.bind] at h1
   | some y =>
    simp only [hsn, E.of, bind, E.bind, E.pure] at h1 ⊢
    cases hc : y.closed with
    | false => simp [hc, E.fail] at h1
    | true =>
     simp only [hc, pure, E.pure, Option.some.injEq, Prod.mk.injEq] at h1 ⊢
     obtain ⟨⟨rfl, _⟩, q, q2⟩ := h1
     exact ⟨⟨rfl, trivial⟩, q, q2⟩
 exact ⟨(r, H), n + 1, fun m hm => aCall_le hm f args H [] _ h2, rfl, rfl⟩
end Go.Tm
