/- The tree machine in haste: code and calls: what it tells, the tree machine tells. -/
import Derived.Test.YtaefgigfoifjaaaGreatDoorTmFast4
set_option linter.unusedVariables false
set_option linter.unusedSimpArgs false
set_option linter.unusedSectionVars false
namespace Go.Tm
variable {K : Cfg}

theorem nth_none {α : Type} : ∀ {l : List α} {i : Nat}, l.length ≤ i → nth l i = none
 | [], _, _ => rfl
 | _ :: _, 0, h => by simp at h
 | _ :: r, i + 1, h => by simpa [nth] using nth_none (l := r) (i := i) (by simpa using h)
theorem length_setAt {α : Type} : ∀ (l : List α) (i : Nat) (x : α), (setAt l i x).length = l.length
 | [], _, _ => rfl
 | _ :: _, 0, _ => rfl
 | _ :: r, i + 1, x => by simp [setAt, length_setAt r i x]
theorem nth_set {α : Type} : ∀ (l : List α) (d i : Nat) (x : α), i < l.length → nth (setAt l d x) i = if i = d then some x else nth l i
 | [], _, _, _, h => by simp at h
 | _ :: _, 0, 0, _, _ => by simp [setAt, nth]
 | _ :: _, 0, i + 1, _, _ => by simp [setAt, nth]
 | _ :: _, d + 1, 0, _, _ => by simp [setAt, nth]
 | _ :: r, d + 1, i + 1, x, h => by simpa [setAt, nth] using nth_set r d i x (by simpa using h)

structure SR (n : Nat) (r : RT) (own : Nat → Nat) (H : List AB) (st : St) : Prop where
 len : st.regs.length = n
 reg : RTok st.regs r
 own : st.own = own
 H : st.H = H

theorem RTok.get {regs : List AV} {r : RT} (h : RTok regs r) {i : Nat} (hi : i < regs.length) : nth regs i = some (r.get i) := by
 obtain ⟨d, _, _, h3⟩ := h
 exact h3 i hi

theorem regF_eq {n : Nat} {r : RT} {regs : List AV} (hn : regs.length = n) (hr : RTok regs r) (t : Nat) : regF n r t = nth regs t := by
 unfold regF
 cases hb : Nat.blt t n with
 | true => rw [hr.get (by rw [hn]; exact blt_true hb)]
 | false => rw [nth_none (by rw [hn]; have := blt_false hb; omega)]

theorem evF_eq {n : Nat} {r : RT} {regs : List AV} (hn : regs.length = n) (hr : RTok regs r) : evF K n r = evalO K regs := by
 funext x
 cases x with
 | tmp t => exact regF_eq hn hr t
 | _ => rfl

theorem put_ok {r : RT} {regs : List AV} (hr : RTok regs r) (d : Nat) (x : AV) : d < regs.length → RTok (setAt regs d x) (RT.put r d x) := by
 intro hd
 obtain ⟨e, h1, h2, h3⟩ := hr
 refine ⟨e, RT.put_full _ _ h1, by rw [length_setAt]; exact h2, fun i hi => ?_⟩
 rw [length_setAt] at hi
 rw [nth_set _ _ _ _ hi, RT.get_put _ _ _ h1 (by omega) (by omega), h3 i hi]
 split <;> rfl

theorem putD_ok {n : Nat} {r : RT} {regs : List AV} {dst : Option Tmp} {x : AV} {k : RT → FR} {res : FX} (hn : regs.length = n) (hr : RTok regs r) (h : putD n r dst x k = some res) :
  ∃ r', RTok (putReg regs dst x) r' ∧ (putReg regs dst x).length = n ∧ k r' = some res := by
 cases dst with
 | none => exact ⟨r, hr, hn, h⟩
 | some d =>
  have h : Bool.rec (motive := fun _ => FR) none (RT.putK r d x k) (Nat.blt d n) = some res := h
  cases hb : Nat.blt d n with
  | false => rw [hb] at h; cases h
  | true =>
   rw [hb] at h
   have h : RT.putK r d x k = some res := h
   rw [RT.putK_eq] at h
   exact ⟨_, put_ok hr d x (by rw [hn]; exact blt_true hb), by simp [putReg, length_setAt, hn], h⟩

theorem boolOf_some {x : AV} {b : Bool} (h : boolOf x = some b) : x = .v (.bool b) := by
 unfold boolOf at h
 cases x <;> try (simp at h; done)
 rename_i w
 cases w <;> try (simp at h; done)
 simp at h; subst h; rfl
theorem yieldF_eq {n : Nat} {r : RT} {regs : List AV} (hn : regs.length = n) (hr : RTok regs r) (ops : Array Oper) (j : Nat) : yieldF n r ((ops[j]?).bind (·.dst)) = aYield regs ops j := by
 unfold yieldF aYield
 cases (ops[j]?).bind (·.dst) with
 | none => rfl
 | some d =>
  simp only
  cases hb : Nat.blt d n with
  | true =>
   rw [hr.get (by rw [hn]; exact blt_true hb)]
   simp only
   cases r.get d <;> try rfl
   rename_i w
   cases w <;> rfl
  | false => rw [nth_none (by rw [hn]; have := blt_false hb; omega)]
theorem bEq_eq (a b : Bool) : bEq a b = (a == b) := by cases a <;> cases b <;> rfl

section
variable {call : FO} {call' : Orc} (hc : ∀ g a H r, call g a H = some r → call' g a H [] = some (r, [], [])) (hs : K.sym = false) (har : K.ar = Ar.real)
include hc hs har

theorem stepF_ok {n : Nat} {f : FuncId} {o : Oper} {r : RT} {own : Nat → Nat} {H : List AB} {st : St} {k : FK} {res : FX} (hr : SR n r own H st) (h : stepF K n call f o r own H k = some res) :
  ∃ r' own' H' st', SR n r' own' H' st' ∧ aDo K call' f o st [] = some (st', [], []) ∧ k r' own' H' = some res := by
 obtain ⟨regs, own0, H0⟩ := st
 obtain ⟨hlen, hreg, rfl, rfl⟩ := hr
 unfold stepF at h
 simp only at hlen hreg h
 rw [evF_eq hlen hreg] at h
 cases ho : opF o.op K f o.dst (evalO K regs) own0 H0 with
 | none => rw [ho] at h; cases h
 | some an =>
  have hop : aOp K f ⟨regs, own0, H0⟩ o [] = some (an, [], []) := by rw [aOp_eq]; exact opF_ok hs har ho
  rw [ho] at h
  have h : doF n call o.dst r own0 H0 k an = some res := h
  unfold doF at h
  cases an with
  | val x own H =>
   obtain ⟨r', h1, h2, h3⟩ := putD_ok hlen hreg h
   exact ⟨r', own, H, ⟨putReg regs o.dst x, own, H⟩, ⟨h2, h1, rfl, rfl⟩, bind_nil hop rfl, h3⟩
  | skip H =>
   obtain ⟨r', h1, h2, h3⟩ := putD_ok hlen hreg h
   exact ⟨r', own0, H, ⟨putReg regs o.dst .undef, own0, H⟩, ⟨h2, h1, rfl, rfl⟩, bind_nil hop rfl, h3⟩
  | call g args =>
   simp only at h
   cases hcl : call g args H0 with
   | none => simp [hcl] at h
   | some x =>
    simp only [hcl] at h
    obtain ⟨r', h1, h2, h3⟩ := putD_ok hlen hreg h
    exact ⟨r', own0, x.2, ⟨putReg regs o.dst x.1.unown, own0, x.2⟩, ⟨h2, h1, rfl, rfl⟩, bind_nil hop (bind_nil (hc _ _ _ _ hcl) rfl), h3⟩

theorem operF_ok {n : Nat} {f : FuncId} {ops : Array Oper} {o : Oper} {rest : List Oper} {r : RT} {own : Nat → Nat} {H : List AB} {st : St} {k : FK} {res : FX} (hr : SR n r own H st) (h : operF K n call f ops o r own H k = some res) :
  ∃ r' own' H' st', SR n r' own' H' st' ∧ k r' own' H' = some res ∧ ∀ x, aList K call' f ops rest st' [] = some (x, [], []) → aList K call' f ops (o :: rest) st [] = some (x, [], []) := by
 unfold operF at h
 cases hg : o.guard with
 | none =>
  rw [hg] at h
  obtain ⟨r1, own1, H1, st1, hr1, h1, h2⟩ := stepF_ok hc hs har hr h
  exact ⟨r1, own1, H1, st1, hr1, h2, fun x hx => by unfold aList; simp only [hg]; exact bind_nil h1 hx⟩
 | some g =>
  rw [hg] at h
  have h : guardF K n call f ops o r own H k g = some res := h
  obtain ⟨j, want⟩ := g
  unfold guardF at h
  simp only [yieldF_eq hr.len hr.reg] at h
  cases hy : aYield st.regs ops j with
  | none =>
   simp only [hy] at h
   obtain ⟨r', h1, h2, h3⟩ := putD_ok hr.len hr.reg h
   exact ⟨r', own, H, ⟨putReg st.regs o.dst .undef, st.own, st.H⟩, ⟨h2, h1, hr.own, hr.H⟩, h3, fun x hx => by unfold aList; simp only [hg, hy]; exact hx⟩
  | some b =>
   simp only [hy, bEq_eq] at h
   cases hb : b == want with
   | true =>
    simp only [hb] at h
    obtain ⟨r1, own1, H1, st1, hr1, h1, h2⟩ := stepF_ok hc hs har hr h
    exact ⟨r1, own1, H1, st1, hr1, h2, fun x hx => by
     unfold aList; simp only [hg, hy]
     exact bind_nil (branch_nil hs) (by simp only [hb, if_true]; exact bind_nil h1 hx)⟩
   | false =>
    simp only [hb] at h
    obtain ⟨r', h1, h2, h3⟩ := putD_ok hr.len hr.reg h
    exact ⟨r', own, H, ⟨putReg st.regs o.dst .undef, st.own, st.H⟩, ⟨h2, h1, hr.own, hr.H⟩, h3, fun x hx => by
     unfold aList; simp only [hg, hy]
     exact bind_nil (branch_nil hs) (by simpa [hb] using hx)⟩

theorem listF_ok {n : Nat} {f : FuncId} {ops : Array Oper} {k : FK} {res : FX} : ∀ {l : List Oper} {r : RT} {own : Nat → Nat} {H : List AB} {st : St}, SR n r own H st → listF K n call f ops k l r own H = some res →
  ∃ r' own' H' st', SR n r' own' H' st' ∧ aList K call' f ops l st [] = some (st', [], []) ∧ k r' own' H' = some res
 | [], r, own, H, st, hr, h => ⟨r, own, H, st, hr, rfl, h⟩
 | o :: rest, r, own, H, st, hr, h => by
  have h : operF K n call f ops o r own H (listF K n call f ops k rest) = some res := h
  obtain ⟨r1, own1, H1, st1, hr1, h1, h2⟩ := operF_ok hc hs har (rest := rest) hr h
  obtain ⟨r2, own2, H2, st2, hr2, h3, h4⟩ := listF_ok hr1 h1
  exact ⟨r2, own2, H2, st2, hr2, h2 _ h3, h4⟩

/-! Drawn regions. -/
theorem trDoF_ok {f : FuncId} {i : Nat} {o : Oper} {bef : Nat} {s : St} {t : Tr} (h : trDoF K call f i o bef s = some t) : aTrDo K call' f i o bef s [] = some (t, [], []) := by
 unfold trDoF opL at h
 cases ho : opF o.op K f o.dst (evalO K s.regs) s.own s.H with
 | none => simp [ho] at h
 | some an =>
  have hop : aOp K f s o [] = some (an, [], []) := by rw [aOp_eq]; exact opF_ok hs har ho
  simp only [ho] at h
  cases an with
  | val x own H => cases h; exact bind_nil hop rfl
  | skip H => cases h; exact bind_nil hop rfl
  | call g args =>
   simp only at h
   cases hcl : call g args s.H with
   | none => simp [hcl] at h
   | some x =>
    simp only [hcl, Option.some.injEq] at h
    subst h
    exact bind_nil hop (bind_nil (hc _ _ _ _ hcl) rfl)

theorem trF_ok {f : FuncId} {ops : Array Oper} {i : Nat} {o : Oper} {bef : Nat} {s : St} {t : Tr} (h : trF K call f ops i o bef s = some t) : aTr K call' f ops i o bef s [] = some (t, [], []) := by
 unfold trF at h
 unfold aTr
 cases hg : o.guard with
 | none => simp only [hg] at h; exact trDoF_ok hc hs har h
 | some g =>
  obtain ⟨j, want⟩ := g
  simp only [hg] at h
  simp only
  cases hy : aYield s.regs ops j with
  | none => simp only [hy, Option.some.injEq] at h; subst h; rfl
  | some b =>
   simp only [hy] at h
   cases hb : b == want with
   | true => simp only [hb] at h; exact bind_nil (branch_nil hs) (by simp only [hb, if_true]; exact trDoF_ok hc hs har h)
   | false => simp only [hb, Option.some.injEq] at h; subst h; exact bind_nil (branch_nil hs) (by simp [hb]; rfl)

omit hc in
theorem fitF_ok {f : FuncId} {t : Tr} {H : List AB} (h : fitF K f t H = true) : aFit K f t H [] = some ((), [], []) := by
 unfold fitF opL at h
 cases ho : opF t.o.op K f t.o.dst (evalO K t.s.regs) t.s.own H with
 | none => simp [ho] at h
 | some an =>
  have hop : aOp K f { t.s with H } t.o [] = some (an, [], []) := by rw [aOp_eq]; exact opF_ok hs har ho
  simp only [ho] at h
  cases an <;> try (simp at h; done)
  exact bind_nil hop (chk_nil hs h)

omit hc in
theorem pairF_ok {f : FuncId} {ops : Array Oper} {a b : Tr} (h : pairF K f ops a b = true) : aPair K f ops a b [] = some ((), [], []) := by
 unfold pairF at h
 unfold aPair
 cases hb : b.bef.testBit a.i with
 | true => rfl
 | false =>
  simp only [hb] at h
  cases ha : apartTr ops a b with
  | false => simp [ha] at h
  | true =>
   simp only [ha] at h
   simp only
   refine bind_nil (a := ()) (chk_nil rfl rfl) ?_
   generalize a.k = x at h ⊢
   generalize b.k = y at h ⊢
   match x, y, h with
   | 0, _, _ => rfl
   | 1, 0, _ => rfl
   | 2, 0, _ => rfl
   | _ + 3, 0, _ => rfl
   | 1, 1, _ => rfl
   | 1, 2, h =>
    simp only [Bool.and_eq_true] at h
    exact bind_nil (fitF_ok hs har h.1) (fitF_ok hs har h.2)
   | 2, 1, h =>
    simp only [Bool.and_eq_true] at h
    exact bind_nil (fitF_ok hs har h.1) (fitF_ok hs har h.2)
   | 2, 2, h => cases h
   | 1, _ + 3, h => cases h
   | 2, _ + 3, h => cases h
   | _ + 3, _ + 1, h => cases h

omit hc in
theorem pairsF_ok {f : FuncId} {ops : Array Oper} {b : Tr} : ∀ {l : List Tr}, pairsF K f ops l b = true → aPairs K f ops l b [] = some ((), [], [])
 | [], _ => rfl
 | a :: r, h => by
  unfold pairsF at h
  cases hp : pairF K f ops a b with
  | false => simp [hp] at h
  | true =>
   simp only [hp] at h
   exact bind_nil (pairF_ok hs har hp) (pairsF_ok h)

theorem drawnF_ok {f : FuncId} {ops : Array Oper} : ∀ {l : List Oper} {befs : List Nat} {acc : List Tr} {s s' : St}, drawnF K call f ops l befs acc s = some s' → aDrawn K call' f ops l befs acc s [] = some (s', [], [])
 | [], _, _, _, _, h => by cases h; rfl
 | o :: rest, befs, acc, s, s', h => by
  unfold drawnF at h
  unfold aDrawn
  cases hm : befOf befs o.after.toList 0 with
  | none => simp [hm] at h
  | some m =>
   simp only [hm] at h
   simp only
   cases ht : trF K call f ops acc.length o m s with
   | none => simp [ht] at h
   | some t =>
    simp only [ht] at h
    cases hp : pairsF K f ops acc t with
    | false => simp [hp] at h
    | true =>
     simp only [hp] at h
     exact bind_nil (trF_ok hc hs har ht) (bind_nil (pairsF_ok hs har hp) (drawnF_ok h))
end

theorem putReg_len (l : List AV) (d : Option Tmp) (x : AV) : (putReg l d x).length = l.length := by cases d <;> simp [putReg, length_setAt]
theorem trDo_len {call : FO} {f : FuncId} {i : Nat} {o : Oper} {m : Nat} {s : St} {t : Tr} (h : trDoF K call f i o m s = some t) : t.s'.regs.length = s.regs.length := by
 unfold trDoF at h
 cases ho : opL K f s o with
 | none => simp [ho] at h
 | some an =>
  simp only [ho] at h
  cases an with
  | val x own H => cases h; exact putReg_len _ _ _
  | skip H => cases h; exact putReg_len _ _ _
  | call g args =>
   simp only at h
   cases hcl : call g args s.H with
   | none => simp [hcl] at h
   | some x => simp only [hcl, Option.some.injEq] at h; subst h; exact putReg_len _ _ _
theorem tr_len {call : FO} {f : FuncId} {ops : Array Oper} {i : Nat} {o : Oper} {m : Nat} {s : St} {t : Tr} (h : trF K call f ops i o m s = some t) : t.s'.regs.length = s.regs.length := by
 unfold trF at h
 cases hg : o.guard with
 | none => simp only [hg] at h; exact trDo_len h
 | some g =>
  simp only [hg] at h
  cases hy : aYield s.regs ops g.1 with
  | none => simp only [hy, Option.some.injEq] at h; subst h; exact putReg_len _ _ _
  | some b =>
   simp only [hy] at h
   cases hb : b == g.2 with
   | true => simp only [hb] at h; exact trDo_len h
   | false => simp only [hb, Option.some.injEq] at h; subst h; exact putReg_len _ _ _
theorem drawn_len {call : FO} {f : FuncId} {ops : Array Oper} : ∀ {l : List Oper} {befs : List Nat} {acc : List Tr} {s s' : St}, drawnF K call f ops l befs acc s = some s' → s'.regs.length = s.regs.length
 | [], _, _, _, _, h => by cases h; rfl
 | o :: rest, befs, acc, s, s', h => by
  unfold drawnF at h
  cases hm : befOf befs o.after.toList 0 with
  | none => simp [hm] at h
  | some m =>
   simp only [hm] at h
   cases ht : trF K call f ops acc.length o m s with
   | none => simp [ht] at h
   | some t =>
    simp only [ht] at h
    cases hp : pairsF K f ops acc t with
    | false => simp [hp] at h
    | true => simp only [hp] at h; rw [drawn_len h, tr_len ht]

theorem toL_eq {n : Nat} {r : RT} {regs : List AV} (hn : regs.length = n) (hr : RTok regs r) : RT.toL n r = regs := by
 apply List.ext_getElem?
 intro i
 by_cases hi : i < n
 ·have := hr.get (i := i) (by omega)
  rw [nth_eq] at this
  simp [RT.toL, hi, this]
 ·simp [RT.toL, hi, hn]

theorem ofLK_eq : ∀ (l : List AV) (i : Nat) (t : RT) (k : RT → FR), RT.ofLK l i t k = k (RT.ofL l i t)
 | [], _, _, _ => rfl
 | x :: l, i, t, k => by
  show RT.putK t i x (fun t => RT.ofLK l (Nat.succ i) t k) = _
  rw [RT.putK_eq, ofLK_eq l]
  rfl

theorem full_ofL : ∀ (l : List AV) (i : Nat) (t : RT) {d : Nat}, RT.Full d t → RT.Full d (RT.ofL l i t)
 | [], _, _, _, h => h
 | _ :: l, i, _, _, h => full_ofL l (Nat.succ i) _ (RT.put_full _ _ h)

theorem get_ofL : ∀ (l : List AV) (i : Nat) (t : RT) (j : Nat) {d : Nat}, RT.Full d t → i + l.length ≤ 2 ^ d → j < 2 ^ d → (RT.ofL l i t).get j = if i ≤ j ∧ j < i + l.length then l.getD (j - i) .undef else t.get j
 | [], i, t, j, _, _, _, _ => by simp [RT.ofL]; omega
 | x :: l, i, t, j, d, hf, h, hj => by
  simp only [List.length_cons] at h
  rw [RT.ofL, get_ofL l (Nat.succ i) _ j (RT.put_full _ _ hf) (by simp; omega) hj, RT.get_put i x j hf (by omega) hj]
  by_cases h1 : j = i
  ·subst h1
   rw [if_neg (by omega), if_pos rfl, if_pos (by simp)]
   simp
  ·by_cases h2 : i ≤ j ∧ j < i + (l.length + 1)
   ·rw [if_pos (by simp; omega), if_pos (by simpa using h2)]
    have : j - i = (j - (i + 1)) + 1 := by omega
    rw [this]
    rfl
   ·rw [if_neg (by simp; omega), if_neg h1, if_neg (by simpa using h2)]

theorem ofL_ok {l : List AV} {r : RT} {m : List AV} (hr : RTok m r) (h : l.length = m.length) : RTok l (RT.ofL l 0 r) := by
 obtain ⟨d, h1, h2, _⟩ := hr
 refine ⟨d, full_ofL l 0 r h1, by omega, fun i hi => ?_⟩
 rw [get_ofL l 0 r i h1 (by omega) (by omega), if_pos (by omega), nth_eq]
 simp [List.getD_eq_getElem?_getD, hi]

section
variable {call : FO} {call' : Orc} (hc : ∀ g a H r, call g a H = some r → call' g a H [] = some (r, [], [])) (hs : K.sym = false) (har : K.ar = Ar.real)
include hc hs har

/-! A drawn region, looked at once. -/
omit hc hs har in
theorem pairStat_ok {f : FuncId} {ops : Array Oper} {a b : Tr} (h : b.bef.testBit a.i = true ∨ (apartO ops a.o b.o = true ∧ compat (kOf (touch K f a.o)) (kOf (touch K f b.o)) = true))
  (ha : a.k = 0 ∨ a.k = kOf (touch K f a.o)) (hb : b.k = 0 ∨ b.k = kOf (touch K f b.o)) : aPair K f ops a b [] = some ((), [], []) := by
 unfold aPair
 cases hq : b.bef.testBit a.i with
 | true => rfl
 | false =>
  rcases h with h | ⟨h1, h2⟩
  ·rw [hq] at h; cases h
  ·simp only
   have h1' : apartTr ops a b = true := h1
   refine bind_nil (a := ()) (chk_nil rfl h1') ?_
   generalize kOf (touch K f a.o) = x at ha h2
   generalize kOf (touch K f b.o) = y at hb h2
   have key : a.k = 0 ∨ b.k = 0 ∨ (a.k = 1 ∧ b.k = 1) := by
    rcases ha with ha | ha
    ·exact .inl ha
    ·rcases hb with hb | hb
     ·exact .inr (.inl hb)
     ·rw [ha, hb]
      unfold compat at h2
      split at h2
      ·exact .inl rfl
      ·exact .inr (.inl rfl)
      ·exact .inr (.inr ⟨rfl, rfl⟩)
      ·cases h2
   generalize a.k = p at key
   generalize b.k = q at key
   match p, q, key with
   | 0, _, _ => rfl
   | 1, 0, _ => rfl
   | 2, 0, _ => rfl
   | _ + 3, 0, _ => rfl
   | 1, 1, _ => rfl
   | 1, _ + 2, h => exact absurd h (by omega)
   | _ + 2, _ + 1, h => exact absurd h (by omega)

omit hc hs har in
theorem pairsStat_ok {f : FuncId} {ops : Array Oper} {b : Tr} (hb : b.k = 0 ∨ b.k = kOf (touch K f b.o)) : ∀ (l : List Tr) (i : Nat), (∀ (j : Nat) (t : Tr), l[j]? = some t → t.i = i + j ∧ (t.k = 0 ∨ t.k = kOf (touch K f t.o))) →
  pairsStat K f ops b.bef b.o i (l.map (·.o)) = true → aPairs K f ops l b [] = some ((), [], [])
 | [], _, _, _ => rfl
 | a :: r, i, hl, h => by
  obtain ⟨hi, ha⟩ := hl 0 a rfl
  have hi : a.i = i := by simpa using hi
  have hrest : ∀ (j : Nat) (t : Tr), r[j]? = some t → t.i = i + 1 + j ∧ (t.k = 0 ∨ t.k = kOf (touch K f t.o)) := fun j t q => by
   have := hl (j + 1) t (by simpa using q)
   exact ⟨by omega, this.2⟩
  simp only [List.map_cons, pairsStat] at h
  cases hq : b.bef.testBit i with
  | true =>
   simp only [hq] at h
   exact bind_nil (pairStat_ok (.inl (by rw [hi]; exact hq)) ha hb) (pairsStat_ok hb r (i + 1) hrest h)
  | false =>
   simp only [hq] at h
   cases h1 : apartO ops a.o b.o with
   | false => simp [h1] at h
   | true =>
    simp only [h1] at h
    cases h2 : compat (kOf (touch K f a.o)) (kOf (touch K f b.o)) with
    | false => simp [h2] at h
    | true =>
     simp only [h2] at h
     exact bind_nil (pairStat_ok (.inr ⟨h1, h2⟩) ha hb) (pairsStat_ok hb r (i + 1) hrest h)

theorem stepD_ok {n : Nat} {f : FuncId} {i m : Nat} {o : Oper} {r : RT} {own : Nat → Nat} {H : List AB} {st : St} {k : FK} {res : FX} (hr : SR n r own H st) (h : stepD K n call f o r own H k = some res) :
  ∃ r' own' H' t, SR n r' own' H' t.s' ∧ aTrDo K call' f i o m st [] = some (t, [], []) ∧ t.i = i ∧ t.o = o ∧ t.bef = m ∧ (t.k = 0 ∨ t.k = kOf (touch K f o)) ∧ k r' own' H' = some res := by
 obtain ⟨regs, own0, H0⟩ := st
 obtain ⟨hlen, hreg, rfl, rfl⟩ := hr
 unfold stepD at h
 simp only at hlen hreg h
 rw [evF_eq hlen hreg] at h
 cases ho : opF o.op K f o.dst (evalO K regs) own0 H0 with
 | none => rw [ho] at h; cases h
 | some an =>
  have hop : aOp K f ⟨regs, own0, H0⟩ o [] = some (an, [], []) := by rw [aOp_eq]; exact opF_ok hs har ho
  rw [ho] at h
  have h : doD K n call (touch K f o) o.dst r own0 H0 k an = some res := h
  unfold doD at h
  cases an with
  | val x own H =>
   simp only at h
   cases ht : Nat.ble (touch K f o) 2 with
   | false => simp [ht] at h
   | true =>
    simp only [ht] at h
    have hle : touch K f o ≤ 2 := Nat.le_of_ble_eq_true ht
    obtain ⟨r', h1, h2, h3⟩ := putD_ok hlen hreg h
    refine ⟨r', own, H, _, ⟨h2, h1, rfl, rfl⟩, bind_nil hop rfl, rfl, rfl, rfl, .inr ?_, h3⟩
    show Nat.min (touch K f o) 2 = kOf (touch K f o)
    generalize touch K f o = z at hle
    match z, hle with
    | 0, _ => rfl
    | 1, _ => rfl
    | 2, _ => rfl
  | skip H =>
   simp only at h
   cases ht : Nat.beq (touch K f o) 2 with
   | false => simp [ht] at h
   | true =>
    simp only [ht] at h
    obtain ⟨r', h1, h2, h3⟩ := putD_ok hlen hreg h
    refine ⟨r', own0, H, _, ⟨h2, h1, rfl, rfl⟩, bind_nil hop rfl, rfl, rfl, rfl, .inr ?_, h3⟩
    rw [Nat.eq_of_beq_eq_true ht]
    rfl
  | call g args =>
   simp only at h
   cases ht : Nat.beq (touch K f o) 3 with
   | false => simp [ht] at h
   | true =>
    simp only [ht] at h
    cases hp : isPure K g args with
    | false => simp [hp] at h
    | true =>
     simp only [hp] at h
     cases hcl : call g args H0 with
     | none => simp [hcl] at h
     | some x =>
      simp only [hcl] at h
      obtain ⟨r', h1, h2, h3⟩ := putD_ok hlen hreg h
      refine ⟨r', own0, x.2, _, ⟨h2, h1, rfl, rfl⟩, bind_nil hop (bind_nil (hc _ _ _ _ hcl) rfl), rfl, rfl, rfl, .inl ?_, h3⟩
      show (if touch K f o == 3 && isPure K g args then 0 else 2) = 0
      rw [Nat.eq_of_beq_eq_true ht, hp]
      rfl

theorem operD_ok {n : Nat} {f : FuncId} {ops : Array Oper} {i m : Nat} {o : Oper} {r : RT} {own : Nat → Nat} {H : List AB} {st : St} {k : FK} {res : FX} (hr : SR n r own H st) (h : operD K n call f ops o r own H k = some res) :
  ∃ r' own' H' t, SR n r' own' H' t.s' ∧ aTr K call' f ops i o m st [] = some (t, [], []) ∧ t.i = i ∧ t.o = o ∧ t.bef = m ∧ (t.k = 0 ∨ t.k = kOf (touch K f o)) ∧ k r' own' H' = some res := by
 unfold operD at h
 unfold aTr
 cases hg : o.guard with
 | none =>
  rw [hg] at h
  exact stepD_ok hc hs har hr h
 | some g =>
  rw [hg] at h
  have h : guardD K n call f ops o r own H k g = some res := h
  obtain ⟨j, want⟩ := g
  unfold guardD at h
  simp only [yieldF_eq hr.len hr.reg] at h
  simp only
  cases hy : aYield st.regs ops j with
  | none =>
   simp only [hy] at h
   obtain ⟨r', h1, h2, h3⟩ := putD_ok hr.len hr.reg h
   exact ⟨r', own, H, aTrSkip i o m st, ⟨h2, h1, hr.own, hr.H⟩, rfl, rfl, rfl, rfl, .inl rfl, h3⟩
  | some b =>
   simp only [hy, bEq_eq] at h
   cases hb : b == want with
   | true =>
    simp only [hb] at h
    obtain ⟨r', own', H', t, q1, q2, q3⟩ := stepD_ok (i := i) (m := m) hc hs har hr h
    exact ⟨r', own', H', t, q1, bind_nil (branch_nil hs) (by simp only [hb, if_true]; exact q2), q3⟩
   | false =>
    simp only [hb] at h
    obtain ⟨r', h1, h2, h3⟩ := putD_ok hr.len hr.reg h
    exact ⟨r', own, H, aTrSkip i o m st, ⟨h2, h1, hr.own, hr.H⟩, bind_nil (branch_nil hs) (by simp [hb]; rfl), rfl, rfl, rfl, .inl rfl, h3⟩

theorem listD_ok {n : Nat} {f : FuncId} {ops : Array Oper} {k : FK} {res : FX} : ∀ {l : List Oper} {befs : List Nat} {acc : List Tr} {r : RT} {own : Nat → Nat} {H : List AB} {st : St},
  statGo K f ops l befs (acc.map (·.o)) = true → (∀ (j : Nat) (t : Tr), acc[j]? = some t → t.i = 0 + j ∧ (t.k = 0 ∨ t.k = kOf (touch K f t.o))) → SR n r own H st → listD K n call f ops k l r own H = some res →
  ∃ r' own' H' st', SR n r' own' H' st' ∧ aDrawn K call' f ops l befs acc st [] = some (st', [], []) ∧ k r' own' H' = some res
 | [], _, _, r, own, H, st, _, _, hr, h => ⟨r, own, H, st, hr, rfl, h⟩
 | o :: rest, befs, acc, r, own, H, st, hst, hacc, hr, h => by
  have h : operD K n call f ops o r own H (listD K n call f ops k rest) = some res := h
  unfold statGo at hst
  unfold aDrawn
  cases hm : befOf befs o.after.toList 0 with
  | none => simp [hm] at hst
  | some m =>
   simp only [hm] at hst
   simp only
   cases hp : pairsStat K f ops m o 0 (acc.map (·.o)) with
   | false => simp [hp] at hst
   | true =>
    simp only [hp] at hst
    obtain ⟨r1, own1, H1, t, hr1, h1, h2, h3, h4, h5, h6⟩ := operD_ok (i := acc.length) (m := m) hc hs har hr h
    have hpairs : aPairs K f ops acc t [] = some ((), [], []) := pairsStat_ok (by rw [h3]; exact h5) acc 0 hacc (by rw [h3, h4]; exact hp)
    have hst' : statGo K f ops rest (befs ++ [m]) ((acc ++ [t]).map (·.o)) = true := by
     rw [List.map_append]
     simpa [h3] using hst
    have hacc' : ∀ (j : Nat) (t' : Tr), (acc ++ [t])[j]? = some t' → t'.i = 0 + j ∧ (t'.k = 0 ∨ t'.k = kOf (touch K f t'.o)) := fun j t' q => by
     rw [List.getElem?_append] at q
     split at q
     ·exact hacc j t' q
     ·rename_i hj
      have hj0 : j - acc.length = 0 := by
       rcases Nat.eq_zero_or_pos (j - acc.length) with h0 | h0
       ·exact h0
       ·rw [List.getElem?_eq_none (by simp; omega)] at q; cases q
      rw [hj0] at q
      simp at q
      subst q
      exact ⟨by omega, by rw [h3]; exact h5⟩
    obtain ⟨r2, own2, H2, st2, hr2, q1, q2⟩ := listD_ok hst' hacc' hr1 h6
    exact ⟨r2, own2, H2, st2, hr2, bind_nil h1 (bind_nil hpairs q1), q2⟩

theorem cDrawnSlow_ok {f : FuncId} {k n : Nat} {ops : Array Oper} {r : RT} {own : Nat → Nat} {H : List AB} {st : St} {e : AX} {r' : RT} {own' : Nat → Nat} {H' : List AB} (hr : SR n r own H st) (h : cDrawnSlow ops K call f k n r own H = some (.mk e r' own' H')) :
  e = .normal ∧ ∃ st', aDrawn K call' f ops ops.toList [] [] st [] = some (st', [], []) ∧ SR n r' own' H' st' := by
 unfold cDrawnSlow at h
 rw [toL_eq hr.len hr.reg, ← hr.own, ← hr.H] at h
 cases hd : drawnF K call f ops ops.toList [] [] ⟨st.regs, st.own, st.H⟩ with
 | none => simp [hd] at h
 | some st1 =>
  simp only [hd, ofLK_eq, Option.some.injEq, FX.mk.injEq] at h
  obtain ⟨rfl, rfl, rfl, rfl⟩ := h
  have hl : st1.regs.length = st.regs.length := drawn_len hd
  exact ⟨rfl, st1, drawnF_ok hc hs har hd, ⟨by rw [hl, hr.len], ofL_ok hr.reg hl, rfl, rfl⟩⟩

omit hc hs har in
theorem iterF_ok {n : Nat} {body : FK} {body' : St → E (AX × St)} (hb : ∀ {r own H st e r' own' H'}, SR n r own H st → body r own H = some (.mk e r' own' H') → ∃ st', body' st [] = some ((e, st'), [], []) ∧ SR n r' own' H' st') :
  ∀ {k : Nat} {r : RT} {own : Nat → Nat} {H : List AB} {st : St} {e : AX} {r' : RT} {own' : Nat → Nat} {H' : List AB}, SR n r own H st → iterF body k r own H = some (.mk e r' own' H') → ∃ st', iter body' k st [] = some ((e, st'), [], []) ∧ SR n r' own' H' st'
 | 0, _, _, _, _, _, _, _, _, _, h => by simp [iterF] at h
 | k + 1, r, own, H, st, e, r', own', H', hr, h => by
  unfold iterF at h
  cases hx : body r own H with
  | none => simp [hx] at h
  | some x =>
   obtain ⟨e1, r1, own1, H1⟩ := x
   simp only [hx] at h
   obtain ⟨st1, h1, hr1⟩ := hb hr hx
   unfold iter
   cases e1 with
   | normal =>
    obtain ⟨st2, h2, hr2⟩ := iterF_ok hb hr1 h
    exact ⟨st2, bind_nil h1 h2, hr2⟩
   | exit i => cases h; exact ⟨st1, bind_nil h1 rfl, hr1⟩
   | ret => cases h; exact ⟨st1, bind_nil h1 rfl, hr1⟩

omit hc hs har in
theorem putAt_len : ∀ {ps : List Nat} {xs regs : List AV}, (putAt regs ps xs).length = regs.length
 | [], xs, regs => by simp [putAt]
 | p :: ps, [], regs => by simp [putAt]
 | p :: ps, x :: xs, regs => by simp only [putAt]; rw [putAt_len, setAt_eq]; simp

omit hc hs har in
theorem roundsF_ok {round : List AV → RT → List AB → FR} {round' : St → E (AX × List AB)} {regs0 : List AV} {n : Nat} {ps : List Nat}
  (hb : ∀ {l : List AV} {r : RT} {H : List AB} {e : AX} {r' : RT} {own' : Nat → Nat} {H' : List AB}, l.length = n → (∃ m, m.length = n ∧ RTok m r) → round l r H = some (.mk e r' own' H') → round' ⟨l, fun _ => 0, H⟩ [] = some ((e, H'), [], [])) (hn : regs0.length = n) :
  ∀ {xss : List (List AV)} {r : RT} {H : List AB} {e : AX} {r' : RT} {own' : Nat → Nat} {H' : List AB}, (∃ m, m.length = n ∧ RTok m r) → roundsF round regs0 ps xss r H = some (.mk e r' own' H') → seqRounds round' regs0 ps xss H [] = some ((e, H'), [], [])
 | [], r, H, e, r', own', H', hr, h => by simp only [roundsF, Option.some.injEq, FX.mk.injEq] at h; obtain ⟨rfl, _, _, rfl⟩ := h; rfl
 | x :: l, r, H, e, r', own', H', hr, h => by
  simp only [roundsF] at h
  split at h
  ·cases h
  ·rename_i hlen
   cases hx : round (putAt regs0 ps x) r H with
   | none => simp [hx] at h
   | some y =>
    obtain ⟨e1, r1, own1, H1⟩ := y
    simp only [hx] at h
    have h1 := hb (by rw [putAt_len, hn]) hr hx
    simp only [seqRounds]
    refine bind_nil (a := ()) (chk_nil rfl (by simpa using Nat.eq_of_beq_eq_true hlen)) ?_
    refine bind_nil h1 ?_
    cases e1 with
    | normal => exact roundsF_ok hb hn hr h
    | exit i => simp only [Option.some.injEq, FX.mk.injEq] at h; obtain ⟨rfl, _, _, rfl⟩ := h; rfl
    | ret => simp only [Option.some.injEq, FX.mk.injEq] at h; obtain ⟨rfl, _, _, rfl⟩ := h; rfl

theorem codeF_ok {f : FuncId} {k n : Nat} : ∀ (c : Code) {r : RT} {own : Nat → Nat} {H : List AB} {st : St} {e : AX} {r' : RT} {own' : Nat → Nat} {H' : List AB}, SR n r own H st → codeF c K call f k n r own H = some (.mk e r' own' H') →
  ∃ st', aCode K call' f k c st [] = some ((e, st'), [], []) ∧ SR n r' own' H' st' := by
 intro c
 induction c with
 | skip => intro r own H st e r' own' H' hr h; cases h; exact ⟨st, rfl, hr⟩
 | region id ops d =>
  intro r own H st e r' own' H' hr h
  cases d with
  | false =>
   obtain ⟨r1, own1, H1, st1, hr1, h1, h2⟩ := listF_ok hc hs har hr h
   cases h2
   exact ⟨st1, bind_nil h1 rfl, hr1⟩
  | true =>
   have h : cDrawn ops K call f k n r own H = some (.mk e r' own' H') := h
   unfold cDrawn at h
   have slow : cDrawnSlow ops K call f k n r own H = some (.mk e r' own' H') → ∃ st', aCode K call' f k (.region id ops true) st [] = some ((e, st'), [], []) ∧ SR n r' own' H' st' := fun q => by
    obtain ⟨rfl, st1, h1, h2⟩ := cDrawnSlow_ok hc hs har hr q
    exact ⟨st1, bind_nil (a := st1) h1 rfl, h2⟩
   cases hst : statGo K f ops ops.toList [] [] with
   | false => simp only [hst] at h; exact slow h
   | true =>
    simp only [hst] at h
    cases hl : listD K n call f ops (fun r own H => some (.mk .normal r own H)) ops.toList r own H with
    | none => simp only [hl] at h; exact slow h
    | some x =>
     simp only [hl, Option.some.injEq] at h
     subst h
     obtain ⟨r1, own1, H1, st1, hr1, h1, h2⟩ := listD_ok (acc := []) hc hs har hst (fun j t q => by simp at q) hr hl
     cases h2
     exact ⟨st1, bind_nil (a := st1) h1 rfl, hr1⟩
 | seq a b iha ihb =>
  intro r own H st e r' own' H' hr h
  simp only [codeF, cSeq] at h
  cases ha : codeF a K call f k n r own H with
  | none => simp [ha] at h
  | some x =>
   obtain ⟨e1, r1, own1, H1⟩ := x
   simp only [ha] at h
   obtain ⟨st1, h1, hr1⟩ := iha hr ha
   cases e1 with
   | normal =>
    obtain ⟨st2, h2, hr2⟩ := ihb hr1 h
    exact ⟨st2, bind_nil h1 h2, hr2⟩
   | exit i => cases h; exact ⟨st1, bind_nil h1 rfl, hr1⟩
   | ret => cases h; exact ⟨st1, bind_nil h1 rfl, hr1⟩
 | cond c a b iha ihb =>
  intro r own H st e r' own' H' hr h
  simp only [codeF, cCond] at h
  rw [evF_eq hr.len hr.reg] at h
  unfold aCode
  cases hx : evalO K st.regs c with
  | none => simp [hx] at h
  | some x =>
   simp only [hx] at h
   cases hb : boolOf x with
   | none => simp [hb] at h
   | some t =>
    obtain rfl := boolOf_some hb
    simp only [hb] at h
    simp only
    cases t with
    | true => obtain ⟨st1, h1, hr1⟩ := iha hr h; exact ⟨st1, bind_nil (branch_nil hs) h1, hr1⟩
    | false => obtain ⟨st1, h1, hr1⟩ := ihb hr h; exact ⟨st1, bind_nil (branch_nil hs) h1, hr1⟩
 | block id a iha =>
  intro r own H st e r' own' H' hr h
  simp only [codeF, cBlock] at h
  cases ha : codeF a K call f k n r own H with
  | none => simp [ha] at h
  | some x =>
   obtain ⟨e1, r1, own1, H1⟩ := x
   simp only [ha] at h
   obtain ⟨st1, h1, hr1⟩ := iha hr ha
   cases e1 with
   | normal => cases h; exact ⟨st1, bind_nil h1 rfl, hr1⟩
   | ret => cases h; exact ⟨st1, bind_nil h1 rfl, hr1⟩
   | exit i =>
    simp only at h
    cases hb : Nat.beq i id with
    | true =>
     rw [hb] at h
     cases h
     have : i = id := Nat.eq_of_beq_eq_true hb
     exact ⟨st1, bind_nil h1 (by simp [this]; rfl), hr1⟩
    | false =>
     rw [hb] at h
     cases h
     have : ¬ i = id := Nat.ne_of_beq_eq_false hb
     exact ⟨st1, bind_nil h1 (by simp [this]; rfl), hr1⟩
 | loop a iha =>
  intro r own H st e r' own' H' hr h
  exact iterF_ok (fun hr h => iha hr h) hr h
 | exit id => intro r own H st e r' own' H' hr h; cases h; exact ⟨st, rfl, hr⟩
 | ret => intro r own H st e r' own' H' hr h; cases h; exact ⟨st, rfl, hr⟩
 | rangeFunc g ps a b iha ihb =>
  intro r own H st e r' own' H' hr h
  simp only [codeF, cRange] at h
  rw [evF_eq hr.len hr.reg, toL_eq hr.len hr.reg] at h
  cases hx : evalO K st.regs g with
  | none => simp [hx] at h
  | some x =>
   simp only [hx] at h
   cases hq : aSeq K x H with
   | none => simp [hq] at h
   | some xss =>
    simp only [hq] at h
    cases hsm : simpleA a && roundy a && roundy b with
    | false => simp [hsm] at h
    | true =>
     simp only [hsm] at h
     cases hrs : roundsF (roundF (codeF a) (codeF b) K call f k n) (st.regs.map AV.unown) ps.toList xss r H with
     | none => simp [hrs] at h
     | some y =>
      obtain ⟨e1, r1, own1, H1⟩ := y
      simp only [hrs, ofLK_eq, Option.some.injEq, FX.mk.injEq] at h
      obtain ⟨rfl, rfl, rfl, rfl⟩ := h
      have hlen : (st.regs.map AV.unown).length = n := by rw [List.length_map, hr.len]
      refine ⟨⟨st.regs.map AV.unown, fun _ => 0, H1⟩, ?_, ⟨hlen, ofL_ok hr.reg (by simp), rfl, rfl⟩⟩
      unfold aCode
      simp only [hx, Option.bind_some, hr.H, hq, hsm]
      refine bind_nil (roundsF_ok (n := n) ?_ hlen ⟨st.regs, hr.len, hr.reg⟩ hrs) rfl
      rintro l r2 H2 e2 r3 own3 H3 hl ⟨m, hm, hrm⟩ hround
      unfold roundF at hround
      rw [ofLK_eq] at hround
      cases ha : codeF a K call f k n (RT.ofL l 0 r2) (fun _ => 0) H2 with
      | none => simp [ha] at hround
      | some z =>
       obtain ⟨e4, r4, own4, H4⟩ := z
       simp only [ha] at hround
       obtain ⟨st4, q1, q2⟩ := iha (st := ⟨l, fun _ => 0, H2⟩) ⟨hl, ofL_ok hrm (by rw [hl, hm]), rfl, rfl⟩ ha
       cases e4 with
       | exit i => cases hround
       | ret => cases hround
       | normal =>
        simp only [ofLK_eq] at hround
        rw [toL_eq q2.len q2.reg] at hround
        refine bind_nil q1 ?_
        obtain ⟨st5, q3, q4⟩ := ihb (st := ⟨st4.regs.map AV.unown, fun _ => 0, st4.H⟩) ⟨by rw [List.length_map, q2.len], ofL_ok q2.reg (by simp), rfl, q2.H⟩ hround
        exact bind_nil q3 (by rw [q4.H]; rfl)
 | _ => intro r own H st e r' own' H' hr h; simp [codeF, cFail] at h

omit hc hs har in
theorem mapO_le {α β : Type} {f g : α → Option β} (h : ∀ x y, f x = some y → g x = some y) : ∀ {l : List α} {r : List β}, mapO f l = some r → mapO g l = some r
 | [], _, q => q
 | x :: l, r, q => by
  simp only [mapO] at q ⊢
  cases hx : f x with
  | none => simp [hx] at q
  | some y =>
   simp only [hx] at q
   cases hm : mapO f l with
   | none => simp [hm] at q
   | some ys =>
    simp only [hm] at q
    rw [h x y hx, mapO_le h hm]
    exact q

omit hc hs har in
theorem resultsF_ok {H : List AB} {n : Nat} {r : RT} {regs : List AV} (hn : regs.length = n) (hr : RTok regs r) {rs : List ResultVar} {v : AV} (h : resultsF K H n r rs = some v) : aResults K H regs rs = some v := by
 unfold resultsF at h
 unfold aResults
 cases hm : mapO (resultF K H n r) rs with
 | none => simp [hm] at h
 | some xs =>
  have hm' : mapO (aResult K H regs) rs = some xs := mapO_le (fun x y hx => by
   cases x with
   | tmp t =>
    simp only [resultF, regF_eq hn hr] at hx
    exact hx
   | cell a t =>
    simp only [resultF, regF_eq hn hr] at hx
    simp only [aResult]
    cases ha : nth regs a with
    | none => simp [ha] at hx
    | some z =>
     simp only [ha] at hx
     simp only
     cases hl : aLoad K H t z with
     | none => simp [hl] at hx
     | some u => simpa [hl] using hx) hm
  rw [hm']
  simp only [hm] at h
  cases xs with
  | nil => exact h
  | cons x l => cases l <;> exact h

theorem bodyF_ok {k : Nat} {f : FuncId} {args : List AV} {H : List AB} {v : AV × List AB} (h : bodyF K call k f args H = some v) : aBody K call' k f args H [] = some (v, [], []) := by
 unfold bodyF at h
 unfold aBody
 cases hf : K.P.funcs[f]? with
 | none => simp [hf] at h
 | some fn =>
  simp only [hf] at h
  simp only
  cases hb : fn.body with
  | none => simp [hb] at h
  | some c =>
   simp only [hb] at h
   simp only
   cases hlt : Nat.ble args.length fn.ntmps with
   | false => simp [hlt] at h
   | true =>
    simp only [hlt] at h
    have hn : args.length ≤ fn.ntmps := Nat.le_of_ble_eq_true hlt
    unfold runF at h
    rw [ofLK_eq] at h
    have hp : fn.ntmps ≤ 2 ^ (Nat.succ (Nat.log2 fn.ntmps)) := Nat.le_of_lt (Nat.lt_log2_self (n := fn.ntmps))
    have hsr : SR fn.ntmps (RT.ofL (args.map AV.unown) 0 (RT.full (Nat.succ (Nat.log2 fn.ntmps)))) (fun _ => 0) H ⟨args.map AV.unown ++ List.replicate (fn.ntmps - args.length) .undef, fun _ => 0, H⟩ := by
     refine ⟨by simp; omega, ⟨Nat.succ (Nat.log2 fn.ntmps), full_ofL _ _ _ (RT.full_full _), by simp; omega, fun i hi => ?_⟩, rfl, rfl⟩
     simp only [List.length_append, List.length_map, List.length_replicate] at hi
     rw [get_ofL _ 0 _ i (RT.full_full _) (by simp; omega) (by omega), nth_eq]
     by_cases hi' : i < args.length
     ·rw [if_pos (by simpa using hi'), List.getElem?_append_left (by simpa using hi')]
      simp [List.getD_eq_getElem?_getD, hi']
     ·rw [if_neg (by simpa using hi'), List.getElem?_append_right (by simp; omega), RT.get_full, List.getElem?_replicate, if_pos (by simp only [List.length_map]; omega)]
    cases hx : codeF c K call f k fn.ntmps (RT.ofL (args.map AV.unown) 0 (RT.full (Nat.succ (Nat.log2 fn.ntmps)))) (fun _ => 0) H with
    | none => simp [hx] at h
    | some x =>
     obtain ⟨e, r', own', H'⟩ := x
     simp only [hx] at h
     obtain ⟨st', h1, hr'⟩ := codeF_ok hc hs har c hsr hx
     refine bind_nil h1 ?_
     unfold endF at h
     have key : (match resultsF K H' fn.ntmps r' fn.results.toList with
       | none => none
       | some v => some (v, H')) = some v → (do let r ← E.of (aResults K st'.H st'.regs fn.results.toList); pure (r, st'.H) : E (AV × List AB)) [] = some (v, [], []) := by
      intro h
      cases hres : resultsF K H' fn.ntmps r' fn.results.toList with
      | none => simp [hres] at h
      | some u =>
       simp only [hres, Option.some.injEq] at h
       subst h
       have := resultsF_ok hr'.len hr'.reg hres
       rw [hr'.H]
       exact bind_nil (of_nil this) rfl
     cases e with
     | exit i => simp at h
     | normal => exact key h
     | ret => exact key h

theorem callWF_ok {k : Nat} {f : FuncId} {args : List AV} {H : List AB} {r : AV × List AB} (h : callWF K call k f args H = some r) : aCallW K call' k f args H [] = some (r, [], []) := by
 unfold callWF at h
 unfold aCallW
 cases hv : K.libv f with
 | some g =>
  simp only [hv] at h
  simp only
  cases hg : g args with
  | none => simp [hg] at h
  | some x => simp only [hg, Option.some.injEq] at h; subst h; rfl
 | none =>
  simp only [hv] at h
  simp only
  cases hl : K.lib f with
  | some g => simp only [hl] at h; exact of_nil h
  | none =>
   simp only [hl] at h
   simp only
   cases hb : K.vals f && AV.closedL args with
   | false => simp only [hb] at h; exact bodyF_ok hc hs har h
   | true =>
    simp only [hb] at h
    simp only
    cases hx : bodyF K call k f args [] with
    | none => simp [hx] at h
    | some x =>
     obtain ⟨v, H'⟩ := x
     simp only [hx] at h
     cases hsn : snap H' 6 v with
     | none => simp [hsn] at h
     | some u =>
      simp only [hsn] at h
      cases hcl : u.closed with
      | false => simp [hcl] at h
      | true =>
       simp only [hcl, Option.some.injEq] at h
       subst h
       exact bind_nil (bodyF_ok hc hs har hx) (bind_nil (of_nil hsn) (by simp [hcl]; rfl))
end

theorem callF_ok (hs : K.sym = false) (har : K.ar = Ar.real) : ∀ (n : Nat) (f : FuncId) (args : List AV) (H : List AB) (r : AV × List AB), callF K n f args H = some r → aCall K n f args H [] = some (r, [], [])
 | 0, _, _, _, _, h => by simp [callF] at h
 | n + 1, f, args, H, r, h => callWF_ok (fun g a H r q => callF_ok hs har n g a H r q) hs har h
end Go.Tm
