/- The tree machine over unknown values: a region whose order is drawn, looked at once; its operations one behind the other. -/
import Derived.Test.YtaefgigfoifjaaaGreatDoorTmQd
import Derived.Test.YtaefgigfoifjaaaGreatDoorTmFast5
set_option linter.unusedVariables false
set_option linter.unusedSimpArgs false
set_option linter.unusedSectionVars false
namespace Go.Tm
theorem aTrDo_i {K : Cfg} {call : Orc} {f : FuncId} {o : Oper} {s : St} (i m : Nat) : aTrDo K call f i o m s [] = (aTrDo K call f 0 o 0 s []).map fun x => ({ x.1 with i := i, bef := m }, x.2) := by
 show E.bind (aOp K f s o) _ [] = Option.map _ (E.bind (aOp K f s o) _ [])
 unfold E.bind
 cases aOp K f s o [] with
 | none => rfl
 | some r =>
  obtain ⟨an, cs, p⟩ := r
  cases an with
  | val x own H => rfl
  | skip H => rfl
  | call g args =>
   simp only [bind, E.bind]
   cases call g args s.H p with
   | none => rfl
   | some r => rfl
theorem aTr_i {K : Cfg} (hs : K.sym = false) {call : Orc} {f : FuncId} {ops : Array Oper} {o : Oper} {s : St} {t : Tr} (i m : Nat) (h : aTr K call f ops 0 o 0 s [] = some (t, [], [])) : aTr K call f ops i o m s [] = some ({ t with i := i, bef := m }, [], []) := by
 unfold aTr at h ⊢
 cases hg : o.guard with
 | none =>
  simp only [hg] at h ⊢
  rw [aTrDo_i, h]; rfl
 | some g =>
  obtain ⟨j, want⟩ := g
  simp only [hg] at h ⊢
  cases hy : aYield s.regs ops j with
  | none =>
   simp only [hy] at h ⊢
   cases h; rfl
  | some b =>
   simp only [hy, hs] at h ⊢
   rw [E.bind_nil (a := (b == want)) rfl] at h ⊢
   cases hb : (b == want) with
   | true =>
    simp only [hb, if_true] at h ⊢
    rw [aTrDo_i, h]; rfl
   | false =>
    simp only [hb, Bool.false_eq_true, if_false] at h ⊢
    cases h; rfl
def Wd (K : Cfg) (f : FuncId) (ops : Array Oper) : List Oper → St → (St → Prop) → Prop
 | [], s, Q => Q s
 | o :: l, s, Q => ∃ t N, (∀ n, N ≤ n → aTr K (aCall K n) f ops 0 o 0 s [] = some (t, [], [])) ∧ (t.k = 0 ∨ t.k = kOf (touch K f t.o)) ∧ t.o = o ∧ Wd K f ops l t.s' Q
theorem Wd.run {K : Cfg} (hs : K.sym = false) {f : FuncId} {ops : Array Oper} {Q : St → Prop} : ∀ (l : List Oper) (s : St) (befs : List Nat) (acc : List Tr), Wd K f ops l s Q → statGo K f ops l befs (acc.map (·.o)) = true → (∀ (j : Nat) (t : Tr), acc[j]? = some t → t.i = 0 + j ∧ (t.k = 0 ∨ t.k = kOf (touch K f t.o))) → W (fun n => aDrawn K (aCall K n) f ops l befs acc s) Q
 | [], s, befs, acc, h, _, _ => W.ret (fun _ => rfl) h
 | o :: rest, s, befs, acc, h, hst, hacc => by
  obtain ⟨t, N, h1, h2, h3, h4⟩ := h
  unfold statGo at hst
  cases hm : befOf befs o.after.toList 0 with
  | none => simp [hm] at hst
  | some m =>
   simp only [hm] at hst
   cases hp : pairsStat K f ops m o 0 (acc.map (·.o)) with
   | false => simp [hp] at hst
   | true =>
    simp only [hp] at hst
    have hpairs : aPairs K f ops acc { t with i := acc.length, bef := m } [] = some ((), [], []) := pairsStat_ok (K := K) (ops := ops) (b := { t with i := acc.length, bef := m }) h2 acc 0 hacc (by show pairsStat K f ops m t.o 0 _ = true; rw [h3]; exact hp)
    have hacc' : ∀ (j : Nat) (t' : Tr), (acc ++ [{ t with i := acc.length, bef := m }])[j]? = some t' → t'.i = 0 + j ∧ (t'.k = 0 ∨ t'.k = kOf (touch K f t'.o)) := fun j t' q => by
     rw [List.getElem?_append] at q
     split at q
     ·exact hacc j t' q
     ·rename_i hj
      have hj0 : j - acc.length = 0 := by
       rcases Nat.eq_zero_or_pos (j - acc.length) with h0 | h0
       ·exact h0
       ·rw [List.getElem?_eq_none (by simp; omega)] at q; cases q
      rw [hj0] at q
      simp at q
      subst q
      exact ⟨by simp; omega, h2⟩
    obtain ⟨a, M, ha, hq⟩ := Wd.run hs rest t.s' (befs ++ [m]) (acc ++ [{ t with i := acc.length, bef := m }]) h4 (by rw [List.map_append]; simpa [h3] using hst) hacc'
    refine ⟨a, max N M, fun n hn => ?_, hq⟩
    show aDrawn K (aCall K n) f ops (o :: rest) befs acc s [] = _
    unfold aDrawn
    simp only [hm]
    refine (E.bind_nil (aTr_i hs acc.length m (h1 n (by omega)))).trans ?_
    refine (E.bind_nil hpairs).trans ?_
    exact ha n (by omega)
theorem Wc.drawn {K : Cfg} (hs : K.sym = false) {f : FuncId} {id : Nat} {ops : Array Oper} {R : List AV} {own : Nat → Nat} {H : List AB} {Q : AX → St → Prop} (hst : statGo K f ops ops.toList [] [] = true) (h : Wd K f ops ops.toList ⟨R, own, H⟩ (Q .normal)) : Wc K f (.region id ops true) R own H Q :=
 W.bind (x := fun n => aDrawn K (aCall K n) f ops ops.toList [] [] ⟨R, own, H⟩) (f := fun _ s => pure (AX.normal, s)) (W.mono (Wd.run hs ops.toList _ [] [] h hst (by simp)) fun s hs => W.ret (a := (AX.normal, s)) (fun _ => rfl) hs)
section
variable {K : Cfg} {f : FuncId} {ops : Array Oper} {Q : St → Prop} {R : List AV} {own : Nat → Nat} {H : List AB} {o : Oper} {l : List Oper}
theorem Wd.id {s : St} (h : Wd K f ops l s Q) : Wd K f ops l s Q := h
theorem Wd.nil {s : St} (h : Q s) : Wd K f ops [] s Q := h
def Goes (ops : Array Oper) (R : List AV) (o : Oper) : Prop := o.guard = none ∨ ∃ j want b, o.guard = some (j, want) ∧ aYield R ops j = some b ∧ (b == want) = true
theorem Goes.none (h : o.guard = none) : Goes ops R o := .inl h
theorem Goes.yes {j : Nat} {want b : Bool} (h : o.guard = some (j, want)) (hy : aYield R ops j = some b) (hb : (b == want) = true) : Goes ops R o := .inr ⟨j, want, b, h, hy, hb⟩
theorem tr_goes (hs : K.sym = false) {call : Orc} (hg : Goes ops R o) : aTr K call f ops 0 o 0 ⟨R, own, H⟩ [] = aTrDo K call f 0 o 0 ⟨R, own, H⟩ [] := by
 unfold aTr
 rcases hg with h | ⟨j, want, b, h, hy, hb⟩
 ·simp only [h]
 ·simp only [h, hy, hs]
  rw [E.bind_nil (a := (b == want)) rfl]
  simp only [hb, if_true]
theorem Wd.val (hs : K.sym = false) {x : AV} {own' : Nat → Nat} {H' : List AB} {d : Nat} (hg : Goes ops R o) (hd : o.dst = some d) (ho : aOp K f ⟨R, own, H⟩ o [] = some (.val x own' H', [], [])) (hk : Nat.ble (touch K f o) 2 = true) (h : Wd K f ops l ⟨setAt R d x, own', H'⟩ Q) : Wd K f ops (o :: l) ⟨R, own, H⟩ Q := by
 refine ⟨{ i := 0, o, bef := 0, s := ⟨R, own, H⟩, s' := ⟨setAt R d x, own', H'⟩, x, k := Nat.min (touch K f o) 2, run := true }, 0, fun n _ => ?_, .inr ?_, rfl, h⟩
 ·rw [tr_goes hs hg]
  unfold aTrDo
  rw [E.bind_nil ho, hd]; rfl
 ·have hle := Nat.le_of_ble_eq_true hk
  show Nat.min (touch K f o) 2 = kOf (touch K f o)
  generalize touch K f o = z at hle
  match z, hle with
  | 0, _ => rfl
  | 1, _ => rfl
  | 2, _ => rfl
theorem Wd.call (hs : K.sym = false) {g : FuncId} {args : List AV} {d : Nat} (hg : Goes ops R o) (hd : o.dst = some d) (ho : aOp K f ⟨R, own, H⟩ o [] = some (.call g args, [], [])) (hk : (touch K f o == 3 && isPure K g args) = true) (h : Tells K g args H fun r H' => Wd K f ops l ⟨setAt R d r.unown, own, H'⟩ Q) : Wd K f ops (o :: l) ⟨R, own, H⟩ Q := by
 obtain ⟨⟨r, H'⟩, N, h1, h2⟩ := h
 refine ⟨{ i := 0, o, bef := 0, s := ⟨R, own, H⟩, s' := ⟨setAt R d r.unown, own, H'⟩, x := r.unown, k := 0, run := true }, N, fun n hn => ?_, .inl rfl, rfl, h2⟩
 rw [tr_goes hs hg]
 unfold aTrDo
 rw [E.bind_nil ho]
 refine (E.bind_nil (h1 n hn)).trans ?_
 simp only [hk, if_true, hd]; rfl
theorem Wd.not (hs : K.sym = false) {j d : Nat} {want b : Bool} (hg : o.guard = some (j, want)) (hd : o.dst = some d) (hy : aYield R ops j = some b) (hb : (b == want) = false) (h : Wd K f ops l ⟨setAt R d .undef, own, H⟩ Q) : Wd K f ops (o :: l) ⟨R, own, H⟩ Q := by
 refine ⟨{ i := 0, o, bef := 0, s := ⟨R, own, H⟩, s' := ⟨setAt R d .undef, own, H⟩, x := .undef, k := 0, run := false }, 0, fun n _ => ?_, .inl rfl, rfl, h⟩
 unfold aTr
 simp only [hg, hy, hs]
 rw [E.bind_nil (a := (b == want)) rfl]
 simp only [hb, Bool.false_eq_true, if_false, aTrSkip, hd]; rfl
def Wy (K : Cfg) (f : FuncId) (o : Oper) (s : St) (Q : St → Prop) : Prop := ∃ t N, (∀ n, N ≤ n → aTrDo K (aCall K n) f 0 o 0 s [] = some (t, [], [])) ∧ (t.k = 0 ∨ t.k = kOf (touch K f t.o)) ∧ t.o = o ∧ Q t.s'
theorem Wd.go (hs : K.sym = false) (hg : Goes ops R o) (h : Wy K f o ⟨R, own, H⟩ fun s => Wd K f ops l s Q) : Wd K f ops (o :: l) ⟨R, own, H⟩ Q := by
 obtain ⟨t, N, h1, h2, h3, h4⟩ := h
 exact ⟨t, N, fun n hn => by rw [tr_goes hs hg]; exact h1 n hn, h2, h3, h4⟩
theorem Wd.go0 (hs : K.sym = false) (hg : o.guard = none) (h : Wy K f o ⟨R, own, H⟩ fun s => Wd K f ops l s Q) : Wd K f ops (o :: l) ⟨R, own, H⟩ Q := Wd.go hs (.inl hg) h
theorem Wd.go1 (hs : K.sym = false) {j : Nat} {want b : Bool} (hg : o.guard = some (j, want)) (hy : aYield R ops j = some b) (hb : (b == want) = true) (h : Wy K f o ⟨R, own, H⟩ fun s => Wd K f ops l s Q) : Wd K f ops (o :: l) ⟨R, own, H⟩ Q := Wd.go hs (.yes hg hy hb) h
theorem Wy.id {s : St} (h : Wy K f o s Q) : Wy K f o s Q := h
theorem Wy.val {x : AV} {own' : Nat → Nat} {H' : List AB} {d : Nat} (hd : o.dst = some d) (ho : aOp K f ⟨R, own, H⟩ o [] = some (.val x own' H', [], [])) (hk : Nat.ble (touch K f o) 2 = true) (h : Q ⟨setAt R d x, own', H'⟩) : Wy K f o ⟨R, own, H⟩ Q := by
 refine ⟨{ i := 0, o, bef := 0, s := ⟨R, own, H⟩, s' := ⟨setAt R d x, own', H'⟩, x, k := Nat.min (touch K f o) 2, run := true }, 0, fun n _ => ?_, .inr ?_, rfl, h⟩
 ·unfold aTrDo
  rw [E.bind_nil ho, hd]; rfl
 ·have hle := Nat.le_of_ble_eq_true hk
  show Nat.min (touch K f o) 2 = kOf (touch K f o)
  generalize touch K f o = z at hle
  match z, hle with
  | 0, _ => rfl
  | 1, _ => rfl
  | 2, _ => rfl
theorem Wd.norm {R' : List AV} (e : R = R') (h : Wd K f ops l ⟨R', own, H⟩ Q) : Wd K f ops l ⟨R, own, H⟩ Q := by subst e; exact h
end
end Go.Tm
