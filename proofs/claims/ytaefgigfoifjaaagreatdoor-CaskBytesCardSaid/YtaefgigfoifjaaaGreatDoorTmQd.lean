/- TmSym, TmSymOps, TmSymView, TmShort, joined. -/
import Derived.Test.YtaefgigfoifjaaaGreatDoorTmDefs
set_option linter.unusedVariables false
set_option linter.unusedSimpArgs false
set_option linter.unusedSectionVars false
section
namespace Go.Tm

theorem E.bind_nil {α β : Type} {x : E α} {f : α → E β} {a : α} (h : x [] = some (a, [], [])) : (x >>= f) [] = f a [] := by
 show E.bind x f [] = _
 simp only [E.bind, h]
 cases f a [] with
 | none => rfl
 | some t => rfl
def W {α : Type} (x : Nat → E α) (Q : α → Prop) : Prop := ∃ a N, (∀ n, N ≤ n → x n [] = some (a, [], [])) ∧ Q a

theorem W.ret {α : Type} {a : α} {Q : α → Prop} {x : Nat → E α} (h : ∀ n, x n [] = some (a, [], [])) (q : Q a) : W x Q := ⟨a, 0, fun n _ => h n, q⟩
theorem W.mono {α : Type} {x : Nat → E α} {Q R : α → Prop} (h : W x Q) (hq : ∀ a, Q a → R a) : W x R := by
 obtain ⟨a, N, h1, h2⟩ := h
 exact ⟨a, N, h1, hq a h2⟩
theorem W.eqv {α : Type} {x y : Nat → E α} {Q : α → Prop} (h : W y Q) (e : ∀ n, x n [] = y n []) : W x Q := by
 obtain ⟨a, N, h1, h2⟩ := h
 exact ⟨a, N, fun n hn => by rw [e, h1 n hn], h2⟩
theorem W.bind {α β : Type} {x : Nat → E α} {f : Nat → α → E β} {Q : β → Prop} (h : W x fun a => W (fun n => f n a) Q) : W (fun n => x n >>= f n) Q := by
 obtain ⟨a, N, h1, b, M, h2, h3⟩ := h
 refine ⟨b, max N M, fun n hn => ?_, h3⟩
 show E.bind (x n) (f n) [] = _
 simp only [E.bind, h1 n (by omega), h2 n (by omega), List.append_nil]

def C (K : Cfg) (f : FuncId) (c : Code) (s : St) : Nat → E (AX × St) := fun n => aCode K (aCall K n) f (n + 1) c s
def L (K : Cfg) (f : FuncId) (ops : Array Oper) (l : List Oper) (s : St) : Nat → E St := fun n => aList K (aCall K n) f ops l s

/-! What must hold behind a code: by the way in which it was left. -/
def SeqQ (K : Cfg) (f : FuncId) (b : Code) (Q : AX → St → Prop) : AX → St → Prop
 | .normal, s => W (C K f b s) fun x => Q x.1 x.2
 | e, s => Q e s
def BlkQ (id : Nat) (Q : AX → St → Prop) : AX → St → Prop
 | .exit i, s => if i = id then Q .normal s else Q (.exit i) s
 | e, s => Q e s
def LoopQ (I : Nat → St → Prop) (m : Nat) (Q : AX → St → Prop) : AX → St → Prop
 | .normal, s => ∃ m', m' < m ∧ I m' s
 | e, s => Q e s
def Wc (K : Cfg) (f : FuncId) (c : Code) (R : List AV) (own : Nat → Nat) (H : List AB) (Q : AX → St → Prop) : Prop := W (C K f c ⟨R, own, H⟩) fun x => Q x.1 x.2
section
variable {K : Cfg} {f : FuncId} {R : List AV} {own : Nat → Nat} {H : List AB} {s : St} {Q : AX → St → Prop}
theorem SeqQ.normal {b : Code} (h : Wc K f b R own H Q) : SeqQ K f b Q .normal ⟨R, own, H⟩ := h
theorem SeqQ.id {b : Code} (h : SeqQ K f b Q .normal ⟨R, own, H⟩) : SeqQ K f b Q .normal ⟨R, own, H⟩ := h
theorem SeqQ.norm {b : Code} {R' : List AV} (e : R = R') (h : Wc K f b R' own H Q) : SeqQ K f b Q .normal ⟨R, own, H⟩ := by subst e; exact h
theorem SeqQ.exit {b : Code} {i : Nat} (h : Q (.exit i) s) : SeqQ K f b Q (.exit i) s := h
theorem SeqQ.ret {b : Code} (h : Q .ret s) : SeqQ K f b Q .ret s := h
theorem BlkQ.normal {id : Nat} (h : Q .normal s) : BlkQ id Q .normal s := h
theorem BlkQ.hit {id : Nat} (h : Q .normal s) : BlkQ id Q (.exit id) s := by simp [BlkQ, h]
theorem BlkQ.miss {id i : Nat} (e : i ≠ id) (h : Q (.exit i) s) : BlkQ id Q (.exit i) s := by simp [BlkQ, e, h]
theorem BlkQ.ret {id : Nat} (h : Q .ret s) : BlkQ id Q .ret s := h
theorem LoopQ.normal {I : Nat → St → Prop} {m : Nat} (m' : Nat) (hm : m' < m) (h : I m' s) : LoopQ I m Q .normal s := ⟨m', hm, h⟩
theorem LoopQ.exit {I : Nat → St → Prop} {m i : Nat} (h : Q (.exit i) s) : LoopQ I m Q (.exit i) s := h
theorem LoopQ.ret {I : Nat → St → Prop} {m : Nat} (h : Q .ret s) : LoopQ I m Q .ret s := h

theorem Wc.skip (h : Q .normal ⟨R, own, H⟩) : Wc K f .skip R own H Q := W.ret (fun _ => rfl) h
theorem Wc.exit {id : Nat} (h : Q (.exit id) ⟨R, own, H⟩) : Wc K f (.exit id) R own H Q := W.ret (fun _ => rfl) h
theorem Wc.retn (h : Q .ret ⟨R, own, H⟩) : Wc K f .ret R own H Q := W.ret (fun _ => rfl) h
theorem Wc.seq {a b : Code} (h : Wc K f a R own H (SeqQ K f b Q)) : Wc K f (.seq a b) R own H Q := by
 refine W.bind (x := C K f a ⟨R, own, H⟩) (f := fun n x => match x.1 with | .normal => C K f b x.2 n | e => pure (e, x.2)) (W.mono h fun x hx => ?_)
 obtain ⟨e, s'⟩ := x
 cases e with
 | normal => exact hx
 | exit i => exact W.ret (fun _ => rfl) hx
 | ret => exact W.ret (fun _ => rfl) hx
theorem Wc.cond (hs : K.sym = false) {c : Operand} {a b : Code} {t : Bool} (hc : evalO K R c = some (.v (.bool t))) (h1 : t = true → Wc K f a R own H Q) (h2 : t = false → Wc K f b R own H Q) : Wc K f (.cond c a b) R own H Q := by
 cases t with
 | true =>
  refine W.eqv (h1 rfl) fun n => ?_
  show aCode K (aCall K n) f (n + 1) (.cond c a b) ⟨R, own, H⟩ [] = _
  simp only [aCode, hc, hs]
  exact (E.bind_nil (a := true) rfl).trans (by rw [if_pos rfl]; rfl)
 | false =>
  refine W.eqv (h2 rfl) fun n => ?_
  show aCode K (aCall K n) f (n + 1) (.cond c a b) ⟨R, own, H⟩ [] = _
  simp only [aCode, hc, hs]
  exact (E.bind_nil (a := false) rfl).trans (by rw [if_neg (by simp)]; rfl)
theorem Wc.block {id : Nat} {a : Code} (h : Wc K f a R own H (BlkQ id Q)) : Wc K f (.block id a) R own H Q := by
 refine W.bind (x := C K f a ⟨R, own, H⟩) (f := fun _ x => match x.1 with | .exit i => if i = id then pure (.normal, x.2) else pure (.exit i, x.2) | e => pure (e, x.2)) (W.mono h fun x hx => ?_)
 obtain ⟨e, s'⟩ := x
 cases e with
 | normal => exact W.ret (fun _ => rfl) hx
 | ret => exact W.ret (fun _ => rfl) hx
 | exit i =>
  simp only [BlkQ] at hx ⊢
  split at hx
  ·rename_i e; subst e; exact W.ret (fun _ => by simp; rfl) hx
  ·rename_i e; exact W.ret (fun _ => by simp [e]; rfl) hx

def Wl (K : Cfg) (f : FuncId) (a : Code) (s : St) (Q : AX → St → Prop) : Prop := ∃ x N M, (∀ n k, N ≤ n → M ≤ k → iter (fun s => C K f a s n) k s [] = some (x, [], [])) ∧ Q x.1 x.2
theorem Wl.step {a : Code} (h : W (C K f a s) fun x => match x.1 with
  | .normal => Wl K f a x.2 Q
  | _ => Q x.1 x.2) : Wl K f a s Q := by
 obtain ⟨⟨e, s'⟩, N, h1, h2⟩ := h
 cases e with
 | normal =>
  obtain ⟨y, N', M', h3, h4⟩ := h2
  refine ⟨y, max N N', M' + 1, fun n k hn hk => ?_, h4⟩
  obtain ⟨k, rfl⟩ : ∃ j, k = j + 1 := ⟨k - 1, by omega⟩
  exact (E.bind_nil (x := C K f a s n) (h1 n (by omega))).trans (h3 n k (by omega) (by omega))
 | exit i =>
  refine ⟨_, N, 1, fun n k hn hk => ?_, h2⟩
  obtain ⟨k, rfl⟩ : ∃ j, k = j + 1 := ⟨k - 1, by omega⟩
  exact (E.bind_nil (x := C K f a s n) (h1 n (by omega))).trans rfl
 | ret =>
  refine ⟨_, N, 1, fun n k hn hk => ?_, h2⟩
  obtain ⟨k, rfl⟩ : ∃ j, k = j + 1 := ⟨k - 1, by omega⟩
  exact (E.bind_nil (x := C K f a s n) (h1 n (by omega))).trans rfl
theorem Wc.inv {a : Code} (I : Nat → St → Prop) (m : Nat) (h0 : I m ⟨R, own, H⟩) (h : ∀ m R own H, I m ⟨R, own, H⟩ → Wc K f a R own H (LoopQ I m Q)) : Wc K f (.loop a) R own H Q := by
 have key : ∀ (m : Nat) (s : St), I m s → Wl K f a s Q := by
  intro m
  induction m using Nat.strongRecOn with
  | ind m ih =>
   intro s h0
   obtain ⟨R, own, H⟩ := s
   refine Wl.step (W.mono (h m R own H h0) fun x hx => ?_)
   obtain ⟨e, s'⟩ := x
   cases e with
   | normal => obtain ⟨m', hm, hi⟩ := hx; exact ih m' hm s' hi
   | exit i => exact hx
   | ret => exact hx
 obtain ⟨x, N, M, h1, h2⟩ := key m _ h0
 exact ⟨x, max N M, fun n hn => h1 n (n + 1) (by omega) (by omega), h2⟩
def Wo (K : Cfg) (f : FuncId) (ops : Array Oper) (l : List Oper) (R : List AV) (own : Nat → Nat) (H : List AB) (Q : AX → St → Prop) : Prop := W (L K f ops l ⟨R, own, H⟩) (Q .normal)
theorem Wc.region {id : Nat} {ops : Array Oper} (h : Wo K f ops ops.toList R own H Q) : Wc K f (.region id ops false) R own H Q := by
 refine W.bind (x := L K f ops ops.toList ⟨R, own, H⟩) (f := fun _ s => pure (AX.normal, s)) (W.mono h fun s hs => W.ret (a := (AX.normal, s)) (fun _ => rfl) hs)
theorem Wc.mid {c b : Code} (P : St → Prop) (h : Wc K f c R own H fun e s => e = .normal ∧ P s) (hn : ∀ R own H, P ⟨R, own, H⟩ → SeqQ K f b Q .normal ⟨R, own, H⟩) : Wc K f c R own H (SeqQ K f b Q) :=
 W.mono h fun x hx => by
  obtain ⟨e, R, own, H⟩ := x
  obtain ⟨rfl, hp⟩ := hx
  exact hn R own H hp
theorem Wc.regs {c : Code} {R' : List AV} (e : R = R') (h : Wc K f c R' own H Q) : Wc K f c R own H Q := by subst e; exact h
end

section
variable {K : Cfg} {f : FuncId} {ops : Array Oper} {Q : AX → St → Prop} {R : List AV} {own : Nat → Nat} {H : List AB}
theorem Wo.nil (h : Q .normal ⟨R, own, H⟩) : Wo K f ops [] R own H Q := W.ret (fun _ => rfl) h
theorem list_go {s : St} {call : Orc} {o : Oper} {l : List Oper} (hg : o.guard = none) : aList K call f ops (o :: l) s = (aDo K call f o s >>= fun s => aList K call f ops l s) := by
 rw [aList]
 simp only [hg]
theorem Wo.doVal {o : Oper} {l : List Oper} {x : AV} {own' : Nat → Nat} {H' : List AB} {d : Nat} (hg : o.guard = none) (hd : o.dst = some d) (ho : aOp K f ⟨R, own, H⟩ o [] = some (.val x own' H', [], [])) (h : Wo K f ops l (setAt R d x) own' H' Q) : Wo K f ops (o :: l) R own H Q := by
 refine W.eqv h fun n => ?_
 show aList K (aCall K n) f ops (o :: l) ⟨R, own, H⟩ [] = _
 rw [list_go hg, E.bind_nil (a := ⟨setAt R d x, own', H'⟩)]
 ·rfl
 ·unfold aDo
  rw [E.bind_nil ho, hd]; rfl
theorem Wo.doSkip {o : Oper} {l : List Oper} {H' : List AB} (hg : o.guard = none) (hd : o.dst = none) (ho : aOp K f ⟨R, own, H⟩ o [] = some (.skip H', [], [])) (h : Wo K f ops l R own H' Q) : Wo K f ops (o :: l) R own H Q := by
 refine W.eqv h fun n => ?_
 show aList K (aCall K n) f ops (o :: l) ⟨R, own, H⟩ [] = _
 rw [list_go hg, E.bind_nil (a := ⟨R, own, H'⟩)]
 ·rfl
 ·unfold aDo
  rw [E.bind_nil ho, hd]; rfl
theorem Wo.doNone {o : Oper} {l : List Oper} {x : AV} {own' : Nat → Nat} {H' : List AB} (hg : o.guard = none) (hd : o.dst = none) (ho : aOp K f ⟨R, own, H⟩ o [] = some (.val x own' H', [], [])) (h : Wo K f ops l R own' H' Q) : Wo K f ops (o :: l) R own H Q := by
 refine W.eqv h fun n => ?_
 show aList K (aCall K n) f ops (o :: l) ⟨R, own, H⟩ [] = _
 rw [list_go hg, E.bind_nil (a := ⟨R, own', H'⟩)]
 ·rfl
 ·unfold aDo
  rw [E.bind_nil ho, hd]; rfl
theorem Wo.norm {l : List Oper} {R' : List AV} (e : R = R') (h : Wo K f ops l R' own H Q) : Wo K f ops l R own H Q := by subst e; exact h
theorem Wo.id {l : List Oper} (h : Wo K f ops l R own H Q) : Wo K f ops l R own H Q := h
def Tells (K : Cfg) (f : FuncId) (args : List AV) (H : List AB) (Q : AV → List AB → Prop) : Prop := W (fun n => aCall K n f args H) fun x => Q x.1 x.2
theorem Tells.mono {args : List AV} {Q R : AV → List AB → Prop} (h : Tells K f args H Q) (hq : ∀ r H', Q r H' → R r H') : Tells K f args H R := W.mono h fun x hx => hq x.1 x.2 hx
theorem Wo.doCall {o : Oper} {l : List Oper} {g : FuncId} {args : List AV} {d : Nat} (hg : o.guard = none) (hd : o.dst = some d) (ho : aOp K f ⟨R, own, H⟩ o [] = some (.call g args, [], [])) (h : Tells K g args H fun r H' => Wo K f ops l (setAt R d r.unown) own H' Q) : Wo K f ops (o :: l) R own H Q := by
 obtain ⟨⟨r, H'⟩, N, h1, h2⟩ := h
 obtain ⟨a, M, h3, h4⟩ := h2
 refine ⟨a, max N M, fun n hn => ?_, h4⟩
 show aList K (aCall K n) f ops (o :: l) ⟨R, own, H⟩ [] = _
 rw [list_go hg, E.bind_nil (a := ⟨setAt R d r.unown, own, H'⟩)]
 ·exact h3 n (by omega)
 ·unfold aDo
  rw [E.bind_nil ho, hd]
  exact (E.bind_nil (h1 n (by omega))).trans rfl
theorem Wo.not (hs : K.sym = false) {o : Oper} {l : List Oper} {j d : Nat} {want b : Bool} (hg : o.guard = some (j, want)) (hd : o.dst = some d) (hy : aYield R ops j = some b) (hb : (b == want) = false) (h : Wo K f ops l (setAt R d .undef) own H Q) : Wo K f ops (o :: l) R own H Q := by
 refine W.eqv h fun n => ?_
 show aList K (aCall K n) f ops (o :: l) ⟨R, own, H⟩ [] = _
 rw [aList]
 simp only [hg, hy, hb, hs, hd]
 rw [E.bind_nil (a := false) rfl]
 rfl
theorem list_yes {s : St} (hs : K.sym = false) {call : Orc} {o : Oper} {l : List Oper} {j : Nat} {want b : Bool} (hg : o.guard = some (j, want)) (hy : aYield s.regs ops j = some b) (hb : (b == want) = true) : aList K call f ops (o :: l) s [] = (aDo K call f o s >>= fun s => aList K call f ops l s) [] := by
 rw [aList]
 simp only [hg, hy, hb, hs]
 rw [E.bind_nil (a := true) rfl]
 rfl
theorem Wo.yes (hs : K.sym = false) {o : Oper} {l : List Oper} {j : Nat} {want b : Bool} (hg : o.guard = some (j, want)) (hy : aYield R ops j = some b) (hb : (b == want) = true) (h : Wo K f ops ({ o with guard := none } :: l) R own H Q) : Wo K f ops (o :: l) R own H Q := by
 refine W.eqv h fun n => ?_
 show aList K (aCall K n) f ops (o :: l) ⟨R, own, H⟩ [] = aList K (aCall K n) f ops ({ o with guard := none } :: l) ⟨R, own, H⟩ []
 rw [list_yes hs hg hy hb, list_go rfl]
 rfl
theorem dead_of {R : List AV} {F : (Nat → AV) → List AV} (h : R = F fun i => (nth R i).getD .undef) : ∃ d, R = F d := ⟨_, h⟩
end
def enter (m : Nat) (args : List AV) : List AV := args ++ List.replicate m .undef
def EndQ (K : Cfg) (fn : Func) (Q : AV → List AB → Prop) (e : AX) (s : St) : Prop := (∀ i, e ≠ .exit i) ∧ ∃ r, aResults K s.H s.regs fn.results.toList = some r ∧ Q r s.H
theorem EndQ.ret {K : Cfg} {fn : Func} {Q : AV → List AB → Prop} {s : St} {r : AV} (hr : aResults K s.H s.regs fn.results.toList = some r) (h : Q r s.H) : EndQ K fn Q .ret s := ⟨fun _ => nofun, r, hr, h⟩
theorem EndQ.normal {K : Cfg} {fn : Func} {Q : AV → List AB → Prop} {s : St} {r : AV} (hr : aResults K s.H s.regs fn.results.toList = some r) (h : Q r s.H) : EndQ K fn Q .normal s := ⟨fun _ => nofun, r, hr, h⟩
def Tail.un : Tail → Tail
 | .own _ _ _ => .unk
 | t => t
theorem unown_sl (xs : List AV) (tl : Tail) : (AV.sl xs tl).unown = .sl xs tl.un := by cases tl <;> rfl
theorem un_un (tl : Tail) : tl.un.un = tl.un := by cases tl <;> rfl
theorem body_runs {K : Cfg} {f : FuncId} {fn : Func} {c : Code} {args args' : List AV} {m : Nat} {H : List AB} {Q : AV × List AB → Prop} (hf : K.P.funcs[f]? = some fn) (hc : fn.body = some c) (ha : args.map AV.unown = args') (hm : fn.ntmps - args.length = m) (h : Wc K f c (enter m args') (fun _ => 0) H (EndQ K fn fun r H => Q (r, H))) : W (fun n => aBody K (aCall K n) (n + 1) f args H) Q := by
 subst ha hm
 obtain ⟨⟨e, s⟩, N, h1, he, r, hr, hq⟩ := h
 refine ⟨(r, s.H), N, fun n hn => ?_, hq⟩
 unfold aBody
 rw [hf]
 simp only [hc]
 refine (E.bind_nil (h1 n hn)).trans ?_
 cases e with
 | exit i => exact absurd rfl (he i)
 | normal =>
  show (E.of (aResults K s.H s.regs fn.results.toList) >>= fun r => pure (r, s.H)) [] = _
  rw [hr]; rfl
 | ret =>
  show (E.of (aResults K s.H s.regs fn.results.toList) >>= fun r => pure (r, s.H)) [] = _
  rw [hr]; rfl
theorem Tells.mem {K : Cfg} {f : FuncId} {fn : Func} {c : Code} {args args' : List AV} {m : Nat} {H : List AB} {Q : AV → List AB → Prop} (hf : K.P.funcs[f]? = some fn) (hc : fn.body = some c) (ha : args.map AV.unown = args') (hm : fn.ntmps - args.length = m) (e1 : K.libv f = none) (e2 : K.lib f = none) (e3 : (K.vals f && AV.closedL args) = false) (h : Wc K f c (enter m args') (fun _ => 0) H (EndQ K fn Q)) : Tells K f args H Q := by
 obtain ⟨a, N, h1, h2⟩ := body_runs (Q := fun x => Q x.1 x.2) hf hc ha hm h
 refine ⟨a, N + 1, fun n hn => ?_, h2⟩
 obtain ⟨n, rfl⟩ : ∃ j, n = j + 1 := ⟨n - 1, by omega⟩
 show aCallW K (aCall K n) (n + 1) f args H [] = _
 unfold aCallW
 simp only [e1, e2, e3]
 exact h1 n (by omega)
theorem Tells.vals {K : Cfg} {f : FuncId} {fn : Func} {c : Code} {args args' : List AV} {m : Nat} {H : List AB} {Q : AV → List AB → Prop} (hf : K.P.funcs[f]? = some fn) (hc : fn.body = some c) (ha : args.map AV.unown = args') (hm : fn.ntmps - args.length = m) (e1 : K.libv f = none) (e2 : K.lib f = none) (e3 : (K.vals f && AV.closedL args) = true) (h : Wc K f c (enter m args') (fun _ => 0) [] (EndQ K fn fun r H' => ∃ r', snap H' 6 r = some r' ∧ r'.closed = true ∧ Q r' H)) : Tells K f args H Q := by
 obtain ⟨⟨r, H'⟩, N, h1, r', h2, h3, h4⟩ := body_runs (Q := fun x => ∃ r', snap x.2 6 x.1 = some r' ∧ r'.closed = true ∧ Q r' H) hf hc ha hm h
 refine ⟨(r', H), N + 1, fun n hn => ?_, h4⟩
 obtain ⟨n, rfl⟩ : ∃ j, n = j + 1 := ⟨n - 1, by omega⟩
 show aCallW K (aCall K n) (n + 1) f args H [] = _
 unfold aCallW
 simp only [e1, e2, e3]
 refine (E.bind_nil (h1 n (by omega))).trans ?_
 show (E.of (snap H' 6 r) >>= fun r => match r.closed with | true => pure (r, H) | false => E.fail) [] = _
 rw [h2]
 refine (E.bind_nil (a := r') rfl).trans ?_
 simp only [h3]
 rfl
end Go.Tm
end
section
namespace Go.Tm
variable {K : Cfg} {f : FuncId} {o : Oper} {R : List AV} {own : Nat → Nat} {H : List AB}

theorem op_move {x : Operand} {v : AV} (ho : o.op = .move x) (hx : evalO K R x = some v) : aOp K f ⟨R, own, H⟩ o [] = some (.val v own H, [], []) := by
 simp only [aOp, ho, hx]; rfl
theorem op_assign {x : Operand} {v : AV} (ho : o.op = .assign x) (hx : evalO K R x = some v) : aOp K f ⟨R, own, H⟩ o [] = some (.val v own H, [], []) := by
 simp only [aOp, ho, hx]; rfl
theorem op_bin {op : BinOp} {t yt : TypeId} {x y : Operand} {a b r : Value} (ho : o.op = .binOp op t x y yt) (hx : evalO K R x = some (.v a)) (hy : evalO K R y = some (.v b)) (hr : pureRun K.P (do eqGuard op t x y a b; binOp op t a b) = some r) (hf : flat r = true) : aOp K f ⟨R, own, H⟩ o [] = some (.val (.v r) own H, [], []) := by
 simp only [aOp, ho, hx, hy, aKeepE, aBinOp, hr, hf]; rfl
theorem op_bin_str {op : BinOp} {t yt : TypeId} {x y : Operand} {a b : List UInt8} {r : AV} (ho : o.op = .binOp op t x y yt) (hx : evalO K R x = some (.str a)) (hy : evalO K R y = some (.str b)) (hr : aStrOp K op a b [] = some (r, [], [])) : aOp K f ⟨R, own, H⟩ o [] = some (.val r.unown own H, [], []) := by
 simp only [aOp, ho, hx, hy, aKeepE, aBinOp]
 exact (E.bind_nil hr).trans rfl
theorem op_bin_nil {t yt : TypeId} {x y : Operand} {a b : AV} {r : Bool} (ho : o.op = .binOp .eql t x y yt) (hx : evalO K R x = some a) (hy : evalO K R y = some b) (hr : aBinOp K .eql t x y a b [] = some (.v (.bool r), [], [])) : aOp K f ⟨R, own, H⟩ o [] = some (.val (.v (.bool r)) own H, [], []) := by
 simp only [aOp, ho, hx, hy, aKeepE]
 exact (E.bind_nil hr).trans rfl
theorem op_un {op : UnOp} {t : TypeId} {x : Operand} {a r : Value} (ho : o.op = .unOp op t x) (hx : evalO K R x = some (.v a)) (hr : pureRun K.P (Op.unary op a) = some r) (hf : flat r = true) : aOp K f ⟨R, own, H⟩ o [] = some (.val (.v r) own H, [], []) := by
 simp only [aOp, ho, hx, aKeep, aUnOp, hr, hf, if_true]; rfl
theorem op_pick (hs : K.sym = false) {c a b : Operand} {t : Bool} {x y : AV} (ho : o.op = .pick c a b) (hc : evalO K R c = some (.v (.bool t))) (hx : evalO K R a = some x) (hy : evalO K R b = some y) : aOp K f ⟨R, own, H⟩ o [] = some (.val (if t then x else y) own H, [], []) := by
 simp only [aOp, ho, hc, hx, hy, hs]
 exact (E.bind_nil (a := t) rfl).trans rfl
theorem op_pick_t (hs : K.sym = false) {c a b : Operand} {t : Bool} {x y : AV} (ht : t = true) (ho : o.op = .pick c a b) (hc : evalO K R c = some (.v (.bool t))) (hx : evalO K R a = some x) (hy : evalO K R b = some y) : aOp K f ⟨R, own, H⟩ o [] = some (.val x own H, [], []) := by
 have := op_pick (f := f) (own := own) (H := H) hs ho hc hx hy
 rwa [ht, if_pos rfl] at this
theorem op_pick_f (hs : K.sym = false) {c a b : Operand} {t : Bool} {x y : AV} (ht : t = false) (ho : o.op = .pick c a b) (hc : evalO K R c = some (.v (.bool t))) (hx : evalO K R a = some x) (hy : evalO K R b = some y) : aOp K f ⟨R, own, H⟩ o [] = some (.val y own H, [], []) := by
 have := op_pick (f := f) (own := own) (H := H) hs ho hc hx hy
 rwa [ht, if_neg (by simp)] at this
theorem op_len_sl {t e : TypeId} {x : Operand} {xs : List AV} {tl : Tail} {ts : Array TypeId} (ho : o.op = .call { callee := .builtin .len, args := #[x], argTypes := ts }) (ht : ts.toList = [t]) (hu : K.P.underlying t = some (.slice e)) (hx : evalO K R x = some (.sl xs tl)) : aOp K f ⟨R, own, H⟩ o [] = some (.val (.v (goInt xs.length)) own H, [], []) := by
 have hm : mapO (evalO K R) [x] = some [.sl xs tl] := by simp [mapO, hx]
 simp only [aOp, ho, ht, hm, aBuiltin, aKeep, aLen, hu]; rfl
theorem op_len_ms {t e : TypeId} {x : Operand} {b off len sz : Nat} {ts : Array TypeId} (ho : o.op = .call { callee := .builtin .len, args := #[x], argTypes := ts }) (ht : ts.toList = [t]) (hu : K.P.underlying t = some (.slice e)) (hx : evalO K R x = some (.ms b off len sz)) : aOp K f ⟨R, own, H⟩ o [] = some (.val (.v (goInt len)) own H, [], []) := by
 have hm : mapO (evalO K R) [x] = some [.ms b off len sz] := by simp [mapO, hx]
 simp only [aOp, ho, ht, hm, aBuiltin, aKeep, aLen, hu]; rfl
theorem op_len_str {t : TypeId} {x : Operand} {xs : List UInt8} {ts : Array TypeId} (ho : o.op = .call { callee := .builtin .len, args := #[x], argTypes := ts }) (ht : ts.toList = [t]) (hu : K.P.underlying t = some .string) (hx : evalO K R x = some (.str xs)) : aOp K f ⟨R, own, H⟩ o [] = some (.val (.v (goInt xs.length)) own H, [], []) := by
 have hm : mapO (evalO K R) [x] = some [.str xs] := by simp [mapO, hx]
 simp only [aOp, ho, ht, hm, aBuiltin, aKeep, aLen, hu]; rfl
theorem op_indexAddr_sl (hs : K.sym = false) {t e : TypeId} {x i : Operand} {xs : List AV} {tl : Tail} {k : IntKind} {n : Int} {j sz : Nat} {el : AV} (ho : o.op = .indexAddr t x i) (hu : K.P.underlying t = some (.slice e)) (hz : tSize K.P e = some (sz + 1)) (hx : evalO K R x = some (.sl xs tl)) (hi : evalO K R i = some (.v (.int k n))) (hn : n = (j : Int)) (hj : xs[j]? = some el) (hl : el.cells.length = sz + 1) : aOp K f ⟨R, own, H⟩ o [] = some (.val (.rp el.cells) own H, [], []) := by
 subst hn
 have hlt := (List.getElem?_eq_some_iff.1 hj).1
 have hnth : nth xs j = some el := by rw [← hj]; exact nth_eq' xs j
 simp only [aOp, ho, hx, hi, aKeepE, aIndexAddr, asI, hu, hz, hs]
 refine (E.bind_nil (a := AV.rp el.cells) ?_).trans rfl
 have hd : decide (0 ≤ (j : Int) ∧ (j : Int) < (xs.length : Int)) = true := by simp; omega
 rw [hd]
 refine (E.bind_nil (a := ()) rfl).trans ?_
 refine (E.bind_nil (a := el) (by rw [Int.toNat_natCast, hnth]; rfl)).trans ?_
 rw [hl]
 refine (E.bind_nil (a := ()) (by simp [E.chk])).trans rfl
where
 nth_eq' {α : Type} : ∀ (l : List α) (i : Nat), nth l i = l[i]?
  | [], i => by simp [nth]
  | x :: r, 0 => by simp [nth]
  | x :: r, i + 1 => by simp only [nth, List.getElem?_cons_succ]; exact nth_eq' r i
theorem op_load_rp {t : TypeId} {a : Operand} {cs : List AV} {v : AV} (ho : o.op = .load t a) (ha : evalO K R a = some (.rp cs)) (hv : takeVar K.P t cs = some v) : aOp K f ⟨R, own, H⟩ o [] = some (.val v.unown own H, [], []) := by
 simp only [aOp, ho, ha, aKeep, aLoad, deref, hv]; rfl
theorem take_one {P : Program} {t : TypeId} {n : Nat} {x : AV} {r : List AV} (h1 : tAgg P t = some false) (h2 : tSize P t = some n) : takeVar P t (x :: r) = some x := by
 simp only [takeVar, h1, h2]
theorem op_call {g : FuncId} {as ts : Array _} {args : List AV} (ho : o.op = .call { callee := .value (.func g), args := as, argTypes := ts }) (ha : mapO (evalO K R) as.toList = some args) : aOp K f ⟨R, own, H⟩ o [] = some (.call g (args.map AV.unown), [], []) := by
 simp only [aOp, ho, ha, evalO, List.nil_append, List.append_nil]; rfl
theorem op_callv {x : Operand} {g : FuncId} {fs cs : List AV} {as ts : Array _} {args : List AV} (ho : o.op = .call { callee := .value x, args := as, argTypes := ts }) (hx : evalO K R x = some (.func (.func g) fs cs)) (ha : mapO (evalO K R) as.toList = some args) : aOp K f ⟨R, own, H⟩ o [] = some (.call g ((fs ++ args ++ cs).map AV.unown), [], []) := by
 simp only [aOp, ho, ha, hx]; rfl
theorem op_makeFunc {fn : Fn} {a b : Array Operand} {xs ys : List AV} (ho : o.op = .makeFunc fn a b) (ha : mapO (evalO K R) a.toList = some xs) (hb : mapO (evalO K R) b.toList = some ys) : aOp K f ⟨R, own, H⟩ o [] = some (.val (.func fn (xs.map AV.unown) (ys.map AV.unown)) own H, [], []) := by
 simp only [aOp, ho, ha, hb]; rfl
theorem op_box {e : TypeId} {x : Operand} {v : AV} (ho : o.op = .box e x) (hx : evalO K R x = some v) (h1 : allOne v.cells = true) : aOp K f ⟨R, own, H⟩ o [] = some (.val (.ptr H.length 0) own (H ++ [.cells (e, true) v.unown.cells]), [], []) := by
 simp only [aOp, ho, hx, h1, if_true]; rfl
theorem op_load_ptr {t : TypeId} {a : Operand} {b off : Nat} {tt : TypeId × Bool} {cs : List AV} {v : AV} (ho : o.op = .load t a) (ha : evalO K R a = some (.ptr b off)) (hb : nth H b = some (.cells tt cs)) (hv : takeVar K.P t (cs.drop off) = some v) : aOp K f ⟨R, own, H⟩ o [] = some (.val v.unown own H, [], []) := by
 simp only [aOp, ho, ha, aKeep, aLoad, deref, hb, hv]; rfl
theorem op_indexAddr_arr (hs : K.sym = false) {t e : TypeId} {x i : Operand} {b off len : Nat} {k : IntKind} {n : Int} {j sz : Nat} (ho : o.op = .indexAddr t x i) (hu : K.P.underlying t = some (.array len e)) (hz : tSize K.P e = some (sz + 1)) (hx : evalO K R x = some (.ptr b off)) (hi : evalO K R i = some (.v (.int k n))) (hn : n = (j : Int)) (hj : j < len) : aOp K f ⟨R, own, H⟩ o [] = some (.val (.ptr b (off + j * (sz + 1))) own H, [], []) := by
 subst hn
 simp only [aOp, ho, hx, hi, aKeepE, aIndexAddr, asI, hu, hz, hs]
 refine (E.bind_nil (a := AV.ptr b (off + j * (sz + 1))) ?_).trans rfl
 have hd : decide (0 ≤ (j : Int) ∧ (j : Int) < (len : Int)) = true := by simp; omega
 rw [hd]
 refine (E.bind_nil (a := ()) rfl).trans ?_
 rw [Int.toNat_natCast]; rfl
theorem op_indexAddr_ms (hs : K.sym = false) {t e : TypeId} {x i : Operand} {b off len : Nat} {k : IntKind} {n : Int} {j sz : Nat} (ho : o.op = .indexAddr t x i) (hu : K.P.underlying t = some (.slice e)) (hz : tSize K.P e = some (sz + 1)) (hx : evalO K R x = some (.ms b off len (sz + 1))) (hi : evalO K R i = some (.v (.int k n))) (hn : n = (j : Int)) (hj : j < len) : aOp K f ⟨R, own, H⟩ o [] = some (.val (.ptr b (off + j * (sz + 1))) own H, [], []) := by
 subst hn
 simp only [aOp, ho, hx, hi, aKeepE, aIndexAddr, asI, hu, hz, hs]
 refine (E.bind_nil (a := AV.ptr b (off + j * (sz + 1))) ?_).trans rfl
 have hd : decide (0 ≤ (j : Int) ∧ (j : Int) < (len : Int)) = true := by simp; omega
 rw [hd]
 refine (E.bind_nil (a := ()) (by simp [E.chk])).trans ?_
 refine (E.bind_nil (a := ()) rfl).trans ?_
 rw [Int.toNat_natCast]; rfl
theorem op_max2 {a b : Operand} {k k' : IntKind} {x y : Int} {ts : Array TypeId} {t : TypeId} (ho : o.op = .call { callee := .builtin .max, args := #[a, b], argTypes := ts }) (ht : ts.toList = [t, t]) (ha : evalO K R a = some (.v (.int k x))) (hb : evalO K R b = some (.v (.int k' y))) : aOp K f ⟨R, own, H⟩ o [] = some (.val (.v (.int k (if y > x then y else x))) own H, [], []) := by
 have hm : mapO (evalO K R) [a, b] = some [.v (.int k x), .v (.int k' y)] := by simp [mapO, ha, hb]
 simp only [aOp, ho, ht, hm, aBuiltin, aKeep, aMinMax, aMinMax.go]; rfl
theorem op_min2 {a b : Operand} {k k' : IntKind} {x y : Int} {ts : Array TypeId} {t : TypeId} (ho : o.op = .call { callee := .builtin .min, args := #[a, b], argTypes := ts }) (ht : ts.toList = [t, t]) (ha : evalO K R a = some (.v (.int k x))) (hb : evalO K R b = some (.v (.int k' y))) : aOp K f ⟨R, own, H⟩ o [] = some (.val (.v (.int k (if y < x then y else x))) own H, [], []) := by
 have hm : mapO (evalO K R) [a, b] = some [.v (.int k x), .v (.int k' y)] := by simp [mapO, ha, hb]
 simp only [aOp, ho, ht, hm, aBuiltin, aKeep, aMinMax, aMinMax.go]; rfl
theorem op_buildSlice {t : TypeId} {len d : Nat} {ps : Array (Nat × Operand)} {qs : List (Nat × AV)} {an : AN} (ho : o.op = .buildSlice t len ps) (hd : o.dst = some d) (hq : mapO (fun p : Nat × Operand => (evalO K R p.2).map fun x => (p.1, x)) ps.toList = some qs) (hb : aBuildSlice K (K.chg f d) own H t len qs = some an) : aOp K f ⟨R, own, H⟩ o [] = some (an, [], []) := by
 simp only [aOp, ho, hd, hq, Option.getD_some, hb]; rfl
theorem build_one {t e : TypeId} {x z : AV} (hu : K.P.underlying t = some (.slice e)) (hz : tSize K.P e = some 1) (h0 : tZero K.P e = some z) (hz1 : z.cells.length = 1) (hx : x.cells = [x]) (h1 : x.one = true) (hc : x.unown.closed = true) (hxu : x.unown.cells = [x.unown]) : aBuildSlice K false own H t 1 [(0, x)] = some (.val (.sl [x.unown] .full) own H) := by
 obtain ⟨z0, hz0⟩ : ∃ z0, z.cells = [z0] := List.length_eq_one_iff.1 hz1
 simp only [aBuildSlice, hu, hz, h0]
 rw [if_neg (by simp [hz1])]
 simp only [rep, hz0, List.append_nil, List.cons_append, List.nil_append]
 simp [afill, hx, allOne, h1, hxu, putAll, setAt, AV.closedL, hc, chunk, elOf]
theorem op_append_new (hs : K.sym = false) {t t2 e d : TypeId} {a x : Operand} {ts : Array TypeId} {ys : List AV} {tl u : Tail} {info : TypeInfo} {z : AV} {n : Nat} (ho : o.op = .call { callee := .builtin .append, args := #[a, x], argTypes := ts }) (hd : o.dst = some d) (ht : ts.toList = [t, t2]) (hu : K.P.underlying t = some (.slice e)) (hu2 : K.P.underlying t2 = some (.slice e))
  (hi : K.P.info? e = some info) (hz : tSize K.P e = some (n + 1)) (h0 : tZero K.P e = some z) (hz1 : z.cells.length = n + 1) (hg : K.chg f d = true) (ha : evalO K R a = some (.sl [] tl)) (htl : tl = .nil ∨ tl = .full) (hx : evalO K R x = some (.sl ys u)) (hy : ys.all (fun y => y.cells.length == n + 1) = true) (hne : ys ≠ []) (hr : roomOk ys.length info.bytes = true) :
  aOp K f ⟨R, own, H⟩ o [] = some (.val (.ms H.length 0 ys.length (n + 1)) own (H ++ [AB.cells (e, false) (ys.flatMap AV.cells)]), [], []) := by
 have hm : mapO (evalO K R) [a, x] = some [.sl [] tl, .sl ys u] := by simp [mapO, ha, hx]
 have hzb : (z.cells.length == n + 1) = true := by simp [hz1]
 simp only [aOp, ho, ht, hm, aBuiltin, hu2, aAppend, hu, hi, hz, h0, asEls, hy, if_true, hzb, hd, Option.getD_some, hg, hs]
 refine (E.bind_nil (a := ()) (by simp [E.chk, hr])).trans ?_
 refine (E.bind_nil (a := ()) (by simp [E.chk])).trans ?_
 refine (E.bind_nil (a := ()) (by rcases htl with rfl | rfl <;> simp [E.chk])).trans ?_
 cases ys with
 | nil => exact absurd rfl hne
 | cons y r => simp only [List.length_nil, Nat.zero_add, List.flatMap_nil, List.nil_append]; rfl
theorem op_append_ms (hs : K.sym = false) {t t2 e d : TypeId} {a x : Operand} {ts : Array TypeId} {ys : List AV} {u : Tail} {info : TypeInfo} {z : AV} {n b len : Nat} {w : Bool} {cs : List AV} (ho : o.op = .call { callee := .builtin .append, args := #[a, x], argTypes := ts }) (hd : o.dst = some d) (ht : ts.toList = [t, t2]) (hu : K.P.underlying t = some (.slice e)) (hu2 : K.P.underlying t2 = some (.slice e))
  (hi : K.P.info? e = some info) (hz : tSize K.P e = some (n + 1)) (h0 : tZero K.P e = some z) (hz1 : z.cells.length = n + 1) (ha : evalO K R a = some (.ms b 0 len (n + 1))) (hb : nth H b = some (.cells (e, w) cs)) (hl : cs.length = len * (n + 1)) (hx : evalO K R x = some (.sl ys u)) (hy : ys.all (fun y => y.cells.length == n + 1) = true) (hne : ys ≠ []) (hr : roomOk (len + ys.length) info.bytes = true) :
  aOp K f ⟨R, own, H⟩ o [] = some (.val (.ms H.length 0 (len + ys.length) (n + 1)) own (setAt H b .dead ++ [AB.cells (e, false) (cs ++ ys.flatMap AV.cells)]), [], []) := by
 have hm : mapO (evalO K R) [a, x] = some [.ms b 0 len (n + 1), .sl ys u] := by simp [mapO, ha, hx]
 have hzb : (z.cells.length == n + 1) = true := by simp [hz1]
 simp only [aOp, ho, ht, hm, aBuiltin, hu2, aAppend, hu, hi, hz, h0, asEls, hy, if_true, hzb, hb, hs]
 refine (E.bind_nil (a := ()) (by simp [E.chk])).trans ?_
 refine (E.bind_nil (a := ()) (by simp [E.chk])).trans ?_
 refine (E.bind_nil (a := ()) (by simp [E.chk, hl])).trans ?_
 refine (E.bind_nil (a := ()) (by simp [E.chk, hr])).trans ?_
 cases ys with
 | nil => exact absurd rfl hne
 | cons y r => rfl
end Go.Tm
end
section
namespace Go.Tm
abbrev i64 (n : Int) : AV := .v (.int .i64 n)
def View (H : List AB) (x : AV) (xs : List Int) : Prop :=
 (∃ tl, x = .sl (xs.map i64) tl ∧ tl.un = tl) ∨ ∃ b off tt cs, x = .ms b off xs.length 1 ∧ nth H b = some (.cells tt cs) ∧ off + xs.length ≤ cs.length ∧ ∀ (j : Nat) (h : j < xs.length), cs[off + j]? = some (i64 xs[j])
theorem View.unown {H : List AB} {x : AV} {xs : List Int} (h : View H x xs) : x.unown = x := by
 rcases h with ⟨tl, rfl, e⟩ | ⟨b, off, tt, cs, rfl, _⟩
 ·rw [unown_sl, e]
 ·rfl
theorem View.kept {H : List AB} {x : AV} {xs : List Int} (h : View H x xs) (hc : x.closed = true) (H' : List AB) : View H' x xs := by
 rcases h with ⟨tl, rfl, e⟩ | ⟨b, off, tt, cs, rfl, _⟩
 ·exact .inl ⟨tl, rfl, e⟩
 ·cases hc
section
variable {K : Cfg} {f : FuncId} {ops : Array Oper} {R : List AV} {own : Nat → Nat} {H : List AB} {Q : AX → St → Prop}
theorem op_len_view {o : Oper} {t e : TypeId} {x : Operand} {v : AV} {xs : List Int} {ts : Array TypeId} (hv : View H v xs) (ho : o.op = .call { callee := .builtin .len, args := #[x], argTypes := ts }) (ht : ts.toList = [t]) (hu : K.P.underlying t = some (.slice e)) (hx : evalO K R x = some v) : aOp K f ⟨R, own, H⟩ o [] = some (.val (.v (goInt xs.length)) own H, [], []) := by
 rcases hv with ⟨tl, rfl, _⟩ | ⟨b, off, tt, cs, rfl, _⟩
 ·have := op_len_sl (K := K) (f := f) (own := own) (H := H) ho ht hu hx
  rwa [List.length_map] at this
 ·exact op_len_ms ho ht hu hx
theorem Wo.elem (hs : K.sym = false) {o1 o2 : Oper} {l : List Oper} {t e : TypeId} {x i : Operand} {v : AV} {xs : List Int} {k : IntKind} {n : Int} {j d1 d2 : Nat} (hv : View H v xs) (hj : j < xs.length) (hn : n = (j : Int))
  (g1 : o1.guard = none) (e1 : o1.dst = some d1) (ho1 : o1.op = .indexAddr t x i) (g2 : o2.guard = none) (e2 : o2.dst = some d2) (ho2 : o2.op = .load e (.tmp d1)) (hu : K.P.underlying t = some (.slice e)) (hz : tSize K.P e = some 1) (ha : tAgg K.P e = some false)
  (hx : evalO K R x = some v) (hi : evalO K R i = some (.v (.int k n))) (hd : d1 < R.length) (h : ∀ a, Wo K f ops l (setAt (setAt R d1 a) d2 (i64 xs[j])) own H Q) : Wo K f ops (o1 :: o2 :: l) R own H Q := by
 have get : ∀ a, evalO K (setAt R d1 a) (.tmp d1) = some a := fun a => by
  show nth (setAt R d1 a) d1 = some a
  have : ∀ (l : List AV) (i : Nat) (a : AV), i < l.length → nth (setAt l i a) i = some a := by
   intro l
   induction l with
   | nil => intro i a h; cases h
   | cons y r ih => intro i a h; cases i with
    | zero => rfl
    | succ i => exact ih i a (by simpa using h)
  exact this R d1 a hd
 rcases hv with ⟨tl, rfl, _⟩ | ⟨b, off, tt, cs, rfl, hb, hle, hc⟩
 ·refine Wo.doVal g1 e1 (op_indexAddr_sl (sz := 0) hs ho1 hu hz hx hi hn (j := j) (el := i64 xs[j]) (by simp [List.getElem?_map, List.getElem?_eq_getElem hj]) rfl) ?_
  exact Wo.doVal g2 e2 (op_load_rp ho2 (get _) (take_one ha hz)) (h _)
 ·refine Wo.doVal g1 e1 (op_indexAddr_ms (sz := 0) hs ho1 hu hz hx hi hn hj) ?_
  refine Wo.doVal g2 e2 (op_load_ptr ho2 (get _) hb (v := i64 xs[j]) ?_) (h _)
  have hq := hc j hj
  obtain ⟨hlt, hq⟩ := List.getElem?_eq_some_iff.1 hq
  have : cs.drop (off + j * (0 + 1)) = i64 xs[j] :: cs.drop (off + j + 1) := by
   rw [show off + j * (0 + 1) = off + j by omega, List.drop_eq_getElem_cons hlt, hq]
  rw [this]
  exact take_one ha hz
end
section
variable {K : Cfg} {f : FuncId} {o : Oper} {R : List AV} {own : Nat → Nat} {H : List AB}
theorem op_store1 {t : TypeId} {a x : Operand} {b off : Nat} {e : TypeId × Bool} {cs : List AV} {n : Int} (ho : o.op = .store t a x) (hz : tSize K.P t = some 1) (ha : evalO K R a = some (.ptr b off)) (hx : evalO K R x = some (i64 n)) (hb : nth H b = some (.cells e cs)) (hle : off + 1 ≤ cs.length) : aOp K f ⟨R, own, H⟩ o [] = some (.skip (setAt H b (.cells e (setAt cs off (i64 n)))), [], []) := by
 have h : aStore K H t (.ptr b off) (i64 n) = some (setAt H b (.cells e (setAt cs off (i64 n)))) := by
  simp only [aStore, hz, hb]
  rw [if_pos ⟨rfl, hle, rfl⟩]; rfl
 simp only [aOp, ho, ha, hx, h]; rfl
theorem op_slice_lo_ms (hs : K.sym = false) {t e : TypeId} {x l : Operand} {b off len j : Nat} {k : IntKind} {n : Int} (ho : o.op = .slice t x (some l) none none) (hu : K.P.underlying t = some (.slice e)) (hz : tSize K.P e = some 1) (hx : evalO K R x = some (.ms b off len 1)) (hl : evalO K R l = some (.v (.int k n))) (hn : n = (j : Int)) (hj : j ≤ len) : aOp K f ⟨R, own, H⟩ o [] = some (.val (if j = len then .sl [] .unk else .ms b (off + j * 1) (len - j) 1) own H, [], []) := by
 subst hn
 simp only [aOp, ho, hx, hl, Option.elim, Option.map]
 have hb : aBounds K len (some (.v (.int k (j : Int)))) none none [] = some ((j, len, none), [], []) := by
  simp only [aBounds, optI, asI, Option.map, hs]
  refine (E.bind_nil (a := ()) (by
   show E.chk false (decide (0 ≤ (j : Int) ∧ (j : Int) ≤ (len : Int) ∧ (len : Int) ≤ (len : Int) ∧ (len : Int) ≤ (len : Int))) [] = _
   rw [decide_eq_true (by omega)]; rfl)).trans ?_
  simp; rfl
 have h : aSlice K H t (.ms b off len 1) (some (.v (.int k (j : Int)))) none none [] = some (if j = len then .sl [] .unk else .ms b (off + j * 1) (len - j) 1, [], []) := by
  simp only [aSlice, hu, hz, hs]
  refine (E.bind_nil (a := ()) (by simp [E.chk])).trans ?_
  refine (E.bind_nil hb).trans ?_
  simp only [Option.getD_none]
  split <;> rfl
 exact (E.bind_nil h).trans rfl
theorem op_slice_hi_ms (hs : K.sym = false) {t e : TypeId} {x l : Operand} {b off len j : Nat} {k : IntKind} {n : Int} (ho : o.op = .slice t x none (some l) none) (hu : K.P.underlying t = some (.slice e)) (hz : tSize K.P e = some 1) (hx : evalO K R x = some (.ms b off len 1)) (hl : evalO K R l = some (.v (.int k n))) (hn : n = (j : Int)) (hj : j ≤ len) : aOp K f ⟨R, own, H⟩ o [] = some (.val (if 0 = len then .sl [] .unk else .ms b off j 1) own H, [], []) := by
 subst hn
 simp only [aOp, ho, hx, hl, Option.elim, Option.map]
 have hb : aBounds K len none (some (.v (.int k (j : Int)))) none [] = some ((0, j, none), [], []) := by
  simp only [aBounds, optI, asI, Option.map, hs]
  refine (E.bind_nil (a := ()) (by
   show E.chk false (decide (0 ≤ (0 : Int) ∧ (0 : Int) ≤ (j : Int) ∧ (j : Int) ≤ (len : Int) ∧ (len : Int) ≤ (len : Int))) [] = _
   rw [decide_eq_true (by omega)]; rfl)).trans ?_
  simp; rfl
 have h : aSlice K H t (.ms b off len 1) none (some (.v (.int k (j : Int)))) none [] = some (if 0 = len then .sl [] .unk else .ms b off j 1, [], []) := by
  simp only [aSlice, hu, hz, hs]
  refine (E.bind_nil (a := ()) (by simp [E.chk])).trans ?_
  refine (E.bind_nil hb).trans ?_
  simp only [Option.getD_none]
  split <;> rfl
 exact (E.bind_nil h).trans rfl
theorem op_slice_lo_ms' (hs : K.sym = false) {t e : TypeId} {x l : Operand} {b off len j : Nat} {k : IntKind} {n : Int} (ho : o.op = .slice t x (some l) none none) (hu : K.P.underlying t = some (.slice e)) (hz : tSize K.P e = some 1) (hx : evalO K R x = some (.ms b off len 1)) (hl : evalO K R l = some (.v (.int k n))) (hn : n = (j : Int)) (hj : j < len) : aOp K f ⟨R, own, H⟩ o [] = some (.val (.ms b (off + j) (len - j - 1 + 1) 1) own H, [], []) := by
 have h := op_slice_lo_ms (f := f) (own := own) (H := H) hs ho hu hz hx hl hn (Nat.le_of_lt hj)
 rw [if_neg (by omega), Nat.mul_one] at h
 rw [h, show len - j - 1 + 1 = len - j by omega]
theorem op_slice_hi_ms' (hs : K.sym = false) {t e : TypeId} {x l : Operand} {b off len j : Nat} {k : IntKind} {n : Int} (ho : o.op = .slice t x none (some l) none) (hu : K.P.underlying t = some (.slice e)) (hz : tSize K.P e = some 1) (hx : evalO K R x = some (.ms b off len 1)) (hl : evalO K R l = some (.v (.int k n))) (hn : n = (j : Int)) (hj : j ≤ len) (h0 : 0 < len) : aOp K f ⟨R, own, H⟩ o [] = some (.val (.ms b off j 1) own H, [], []) := by
 have h := op_slice_hi_ms (f := f) (own := own) (H := H) hs ho hu hz hx hl hn hj
 rwa [if_neg (by omega)] at h
theorem op_clear_ms {t e : TypeId} {x : Operand} {ts : Array TypeId} {b off len : Nat} {tt : TypeId × Bool} {cs : List AV} {z : AV} (ho : o.op = .call { callee := .builtin .clear, args := #[x], argTypes := ts }) (ht : ts.toList = [t]) (hu : K.P.underlying t = some (.slice e)) (h0 : tZero K.P e = some z) (hz : z.cells.length = 1) (hx : evalO K R x = some (.ms b off (len + 1) 1)) (hb : nth H b = some (.cells tt cs)) (hle : off + (len + 1) ≤ cs.length) : aOp K f ⟨R, own, H⟩ o [] = some (.val .undef own (setAt H b (.cells tt (putAll cs off (rep z.cells (len + 1))))), [], []) := by
 have hm : mapO (evalO K R) [x] = some [.ms b off (len + 1) 1] := by simp [mapO, hx]
 have h : aClear K H t (.ms b off (len + 1) 1) = some (setAt H b (.cells tt (putAll cs off (rep z.cells (len + 1))))) := by
  simp only [aClear, hu, hb, h0]
  rw [if_pos ⟨hz, by omega, by omega⟩]
 simp only [aOp, ho, ht, hm, aBuiltin, h]; rfl
end
theorem Tells.plain {K : Cfg} {f : FuncId} {fn : Func} {c : Code} {args args' : List AV} {m : Nat} {H : List AB} {v : Value} (hf : K.P.funcs[f]? = some fn) (hc : fn.body = some c) (ha : args.map AV.unown = args') (hm : fn.ntmps - args.length = m) (e1 : K.libv f = none) (e2 : K.lib f = none)
  (h : ∀ H0, (H0 = H ∨ AV.closedL args = true) → Wc K f c (enter m args') (fun _ => 0) H0 (EndQ K fn fun r H' => r = .v v ∧ H' = H0)) : Tells K f args H fun r H' => r = .v v ∧ H' = H := by
 cases e3 : K.vals f && AV.closedL args with
 | false =>
  exact Tells.mem hf hc ha hm e1 e2 e3 (h H (.inl rfl))
 | true =>
  have hcl : AV.closedL args = true := by
   cases hq : AV.closedL args with
   | true => rfl
   | false => rw [hq] at e3; simp at e3
  refine Tells.vals hf hc ha hm e1 e2 e3 (W.mono (h [] (.inr hcl)) fun x hx => ?_)
  obtain ⟨he, r, hr, rfl, hH⟩ := hx
  exact ⟨he, _, hr, .v v, rfl, rfl, rfl, rfl⟩
end Go.Tm
end
section
namespace Go.Tm
theorem Wo.void {K : Cfg} {f : FuncId} {ops : Array Oper} {Q : AX → St → Prop} {R : List AV} {own : Nat → Nat} {H : List AB} {o : Oper} {l : List Oper} {j d : Nat} {want : Bool} (hg : o.guard = some (j, want)) (hd : o.dst = some d) (hy : aYield R ops j = none) (h : Wo K f ops l (setAt R d .undef) own H Q) : Wo K f ops (o :: l) R own H Q := by
 refine W.eqv h fun n => ?_
 show aList K (aCall K n) f ops (o :: l) ⟨R, own, H⟩ [] = _
 rw [aList]
 simp only [hg, hy, hd]
 rfl
section
variable {K : Cfg} {f : FuncId} {ops : Array Oper} {Q : AX → St → Prop} {R : List AV} {own : Nat → Nat} {H : List AB} {l : List Oper} {a : Tmp} {c : TypeId} {d : String} {e : Array Edge}
theorem jm {x : Operand} {v : AV} (hx : evalO K R x = some v) (h : Wo K f ops l (setAt R a v) own H Q) : Wo K f ops (⟨some a, .move x, c, d, e, none⟩ :: l) R own H Q := Wo.doVal rfl rfl (op_move rfl hx) h
theorem jn {x : Operand} {v : AV} (hx : evalO K R x = some v) (h : Wo K f ops l (setAt R a v) own H Q) : Wo K f ops (⟨some a, .assign x, c, d, e, none⟩ :: l) R own H Q := Wo.doVal rfl rfl (op_assign rfl hx) h
theorem jb {op : BinOp} {t u : TypeId} {x y : Operand} {p q r : Value} (hx : evalO K R x = some (.v p)) (hy : evalO K R y = some (.v q)) (hr : pureRun K.P (do eqGuard op t x y p q; binOp op t p q) = some r) (hf : flat r = true) (h : Wo K f ops l (setAt R a (.v r)) own H Q) : Wo K f ops (⟨some a, .binOp op t x y u, c, d, e, none⟩ :: l) R own H Q := Wo.doVal rfl rfl (op_bin rfl hx hy hr hf) h
theorem ju {op : UnOp} {t : TypeId} {x : Operand} {p r : Value} (hx : evalO K R x = some (.v p)) (hr : pureRun K.P (Op.unary op p) = some r) (hf : flat r = true) (h : Wo K f ops l (setAt R a (.v r)) own H Q) : Wo K f ops (⟨some a, .unOp op t x, c, d, e, none⟩ :: l) R own H Q := Wo.doVal rfl rfl (op_un rfl hx hr hf) h
theorem jp (hs : K.sym = false) {x y z : Operand} {t : Bool} {v w : AV} (ht : t = true) (hc : evalO K R x = some (.v (.bool t))) (hx : evalO K R y = some v) (hy : evalO K R z = some w) (h : Wo K f ops l (setAt R a v) own H Q) : Wo K f ops (⟨some a, .pick x y z, c, d, e, none⟩ :: l) R own H Q := Wo.doVal rfl rfl (op_pick_t hs ht rfl hc hx hy) h
theorem jq (hs : K.sym = false) {x y z : Operand} {t : Bool} {v w : AV} (ht : t = false) (hc : evalO K R x = some (.v (.bool t))) (hx : evalO K R y = some v) (hy : evalO K R z = some w) (h : Wo K f ops l (setAt R a w) own H Q) : Wo K f ops (⟨some a, .pick x y z, c, d, e, none⟩ :: l) R own H Q := Wo.doVal rfl rfl (op_pick_f hs ht rfl hc hx hy) h
theorem jl {t u : TypeId} {x : Operand} {xs : List AV} {tl : Tail} (hu : K.P.underlying t = some (.slice u)) (hx : evalO K R x = some (.sl xs tl)) (h : Wo K f ops l (setAt R a (.v (goInt xs.length))) own H Q) : Wo K f ops (⟨some a, .call { callee := .builtin .len, args := #[x], argTypes := #[t] }, c, d, e, none⟩ :: l) R own H Q := Wo.doVal rfl rfl (op_len_sl rfl rfl hu hx) h
theorem jk {t : TypeId} {x : Operand} {xs : List UInt8} (hu : K.P.underlying t = some .string) (hx : evalO K R x = some (.str xs)) (h : Wo K f ops l (setAt R a (.v (goInt xs.length))) own H Q) : Wo K f ops (⟨some a, .call { callee := .builtin .len, args := #[x], argTypes := #[t] }, c, d, e, none⟩ :: l) R own H Q := Wo.doVal rfl rfl (op_len_str rfl rfl hu hx) h
theorem jy (hs : K.sym = false) {op : Op} {j : Nat} {want b : Bool} {dd : Option Tmp} (hy : aYield R ops j = some b) (hb : (b == want) = true) (h : Wo K f ops (⟨dd, op, c, d, e, none⟩ :: l) R own H Q) : Wo K f ops (⟨dd, op, c, d, e, some (j, want)⟩ :: l) R own H Q := Wo.yes hs rfl hy hb h
theorem jz (hs : K.sym = false) {op : Op} {j : Nat} {want b : Bool} (hy : aYield R ops j = some b) (hb : (b == want) = false) (h : Wo K f ops l (setAt R a .undef) own H Q) : Wo K f ops (⟨some a, op, c, d, e, some (j, want)⟩ :: l) R own H Q := Wo.not hs rfl rfl hy hb h
theorem jv {op : Op} {j : Nat} {want : Bool} (hy : aYield R ops j = none) (h : Wo K f ops l (setAt R a .undef) own H Q) : Wo K f ops (⟨some a, op, c, d, e, some (j, want)⟩ :: l) R own H Q := Wo.void rfl rfl hy h
end
theorem Wo.conv {K : Cfg} {f : FuncId} {ops : Array Oper} {Q : AX → St → Prop} {R : List AV} {own : Nat → Nat} {H : List AB} {l : List Oper} {a : Tmp} {c : TypeId} {d : String} {e : Array Edge} {s u : TypeId} {x : Operand} {k0 k1 k2 : IntKind} {n : Int} (h1 : K.P.underlying s = some (.int k1)) (h2 : K.P.underlying u = some (.int k2)) (hx : evalO K R x = some (.v (.int k0 n))) (h : Wo K f ops l (setAt R a (.v (.int k2 (k2.wrap n)))) own H Q) : Wo K f ops (⟨some a, .convert s u x, c, d, e, none⟩ :: l) R own H Q := by
 refine Wo.doVal rfl rfl (x := .v (.int k2 (k2.wrap n))) (own' := own) (H' := H) ?_ h
 simp only [aOp, hx, aKeep]
 have e1 : aUnsafe K H s u (.v (.int k0 n)) = none := by simp only [aUnsafe, h1, h2]
 have e2 : aConvertM K H s u (.v (.int k0 n)) = none := by simp only [aConvertM, h1, h2]
 have e3 : aConvert K s u (.v (.int k0 n)) = some (.v (.int k2 (k2.wrap n))) := by simp only [aConvert, h1, h2]
 simp only [e1, e2, e3]
 rfl
theorem j0 : (∀ (r : List AV) (x y : AV), setAt (x :: r) 0 y = y :: r) ∧ (∀ (r : List AV) (x y : AV) (n : Nat), setAt (x :: r) (n + 1) y = x :: setAt r n y) ∧ (∀ (m : Nat) (args : List AV), enter m args = args ++ List.replicate m .undef) ∧ (∀ (n : Nat) (a : AV), List.replicate (n + 1) a = a :: List.replicate n a) ∧ (∀ a : AV, List.replicate 0 a = []) ∧ (∀ (a : AV) (l m : List AV), a :: l ++ m = a :: (l ++ m)) ∧ ∀ l : List AV, [] ++ l = l := ⟨fun _ _ _ => rfl, fun _ _ _ _ => rfl, fun _ _ => rfl, fun _ _ => rfl, fun _ => rfl, fun _ _ _ => rfl, fun _ => rfl⟩
section
variable {K : Cfg} {f : FuncId} {R : List AV} {own : Nat → Nat} {H : List AB}
theorem jQ {Q : AX → St → Prop} {c : Operand} {a b : Code} (h : Wc K f (.cond c a b) R own H Q) : Wc K f (.cond c a b) R own H Q := h
theorem jR (hs : K.sym = false) {Q : AX → St → Prop} {c : Operand} {a b : Code} {t : Bool} (hc : evalO K R c = some (.v (.bool t))) (ht : t = true) (h : Wc K f a R own H Q) : Wc K f (.cond c a b) R own H Q := Wc.cond hs hc (fun _ => h) (fun q => absurd (ht.symm.trans q) (by simp))
theorem jS (hs : K.sym = false) {Q : AX → St → Prop} {c : Operand} {a b : Code} {t : Bool} (hc : evalO K R c = some (.v (.bool t))) (ht : t = false) (h : Wc K f b R own H Q) : Wc K f (.cond c a b) R own H Q := Wc.cond hs hc (fun q => absurd (ht.symm.trans q) (by simp)) (fun _ => h)
end
theorem jA : type_of% @Wc.seq := @Wc.seq
theorem jC : type_of% @Wc.region := @Wc.region
theorem jD : type_of% @Wo.nil := @Wo.nil
theorem jE : type_of% @Wc.block := @Wc.block
theorem jF : type_of% @Wc.skip := @Wc.skip
theorem jG : type_of% @Wc.exit := @Wc.exit
theorem jH : type_of% @Wc.retn := @Wc.retn
theorem jI : type_of% @SeqQ.exit := @SeqQ.exit
theorem jJ : type_of% @SeqQ.ret := @SeqQ.ret
theorem jK : type_of% @BlkQ.normal := @BlkQ.normal
theorem jL : type_of% @BlkQ.ret := @BlkQ.ret
theorem jM : type_of% @BlkQ.hit := @BlkQ.hit
theorem jN : type_of% @LoopQ.exit := @LoopQ.exit
theorem jO : type_of% @LoopQ.ret := @LoopQ.ret
theorem jP : type_of% @BlkQ.miss := @BlkQ.miss
theorem jT : type_of% @Wo.norm := @Wo.norm
end Go.Tm
end
