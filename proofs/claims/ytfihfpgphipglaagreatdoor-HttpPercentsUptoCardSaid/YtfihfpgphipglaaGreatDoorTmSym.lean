/- The tree machine over unknown values: what a code does, told by what holds behind it; loops by induction. -/
import Derived.Test.YtfihfpgphipglaaGreatDoorTmDefs
set_option linter.unusedVariables false
set_option linter.unusedSimpArgs false
set_option linter.unusedSectionVars false
namespace Go.Tm

theorem E.bind_nil {α β : Type} {x : E α} {f : α → E β} {a : α} (h : x [] = some (a, [], [])) : (x >>= f) [] = f a [] := by
  show E.bind x f [] = _
  simp only [E.bind, h]
  cases f a [] with
  | none => rfl
  | some t => rfl
/-- With fuel enough the run answers, asks for no branch, and the answer meets Q. -/
def W {α : Type} (x : Nat → E α) (Q : α → Prop) : Prop := ∃ a N, (∀ n, N ≤ n → x n [] = some (a, [], [])) ∧ Q a

theorem W.ret {α : Type} {a : α} {Q : α → Prop} {x : Nat → E α} (h : ∀ n, x n [] = some (a, [], [])) (q : Q a) : W x Q := ⟨a, 0, fun n _ => h n, q⟩
theorem W.mono {α : Type} {x : Nat → E α} {Q R : α → Prop} (h : W x Q) (hq : ∀ a, Q a → R a) : W x R := by
  obtain ⟨a, N, h1, h2⟩ := h
  exact ⟨a, N, h1, hq a h2⟩
theorem W.eqv {α : Type} {x y : Nat → E α} {Q : α → Prop} (h : W y Q) (e : ∀ n, x n [] = y n []) : W x Q := by
  obtain ⟨a, N, h1, h2⟩ := h
  exact ⟨a, N, fun n hn => by rw [e, h1 n hn], h2⟩
theorem W.bind {α β : Type} {x : Nat → E α} {f : Nat → α → E β} {Q : β → Prop} (h : W x fun a => W (fun n => f n a) Q) : W (fun n => x n >>= f n) Q := by
  obtain ⟨a, N, h1, b, M, h2, h3⟩ := h
  refine ⟨b, max N M, fun n hn => ?_, h3⟩
  show E.bind (x n) (f n) [] = _
  simp only [E.bind, h1 n (by omega), h2 n (by omega), List.append_nil]

/-- A code's run, its calls by the machine itself. -/
def C (K : Cfg) (f : FuncId) (c : Code) (s : St) : Nat → E (AX × St) := fun n => aCode K (aCall K n) f (n + 1) c s
/-- A list of operations. -/
def L (K : Cfg) (f : FuncId) (ops : Array Oper) (l : List Oper) (s : St) : Nat → E St := fun n => aList K (aCall K n) f ops l s

/-! What must hold behind a code: by the way in which it was left. -/
/-- Behind the first of two codes. -/
def SeqQ (K : Cfg) (f : FuncId) (b : Code) (Q : AX → St → Prop) : AX → St → Prop
  | .normal, s => W (C K f b s) fun x => Q x.1 x.2
  | e, s => Q e s
/-- Behind a block's code. -/
def BlkQ (id : Nat) (Q : AX → St → Prop) : AX → St → Prop
  | .exit i, s => if i = id then Q .normal s else Q (.exit i) s
  | e, s => Q e s
/-- Behind a loop's round. -/
def LoopQ (I : Nat → St → Prop) (m : Nat) (Q : AX → St → Prop) : AX → St → Prop
  | .normal, s => ∃ m', m' < m ∧ I m' s
  | e, s => Q e s
/-- A code's run, told by what holds behind it. -/
def Wc (K : Cfg) (f : FuncId) (c : Code) (R : List AV) (own : Nat → Nat) (H : List AB) (Q : AX → St → Prop) : Prop := W (C K f c ⟨R, own, H⟩) fun x => Q x.1 x.2
section
variable {K : Cfg} {f : FuncId} {R : List AV} {own : Nat → Nat} {H : List AB} {s : St} {Q : AX → St → Prop}
theorem SeqQ.normal {b : Code} (h : Wc K f b R own H Q) : SeqQ K f b Q .normal ⟨R, own, H⟩ := h
theorem SeqQ.id {b : Code} (h : SeqQ K f b Q .normal ⟨R, own, H⟩) : SeqQ K f b Q .normal ⟨R, own, H⟩ := h
theorem SeqQ.norm {b : Code} {R' : List AV} (e : R = R') (h : Wc K f b R' own H Q) : SeqQ K f b Q .normal ⟨R, own, H⟩ := by subst e; exact h
theorem SeqQ.exit {b : Code} {i : Nat} (h : Q (.exit i) s) : SeqQ K f b Q (.exit i) s := h
theorem SeqQ.ret {b : Code} (h : Q .ret s) : SeqQ K f b Q .ret s := h
theorem BlkQ.normal {id : Nat} (h : Q .normal s) : BlkQ id Q .normal s := h
theorem BlkQ.hit {id : Nat} (h : Q .normal s) : BlkQ id Q (.exit id) s := by simp [BlkQ, h]
theorem BlkQ.miss {id i : Nat} (e : i ≠ id) (h : Q (.exit i) s) : BlkQ id Q (.exit i) s := by simp [BlkQ, e, h]
theorem BlkQ.ret {id : Nat} (h : Q .ret s) : BlkQ id Q .ret s := h
theorem LoopQ.normal {I : Nat → St → Prop} {m : Nat} (m' : Nat) (hm : m' < m) (h : I m' s) : LoopQ I m Q .normal s := ⟨m', hm, h⟩
theorem LoopQ.exit {I : Nat → St → Prop} {m i : Nat} (h : Q (.exit i) s) : LoopQ I m Q (.exit i) s := h
theorem LoopQ.ret {I : Nat → St → Prop} {m : Nat} (h : Q .ret s) : LoopQ I m Q .ret s := h

theorem Wc.skip (h : Q .normal ⟨R, own, H⟩) : Wc K f .skip R own H Q := W.ret (fun _ => rfl) h
theorem Wc.exit {id : Nat} (h : Q (.exit id) ⟨R, own, H⟩) : Wc K f (.exit id) R own H Q := W.ret (fun _ => rfl) h
theorem Wc.retn (h : Q .ret ⟨R, own, H⟩) : Wc K f .ret R own H Q := W.ret (fun _ => rfl) h
theorem Wc.seq {a b : Code} (h : Wc K f a R own H (SeqQ K f b Q)) : Wc K f (.seq a b) R own H Q := by
  refine W.bind (x := C K f a ⟨R, own, H⟩) (f := fun n x => match x.1 with | .normal => C K f b x.2 n | e => pure (e, x.2)) (W.mono h fun x hx => ?_)
  obtain ⟨e, s'⟩ := x
  cases e with
  | normal => exact hx
  | exit i => exact W.ret (fun _ => rfl) hx
  | ret => exact W.ret (fun _ => rfl) hx
theorem Wc.cond (hs : K.sym = false) {c : Operand} {a b : Code} {t : Bool} (hc : evalO K R c = some (.v (.bool t))) (h1 : t = true → Wc K f a R own H Q) (h2 : t = false → Wc K f b R own H Q) : Wc K f (.cond c a b) R own H Q := by
  cases t with
  | true =>
    refine W.eqv (h1 rfl) fun n => ?_
    show aCode K (aCall K n) f (n + 1) (.cond c a b) ⟨R, own, H⟩ [] = _
    simp only [aCode, hc, hs]
    exact (E.bind_nil (a := true) rfl).trans (by rw [if_pos rfl]; rfl)
  | false =>
    refine W.eqv (h2 rfl) fun n => ?_
    show aCode K (aCall K n) f (n + 1) (.cond c a b) ⟨R, own, H⟩ [] = _
    simp only [aCode, hc, hs]
    exact (E.bind_nil (a := false) rfl).trans (by rw [if_neg (by simp)]; rfl)
theorem Wc.block {id : Nat} {a : Code} (h : Wc K f a R own H (BlkQ id Q)) : Wc K f (.block id a) R own H Q := by
  refine W.bind (x := C K f a ⟨R, own, H⟩) (f := fun _ x => match x.1 with | .exit i => if i = id then pure (.normal, x.2) else pure (.exit i, x.2) | e => pure (e, x.2)) (W.mono h fun x hx => ?_)
  obtain ⟨e, s'⟩ := x
  cases e with
  | normal => exact W.ret (fun _ => rfl) hx
  | ret => exact W.ret (fun _ => rfl) hx
  | exit i =>
    simp only [BlkQ] at hx ⊢
    split at hx
    · rename_i e; subst e; exact W.ret (fun _ => by simp; rfl) hx
    · rename_i e; exact W.ret (fun _ => by simp [e]; rfl) hx

/-- A loop's run from a state on, whatever its fuel. -/
def Wl (K : Cfg) (f : FuncId) (a : Code) (s : St) (Q : AX → St → Prop) : Prop := ∃ x N M, (∀ n k, N ≤ n → M ≤ k → iter (fun s => C K f a s n) k s [] = some (x, [], [])) ∧ Q x.1 x.2
theorem Wl.step {a : Code} (h : W (C K f a s) fun x => match x.1 with
    | .normal => Wl K f a x.2 Q
    | _ => Q x.1 x.2) : Wl K f a s Q := by
  obtain ⟨⟨e, s'⟩, N, h1, h2⟩ := h
  cases e with
  | normal =>
    obtain ⟨y, N', M', h3, h4⟩ := h2
    refine ⟨y, max N N', M' + 1, fun n k hn hk => ?_, h4⟩
    obtain ⟨k, rfl⟩ : ∃ j, k = j + 1 := ⟨k - 1, by omega⟩
    exact (E.bind_nil (x := C K f a s n) (h1 n (by omega))).trans (h3 n k (by omega) (by omega))
  | exit i =>
    refine ⟨_, N, 1, fun n k hn hk => ?_, h2⟩
    obtain ⟨k, rfl⟩ : ∃ j, k = j + 1 := ⟨k - 1, by omega⟩
    exact (E.bind_nil (x := C K f a s n) (h1 n (by omega))).trans rfl
  | ret =>
    refine ⟨_, N, 1, fun n k hn hk => ?_, h2⟩
    obtain ⟨k, rfl⟩ : ∃ j, k = j + 1 := ⟨k - 1, by omega⟩
    exact (E.bind_nil (x := C K f a s n) (h1 n (by omega))).trans rfl
/-- A loop with an invariant and a measure. -/
theorem Wc.inv {a : Code} (I : Nat → St → Prop) (m : Nat) (h0 : I m ⟨R, own, H⟩) (h : ∀ m R own H, I m ⟨R, own, H⟩ → Wc K f a R own H (LoopQ I m Q)) : Wc K f (.loop a) R own H Q := by
  have key : ∀ (m : Nat) (s : St), I m s → Wl K f a s Q := by
    intro m
    induction m using Nat.strongRecOn with
    | ind m ih =>
      intro s h0
      obtain ⟨R, own, H⟩ := s
      refine Wl.step (W.mono (h m R own H h0) fun x hx => ?_)
      obtain ⟨e, s'⟩ := x
      cases e with
      | normal => obtain ⟨m', hm, hi⟩ := hx; exact ih m' hm s' hi
      | exit i => exact hx
      | ret => exact hx
  obtain ⟨x, N, M, h1, h2⟩ := key m _ h0
  exact ⟨x, max N M, fun n hn => h1 n (n + 1) (by omega) (by omega), h2⟩
/-- A list of operations, told by what holds behind it. -/
def Wo (K : Cfg) (f : FuncId) (ops : Array Oper) (l : List Oper) (R : List AV) (own : Nat → Nat) (H : List AB) (Q : AX → St → Prop) : Prop := W (L K f ops l ⟨R, own, H⟩) (Q .normal)
theorem Wc.region {id : Nat} {ops : Array Oper} (h : Wo K f ops ops.toList R own H Q) : Wc K f (.region id ops false) R own H Q := by
  refine W.bind (x := L K f ops ops.toList ⟨R, own, H⟩) (f := fun _ s => pure (AX.normal, s)) (W.mono h fun s hs => W.ret (a := (AX.normal, s)) (fun _ => rfl) hs)
/-- A code in the middle: what holds behind it, once for all ways through it. -/
theorem Wc.mid {c b : Code} (P : St → Prop) (h : Wc K f c R own H fun e s => e = .normal ∧ P s) (hn : ∀ R own H, P ⟨R, own, H⟩ → SeqQ K f b Q .normal ⟨R, own, H⟩) : Wc K f c R own H (SeqQ K f b Q) :=
  W.mono h fun x hx => by
    obtain ⟨e, R, own, H⟩ := x
    obtain ⟨rfl, hp⟩ := hx
    exact hn R own H hp
theorem Wc.regs {c : Code} {R' : List AV} (e : R = R') (h : Wc K f c R' own H Q) : Wc K f c R own H Q := by subst e; exact h
end

section
variable {K : Cfg} {f : FuncId} {ops : Array Oper} {Q : AX → St → Prop} {R : List AV} {own : Nat → Nat} {H : List AB}
theorem Wo.nil (h : Q .normal ⟨R, own, H⟩) : Wo K f ops [] R own H Q := W.ret (fun _ => rfl) h
theorem list_go {s : St} {call : Orc} {o : Oper} {l : List Oper} (hg : o.guard = none) : aList K call f ops (o :: l) s = (aDo K call f o s >>= fun s => aList K call f ops l s) := by
  rw [aList]
  simp only [hg]
theorem Wo.doVal {o : Oper} {l : List Oper} {x : AV} {own' : Nat → Nat} {H' : List AB} {d : Nat} (hg : o.guard = none) (hd : o.dst = some d) (ho : aOp K f ⟨R, own, H⟩ o [] = some (.val x own' H', [], [])) (h : Wo K f ops l (setAt R d x) own' H' Q) : Wo K f ops (o :: l) R own H Q := by
  refine W.eqv h fun n => ?_
  show aList K (aCall K n) f ops (o :: l) ⟨R, own, H⟩ [] = _
  rw [list_go hg, E.bind_nil (a := ⟨setAt R d x, own', H'⟩)]
  · rfl
  · unfold aDo
    rw [E.bind_nil ho, hd]; rfl
theorem Wo.doSkip {o : Oper} {l : List Oper} {H' : List AB} (hg : o.guard = none) (hd : o.dst = none) (ho : aOp K f ⟨R, own, H⟩ o [] = some (.skip H', [], [])) (h : Wo K f ops l R own H' Q) : Wo K f ops (o :: l) R own H Q := by
  refine W.eqv h fun n => ?_
  show aList K (aCall K n) f ops (o :: l) ⟨R, own, H⟩ [] = _
  rw [list_go hg, E.bind_nil (a := ⟨R, own, H'⟩)]
  · rfl
  · unfold aDo
    rw [E.bind_nil ho, hd]; rfl
/-- An operation whose value goes nowhere. -/
theorem Wo.doNone {o : Oper} {l : List Oper} {x : AV} {own' : Nat → Nat} {H' : List AB} (hg : o.guard = none) (hd : o.dst = none) (ho : aOp K f ⟨R, own, H⟩ o [] = some (.val x own' H', [], [])) (h : Wo K f ops l R own' H' Q) : Wo K f ops (o :: l) R own H Q := by
  refine W.eqv h fun n => ?_
  show aList K (aCall K n) f ops (o :: l) ⟨R, own, H⟩ [] = _
  rw [list_go hg, E.bind_nil (a := ⟨R, own', H'⟩)]
  · rfl
  · unfold aDo
    rw [E.bind_nil ho, hd]; rfl
/-- The registers, written out. -/
theorem Wo.norm {l : List Oper} {R' : List AV} (e : R = R') (h : Wo K f ops l R' own H Q) : Wo K f ops l R own H Q := by subst e; exact h
theorem Wo.id {l : List Oper} (h : Wo K f ops l R own H Q) : Wo K f ops l R own H Q := h
/-- What a call tells, and leaves. -/
def Tells (K : Cfg) (f : FuncId) (args : List AV) (H : List AB) (Q : AV → List AB → Prop) : Prop := W (fun n => aCall K n f args H) fun x => Q x.1 x.2
theorem Tells.mono {args : List AV} {Q R : AV → List AB → Prop} (h : Tells K f args H Q) (hq : ∀ r H', Q r H' → R r H') : Tells K f args H R := W.mono h fun x hx => hq x.1 x.2 hx
theorem Wo.doCall {o : Oper} {l : List Oper} {g : FuncId} {args : List AV} {d : Nat} (hg : o.guard = none) (hd : o.dst = some d) (ho : aOp K f ⟨R, own, H⟩ o [] = some (.call g args, [], [])) (h : Tells K g args H fun r H' => Wo K f ops l (setAt R d r.unown) own H' Q) : Wo K f ops (o :: l) R own H Q := by
  obtain ⟨⟨r, H'⟩, N, h1, h2⟩ := h
  obtain ⟨a, M, h3, h4⟩ := h2
  refine ⟨a, max N M, fun n hn => ?_, h4⟩
  show aList K (aCall K n) f ops (o :: l) ⟨R, own, H⟩ [] = _
  rw [list_go hg, E.bind_nil (a := ⟨setAt R d r.unown, own, H'⟩)]
  · exact h3 n (by omega)
  · unfold aDo
    rw [E.bind_nil ho, hd]
    exact (E.bind_nil (h1 n (by omega))).trans rfl
/-- A guarded operation that is not done. -/
theorem Wo.not (hs : K.sym = false) {o : Oper} {l : List Oper} {j d : Nat} {want b : Bool} (hg : o.guard = some (j, want)) (hd : o.dst = some d) (hy : aYield R ops j = some b) (hb : (b == want) = false) (h : Wo K f ops l (setAt R d .undef) own H Q) : Wo K f ops (o :: l) R own H Q := by
  refine W.eqv h fun n => ?_
  show aList K (aCall K n) f ops (o :: l) ⟨R, own, H⟩ [] = _
  rw [aList]
  simp only [hg, hy, hb, hs, hd]
  rw [E.bind_nil (a := false) rfl]
  rfl
/-- A guarded operation that is done. -/
theorem list_yes {s : St} (hs : K.sym = false) {call : Orc} {o : Oper} {l : List Oper} {j : Nat} {want b : Bool} (hg : o.guard = some (j, want)) (hy : aYield s.regs ops j = some b) (hb : (b == want) = true) : aList K call f ops (o :: l) s [] = (aDo K call f o s >>= fun s => aList K call f ops l s) [] := by
  rw [aList]
  simp only [hg, hy, hb, hs]
  rw [E.bind_nil (a := true) rfl]
  rfl
theorem Wo.yes (hs : K.sym = false) {o : Oper} {l : List Oper} {j : Nat} {want b : Bool} (hg : o.guard = some (j, want)) (hy : aYield R ops j = some b) (hb : (b == want) = true) (h : Wo K f ops ({ o with guard := none } :: l) R own H Q) : Wo K f ops (o :: l) R own H Q := by
  refine W.eqv h fun n => ?_
  show aList K (aCall K n) f ops (o :: l) ⟨R, own, H⟩ [] = aList K (aCall K n) f ops ({ o with guard := none } :: l) ⟨R, own, H⟩ []
  rw [list_yes hs hg hy hb, list_go rfl]
  rfl
theorem dead_of {R : List AV} {F : (Nat → AV) → List AV} (h : R = F fun i => (nth R i).getD .undef) : ∃ d, R = F d := ⟨_, h⟩
end
/-- The state in which a function begins. -/
def enter (m : Nat) (args : List AV) : List AV := args ++ List.replicate m .undef
/-- Behind a function's code: it was left by its end or a return, and tells its results. -/
def EndQ (K : Cfg) (fn : Func) (Q : AV → List AB → Prop) (e : AX) (s : St) : Prop := (∀ i, e ≠ .exit i) ∧ ∃ r, aResults K s.H s.regs fn.results.toList = some r ∧ Q r s.H
theorem EndQ.ret {K : Cfg} {fn : Func} {Q : AV → List AB → Prop} {s : St} {r : AV} (hr : aResults K s.H s.regs fn.results.toList = some r) (h : Q r s.H) : EndQ K fn Q .ret s := ⟨fun _ => nofun, r, hr, h⟩
theorem EndQ.normal {K : Cfg} {fn : Func} {Q : AV → List AB → Prop} {s : St} {r : AV} (hr : aResults K s.H s.regs fn.results.toList = some r) (h : Q r s.H) : EndQ K fn Q .normal s := ⟨fun _ => nofun, r, hr, h⟩
def Tail.un : Tail → Tail
  | .own _ _ _ => .unk
  | t => t
theorem unown_sl (xs : List AV) (tl : Tail) : (AV.sl xs tl).unown = .sl xs tl.un := by cases tl <;> rfl
theorem un_un (tl : Tail) : tl.un.un = tl.un := by cases tl <;> rfl
theorem body_runs {K : Cfg} {f : FuncId} {fn : Func} {c : Code} {args args' : List AV} {m : Nat} {H : List AB} {Q : AV × List AB → Prop} (hf : K.P.funcs[f]? = some fn) (hc : fn.body = some c) (ha : args.map AV.unown = args') (hm : fn.ntmps - args.length = m) (h : Wc K f c (enter m args') (fun _ => 0) H (EndQ K fn fun r H => Q (r, H))) : W (fun n => aBody K (aCall K n) (n + 1) f args H) Q := by
  subst ha hm
  obtain ⟨⟨e, s⟩, N, h1, he, r, hr, hq⟩ := h
  refine ⟨(r, s.H), N, fun n hn => ?_, hq⟩
  unfold aBody
  rw [hf]
  simp only [hc]
  refine (E.bind_nil (h1 n hn)).trans ?_
  cases e with
  | exit i => exact absurd rfl (he i)
  | normal =>
    show (E.of (aResults K s.H s.regs fn.results.toList) >>= fun r => pure (r, s.H)) [] = _
    rw [hr]; rfl
  | ret =>
    show (E.of (aResults K s.H s.regs fn.results.toList) >>= fun r => pure (r, s.H)) [] = _
    rw [hr]; rfl
theorem Tells.mem {K : Cfg} {f : FuncId} {fn : Func} {c : Code} {args args' : List AV} {m : Nat} {H : List AB} {Q : AV → List AB → Prop} (hf : K.P.funcs[f]? = some fn) (hc : fn.body = some c) (ha : args.map AV.unown = args') (hm : fn.ntmps - args.length = m) (e1 : K.libv f = none) (e2 : K.lib f = none) (e3 : (K.vals f && AV.closedL args) = false) (h : Wc K f c (enter m args') (fun _ => 0) H (EndQ K fn Q)) : Tells K f args H Q := by
  obtain ⟨a, N, h1, h2⟩ := body_runs (Q := fun x => Q x.1 x.2) hf hc ha hm h
  refine ⟨a, N + 1, fun n hn => ?_, h2⟩
  obtain ⟨n, rfl⟩ : ∃ j, n = j + 1 := ⟨n - 1, by omega⟩
  show aCallW K (aCall K n) (n + 1) f args H [] = _
  unfold aCallW
  simp only [e1, e2, e3]
  exact h1 n (by omega)
theorem Tells.vals {K : Cfg} {f : FuncId} {fn : Func} {c : Code} {args args' : List AV} {m : Nat} {H : List AB} {Q : AV → List AB → Prop} (hf : K.P.funcs[f]? = some fn) (hc : fn.body = some c) (ha : args.map AV.unown = args') (hm : fn.ntmps - args.length = m) (e1 : K.libv f = none) (e2 : K.lib f = none) (e3 : (K.vals f && AV.closedL args) = true) (h : Wc K f c (enter m args') (fun _ => 0) [] (EndQ K fn fun r H' => ∃ r', snap H' 6 r = some r' ∧ r'.closed = true ∧ Q r' H)) : Tells K f args H Q := by
  obtain ⟨⟨r, H'⟩, N, h1, r', h2, h3, h4⟩ := body_runs (Q := fun x => ∃ r', snap x.2 6 x.1 = some r' ∧ r'.closed = true ∧ Q r' H) hf hc ha hm h
  refine ⟨(r', H), N + 1, fun n hn => ?_, h4⟩
  obtain ⟨n, rfl⟩ : ∃ j, n = j + 1 := ⟨n - 1, by omega⟩
  show aCallW K (aCall K n) (n + 1) f args H [] = _
  unfold aCallW
  simp only [e1, e2, e3]
  refine (E.bind_nil (h1 n (by omega))).trans ?_
  show (E.of (snap H' 6 r) >>= fun r => match r.closed with | true => pure (r, H) | false => E.fail) [] = _
  rw [h2]
  refine (E.bind_nil (a := r') rfl).trans ?_
  simp only [h3]
  rfl
end Go.Tm
