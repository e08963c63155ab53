/- The tree machine over unknown values: steps told by the kind of an operation. -/
import Derived.Test.YtbhjnkdediijnaaDoorTmQd
import Derived.Test.YtbhjnkdediijnaaDoorTmSymDrawn
set_option linter.unusedVariables false
set_option linter.unusedSimpArgs false
set_option linter.unusedSectionVars false
namespace Go.Tm
section
variable {K : Cfg} {f : FuncId} {o : Oper} {R : List AV} {own : Nat → Nat} {H : List AB}
theorem op_conv_val {s d : TypeId} {x : Operand} {a r : AV} (ho : o.op = .convert s d x) (hx : evalO K R x = some a) (h1 : aUnsafe K H s d a = none) (h2 : aConvertM K H s d a = none) (hr : aConvert K s d a = some r) : aOp K f ⟨R, own, H⟩ o [] = some (.val r.unown own H, [], []) := by
 simp only [aOp, ho, hx, aKeep, h1, h2, hr]; rfl
theorem op_conv_int {s d : TypeId} {x : Operand} {k0 k1 k2 : IntKind} {n m : Int} (ho : o.op = .convert s d x) (h1 : K.P.underlying s = some (.int k1)) (h2 : K.P.underlying d = some (.int k2)) (hx : evalO K R x = some (.v (.int k0 n))) (hw : k2.wrap n = m) : aOp K f ⟨R, own, H⟩ o [] = some (.val (.v (.int k2 m)) own H, [], []) := by
 refine op_conv_val (r := .v (.int k2 m)) ho hx ?_ ?_ ?_
 ·simp only [aUnsafe, h1, h2]
 ·simp only [aConvertM, h1, h2]
 ·simp only [aConvert, h1, h2, hw]
theorem Wo.mid {Q : AX → St → Prop} {ops : Array Oper} {l : List Oper} (P : St → Prop) (h : Wo K f ops l R own H fun e s => e = .normal ∧ P s) (hn : ∀ R own H, P ⟨R, own, H⟩ → Q .normal ⟨R, own, H⟩) : Wo K f ops l R own H Q :=
 W.mono h fun s hs => by
  obtain ⟨R, own, H⟩ := s
  exact hn R own H hs.2
theorem dead_norm {R R' : List AV} {F : (Nat → AV) → List AV} (e : R = R') (h : ∃ d, R' = F d) : ∃ d, R = F d := by subst e; exact h
theorem Wo.isGuarded {Q : AX → St → Prop} {ops : Array Oper} {l : List Oper} {a : Option Tmp} {b : Op} {c : TypeId} {d : String} {e : Array Edge} {g : Nat × Bool} (h : Wo K f ops (⟨a, b, c, d, e, some g⟩ :: l) R own H Q) : Wo K f ops (⟨a, b, c, d, e, some g⟩ :: l) R own H Q := h
theorem Wo.isMove {Q : AX → St → Prop} {ops : Array Oper} {l : List Oper} {a : Option Tmp} {x : Operand} {c : TypeId} {d : String} {e : Array Edge} (h : Wo K f ops (⟨a, .move x, c, d, e, none⟩ :: l) R own H Q) : Wo K f ops (⟨a, .move x, c, d, e, none⟩ :: l) R own H Q := h
theorem Wo.isAssign {Q : AX → St → Prop} {ops : Array Oper} {l : List Oper} {a : Option Tmp} {x : Operand} {c : TypeId} {d : String} {e : Array Edge} (h : Wo K f ops (⟨a, .assign x, c, d, e, none⟩ :: l) R own H Q) : Wo K f ops (⟨a, .assign x, c, d, e, none⟩ :: l) R own H Q := h
theorem Wo.isPick {Q : AX → St → Prop} {ops : Array Oper} {l : List Oper} {a : Option Tmp} {x y z : Operand} {c : TypeId} {d : String} {e : Array Edge} (h : Wo K f ops (⟨a, .pick x y z, c, d, e, none⟩ :: l) R own H Q) : Wo K f ops (⟨a, .pick x y z, c, d, e, none⟩ :: l) R own H Q := h
theorem Wo.isBin {Q : AX → St → Prop} {ops : Array Oper} {l : List Oper} {a : Option Tmp} {p : BinOp} {t u : TypeId} {x y : Operand} {c : TypeId} {d : String} {e : Array Edge} (h : Wo K f ops (⟨a, .binOp p t x y u, c, d, e, none⟩ :: l) R own H Q) : Wo K f ops (⟨a, .binOp p t x y u, c, d, e, none⟩ :: l) R own H Q := h
theorem Wo.isUn {Q : AX → St → Prop} {ops : Array Oper} {l : List Oper} {a : Option Tmp} {p : UnOp} {t : TypeId} {x : Operand} {c : TypeId} {d : String} {e : Array Edge} (h : Wo K f ops (⟨a, .unOp p t x, c, d, e, none⟩ :: l) R own H Q) : Wo K f ops (⟨a, .unOp p t x, c, d, e, none⟩ :: l) R own H Q := h
theorem Wo.isConv {Q : AX → St → Prop} {ops : Array Oper} {l : List Oper} {a : Option Tmp} {t u : TypeId} {x : Operand} {c : TypeId} {d : String} {e : Array Edge} (h : Wo K f ops (⟨a, .convert t u x, c, d, e, none⟩ :: l) R own H Q) : Wo K f ops (⟨a, .convert t u x, c, d, e, none⟩ :: l) R own H Q := h
theorem Wo.isLen {Q : AX → St → Prop} {ops : Array Oper} {l : List Oper} {a : Option Tmp} {xs : Array Operand} {ts : Array TypeId} {c : TypeId} {d : String} {e : Array Edge} (h : Wo K f ops (⟨a, .call { callee := .builtin .len, args := xs, argTypes := ts }, c, d, e, none⟩ :: l) R own H Q) : Wo K f ops (⟨a, .call { callee := .builtin .len, args := xs, argTypes := ts }, c, d, e, none⟩ :: l) R own H Q := h
theorem Wc.idc {Q : AX → St → Prop} {c : Operand} {a b : Code} (h : Wc K f (.cond c a b) R own H Q) : Wc K f (.cond c a b) R own H Q := h
theorem Wc.condT (hs : K.sym = false) {Q : AX → St → Prop} {c : Operand} {a b : Code} {t : Bool} (hc : evalO K R c = some (.v (.bool t))) (ht : t = true) (h : Wc K f a R own H Q) : Wc K f (.cond c a b) R own H Q := Wc.cond hs hc (fun _ => h) (fun q => absurd (ht.symm.trans q) (by simp))
theorem Wc.condF (hs : K.sym = false) {Q : AX → St → Prop} {c : Operand} {a b : Code} {t : Bool} (hc : evalO K R c = some (.v (.bool t))) (ht : t = false) (h : Wc K f b R own H Q) : Wc K f (.cond c a b) R own H Q := Wc.cond hs hc (fun q => absurd (ht.symm.trans q) (by simp)) (fun _ => h)
end
theorem Wo.void {K : Cfg} {f : FuncId} {ops : Array Oper} {Q : AX → St → Prop} {R : List AV} {own : Nat → Nat} {H : List AB} {o : Oper} {l : List Oper} {j d : Nat} {want : Bool} (hg : o.guard = some (j, want)) (hd : o.dst = some d) (hy : aYield R ops j = none) (h : Wo K f ops l (setAt R d .undef) own H Q) : Wo K f ops (o :: l) R own H Q := by
 refine W.eqv h fun n => ?_
 show aList K (aCall K n) f ops (o :: l) ⟨R, own, H⟩ [] = _
 rw [aList]
 simp only [hg, hy, hd]
 rfl
section
variable {K : Cfg} {f : FuncId} {o : Oper} {R : List AV} {own : Nat → Nat} {H : List AB}
theorem op_build {t : TypeId} {ps : Array (Nat × Operand)} {qs : List (Nat × AV)} {v : AV} (ho : o.op = .build t ps) (hq : mapO (fun p : Nat × Operand => (evalO K R p.2).map fun x => (p.1, x)) ps.toList = some qs) (hb : aBuild K t qs = some v) : aOp K f ⟨R, own, H⟩ o [] = some (.val v.unown own H, [], []) := by
 simp only [aOp, ho, hq, aKeep, hb]; rfl
theorem op_append_own (hs : K.sym = false) {t t2 e d : TypeId} {a x : Operand} {ts : Array TypeId} {xs ys : List AV} {tl u : Tail} {info : TypeInfo} {z : AV} {n : Nat} (ho : o.op = .call { callee := .builtin .append, args := #[a, x], argTypes := ts }) (hd : o.dst = some d) (ht : ts.toList = [t, t2]) (hu : K.P.underlying t = some (.slice e)) (hu2 : K.P.underlying t2 = some (.slice e))
  (hi : K.P.info? e = some info) (hz : tSize K.P e = some (n + 1)) (h0 : tZero K.P e = some z) (hz1 : z.cells.length = n + 1) (hg : K.chg f d = false) (ha : evalO K R a = some (.sl xs tl)) (htl : tl = .nil ∨ ∃ st, tl = .own st (own st) (n + 1) ∧ own st ≠ 0) (hx : evalO K R x = some (.sl ys u)) (hxs : xs.all (fun y => y.cells.length == n + 1) = true) (hy : ys.all (fun y => y.cells.length == n + 1) = true) (hne : ys ≠ []) (hcl : AV.closedL (ys.flatMap AV.cells) = true) (hr : roomOk (xs.length + ys.length) info.bytes = true) :
  ∃ own', aOp K f ⟨R, own, H⟩ o [] = some (.val (.sl (xs ++ ys) (.own d (own d + 1) (n + 1))) own' H, [], []) ∧ own' d = own d + 1 := by
 have hm : mapO (evalO K R) [a, x] = some [.sl xs tl, .sl ys u] := by simp [mapO, ha, hx]
 have hzb : (z.cells.length == n + 1) = true := by simp [hz1]
 simp only [aOp, ho, ht, hm, aBuiltin, hu2, aAppend, hu, hi, hz, h0, asEls, hy, if_true, hzb, hd, Option.getD_some, hg, hs]
 cases ys with
 | nil => exact absurd rfl hne
 | cons y r =>
  rcases htl with rfl | ⟨st, rfl, hst⟩
  ·refine ⟨fun i => if i = d then own d + 1 else own i, ?_, by simp⟩
   refine (E.bind_nil (a := ()) (by rw [hr]; rfl)).trans ?_
   refine (E.bind_nil (a := ()) (by rw [hxs]; rfl)).trans ?_
   refine (E.bind_nil (a := ()) (by rw [hcl]; rfl)).trans ?_
   exact (E.bind_nil (a := ()) (by simp [E.chk])).trans rfl
  ·refine ⟨fun i => if i = d then own d + 1 else if i = st then own st + 1 else own i, ?_, by simp⟩
   refine (E.bind_nil (a := ()) (by rw [hr]; rfl)).trans ?_
   refine (E.bind_nil (a := ()) (by rw [hxs]; rfl)).trans ?_
   refine (E.bind_nil (a := ()) (by rw [hcl]; rfl)).trans ?_
   refine (E.bind_nil (a := ()) (by
    show E.chk false (own st == own st && own st != 0 && (n + 1 == n + 1)) [] = _
    rw [show (own st == own st && own st != 0 && (n + 1 == n + 1)) = true by simp [hst]]; rfl)).trans rfl
theorem op_slice_lo_nil (hs : K.sym = false) {t e : TypeId} {x l : Operand} {k : IntKind} {n : Int} {sz : Nat} {tl : Tail} (ho : o.op = .slice t x (some l) none none) (hu : K.P.underlying t = some (.slice e)) (hz : tSize K.P e = some sz) (hx : evalO K R x = some (.sl [] tl)) (hl : evalO K R l = some (.v (.int k n))) (hn : n = 0) : aOp K f ⟨R, own, H⟩ o [] = some (.val (AV.sl [] (cutTail tl 0 0 0 none)) own H, [], []) := by
 subst hn
 simp only [aOp, ho, hx, hl, Option.elim, Option.map]
 have h : aSlice K H t (.sl [] tl) (some (.v (.int k 0))) none none [] = some (.sl [] (cutTail tl 0 0 0 none), [], []) := by
  simp only [aSlice, hu, hz, hs]
  refine (E.bind_nil (a := ()) rfl).trans ?_
  refine (E.bind_nil (a := (0, 0, none)) ?_).trans rfl
  simp only [aBounds, optI, asI, Option.map, hs]
  exact (E.bind_nil (a := ()) rfl).trans rfl
 exact (E.bind_nil h).trans rfl
end
theorem Tells.libv {K : Cfg} {f : FuncId} {g : List AV → Option AV} {args : List AV} {H : List AB} {r : AV} {Q : AV → List AB → Prop} (hf : K.libv f = some g) (hr : g args = some r) (h : Q r H) : Tells K f args H Q := by
 refine ⟨(r, H), 1, fun n hn => ?_, h⟩
 obtain ⟨n, rfl⟩ : ∃ j, n = j + 1 := ⟨n - 1, by omega⟩
 show aCallW K (aCall K n) (n + 1) f args H [] = _
 unfold aCallW
 simp only [hf, hr]
 rfl
end Go.Tm
namespace Go.Tm
theorem ja : type_of% @Wo.doVal := @Wo.doVal
theorem jb : type_of% @Wo.norm := @Wo.norm
theorem jc : type_of% @op_move := @op_move
theorem jd : type_of% @op_bin := @op_bin
theorem je : type_of% @op_assign := @op_assign
theorem jf : type_of% @op_un := @op_un
theorem jg : type_of% @op_len_sl := @op_len_sl
theorem jh : type_of% @Wc.seq := @Wc.seq
theorem ji : type_of% @Wc.region := @Wc.region
theorem jj : type_of% @SeqQ.id := @SeqQ.id
theorem jk : type_of% @SeqQ.norm := @SeqQ.norm
theorem jl : type_of% @Wo.nil := @Wo.nil
theorem jm : type_of% @Wc.block := @Wc.block
theorem jn : type_of% @Wc.skip := @Wc.skip
theorem jo : type_of% @Wc.exit := @Wc.exit
theorem jp : type_of% @Wc.retn := @Wc.retn
theorem jq : type_of% @SeqQ.exit := @SeqQ.exit
theorem jr : type_of% @SeqQ.ret := @SeqQ.ret
theorem js : type_of% @BlkQ.normal := @BlkQ.normal
theorem jt : type_of% @BlkQ.ret := @BlkQ.ret
theorem ju : type_of% @BlkQ.hit := @BlkQ.hit
theorem jv : type_of% @LoopQ.exit := @LoopQ.exit
theorem jw : type_of% @LoopQ.ret := @LoopQ.ret
theorem jx : type_of% @BlkQ.miss := @BlkQ.miss
theorem jy : type_of% @op_pick_t := @op_pick_t
theorem jz : type_of% @op_pick_f := @op_pick_f
theorem jA : type_of% @Wy.val := @Wy.val
theorem jB : type_of% @Wo.yes := @Wo.yes
theorem jC : type_of% @Wo.not := @Wo.not
theorem jD : type_of% @Wc.idc := @Wc.idc
theorem jE : type_of% @Wc.condT := @Wc.condT
theorem jF : type_of% @Wc.condF := @Wc.condF
theorem jG : type_of% @Wo.isGuarded := @Wo.isGuarded
theorem jH : type_of% @Wo.isMove := @Wo.isMove
theorem jI : type_of% @Wo.isAssign := @Wo.isAssign
theorem jJ : type_of% @Wo.isBin := @Wo.isBin
theorem jK : type_of% @Wo.isUn := @Wo.isUn
theorem jL : type_of% @Wo.isPick := @Wo.isPick
theorem jM : type_of% @Wo.isLen := @Wo.isLen
theorem jN : type_of% @Wd.norm := @Wd.norm
theorem jO : type_of% @Wd.go0 := @Wd.go0
theorem jP : type_of% @Wd.go1 := @Wd.go1
theorem jQ : type_of% @op_len_str := @op_len_str
theorem jR : type_of% @Wd.nil := @Wd.nil
theorem jS : type_of% @Wd.id := @Wd.id
theorem jT : type_of% @Wd.not := @Wd.not
end Go.Tm
