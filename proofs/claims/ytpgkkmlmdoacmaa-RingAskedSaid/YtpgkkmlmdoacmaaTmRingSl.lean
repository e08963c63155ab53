/- ring's walk over the tree machine: Sloppy's parts. -/
import Derived.Test.YtpgkkmlmdoacmaaTmRingPrim
set_option linter.unusedVariables false
set_option linter.unusedSimpArgs false
set_option linter.unusedSectionVars false
namespace Go.Tm
section
variable {K : Cfg} {f : FuncId} {o : Oper} {R : List AV} {own : Nat → Nat} {H : List AB}
theorem op_build {t : TypeId} {ps : Array (Nat × Operand)} {qs : List (Nat × AV)} {v : AV} (ho : o.op = .build t ps) (hq : mapO (fun p : Nat × Operand => (evalO K R p.2).map fun x => (p.1, x)) ps.toList = some qs) (hb : aBuild K t qs = some v) : aOp K f ⟨R, own, H⟩ o [] = some (.val v.unown own H, [], []) := by
  simp only [aOp, ho, hq, aKeep, hb]; rfl
/-- Elements appended in the frame's own memory. -/
theorem op_append_own (hs : K.sym = false) {t t2 e d : TypeId} {a x : Operand} {ts : Array TypeId} {xs ys : List AV} {tl u : Tail} {info : TypeInfo} {z : AV} {n : Nat} (ho : o.op = .call { callee := .builtin .append, args := #[a, x], argTypes := ts }) (hd : o.dst = some d) (ht : ts.toList = [t, t2]) (hu : K.P.underlying t = some (.slice e)) (hu2 : K.P.underlying t2 = some (.slice e))
    (hi : K.P.info? e = some info) (hz : tSize K.P e = some (n + 1)) (h0 : tZero K.P e = some z) (hz1 : z.cells.length = n + 1) (hg : K.chg f d = false) (ha : evalO K R a = some (.sl xs tl)) (htl : tl = .nil ∨ ∃ st, tl = .own st (own st) (n + 1) ∧ own st ≠ 0) (hx : evalO K R x = some (.sl ys u)) (hxs : xs.all (fun y => y.cells.length == n + 1) = true) (hy : ys.all (fun y => y.cells.length == n + 1) = true) (hne : ys ≠ []) (hcl : AV.closedL (ys.flatMap AV.cells) = true) (hr : roomOk (xs.length + ys.length) info.bytes = true) :
    ∃ own', aOp K f ⟨R, own, H⟩ o [] = some (.val (.sl (xs ++ ys) (.own d (own d + 1) (n + 1))) own' H, [], []) ∧ own' d = own d + 1 := by
  have hm : mapO (evalO K R) [a, x] = some [.sl xs tl, .sl ys u] := by simp [mapO, ha, hx]
  have hzb : (z.cells.length == n + 1) = true := by simp [hz1]
  simp only [aOp, ho, ht, hm, aBuiltin, hu2, aAppend, hu, hi, hz, h0, asEls, hy, if_true, hzb, hd, Option.getD_some, hg, hs]
  cases ys with
  | nil => exact absurd rfl hne
  | cons y r =>
    rcases htl with rfl | ⟨st, rfl, hst⟩
    · refine ⟨fun i => if i = d then own d + 1 else own i, ?_, by simp⟩
      refine (E.bind_nil (a := ()) (by rw [hr]; rfl)).trans ?_
      refine (E.bind_nil (a := ()) (by rw [hxs]; rfl)).trans ?_
      refine (E.bind_nil (a := ()) (by rw [hcl]; rfl)).trans ?_
      exact (E.bind_nil (a := ()) (by simp [E.chk])).trans rfl
    · refine ⟨fun i => if i = d then own d + 1 else if i = st then own st + 1 else own i, ?_, by simp⟩
      refine (E.bind_nil (a := ()) (by rw [hr]; rfl)).trans ?_
      refine (E.bind_nil (a := ()) (by rw [hxs]; rfl)).trans ?_
      refine (E.bind_nil (a := ()) (by rw [hcl]; rfl)).trans ?_
      refine (E.bind_nil (a := ()) (by
        show E.chk false (own st == own st && own st != 0 && (n + 1 == n + 1)) [] = _
        rw [show (own st == own st && own st != 0 && (n + 1 == n + 1)) = true by simp [hst]]; rfl)).trans rfl
theorem op_slice_lo_nil (hs : K.sym = false) {t e : TypeId} {x l : Operand} {k : IntKind} {n : Int} {sz : Nat} {tl : Tail} (ho : o.op = .slice t x (some l) none none) (hu : K.P.underlying t = some (.slice e)) (hz : tSize K.P e = some sz) (hx : evalO K R x = some (.sl [] tl)) (hl : evalO K R l = some (.v (.int k n))) (hn : n = 0) : aOp K f ⟨R, own, H⟩ o [] = some (.val (AV.sl [] (cutTail tl 0 0 0 none)) own H, [], []) := by
  subst hn
  simp only [aOp, ho, hx, hl, Option.elim, Option.map]
  have h : aSlice K H t (.sl [] tl) (some (.v (.int k 0))) none none [] = some (.sl [] (cutTail tl 0 0 0 none), [], []) := by
    simp only [aSlice, hu, hz, hs]
    refine (E.bind_nil (a := ()) rfl).trans ?_
    refine (E.bind_nil (a := (0, 0, none)) ?_).trans rfl
    simp only [aBounds, optI, asI, Option.map, hs]
    exact (E.bind_nil (a := ()) rfl).trans rfl
  exact (E.bind_nil h).trans rfl
end
end Go.Tm
namespace Go.Proofs
open Go.Tm Go.Proofs.RingPlain
set_option maxRecDepth 100000
/-- A target, as it is kept. -/
abbrev tgt (t : Int × Int) : AV := .agg [i64 t.1, i64 t.2]
theorem u38 : Kz.P.underlying 38 = some (.slice 43) := Try.underlying38
theorem b43 (x y : Int) : aBuild Kz 43 [(0, i64 x), (1, i64 y)] = some (.agg [i64 x, i64 y]) := by kernel_rfl
theorem bs38 (own : Nat → Nat) (H : List AB) (x y : Int) : aBuildSlice Kz false own H 38 1 [(0, .agg [i64 x, i64 y])] = some (.val (.sl [.agg [i64 x, i64 y]] .full) own H) := by kernel_rfl
theorem z43 : tZero Kz.P 43 = some (.agg [i64 0, i64 0]) := by kernel_rfl
theorem sz43 : tSize Kz.P 43 = some 2 := by kernel_rfl
theorem in43 : ∃ info, Kz.P.info? 43 = some info ∧ info.bytes = 16 := by
  have h : (Kz.P.info? 43).map (·.bytes) = some 16 := by kernel_rfl
  obtain ⟨i, h1, h2⟩ := Option.map_eq_some_iff.1 h
  exact ⟨i, h1, h2⟩
set_option maxHeartbeats 4000000 in
theorem deleteF_nil_tells (p : Int → Bool) (g : FuncId) (cl : List AV) (hcl : cl.map AV.unown = cl) (H : List AB) (tl : Tail) (htl : tl.un = tl) (hp : ∀ y, Tells Kz g (i64 y :: cl) H fun r H' => r = .v (.bool (p y)) ∧ H' = H) :
    Tells Kz 29 [.sl [] tl, .func (.func g) [] cl] H fun r H' => r = .sl [] tl ∧ H' = H := by
  have hv : View H (.sl [] tl) [] := .inl ⟨tl, rfl, htl⟩
  refine Tells.mem (c := _) Try.func29 rfl (args' := [.sl [] tl, .func (.func g) [] cl]) (m := 40) (by simp only [List.map, hv.unown]; rfl) rfl rfl rfl rfl ?_
  repeat (first | with_reducible refine Wc.seq ?_ | with_reducible refine Wc.region ?_ | with_reducible refine Wo.nil ?_ | (with_reducible refine SeqQ.id ?_; refine SeqQ.norm (by first | (simp only [setAt, enter, List.replicate, List.cons_append, List.nil_append]; rfl) | rfl) ?_) | with_reducible refine Wc.block ?_ | with_reducible refine Wc.skip ?_ | with_reducible refine Wc.exit ?_ | with_reducible refine Wc.retn ?_ | with_reducible refine SeqQ.exit ?_ | with_reducible refine SeqQ.ret ?_ | with_reducible refine BlkQ.normal ?_ | with_reducible refine BlkQ.ret ?_ | with_reducible refine BlkQ.hit ?_ | with_reducible refine BlkQ.miss (by decide) ?_ | with_reducible refine LoopQ.exit ?_ | with_reducible refine LoopQ.ret ?_ | (with_reducible refine Wo.id ?_; first | refine Wo.doVal rfl rfl (op_move rfl rfl) ?_ | refine Wo.doVal rfl rfl (op_assign rfl rfl) ?_ | refine Wo.doVal rfl rfl (op_bin rfl rfl rfl rfl rfl) ?_ | refine Wo.doVal rfl rfl (op_un rfl rfl rfl rfl) ?_ | refine Wo.doVal rfl rfl (op_len_sl rfl rfl (by first | with_reducible exact u24 | with_reducible exact u3) rfl) ?_ | refine Wo.doVal rfl rfl (op_len_str rfl rfl (by first | with_reducible exact u24 | with_reducible exact u3) rfl) ?_))
  refine Wo.doCall rfl rfl (op_call (args := [.sl [] tl, .func (.func g) [] cl]) rfl rfl) ?_
  rw [show List.map AV.unown [.sl [] tl, .func (.func g) [] cl] = [.sl [] tl, .func (.func g) [] cl] by simp only [List.map, hv.unown]; rfl]
  refine (indexF_tells [] p g cl hcl H hv (by simp) hp).mono ?_
  rintro r H0 ⟨rfl, rfl⟩
  repeat (first | with_reducible refine Wc.seq ?_ | with_reducible refine Wc.region ?_ | with_reducible refine Wo.nil ?_ | (with_reducible refine SeqQ.id ?_; refine SeqQ.norm (by first | (simp only [setAt, enter, List.replicate, List.cons_append, List.nil_append]; rfl) | rfl) ?_) | with_reducible refine Wc.block ?_ | with_reducible refine Wc.skip ?_ | with_reducible refine Wc.exit ?_ | with_reducible refine Wc.retn ?_ | with_reducible refine SeqQ.exit ?_ | with_reducible refine SeqQ.ret ?_ | with_reducible refine BlkQ.normal ?_ | with_reducible refine BlkQ.ret ?_ | with_reducible refine BlkQ.hit ?_ | with_reducible refine BlkQ.miss (by decide) ?_ | with_reducible refine LoopQ.exit ?_ | with_reducible refine LoopQ.ret ?_ | (with_reducible refine Wo.id ?_; first | refine Wo.doVal rfl rfl (op_move rfl rfl) ?_ | refine Wo.doVal rfl rfl (op_assign rfl rfl) ?_ | refine Wo.doVal rfl rfl (op_bin rfl rfl rfl rfl rfl) ?_ | refine Wo.doVal rfl rfl (op_un rfl rfl rfl rfl) ?_ | refine Wo.doVal rfl rfl (op_len_sl rfl rfl (by first | with_reducible exact u24 | with_reducible exact u3) rfl) ?_ | refine Wo.doVal rfl rfl (op_len_str rfl rfl (by first | with_reducible exact u24 | with_reducible exact u3) rfl) ?_))
  refine Wc.cond rfl rfl (fun _ => ?_) (fun h => by cases h)
  repeat (first | with_reducible refine Wc.seq ?_ | with_reducible refine Wc.region ?_ | with_reducible refine Wo.nil ?_ | (with_reducible refine SeqQ.id ?_; refine SeqQ.norm (by first | (simp only [setAt, enter, List.replicate, List.cons_append, List.nil_append]; rfl) | rfl) ?_) | with_reducible refine Wc.block ?_ | with_reducible refine Wc.skip ?_ | with_reducible refine Wc.exit ?_ | with_reducible refine Wc.retn ?_ | with_reducible refine SeqQ.exit ?_ | with_reducible refine SeqQ.ret ?_ | with_reducible refine BlkQ.normal ?_ | with_reducible refine BlkQ.ret ?_ | with_reducible refine BlkQ.hit ?_ | with_reducible refine BlkQ.miss (by decide) ?_ | with_reducible refine LoopQ.exit ?_ | with_reducible refine LoopQ.ret ?_ | (with_reducible refine Wo.id ?_; first | refine Wo.doVal rfl rfl (op_move rfl rfl) ?_ | refine Wo.doVal rfl rfl (op_assign rfl rfl) ?_ | refine Wo.doVal rfl rfl (op_bin rfl rfl rfl rfl rfl) ?_ | refine Wo.doVal rfl rfl (op_un rfl rfl rfl rfl) ?_ | refine Wo.doVal rfl rfl (op_len_sl rfl rfl (by first | with_reducible exact u24 | with_reducible exact u3) rfl) ?_ | refine Wo.doVal rfl rfl (op_len_str rfl rfl (by first | with_reducible exact u24 | with_reducible exact u3) rfl) ?_))
  exact EndQ.ret rfl ⟨rfl, rfl⟩
end Go.Proofs
