/- The tree machine: what its answers mean; operands; the first operations. -/
import Derived.Test.YtfihfpgphipglaaGreatDoorTmS2
import Derived.WalkKit
set_option linter.unusedVariables false
set_option linter.unusedSimpArgs false
set_option linter.unusedSectionVars false
namespace Go.Tm

def Ok {α : Type} (x : E α) (p : List Bool) (a : α) (p' : List Bool) : Prop := ∃ cs, x p = some (a, cs, p') ∧ ∀ b ∈ cs, b = true

section
variable {α β : Type} {p p' : List Bool}
theorem Ok_pure {a b : α} : Ok (Pure.pure a : E α) p b p' ↔ a = b ∧ p = p' := by
  show Ok (E.pure a) p b p' ↔ _
  simp only [Ok, E.pure, Option.some.injEq, Prod.mk.injEq]
  constructor
  · rintro ⟨cs, ⟨h1, _, h2⟩, _⟩; exact ⟨h1, h2⟩
  · rintro ⟨h1, h2⟩; exact ⟨[], ⟨h1, rfl, h2⟩, by simp⟩
theorem Ok_fail {a : α} : ¬ Ok (E.fail : E α) p a p' := by simp [Ok, E.fail]
theorem Ok_bind {x : E α} {f : α → E β} {b : β} : Ok (x >>= f) p b p' ↔ ∃ a p1, Ok x p a p1 ∧ Ok (f a) p1 b p' := by
  show Ok (E.bind x f) p b p' ↔ _
  simp only [Ok, E.bind]
  constructor
  · rintro ⟨cs, h, hc⟩
    cases hx : x p with
    | none => simp [hx] at h
    | some r =>
      obtain ⟨a, c1, p1⟩ := r
      simp only [hx] at h
      cases hf : f a p1 with
      | none => simp [hf] at h
      | some q =>
        obtain ⟨b', c2, p2⟩ := q
        simp only [hf, Option.some.injEq, Prod.mk.injEq] at h
        obtain ⟨rfl, rfl, rfl⟩ := h
        exact ⟨a, p1, ⟨c1, rfl, fun y hy => hc y (by simp [hy])⟩, ⟨c2, hf, fun y hy => hc y (by simp [hy])⟩⟩
  · rintro ⟨a, p1, ⟨c1, h1, k1⟩, ⟨c2, h2, k2⟩⟩
    refine ⟨c1 ++ c2, by simp [h1, h2], fun y hy => ?_⟩
    rcases List.mem_append.1 hy with q | q
    · exact k1 y q
    · exact k2 y q
theorem Ok_of {o : Option α} {a : α} : Ok (E.of o) p a p' ↔ o = some a ∧ p = p' := by
  cases o with
  | none => simp [E.of, Ok, E.fail]
  | some x =>
    simp only [Option.some.injEq]
    exact Ok_pure (p := p) (p' := p') (a := x) (b := a)
theorem Ok_chk {s b : Bool} {u : Unit} : Ok (E.chk s b) p u p' ↔ b = true ∧ p = p' := by
  constructor
  · rintro ⟨cs, h, hc⟩
    cases s <;> cases b <;> simp [E.chk] at h <;> obtain ⟨rfl, rfl⟩ := h <;> simp_all
  · rintro ⟨rfl, rfl⟩
    cases s
    · exact ⟨[], rfl, by simp⟩
    · exact ⟨[true], rfl, by simp⟩
theorem Ok_branch {s b x : Bool} (h : Ok (E.branch s b) p x p') : x = b := by
  obtain ⟨cs, h1, h2⟩ := h
  cases s with
  | false => simp [E.branch] at h1; exact h1.1.symm
  | true =>
    cases p with
    | nil => simp [E.branch] at h1
    | cons y q =>
      simp [E.branch] at h1
      obtain ⟨rfl, rfl, rfl⟩ := h1
      have := h2 (b == y) (by simp)
      simp at this
      exact this.symm
end

theorem pureRun_run {α : Type} {P : Program} : ∀ {s : Sem α} {a : α}, pureRun P s = some a → ∀ w, s.run P w = .ok a w := by
  intro s
  induction s with
  | pure b => intro a h w; simp [pureRun] at h; subst h; rfl
  | program k ih => intro a h w; simp only [pureRun] at h; simp only [Sem.run]; exact ih P h w
  | _ => intro a h; simp [pureRun] at h

/-! ### the program's types -/
section
variable {P : Program} {w : World}

theorem run_underlying {t : TypeId} {d : TypeDesc} (h : P.underlying t = some d) : (underlying t).run P w = .ok d w := by simp [underlying, h]
theorem run_typeInfo {t : TypeId} {i : TypeInfo} (h : P.info? t = some i) : (typeInfo t).run P w = .ok i w := by simp [typeInfo, h]
theorem run_tSize {t : TypeId} {n : Nat} (h : tSize P t = some n) : (sizeOf t).run P w = .ok n w := by
  simp only [tSize, Option.map_eq_some_iff] at h
  obtain ⟨i, h1, h2⟩ := h
  simp [sizeOf, run_typeInfo h1, h2]
theorem run_tAgg {t : TypeId} {b : Bool} (h : tAgg P t = some b) : (isAgg t).run P w = .ok b w := by
  unfold tAgg at h
  split at h
  · rename_i fs e; simp at h; subst h; simp [isAgg, run_underlying e]
  · rename_i n el e; simp at h; subst h; simp [isAgg, run_underlying e]
  · rename_i d e1 e2 e
    simp at h; subst h
    simp only [isAgg, Sem.run_bind, run_underlying e, Result.andThen_ok]
    cases d <;> first | rfl | (exact absurd e (e1 _)) | (exact absurd e (e2 _ _))
  · simp at h
theorem run_tZero {t : TypeId} {z : AV} (h : tZero P t = some z) : ∃ v, (zeroValue t).run P w = .ok v w ∧ (∀ g, VR g z v) ∧ allOne z.cells = true := by
  unfold tZero at h
  split at h
  · rename_i i e
    cases hz : i.zero with
    | none => simp [hz] at h
    | some v =>
      cases ho : AV.ofV v with
      | none => simp [hz, ho] at h
      | some z' =>
        simp only [hz, Option.bind_some, ho] at h
        split at h
        · simp at h; subst h
          exact ⟨v, by simp [zeroValue, run_typeInfo e, hz], fun g => ofV_VR ho, ‹_›⟩
        · simp at h
  · simp at h
end

theorem ofV1_own {r : Value} {xs : List AV} {s e z : Nat} : AV.ofV1 r ≠ some (.sl xs (.own s e z)) := by
  intro h
  unfold AV.ofV1 at h
  split at h
  · simp at h
  · simp at h
  · split at h <;> simp at h
theorem ofV_own {r : Value} {xs : List AV} {s e z : Nat} : AV.ofV r ≠ some (.sl xs (.own s e z)) := by
  intro h
  unfold AV.ofV at h
  split at h
  · split at h <;> simp at h
  · simp at h
  · exact ofV1_own h

/-! ### operands -/
structure Glob (K : Cfg) (g : Gh) : Prop where
  gl : ∀ i cs, K.gl i = some cs → VR g (.rp cs) (.pointer (some ⟨i, 0, none⟩))
  ints : ∀ i ∈ K.ints, ∃ m, g.I i 0 = some (.int .i64 m)

theorem Glob.mono {K : Cfg} {g h : Gh} (hle : Gh.Le g h) (k : Glob K g) : Glob K h := ⟨fun i cs q => (k.gl i cs q).mono hle, fun i hi => let ⟨m, hm⟩ := k.ints i hi; ⟨m, hle.imm _ _ _ hm⟩⟩

theorem evalO_RV {K : Cfg} {g : Gh} {κ : Nat → Option Tok} {own : Nat → Nat} {regs : List AV} {a : Act} (hg : Glob K g) (hr : Regs g κ own regs a.tmps) {x : Operand} {v : AV} (h : evalO K regs x = some v) :
    RV g κ own v (a.eval x) := by
  cases x with
  | tmp t =>
    simp only [evalO, nth_eq] at h
    have hi : t < a.tmps.size := by rw [← hr.1]; exact (List.getElem?_eq_some_iff.1 h).1
    simp only [Act.eval, Array.getD, hi, dif_pos]
    exact hr.2 t v _ h (by simp [hi])
  | const c =>
    simp only [evalO] at h
    refine RV.of_other (ofV_VR h) fun xs s e z q => ?_
    subst q
    exact ofV_own h
  | global i =>
    simp only [evalO, Option.map_eq_some_iff] at h
    obtain ⟨cs, h1, rfl⟩ := h
    exact RV.of_other (hg.gl i cs h1) (by simp)
  | func f =>
    simp only [evalO, Option.some.injEq] at h
    subst h
    exact RV.of_other (.func rfl rfl (by simp) (by simp)) (by simp)

theorem evalOs_VRs {K : Cfg} {g : Gh} {κ : Nat → Option Tok} {own : Nat → Nat} {regs : List AV} {a : Act} (hg : Glob K g) (hr : Regs g κ own regs a.tmps) {xs : List Operand} {vs : List AV} (h : mapO (evalO K regs) xs = some vs) :
    VRs g vs (xs.map a.eval) := by
  refine ⟨by rw [mapO_len h]; simp, fun i x r p q => ?_⟩
  simp only [List.getElem?_map, Option.map_eq_some_iff] at q
  obtain ⟨o, ho, rfl⟩ := q
  obtain ⟨y, hy, hz⟩ := mapO_get h i o ho
  rw [hz] at p; cases p
  exact (evalO_RV hg hr hy).1

/-! ### what an operation's answer means -/
def OpOk (F : Fr) (g : Gh) (κ : Nat → Option Tok) (own : Nat → Nat) (H : List AB) (w : World) (run : Result Next) : AN → Prop
  | .val x own' H' => ∃ r w' g' κ', run = .ok (.value r) w' ∧ Gh.Le g g' ∧ SW F g' κ' H' w' ∧ RV g' κ' own' x r ∧ ∀ y s, RV g κ own y s → RV g' κ' own' y s
  | .skip H' => ∃ w' g', run = .ok .skip w' ∧ Gh.Le g g' ∧ SW F g' κ H' w'
  | .call f args => ∃ rargs, run = .ok (.enter f ⟨rargs⟩) w ∧ VRs g args rargs

section
variable {F : Fr} {g : Gh} {κ : Nat → Option Tok} {own : Nat → Nat} {H : List AB} {w : World} {run : Result Next}

theorem OpOk.plain (hs : SW F g κ H w) {x : AV} {r : Value} (hr : run = .ok (.value r) w) (h : RV g κ own x r) : OpOk F g κ own H w run (.val x own H) :=
  ⟨r, w, g, κ, hr, .refl g, hs, h, fun _ _ q => q⟩

theorem OpOk.plainU (hs : SW F g κ H w) {x : AV} {r : Value} (hr : run = .ok (.value r) w) (h : VR g x r) : OpOk F g κ own H w run (.val x.unown own H) :=
  .plain hs hr (.of_unown h)

theorem OpOk.grow {g' : Gh} {H' : List AB} {w' : World} {x : AV} {r : Value} (hle : Gh.Le g g') (hs : SW F g' κ H' w') (hr : run = .ok (.value r) w') (h : RV g' κ own x r) : OpOk F g κ own H w run (.val x own H') :=
  ⟨r, w', g', κ, hr, hle, hs, h, fun _ _ q => q.mono hle⟩
end

/-! ### memory -/
theorem add_none {b o n : Nat} : (⟨b, o, none⟩ : Addr).add n = ⟨b, o + n, none⟩ := by unfold Addr.add; split <;> simp_all

section
variable {F : Fr} {g : Gh} {κ : Nat → Option Tok} {H : List AB} {w : World} {P : Program}

/-- Cells that lie at an address. -/
def Lies (g : Gh) (w : World) (cs : List AV) (a : Addr) : Prop :=
  ∃ rs : List Value, VRs g cs rs ∧ ∀ (j : Nat) (v : Value), rs[j]? = some v → w.cell? (a.add j) = some v

theorem VRs.of_fun {cs : List AV} (rs : Nat → Value) (h : ∀ (k : Nat) (y : AV), cs[k]? = some y → VR g y (rs k)) : VRs g cs ((List.range cs.length).map rs) := by
  refine ⟨by simp, fun i x r a b => ?_⟩
  simp only [List.getElem?_map, Option.map_eq_some_iff] at b
  obtain ⟨j, hj, rfl⟩ := b
  have hi : i < cs.length := (List.getElem?_eq_some_iff.1 a).1
  rw [List.getElem?_range hi] at hj
  cases hj
  exact h i x a

theorem lies_imm (hs : SW F g κ H w) {cs : List AV} {b o : Nat} (rs : Nat → Value) (hi : ∀ (k : Nat) (y : AV), cs[k]? = some y → g.I b (o + k) = some (rs k)) (h : ∀ (k : Nat) (y : AV), cs[k]? = some y → VR g y (rs k)) :
    Lies g w cs ⟨b, o, none⟩ := by
  refine ⟨_, VRs.of_fun rs h, fun j v k => ?_⟩
  simp only [List.getElem?_map, Option.map_eq_some_iff] at k
  obtain ⟨i, hj, rfl⟩ := k
  have hlt : j < cs.length := by
    have := (List.getElem?_eq_some_iff.1 hj).1
    simpa using this
  rw [List.getElem?_range hlt] at hj
  cases hj
  rw [add_none]
  exact hs.imm b (o + j) _ (hi j cs[j] (List.getElem?_eq_getElem hlt))

theorem deref_lies (hs : SW F g κ H w) {x : AV} {r : Value} (hx : VR g x r) {cs : List AV} (h : deref H x = some cs) : ∃ a, r = .pointer (some a) ∧ Lies g w cs a := by
  cases hx with
  | @ptr b off rb hb =>
    simp only [deref, nth_eq] at h
    cases hH : H[b]? with
    | none => simp [hH] at h
    | some A =>
      cases A with
      | cells t c =>
        simp [hH] at h; subst h
        obtain ⟨rb', o, h1, h2, h3, _, _, _⟩ := hs.blk b _ hH rfl
        rw [hb] at h1; cases h1
        cases o with
        | cells rcs e fz =>
          simp only [BRo] at h3
          obtain ⟨hf, hle, hv, _, _⟩ := h3
          refine ⟨_, rfl, (rcs.toList.drop off).take (c.length - off), ⟨?_, fun i y s p q => ?_⟩, fun j v k => ?_⟩
          · simp; omega
          · rw [List.getElem?_drop] at p
            rw [List.getElem?_take] at q
            split at q
            · rw [List.getElem?_drop] at q; exact hv _ y s p q
            · simp at q
          · rw [List.getElem?_take] at k
            split at k
            · rw [List.getElem?_drop] at k
              rw [add_none]
              simp only [World.cell?, h2]
              simpa using k
            · simp at k
        | _ => simp [BRo] at h3
      | rope t m q =>
        simp [hH] at h; subst h
        obtain ⟨rb', o, h1, h2, h3, _, _, _⟩ := hs.blk b _ hH rfl
        rw [hb] at h1; cases h1
        rw [BT.from_eq off (hs.ropeOk hH).2]
        cases o with
        | cells rcs e fz =>
          simp only [BRo] at h3
          obtain ⟨_, hf, hle, hv, _, _⟩ := h3
          refine ⟨_, rfl, (rcs.toList.drop off).take (q.toL.length - off), ⟨?_, fun i y s p q => ?_⟩, fun j v k => ?_⟩
          · simp; omega
          · rw [List.getElem?_drop] at p
            rw [List.getElem?_take] at q
            split at q
            · rw [List.getElem?_drop] at q; exact hv _ y s p q
            · simp at q
          · rw [List.getElem?_take] at k
            split at k
            · rw [List.getElem?_drop] at k
              rw [add_none]
              simp only [World.cell?, h2]
              simpa using k
            · simp at k
        | _ => simp [BRo] at h3
      | _ => simp [hH] at h
  | @rp cs' b o rs hc h1 hi hv =>
    simp only [deref, Option.some.injEq] at h
    subst h
    exact ⟨_, rfl, lies_imm hs rs hi hv⟩
  | _ => simp [deref] at h

theorem Lies.drop {cs : List AV} {b o : Nat} (h : Lies g w cs ⟨b, o, none⟩) (n : Nat) : Lies g w (cs.drop n) ⟨b, o + n, none⟩ := by
  obtain ⟨rs, h1, h2⟩ := h
  refine ⟨rs.drop n, h1.drop n, fun j v k => ?_⟩
  rw [List.getElem?_drop] at k
  have := h2 _ v k
  rw [add_none] at this ⊢
  rw [Nat.add_assoc]; exact this

theorem run_loadVar {t : TypeId} {cs : List AV} {a : Addr} {x : AV} (hl : Lies g w cs a) (h : takeVar P t cs = some x) : ∃ r, (loadVar t a).run P w = .ok r w ∧ VR g x r := by
  obtain ⟨rs, h1, h2⟩ := hl
  unfold takeVar at h
  split at h
  · rename_i n ha hn
    split at h
    · rename_i hle
      simp at h; subst h
      have h3 := h1.take n
      have hlen : (rs.take n).length = n := by rw [← h3.1]; simp [hle]
      refine ⟨.agg ⟨rs.take n⟩, ?_, .agg h3.1 h3.2⟩
      have hrun := run_loadCells_list (P := P) w a (rs.take n) (fun j v k => h2 j v (by
        rw [List.getElem?_take] at k
        split at k
        · exact k
        · simp at k))
      rw [hlen] at hrun
      simp [loadVar, run_tAgg ha, run_tSize hn, hrun]
    · simp at h
  · rename_i n ha hn
    cases cs with
    | nil => simp at h
    | cons y cs' =>
      simp at h; subst h
      obtain ⟨r, rs', rfl, hv, _⟩ := h1.head
      refine ⟨r, ?_, hv⟩
      have := h2 0 r (by simp)
      have ha0 : a.add 0 = a := by simp [Addr.add]
      rw [ha0] at this
      simp [loadVar, run_tAgg ha, this]
  · simp at h

theorem run_loadAt {K : Cfg} (hs : SW F g κ H w) {t : TypeId} {x : AV} {r : Value} {y : AV} (hx : VR g x r) (h : aLoad K H t x = some y) : ∃ s, (Instr.loadAt t r).run K.P w = .ok s w ∧ VR g y s := by
  unfold aLoad at h
  cases hd : deref H x with
  | none => simp [hd] at h
  | some cs =>
    simp only [hd] at h
    obtain ⟨a, rfl, hl⟩ := deref_lies hs hx hd
    obtain ⟨s, h1, h2⟩ := run_loadVar hl h
    exact ⟨s, by simp [Instr.loadAt, Instr.sureAddr, h1], h2⟩
end
end Go.Tm
