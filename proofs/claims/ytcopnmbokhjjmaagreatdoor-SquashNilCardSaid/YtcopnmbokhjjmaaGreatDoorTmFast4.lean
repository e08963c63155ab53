/- The tree machine in haste: operations. -/
import Derived.Test.YtcopnmbokhjjmaaGreatDoorTmFast3
namespace Go.Tm
variable {K : Cfg}

theorem unownK_eq (x : AV) (k : AV → Option AN) : unownK x k = k x.unown := by
  cases x with
  | sl xs t => cases t <;> rfl
  | _ => rfl
theorem xKeep_ok {x : Option AV} {own : Nat → Nat} {H : List AB} {an : AN} (h : xKeep x own H = some an) : aKeep ⟨[], own, H⟩ x [] = some (an, [], []) := by
  cases x with
  | none => simp [xKeep] at h
  | some v =>
    simp only [xKeep, unownK_eq, Option.some.injEq] at h
    subst h; rfl
theorem xKeep_map {x y : Option AV} {own : Nat → Nat} {H : List AB} {an : AN} (h : xKeep x own H = some an) (hxy : ∀ v, x = some v → y = some v) : aKeep ⟨[], own, H⟩ y [] = some (an, [], []) := by
  cases x with
  | none => simp [xKeep] at h
  | some v => rw [hxy v rfl]; exact xKeep_ok h
theorem xKeep_E {x : Option AV} {y : E AV} {own : Nat → Nat} {H : List AB} {an : AN} (h : xKeep x own H = some an) (hxy : ∀ v, x = some v → y [] = some (v, [], [])) : aKeepE ⟨[], own, H⟩ y [] = some (an, [], []) := by
  cases x with
  | none => simp [xKeep] at h
  | some v =>
    simp only [xKeep, unownK_eq, Option.some.injEq] at h
    subst h
    exact bind_nil (hxy v rfl) rfl
theorem ev1_some {ev : Ev} {x : Operand} {k : AV → Option AN} {an : AN} (h : ev1 ev x k = some an) : ∃ v, ev x = some v ∧ k v = some an := by
  unfold ev1 at h
  cases hx : ev x with
  | none => simp [hx] at h
  | some v => rw [hx] at h; exact ⟨v, rfl, h⟩

theorem nth_drop {α : Type} : ∀ (l : List α) (i : Nat) (x : α), nth l i = some x → ∃ r, l.drop i = x :: r
  | [], _, _, h => by simp [nth] at h
  | y :: r, 0, x, h => by simp [nth] at h; subst h; exact ⟨r, rfl⟩
  | y :: r, i + 1, x, h => by simpa using nth_drop r i x (by simpa [nth] using h)
theorem nth_lt {α : Type} : ∀ {l : List α} {i : Nat} {x : α}, nth l i = some x → i < l.length
  | [], _, _, h => by simp [nth] at h
  | _ :: _, 0, _, _ => by simp
  | _ :: r, i + 1, x, h => by have := nth_lt (l := r) (i := i) (x := x) (by simpa [nth] using h); simp; omega

theorem takeF_ok {P : Program} {t : TypeId} {off : Nat} {cs : List AV} {v : AV} (h : takeF P t off cs = some v) : takeVar P t (cs.drop off) = some v := by
  unfold takeF at h
  cases ha : tAgg P t with
  | none => simp [ha] at h
  | some b =>
    rw [ha] at h
    cases b with
    | true => exact h
    | false =>
      simp only at h
      cases hz : tSize P t with
      | none => simp [hz] at h
      | some n =>
        simp only [hz] at h
        obtain ⟨r, hr⟩ := nth_drop cs off v h
        simp [takeVar, ha, hz, hr]
theorem loadF_ok {H : List AB} {t : TypeId} {a v : AV} (h : loadF K H t a = some v) : aLoad K H t a = some v := by
  unfold loadF at h
  cases a <;> try (simp at h; done)
  · rename_i b off
    simp only at h
    cases hb : nth H b with
    | none => simp [hb] at h
    | some o =>
      simp only [hb] at h
      cases o <;> simp at h
      simp [aLoad, deref, hb, takeF_ok h]
  · simpa [aLoad, deref] using h

theorem store1_ok {H H' : List AB} {t : TypeId} {a x : AV} (hc : x.cells = [x]) (ho : x.one = true) (hu : x.unown.cells = [x.unown]) (h : store1 K H t a x = some H') : aStore K H t a x = some H' := by
  unfold store1 at h
  cases hz : tSize K.P t with
  | none => simp [hz] at h
  | some n =>
    simp only [hz] at h
    cases hn : Nat.beq n 1 with
    | false => simp [hn] at h
    | true =>
      obtain rfl : n = 1 := Nat.eq_of_beq_eq_true hn
      simp only [hn] at h
      cases a <;> try (simp at h; done)
      rename_i b off
      simp only at h
      cases hb : nth H b with
      | none => simp [hb] at h
      | some o =>
        simp only [hb] at h
        cases o <;> try (simp at h; done)
        rename_i e cs
        simp only at h
        unfold setF at h
        cases hn : nth cs off with
        | none => simp [hn] at h
        | some old =>
          simp only [hn, Option.some.injEq] at h
          have hlt := nth_lt hn
          simp only [aStore, hz, hb, hc, hu]
          rw [if_pos ⟨by simp, by omega, by simp [allOne, ho]⟩]
          simpa [putAll] using h
theorem storeF_ok {H H' : List AB} {t : TypeId} {a x : AV} (h : storeF K H t a x = some H') : aStore K H t a x = some H' := by
  unfold storeF at h
  cases x with
  | agg _ => exact h
  | tup _ => exact h
  | sl xs tl => exact store1_ok rfl rfl (by cases tl <;> rfl) h
  | _ => exact store1_ok rfl rfl rfl h

theorem binSlow_ok {op : BinOp} {t : TypeId} {xo yo : Operand} {a b v : AV} (h : binSlow K op t xo yo a b = some v) : aBinOp K op t xo yo a b [] = some (v, [], []) := runE_some h
theorem binF_ok {op : BinOp} {t : TypeId} {xo yo : Operand} {a b v : AV} (h : binF K op t xo yo a b = some v) : aBinOp K op t xo yo a b [] = some (v, [], []) := by
  unfold binF at h
  cases a with
  | v x =>
    cases b with
    | v y =>
      simp only at h
      unfold binV at h
      cases x with
      | int k m =>
        cases y with
        | int k' n =>
          simp only at h
          cases hf : fInt op k k' m n with
          | none => rw [hf] at h; exact binSlow_ok h
          | some w =>
            rw [hf] at h
            cases h
            obtain ⟨h1, h2⟩ := fInt_ok (P := K.P) (t := t) (xo := xo) (yo := yo) hf
            unfold aBinOp
            simp only [h1, h2, if_true]
            rfl
        | _ => exact binSlow_ok h
      | _ => exact binSlow_ok h
    | _ => exact binSlow_ok h
  | str s =>
    cases b with
    | str u =>
      simp only at h
      unfold binS at h
      cases op with
      | eql => cases h; rw [strEqF_eq]; rfl
      | neq => cases h; rw [strEqF_eq]; rfl
      | _ => exact runE_some h
    | _ => exact binSlow_ok h
  | _ => exact binSlow_ok h

theorem convF_ok {H : List AB} {a b : TypeId} {x v : AV} (h : convF K H a b x = some v) : (match aUnsafe K H a b x with | some y => some y | none => match aConvertM K H a b x with | some y => some y | none => aConvert K a b x) = some v := by
  unfold convF at h
  cases x with
  | v w =>
    cases w with
    | int k n =>
      simp only at h
      cases hc : convInt K a b n with
      | none => rw [hc] at h; exact h
      | some y =>
        simp only [hc, Option.some.injEq] at h
        subst h
        unfold convInt at hc
        cases hu : K.P.underlying a with
        | none => simp [hu] at hc
        | some d =>
          simp only [hu] at hc
          cases d <;> try (simp at hc; done)
          simp only at hc
          cases hv : K.P.underlying b with
          | none => simp [hv] at hc
          | some d' =>
            simp only [hv] at hc
            cases d' <;> try (simp at hc; done)
            simp only [forceI_eq, Option.some.injEq] at hc
            rw [← hc, wrapF_eq]
            simp [aUnsafe, aConvertM, aConvert, hu, hv]
    | _ => exact h
  | _ => exact h

theorem intOf_some {x : AV} {k : Int → Option AV} {v : AV} (h : intOf x k = some v) : ∃ t n, asI x = some (t, n) ∧ k n = some v := by
  unfold intOf at h
  cases x <;> try (simp at h; done)
  rename_i w
  cases w <;> try (simp at h; done)
  exact ⟨_, _, rfl, h⟩
theorem within_some {i : Int} {n : Nat} {k : Nat → Option AV} {v : AV} (h : within i n k = some v) : decide (0 ≤ i ∧ i < n) = true ∧ k i.toNat = some v := by
  unfold within at h
  cases i with
  | negSucc _ => simp at h
  | ofNat m =>
    simp only at h
    cases hb : Nat.blt m n with
    | false => simp [hb] at h
    | true =>
      rw [hb] at h
      have : m < n := by simpa using hb
      exact ⟨by simp; omega, h⟩

theorem indexAddrF_ok (hs : K.sym = false) {t : TypeId} {x i v : AV} (h : indexAddrF K t x i = some v) : aIndexAddr K t x i [] = some (v, [], []) := by
  unfold indexAddrF at h
  obtain ⟨ik, n, hi, h1⟩ := intOf_some h; clear h; rename _ => h
  cases hu : K.P.underlying t with
  | none => simp [hu] at h
  | some d =>
    simp only [hu] at h
    cases d <;> try (simp at h; done)
    · -- a slice
      rename_i elem
      simp only at h
      unfold sliceAddr at h
      cases hz : tSize K.P elem with
      | none => simp [hz] at h
      | some sz =>
        simp only [hz] at h
        cases sz with
        | zero => simp at h
        | succ m =>
          simp only at h
          cases x <;> try (simp at h; done)
          · -- elements
            rename_i xs tl
            simp only at h
            cases n with
            | negSucc _ => simp at h
            | ofNat q =>
              simp only at h
              cases hn : nth xs q with
              | none => simp [hn] at h
              | some el =>
                simp only [hn] at h
                cases hb : Nat.beq el.cells.length (Nat.succ m) with
                | false => simp [hb] at h
                | true =>
                  simp only [hb, Option.some.injEq] at h
                  subst h
                  have hlt := nth_lt hn
                  simp only [aIndexAddr, hi, hu, hz]
                  refine bind_nil (chk_nil hs ?_) (bind_nil (of_nil hn) (bind_nil (chk_nil hs ?_) rfl))
                  · simp; omega
                  · simpa using hb
          · -- changeable
            rename_i b off len sz
            simp only at h
            cases hb : Nat.beq (Nat.succ m) sz with
            | false => simp [hb] at h
            | true =>
              rw [hb] at h
              obtain ⟨h1, h2⟩ := within_some h
              rw [forceN_eq] at h2
              cases h2
              simp only [aIndexAddr, hi, hu, hz]
              refine bind_nil (chk_nil hs ?_) (bind_nil (chk_nil hs h1) rfl)
              simpa using hb
    · -- an array
      rename_i len elem
      simp only at h
      unfold arrAddr at h
      cases hz : tSize K.P elem with
      | none => simp [hz] at h
      | some sz =>
        simp only [hz] at h
        cases sz with
        | zero => simp at h
        | succ m =>
          simp only at h
          cases x <;> try (simp at h; done)
          · obtain ⟨h1, h2⟩ := within_some h
            try rw [forceN_eq] at h2
            cases h2
            simp only [aIndexAddr, hi, hu, hz]
            exact bind_nil (chk_nil hs h1) rfl
          · obtain ⟨h1, h2⟩ := within_some h
            try rw [forceN_eq] at h2
            cases h2
            simp only [aIndexAddr, hi, hu, hz]
            exact bind_nil (chk_nil hs h1) rfl

theorem indexF_ok (hs : K.sym = false) {t : TypeId} {x i v : AV} (h : indexF K t x i = some v) : aIndex K t x i [] = some (v, [], []) := by
  unfold indexF at h
  obtain ⟨ik, n, hi, h1⟩ := intOf_some h; clear h; rename _ => h
  cases hu : K.P.underlying t with
  | none => simp [hu] at h
  | some d =>
    simp only [hu] at h
    cases d <;> try (simp at h; done)
    · -- a text
      simp only at h
      cases x <;> try (simp at h; done)
      rename_i s
      simp only at h
      cases n with
      | negSucc _ => simp at h
      | ofNat q =>
        simp only at h
        cases hn : nth s q with
        | none => simp [hn] at h
        | some b =>
          simp only [hn, forceN_eq, Option.some.injEq] at h
          subst h
          have hlt := nth_lt hn
          simp only [aIndex, hi, hu]
          refine bind_nil (chk_nil hs ?_) (bind_nil (of_nil hn) rfl)
          simp; omega
    · -- an array
      rename_i len elem
      simp only at h
      cases x <;> try (simp at h; done)
      rename_i cs
      simp only at h
      cases hz : tSize K.P elem with
      | none => simp [hz] at h
      | some sz =>
        simp only [hz] at h
        obtain ⟨h1, h2⟩ := within_some h
        simp only [aIndex, hi, hu, hz]
        exact bind_nil (chk_nil hs h1) (of_nil (takeF_ok h2))

theorem lenF_ok {t : TypeId} {H : List AB} {x v : AV} (h : lenF K t H x = some v) : aLen K t H x = some v := by
  unfold lenF at h
  cases hu : K.P.underlying t with
  | none => simp [hu] at h
  | some d =>
    rw [hu] at h
    cases d <;> first
      | exact h
      | (simp only at h
         cases x <;> first
           | (simp at h; done)
           | (simp only [forceN_eq] at h; simpa [aLen, hu, goInt] using h)
           | simpa [aLen, hu, goInt] using h)

theorem callee_ok (hs : K.sym = false) {c : Callee} {ts : List TypeId} {args : List AV} {f : FuncId} {dst : Option Tmp} {ev : Ev} {own : Nat → Nat} {H : List AB} {an : AN} : callee c ts args K f dst ev own H = some an →
    ((match c with
      | .builtin b => aBuiltin K f ⟨[], own, H⟩ (dst.getD 0) b ts args
      | .invoke r name => match ev r with
        | some (.iface t x) => match aMethod K t x name with
          | some (g, x) => pure (.call g ((x :: args).map AV.unown))
          | none => E.fail
        | _ => E.fail
      | .value g => match ev g with
        | some (.func (.func g) first captured) => pure (.call g ((first ++ args ++ captured).map AV.unown))
        | _ => E.fail : E AN)) [] = some (an, [], []) := by
  intro h
  cases c with
  | builtin b =>
    simp only
    have h : callBuiltin b ts args K f dst ev own H = some an := h
    unfold callBuiltin at h
    cases hb : isLen b with
    | false => rw [hb] at h; exact runE_some h
    | true =>
      have e : b = .len := by cases b <;> first | rfl | exact absurd hb (by decide)
      subst e
      rw [hb] at h
      simp only [callLen] at h
      cases ts with
      | nil => simp at h
      | cons t l => cases args with
        | nil => simp at h
        | cons a r => cases r with
          | cons _ _ => simp at h
          | nil => exact xKeep_map h fun v hv => lenF_ok hv
  | invoke r name =>
    simp only
    have h : callInvoke r name ts args K f dst ev own H = some an := h
    unfold callInvoke at h
    obtain ⟨x, hx, h⟩ := ev1_some h
    rw [hx]
    cases x <;> try (simp at h; done)
    rename_i t y
    simp only at h ⊢
    cases hm : aMethod K t y name with
    | none => simp [hm] at h
    | some g =>
      simp only [hm, Option.some.injEq] at h
      subst h
      rfl
  | value g =>
    simp only
    have h : callValue g ts args K f dst ev own H = some an := h
    unfold callValue at h
    obtain ⟨x, hx, h⟩ := ev1_some h
    rw [hx]
    cases x <;> try (simp at h; done)
    rename_i fn first captured
    simp only at h ⊢
    cases fn <;> try (simp at h; done)
    simp only [Option.some.injEq] at h
    subst h
    rfl

theorem opF_ok (hs : K.sym = false) {op : Op} {f : FuncId} {dst : Option Tmp} {ev : Ev} {own : Nat → Nat} {H : List AB} {an : AN} (h : opF op K f dst ev own H = some an) : aOpE K f dst ev own H op [] = some (an, [], []) := by
  cases op with
  | move x => obtain ⟨v, hv, h⟩ := ev1_some h; simp only [Option.some.injEq] at h; subst h; simp only [aOpE, hv]; rfl
  | assign x => obtain ⟨v, hv, h⟩ := ev1_some h; simp only [Option.some.injEq] at h; subst h; simp only [aOpE, hv]; rfl
  | load t a => obtain ⟨v, hv, h⟩ := ev1_some h; simp only [aOpE, hv]; exact xKeep_map h fun _ q => loadF_ok q
  | store t a x =>
    obtain ⟨v, hv, h⟩ := ev1_some h
    obtain ⟨u, hu, h⟩ := ev1_some h
    cases hst : storeF K H t v u with
    | none => simp [hst] at h
    | some H' =>
      simp only [hst, Option.some.injEq] at h
      subst h
      simp only [aOpE, hv, hu, storeF_ok hst]
      rfl
  | binOp op t x y yt => obtain ⟨v, hv, h⟩ := ev1_some h; obtain ⟨u, hu, h⟩ := ev1_some h; simp only [aOpE, hv, hu]; exact xKeep_E h fun _ q => binF_ok q
  | unOp op t x => obtain ⟨v, hv, h⟩ := ev1_some h; simp only [aOpE, hv]; exact xKeep_ok h
  | convert a b x => obtain ⟨v, hv, h⟩ := ev1_some h; simp only [aOpE, hv]; exact xKeep_map h fun _ q => convF_ok q
  | fieldAddr t x i => obtain ⟨v, hv, h⟩ := ev1_some h; simp only [aOpE, hv]; exact xKeep_ok h
  | field t x i => obtain ⟨v, hv, h⟩ := ev1_some h; simp only [aOpE, hv]; exact xKeep_ok h
  | indexAddr t x i => obtain ⟨v, hv, h⟩ := ev1_some h; obtain ⟨u, hu, h⟩ := ev1_some h; simp only [aOpE, hv, hu]; exact xKeep_E h fun _ q => indexAddrF_ok hs q
  | index t x i => obtain ⟨v, hv, h⟩ := ev1_some h; obtain ⟨u, hu, h⟩ := ev1_some h; simp only [aOpE, hv, hu]; exact xKeep_E h fun _ q => indexF_ok hs q
  | extract t i => obtain ⟨v, hv, h⟩ := ev1_some h; simp only [aOpE, hv]; exact xKeep_ok h
  | call c =>
    simp only [opF, xCall] at h
    simp only [aOpE]
    cases ha : mapO ev c.args.toList with
    | none => simp [ha] at h
    | some args =>
      simp only [ha] at h ⊢
      exact callee_ok hs h
  | _ => exact runE_some h

theorem aOp_eq (f : FuncId) (s : St) (o : Oper) : aOp K f s o = aOpE K f o.dst (evalO K s.regs) s.own s.H o.op := by
  cases o with
  | mk dst op type pos after guard => cases op <;> rfl
end Go.Tm
