/- The tree machine in haste: operations. -/
import Derived.Test.YtaefgigfoifjaaaGreatDoorTmQc
set_option linter.unusedVariables false
set_option linter.unusedSimpArgs false
set_option linter.unusedSectionVars false
namespace Go.Tm
variable {K : Cfg}

theorem isU32_ok {k : IntKind} (h : isU32 k = true) : k = .u32 := by cases k <;> first | rfl | exact absurd h (by decide)
theorem nat2_map {a b : Int} {g g' : Nat → Nat → Option Value} {v : Value} (h : nat2 a b g = some v) (hg : ∀ x y, g x y = some v → g' x y = some v) : nat2 a b g' = some v := by
  obtain ⟨x, y, rfl, rfl, h1⟩ := nat2_some h
  exact hg x y h1
theorem arOp_ok {op : BinOp} {g : Nat → Nat → Nat} (hg : arOp op Ar.real = some g) {a b : Int} {v : Value} (h : (nat2 a b fun x y => some (.int .u32 (.ofNat (g x y)))) = some v) : intOp op .u32 a b = some v := by
  obtain ⟨x, y, rfl, rfl, h1⟩ := nat2_some h
  cases h1
  cases op <;> first
    | (simp [arOp] at hg; done)
    | (simp only [arOp, Option.some.injEq] at hg; subst hg; rfl)
theorem fIntA_ok (ha : K.ar = Ar.real) {op : BinOp} {k k' : IntKind} {a b : Int} {v : Value} (h : fIntA K.ar op k k' a b = some v) : fInt op k k' a b = some v := by
  rw [ha] at h
  unfold fIntA at h
  cases hu : isU32 k with
  | false => rw [hu] at h; exact h
  | true =>
    obtain rfl := isU32_ok hu
    simp only [hu] at h
    cases hg : arOp op Ar.real with
    | none => simp only [hg] at h; exact h
    | some g =>
      simp only [hg] at h
      unfold fInt
      cases hk : kEq .u32 k' with
      | true => simp only [hk] at h ⊢; exact arOp_ok hg h
      | false =>
        simp only [hk] at h ⊢
        cases hs : isShift op with
        | true => simp only [hs] at h ⊢; exact arOp_ok hg h
        | false => simp [hs] at h

theorem unownK_eq (x : AV) (k : AV → Option AN) : unownK x k = k x.unown := by
  cases x with
  | sl xs t => cases t <;> rfl
  | _ => rfl
theorem xKeep_ok {x : Option AV} {own : Nat → Nat} {H : List AB} {an : AN} (h : xKeep x own H = some an) : aKeep ⟨[], own, H⟩ x [] = some (an, [], []) := by
  cases x with
  | none => simp [xKeep] at h
  | some v =>
    simp only [xKeep, unownK_eq, Option.some.injEq] at h
    subst h; rfl
theorem xKeep_map {x y : Option AV} {own : Nat → Nat} {H : List AB} {an : AN} (h : xKeep x own H = some an) (hxy : ∀ v, x = some v → y = some v) : aKeep ⟨[], own, H⟩ y [] = some (an, [], []) := by
  cases x with
  | none => simp [xKeep] at h
  | some v => rw [hxy v rfl]; exact xKeep_ok h
theorem xKeep_E {x : Option AV} {y : E AV} {own : Nat → Nat} {H : List AB} {an : AN} (h : xKeep x own H = some an) (hxy : ∀ v, x = some v → y [] = some (v, [], [])) : aKeepE ⟨[], own, H⟩ y [] = some (an, [], []) := by
  cases x with
  | none => simp [xKeep] at h
  | some v =>
    simp only [xKeep, unownK_eq, Option.some.injEq] at h
    subst h
    exact bind_nil (hxy v rfl) rfl
theorem ev1_some {ev : Ev} {x : Operand} {k : AV → Option AN} {an : AN} (h : ev1 ev x k = some an) : ∃ v, ev x = some v ∧ k v = some an := by
  unfold ev1 at h
  cases hx : ev x with
  | none => simp [hx] at h
  | some v => rw [hx] at h; exact ⟨v, rfl, h⟩

theorem nth_drop {α : Type} : ∀ (l : List α) (i : Nat) (x : α), nth l i = some x → ∃ r, l.drop i = x :: r
  | [], _, _, h => by simp [nth] at h
  | y :: r, 0, x, h => by simp [nth] at h; subst h; exact ⟨r, rfl⟩
  | y :: r, i + 1, x, h => by simpa using nth_drop r i x (by simpa [nth] using h)
theorem nth_lt {α : Type} : ∀ {l : List α} {i : Nat} {x : α}, nth l i = some x → i < l.length
  | [], _, _, h => by simp [nth] at h
  | _ :: _, 0, _, _ => by simp
  | _ :: r, i + 1, x, h => by have := nth_lt (l := r) (i := i) (x := x) (by simpa [nth] using h); simp; omega

theorem takeF_ok {P : Program} {t : TypeId} {off : Nat} {cs : List AV} {v : AV} (h : takeF P t off cs = some v) : takeVar P t (cs.drop off) = some v := by
  unfold takeF at h
  cases ha : tAgg P t with
  | none => simp [ha] at h
  | some b =>
    rw [ha] at h
    cases b with
    | true => exact h
    | false =>
      simp only at h
      cases hz : tSize P t with
      | none => simp [hz] at h
      | some n =>
        simp only [hz] at h
        obtain ⟨r, hr⟩ := nth_drop cs off v h
        simp [takeVar, ha, hz, hr]
/-! Trees of pieces. -/
theorem forceN_eq' {R : Type} (n : Nat) (k : Nat → R) : forceN n k = k n := forceN_eq n k
theorem piece_eq {cs xs : List AV} {off n : Nat} (h : pieceF cs off n = some xs) : xs.length = n ∧ ∃ rest, cs.drop off = xs ++ rest := by
  have main : ∀ off, off + n ≤ cs.length → ((cs.drop off).take n).length = n ∧ ∃ rest, cs.drop off = (cs.drop off).take n ++ rest := fun off hle => ⟨by simp; omega, _, (List.take_append_drop n _).symm⟩
  unfold pieceF at h
  split at h
  · rename_i hb
    obtain rfl : off = 0 := Nat.eq_of_beq_eq_true hb
    split at h
    · rename_i hl
      cases h
      exact ⟨Nat.eq_of_beq_eq_true hl, [], by simp⟩
    · split at h
      · rename_i hle
        cases h
        exact main 0 (by have : n ≤ cs.length := Nat.le_of_ble_eq_true hle; omega)
      · cases h
  · split at h
    · rename_i hle
      cases h
      exact main off (Nat.le_of_ble_eq_true hle)
    · cases h
theorem blt_ble (m off : Nat) : Nat.blt off m = !Nat.ble m off := by
  rw [Bool.eq_iff_iff]
  simp only [Bool.not_eq_true', Nat.blt_eq]
  constructor
  · intro h
    cases hb : Nat.ble m off with
    | false => rfl
    | true => have := Nat.le_of_ble_eq_true hb; omega
  · intro h
    rcases Nat.lt_or_ge off m with q | q
    · exact q
    · rw [Nat.ble_eq_true_of_le q] at h; cases h
theorem BT.rdF_ok : ∀ {t : BT} {off n : Nat} {xs : List AV}, t.rdF off n = some xs → xs.length = n ∧ ∃ rest, t.from off = xs ++ rest
  | .leaf cs, off, n, xs, h => piece_eq h
  | .node m l r, off, n, xs, h => by
    have h : Bool.rec (motive := fun _ => Option (List AV)) (Bool.rec (motive := fun _ => Option (List AV)) none (l.rdF off n) (Nat.ble (Nat.add off n) m)) (forceN (Nat.sub off m) fun o => r.rdF o n) (Nat.ble m off) = some xs := h
    simp only [BT.from, blt_ble]
    cases hb : Nat.ble m off with
    | true =>
      rw [hb] at h
      simp only [forceN_eq] at h
      exact BT.rdF_ok h
    | false =>
      rw [hb] at h
      cases hc : Nat.ble (Nat.add off n) m with
      | false => rw [hc] at h; cases h
      | true =>
        rw [hc] at h
        obtain ⟨h1, rest, h2⟩ := BT.rdF_ok (t := l) h
        exact ⟨h1, rest ++ r.toL, by simp only [Bool.not_false]; rw [h2, List.append_assoc]⟩
theorem BT.get1_ok : ∀ {t : BT} {off : Nat} {x : AV}, t.get1 off = some x → ∃ rest, t.from off = x :: rest
  | .leaf cs, off, x, h => nth_drop cs off x h
  | .node m l r, off, x, h => by
    have h : Bool.rec (motive := fun _ => Option AV) (l.get1 off) (forceN (Nat.sub off m) r.get1) (Nat.ble m off) = some x := h
    simp only [BT.from, blt_ble]
    cases hb : Nat.ble m off with
    | true =>
      rw [hb] at h
      simp only [forceN_eq] at h
      exact BT.get1_ok h
    | false =>
      rw [hb] at h
      obtain ⟨rest, h2⟩ := BT.get1_ok (t := l) h
      exact ⟨rest ++ r.toL, by simp only [Bool.not_false]; rw [h2]; rfl⟩
theorem setF_some {cs l : List AV} {o : Nat} {x : AV} (h : setF cs o x = some l) : o < cs.length ∧ l = setAt cs o x := by
  unfold setF at h
  cases hn : nth cs o with
  | none => simp [hn] at h
  | some y => simp only [hn, Option.some.injEq] at h; exact ⟨nth_lt hn, h.symm⟩
theorem ble_false {a b : Nat} (h : Nat.ble a b = false) : b < a := by
  rcases Nat.lt_or_ge b a with q | q
  · exact q
  · rw [Nat.ble_eq_true_of_le q] at h; cases h
theorem BT.wr1K_ok {R : Type} : ∀ {t : BT} {off : Nat} {x : AV} {k : BT → Option R} {res : R}, t.wr1K off x k = some res → ∃ t', t.wr off [x] = some t' ∧ k t' = some res
  | .leaf cs, off, x, k, res, h => by
    have h : (match setF cs off x with | some l => k (.leaf l) | none => none) = some res := h
    cases hs : setF cs off x with
    | none => simp [hs] at h
    | some l =>
      simp only [hs] at h
      obtain ⟨h1, rfl⟩ := setF_some hs
      refine ⟨_, ?_, h⟩
      unfold BT.wr
      rw [show Nat.ble (Nat.add off [x].length) cs.length = true from Nat.ble_eq_true_of_le h1]
      rfl
  | .node m l r, off, x, k, res, h => by
    have h : Bool.rec (motive := fun _ => Option R) (l.wr1K off x fun l => k (.node m l r)) (forceN (Nat.sub off m) fun o => r.wr1K o x fun r => k (.node m l r)) (Nat.ble m off) = some res := h
    unfold BT.wr
    rw [blt_ble]
    cases hb : Nat.ble m off with
    | true =>
      rw [hb] at h
      simp only [forceN_eq] at h
      obtain ⟨t', h1, h2⟩ := BT.wr1K_ok h
      exact ⟨_, by simp only [Bool.not_true, h1], h2⟩
    | false =>
      rw [hb] at h
      obtain ⟨t', h1, h2⟩ := BT.wr1K_ok (t := l) h
      have hlt := ble_false hb
      exact ⟨_, by simp only [Bool.not_false, h1, show Nat.ble (Nat.add off [x].length) m = true from Nat.ble_eq_true_of_le (by show off + 1 ≤ m; omega)], h2⟩
theorem putF_ok {R : Type} {cs xs : List AV} {off n : Nat} {k : BT → Option R} {res : R} (hn : xs.length = n) (h : putF cs off n xs k = some res) : ∃ t', (BT.leaf cs).wr off xs = some t' ∧ k t' = some res := by
  have fin : off + n ≤ cs.length → (BT.leaf cs).wr off xs = some (.leaf (putAll cs off xs)) := fun q => by
    unfold BT.wr
    rw [show Nat.ble (Nat.add off xs.length) cs.length = true from Nat.ble_eq_true_of_le (by rw [hn]; exact q)]
  unfold putF at h
  split at h
  · rename_i hb
    obtain rfl : off = 0 := Nat.eq_of_beq_eq_true hb
    split at h
    · rename_i hl
      have hl' : cs.length = n := Nat.eq_of_beq_eq_true hl
      refine ⟨_, fin (by omega), ?_⟩
      rw [putAll_eq _ _ _ (by omega)]
      rw [List.take_zero, List.nil_append, List.drop_eq_nil_of_le (by omega), List.append_nil]
      exact h
    · split at h
      · rename_i hle
        have : n ≤ cs.length := Nat.le_of_ble_eq_true hle
        exact ⟨_, fin (by omega), h⟩
      · cases h
  · split at h
    · rename_i hle
      exact ⟨_, fin (Nat.le_of_ble_eq_true hle), h⟩
    · cases h
theorem BT.wrK_ok {R : Type} : ∀ {t : BT} {off n : Nat} {xs : List AV} {k : BT → Option R} {res : R}, xs.length = n → t.wrK off n xs k = some res → ∃ t', t.wr off xs = some t' ∧ k t' = some res
  | .leaf cs, off, n, xs, k, res, hn, h => putF_ok hn h
  | .node m l r, off, n, xs, k, res, hn, h => by
    have h : Bool.rec (motive := fun _ => Option R) (Bool.rec (motive := fun _ => Option R) none (l.wrK off n xs fun l => k (.node m l r)) (Nat.ble (Nat.add off n) m)) (forceN (Nat.sub off m) fun o => r.wrK o n xs fun r => k (.node m l r)) (Nat.ble m off) = some res := h
    unfold BT.wr
    rw [blt_ble]
    cases hb : Nat.ble m off with
    | true =>
      rw [hb] at h
      simp only [forceN_eq] at h
      obtain ⟨t', h1, h2⟩ := BT.wrK_ok hn h
      exact ⟨_, by simp only [Bool.not_true, h1], h2⟩
    | false =>
      rw [hb] at h
      cases hc : Nat.ble (Nat.add off n) m with
      | false => rw [hc] at h; cases h
      | true =>
        rw [hc] at h
        obtain ⟨t', h1, h2⟩ := BT.wrK_ok (t := l) hn h
        exact ⟨_, by simp only [Bool.not_false, hn, hc, h1], h2⟩
theorem takeR_ok {P : Program} {t : TypeId} {off : Nat} {r : BT} {v : AV} (h : takeR P t off r = some v) : takeVar P t (r.from off) = some v := by
  unfold takeR at h
  cases ha : tAgg P t with
  | none => simp [ha] at h
  | some b =>
    rw [ha] at h
    cases hz : tSize P t with
    | none => cases b <;> simp [hz] at h
    | some n =>
      cases b with
      | true =>
        simp only [hz] at h
        cases hr : r.rdF off n with
        | none => simp [hr] at h
        | some cs =>
          simp only [hr, Option.some.injEq] at h
          subst h
          obtain ⟨h1, rest, h2⟩ := BT.rdF_ok hr
          simp only [takeVar, ha, hz, h2]
          rw [if_pos (by simp; omega), List.take_append_of_le_length (by omega), List.take_of_length_le (by omega)]
      | false =>
        simp only [hz] at h
        obtain ⟨rest, h2⟩ := BT.get1_ok h
        simp only [takeVar, ha, hz, h2]
theorem loadF_ok {H : List AB} {t : TypeId} {a v : AV} (h : loadF K H t a = some v) : aLoad K H t a = some v := by
  unfold loadF at h
  cases a <;> try (simp at h; done)
  · rename_i b off
    simp only at h
    cases hb : nth H b with
    | none => simp [hb] at h
    | some o =>
      simp only [hb] at h
      cases o <;> simp at h
      · simp [aLoad, deref, hb, takeF_ok h]
      · simp [aLoad, deref, hb, takeR_ok h]
  · simpa [aLoad, deref] using h

theorem store1_ok {H H' : List AB} {t : TypeId} {a x : AV} (hc : x.cells = [x]) (ho : x.one = true) (hu : x.unown.cells = [x.unown]) (h : store1 K H t a x = some H') : aStore K H t a x = some H' := by
  unfold store1 at h
  cases hz : tSize K.P t with
  | none => simp [hz] at h
  | some n =>
    simp only [hz] at h
    cases hn : Nat.beq n 1 with
    | false => simp [hn] at h
    | true =>
      obtain rfl : n = 1 := Nat.eq_of_beq_eq_true hn
      simp only [hn] at h
      cases a <;> try (simp at h; done)
      rename_i b off
      simp only at h
      cases hb : nth H b with
      | none => simp [hb] at h
      | some o =>
        simp only [hb] at h
        cases o <;> try (simp at h; done)
        rotate_left
        · rename_i e m r
          simp only at h
          obtain ⟨t', h1, h2⟩ := BT.wr1K_ok h
          cases h2
          simp only [aStore, hz, hb, hc, hu]
          rw [if_pos ⟨by simp, by simp [allOne, ho]⟩, h1]
        rename_i e cs
        simp only at h
        unfold setF at h
        cases hn : nth cs off with
        | none => simp [hn] at h
        | some old =>
          simp only [hn, Option.some.injEq] at h
          have hlt := nth_lt hn
          simp only [aStore, hz, hb, hc, hu]
          rw [if_pos ⟨by simp, by omega, by simp [allOne, ho]⟩]
          simpa [putAll] using h
theorem allOneF_eq : ∀ {l : List AV}, allOneF l = true → allOne l = true
  | [], _ => rfl
  | x :: r, h => by
    unfold allOneF oneF at h
    have hx : x.one = true ∧ allOneF r = true := by
      split at h
      · cases h
      · cases h
      · refine ⟨?_, h⟩
        cases x <;> first | rfl | (exfalso; rename_i q _ ; exact q _ rfl) | (exfalso; rename_i q; exact q _ rfl)
    have := allOneF_eq hx.2
    simp only [allOne, List.all_cons, hx.1, Bool.true_and] at this ⊢
    exact this
theorem storeA_ok {H H' : List AB} {t : TypeId} {a : AV} {cs : List AV} (h : storeA K H t a cs = some H') : aStore K H t a (.agg cs) = some H' := by
  unfold storeA at h
  cases a <;> try exact h
  rename_i b off
  simp only at h
  cases hb : nth H b with
  | none => simp [hb] at h
  | some o =>
    simp only [hb] at h
    cases o <;> try exact h
    rename_i e m r
    simp only at h
    cases hz : tSize K.P t with
    | none => simp [hz] at h
    | some n =>
      simp only [hz] at h
      cases hl : Nat.beq cs.length n with
      | false => simp [hl] at h
      | true =>
        cases ho : allOneF cs with
        | false => simp [hl, ho] at h
        | true =>
          simp only [hl, ho] at h
          have hl' : cs.length = n := Nat.eq_of_beq_eq_true hl
          obtain ⟨t', h1, h2⟩ := BT.wrK_ok hl' h
          cases h2
          simp only [aStore, hz, hb]
          rw [if_pos ⟨hl', allOneF_eq ho⟩]
          show (match r.wr off cs with | some r' => some (setAt H b (.rope e m r')) | none => none) = _
          rw [h1]
theorem storeF_ok {H H' : List AB} {t : TypeId} {a x : AV} (h : storeF K H t a x = some H') : aStore K H t a x = some H' := by
  unfold storeF at h
  cases x with
  | agg _ => exact storeA_ok h
  | tup _ => exact h
  | sl xs tl => exact store1_ok rfl rfl (by cases tl <;> rfl) h
  | _ => exact store1_ok rfl rfl rfl h

theorem binSlow_ok {op : BinOp} {t : TypeId} {xo yo : Operand} {a b v : AV} (h : binSlow K op t xo yo a b = some v) : aBinOp K op t xo yo a b [] = some (v, [], []) := runE_some h
theorem binF_ok (har : K.ar = Ar.real) {op : BinOp} {t : TypeId} {xo yo : Operand} {a b v : AV} (h : binF K op t xo yo a b = some v) : aBinOp K op t xo yo a b [] = some (v, [], []) := by
  unfold binF at h
  cases a with
  | v x =>
    cases b with
    | v y =>
      simp only at h
      unfold binV at h
      cases x with
      | int k m =>
        cases y with
        | int k' n =>
          simp only at h
          cases hf : fIntA K.ar op k k' m n with
          | none => rw [hf] at h; exact binSlow_ok h
          | some w =>
            rw [hf] at h
            cases h
            obtain ⟨h1, h2⟩ := fInt_ok (P := K.P) (t := t) (xo := xo) (yo := yo) (fIntA_ok har hf)
            unfold aBinOp
            simp only [h1, h2, if_true]
            rfl
        | _ => exact binSlow_ok h
      | _ => exact binSlow_ok h
    | _ => exact binSlow_ok h
  | str s =>
    cases b with
    | str u =>
      simp only at h
      unfold binS at h
      cases op with
      | eql => cases h; rw [strEqF_eq]; rfl
      | neq => cases h; rw [strEqF_eq]; rfl
      | _ => exact runE_some h
    | _ => exact binSlow_ok h
  | _ => exact binSlow_ok h

theorem convU_ok (har : K.ar = Ar.real) {k : IntKind} {n : Int} {v : AV} (h : convU K.ar k n = some v) : v = .v (.int k (k.wrap n)) := by
  rw [har] at h
  unfold convU at h
  rw [← wrapF_eq]
  cases hu : isU32 k with
  | true =>
    obtain rfl := isU32_ok hu
    simp only [hu] at h
    cases n with
    | ofNat m => cases h; rfl
    | negSucc m => cases h; rfl
  | false =>
    simp only [hu] at h
    cases hs : k.signed with
    | true => simp only [hs, forceI_eq, Option.some.injEq] at h; exact h.symm
    | false => simp only [hs, Option.some.injEq] at h; exact h.symm
theorem convF_ok (har : K.ar = Ar.real) {H : List AB} {a b : TypeId} {x v : AV} (h : convF K H a b x = some v) : (match aUnsafe K H a b x with | some y => some y | none => match aConvertM K H a b x with | some y => some y | none => aConvert K a b x) = some v := by
  unfold convF at h
  cases x with
  | v w =>
    cases w with
    | int k n =>
      simp only at h
      cases hc : convInt K a b n with
      | none => rw [hc] at h; exact h
      | some y =>
        simp only [hc, Option.some.injEq] at h
        subst h
        unfold convInt at hc
        cases hu : K.P.underlying a with
        | none => simp [hu] at hc
        | some d =>
          simp only [hu] at hc
          cases d <;> try (simp at hc; done)
          simp only at hc
          cases hv : K.P.underlying b with
          | none => simp [hv] at hc
          | some d' =>
            simp only [hv] at hc
            cases d' <;> try (simp at hc; done)
            simp only at hc
            rw [convU_ok har hc]
            simp [aUnsafe, aConvertM, aConvert, hu, hv]
    | _ => exact h
  | _ => exact h
theorem unReal (k : IntKind) (hs : k.signed = false) (m : Nat) : aUnOp K .xor (.v (.int k (.ofNat m))) = some (.v (.int k (.ofNat (Nat.mod (Nat.xor (Nat.sub (lim k) 1) m) (lim k))))) := by
  have hmax : k.max = Int.ofNat (lim k - 1) := by cases k <;> first | rfl | exact absurd hs (by decide)
  have hrun : pureRun K.P (Op.unary .xor (.int k (.ofNat m))) = some (.int k (.ofNat (((lim k - 1) ^^^ m) % lim k))) := by
    show some (Value.int k (k.wrap ((BitVec.ofInt k.bits (if k.signed then -1 else k.max) ^^^ BitVec.ofInt k.bits (.ofNat m)).toNat))) = _
    rw [hs]
    simp only [Bool.false_eq_true, if_false]
    rw [hmax, BitVec.toNat_xor, ofInt_mod hs, ofInt_mod hs]
    exact congrArg (fun z => some (Value.int k z)) (bits_mod (g := fun a b => a ^^^ b) hs (fun a b n => Nat.xor_mod_two_pow) (lim k - 1) m)
  simp only [aUnOp, hrun, flat, if_true]
  rfl
theorem unInt_ok (har : K.ar = Ar.real) {op : UnOp} {k : IntKind} {n : Int} {v : AV} (h : unInt K.ar op k n = some v) : aUnOp K op (.v (.int k n)) = some v := by
  rw [har] at h
  unfold unInt at h
  cases op <;> try (simp at h; done)
  simp only at h
  cases hu : isU32 k with
  | true =>
    obtain rfl := isU32_ok hu
    simp only [hu] at h
    cases n with
    | negSucc _ => simp at h
    | ofNat m => cases h; exact unReal .u32 rfl m
  | false =>
    simp only [hu] at h
    cases hs : k.signed with
    | true => simp [hs] at h
    | false =>
      simp only [hs] at h
      cases n with
      | negSucc _ => simp at h
      | ofNat m => cases h; exact unReal k hs m
theorem unF_ok (har : K.ar = Ar.real) {op : UnOp} {x v : AV} (h : unF K op x = some v) : aUnOp K op x = some v := by
  unfold unF at h
  cases x with
  | v w =>
    cases w with
    | int k n =>
      simp only at h
      cases hc : unInt K.ar op k n with
      | none => rw [hc] at h; exact h
      | some y => rw [hc] at h; cases h; exact unInt_ok har hc
    | _ => exact h
  | _ => exact h
theorem intOf_some {x : AV} {k : Int → Option AV} {v : AV} (h : intOf x k = some v) : ∃ t n, asI x = some (t, n) ∧ k n = some v := by
  unfold intOf at h
  cases x <;> try (simp at h; done)
  rename_i w
  cases w <;> try (simp at h; done)
  exact ⟨_, _, rfl, h⟩
theorem within_some {i : Int} {n : Nat} {k : Nat → Option AV} {v : AV} (h : within i n k = some v) : decide (0 ≤ i ∧ i < n) = true ∧ k i.toNat = some v := by
  unfold within at h
  cases i with
  | negSucc _ => simp at h
  | ofNat m =>
    simp only at h
    cases hb : Nat.blt m n with
    | false => simp [hb] at h
    | true =>
      rw [hb] at h
      have : m < n := by simpa using hb
      exact ⟨by simp; omega, h⟩

theorem indexAddrF_ok (hs : K.sym = false) {t : TypeId} {x i v : AV} (h : indexAddrF K t x i = some v) : aIndexAddr K t x i [] = some (v, [], []) := by
  unfold indexAddrF at h
  obtain ⟨ik, n, hi, h1⟩ := intOf_some h; clear h; rename _ => h
  cases hu : K.P.underlying t with
  | none => simp [hu] at h
  | some d =>
    simp only [hu] at h
    cases d <;> try (simp at h; done)
    · -- a slice
      rename_i elem
      simp only at h
      unfold sliceAddr at h
      cases hz : tSize K.P elem with
      | none => simp [hz] at h
      | some sz =>
        simp only [hz] at h
        cases sz with
        | zero => simp at h
        | succ m =>
          simp only at h
          cases x <;> try (simp at h; done)
          · -- elements
            rename_i xs tl
            simp only at h
            cases n with
            | negSucc _ => simp at h
            | ofNat q =>
              simp only at h
              cases hn : nth xs q with
              | none => simp [hn] at h
              | some el =>
                simp only [hn] at h
                cases hb : Nat.beq el.cells.length (Nat.succ m) with
                | false => simp [hb] at h
                | true =>
                  simp only [hb, Option.some.injEq] at h
                  subst h
                  have hlt := nth_lt hn
                  simp only [aIndexAddr, hi, hu, hz]
                  refine bind_nil (chk_nil hs ?_) (bind_nil (of_nil hn) (bind_nil (chk_nil hs ?_) rfl))
                  · simp; omega
                  · simpa using hb
          · -- changeable
            rename_i b off len sz
            simp only at h
            cases hb : Nat.beq (Nat.succ m) sz with
            | false => simp [hb] at h
            | true =>
              rw [hb] at h
              obtain ⟨h1, h2⟩ := within_some h
              rw [forceN_eq] at h2
              cases h2
              simp only [aIndexAddr, hi, hu, hz]
              refine bind_nil (chk_nil hs ?_) (bind_nil (chk_nil hs h1) rfl)
              simpa using hb
    · -- an array
      rename_i len elem
      simp only at h
      unfold arrAddr at h
      cases hz : tSize K.P elem with
      | none => simp [hz] at h
      | some sz =>
        simp only [hz] at h
        cases sz with
        | zero => simp at h
        | succ m =>
          simp only at h
          cases x <;> try (simp at h; done)
          · obtain ⟨h1, h2⟩ := within_some h
            try rw [forceN_eq] at h2
            cases h2
            simp only [aIndexAddr, hi, hu, hz]
            exact bind_nil (chk_nil hs h1) rfl
          · obtain ⟨h1, h2⟩ := within_some h
            try rw [forceN_eq] at h2
            cases h2
            simp only [aIndexAddr, hi, hu, hz]
            exact bind_nil (chk_nil hs h1) rfl

theorem indexF_ok (hs : K.sym = false) {t : TypeId} {x i v : AV} (h : indexF K t x i = some v) : aIndex K t x i [] = some (v, [], []) := by
  unfold indexF at h
  obtain ⟨ik, n, hi, h1⟩ := intOf_some h; clear h; rename _ => h
  cases hu : K.P.underlying t with
  | none => simp [hu] at h
  | some d =>
    simp only [hu] at h
    cases d <;> try (simp at h; done)
    · -- a text
      simp only at h
      cases x <;> try (simp at h; done)
      rename_i s
      simp only at h
      cases n with
      | negSucc _ => simp at h
      | ofNat q =>
        simp only at h
        cases hn : nth s q with
        | none => simp [hn] at h
        | some b =>
          simp only [hn, Option.some.injEq] at h
          subst h
          have hlt := nth_lt hn
          simp only [aIndex, hi, hu]
          refine bind_nil (chk_nil hs ?_) (bind_nil (of_nil hn) rfl)
          simp; omega
    · -- an array
      rename_i len elem
      simp only at h
      cases x <;> try (simp at h; done)
      rename_i cs
      simp only at h
      cases hz : tSize K.P elem with
      | none => simp [hz] at h
      | some sz =>
        simp only [hz] at h
        obtain ⟨h1, h2⟩ := within_some h
        simp only [aIndex, hi, hu, hz]
        exact bind_nil (chk_nil hs h1) (of_nil (takeF_ok h2))

theorem lenF_ok {t : TypeId} {H : List AB} {x v : AV} (h : lenF K t H x = some v) : aLen K t H x = some v := by
  unfold lenF at h
  cases hu : K.P.underlying t with
  | none => simp [hu] at h
  | some d =>
    rw [hu] at h
    cases d <;> first
      | exact h
      | (simp only at h
         cases x <;> first
           | (simp at h; done)
           | (simp only [forceN_eq] at h; simpa [aLen, hu, goInt] using h)
           | simpa [aLen, hu, goInt] using h)

theorem callee_ok (hs : K.sym = false) {c : Callee} {ts : List TypeId} {args : List AV} {f : FuncId} {dst : Option Tmp} {ev : Ev} {own : Nat → Nat} {H : List AB} {an : AN} : callee c ts args K f dst ev own H = some an →
    ((match c with
      | .builtin b => aBuiltin K f ⟨[], own, H⟩ (dst.getD 0) b ts args
      | .invoke r name => match ev r with
        | some (.iface t x) => match aMethod K t x name with
          | some (g, x) => pure (.call g ((x :: args).map AV.unown))
          | none => E.fail
        | _ => E.fail
      | .value g => match ev g with
        | some (.func (.func g) first captured) => pure (.call g ((first ++ args ++ captured).map AV.unown))
        | _ => E.fail : E AN)) [] = some (an, [], []) := by
  intro h
  cases c with
  | builtin b =>
    simp only
    have h : callBuiltin b ts args K f dst ev own H = some an := h
    unfold callBuiltin at h
    cases hb : isLen b with
    | false => rw [hb] at h; exact runE_some h
    | true =>
      have e : b = .len := by cases b <;> first | rfl | exact absurd hb (by decide)
      subst e
      rw [hb] at h
      simp only [callLen] at h
      cases ts with
      | nil => simp at h
      | cons t l => cases args with
        | nil => simp at h
        | cons a r => cases r with
          | cons _ _ => simp at h
          | nil => exact xKeep_map h fun v hv => lenF_ok hv
  | invoke r name =>
    simp only
    have h : callInvoke r name ts args K f dst ev own H = some an := h
    unfold callInvoke at h
    obtain ⟨x, hx, h⟩ := ev1_some h
    rw [hx]
    cases x <;> try (simp at h; done)
    rename_i t y
    simp only at h ⊢
    cases hm : aMethod K t y name with
    | none => simp [hm] at h
    | some g =>
      simp only [hm, Option.some.injEq] at h
      subst h
      rfl
  | value g =>
    simp only
    have h : callValue g ts args K f dst ev own H = some an := h
    unfold callValue at h
    obtain ⟨x, hx, h⟩ := ev1_some h
    rw [hx]
    cases x <;> try (simp at h; done)
    rename_i fn first captured
    simp only at h ⊢
    cases fn <;> try (simp at h; done)
    simp only [Option.some.injEq] at h
    subst h
    rfl

theorem opF_ok (hs : K.sym = false) (har : K.ar = Ar.real) {op : Op} {f : FuncId} {dst : Option Tmp} {ev : Ev} {own : Nat → Nat} {H : List AB} {an : AN} (h : opF op K f dst ev own H = some an) : aOpE K f dst ev own H op [] = some (an, [], []) := by
  cases op with
  | move x => obtain ⟨v, hv, h⟩ := ev1_some h; simp only [Option.some.injEq] at h; subst h; simp only [aOpE, hv]; rfl
  | assign x => obtain ⟨v, hv, h⟩ := ev1_some h; simp only [Option.some.injEq] at h; subst h; simp only [aOpE, hv]; rfl
  | alloc elem =>
    simp only [opF, xAlloc] at h
    cases hb : K.big elem with
    | none => rw [hb] at h; exact runE_some h
    | some x =>
      simp only [hb] at h
      cases hq : bigOk K.P elem x.1 x.2 with
      | false => simp [hq] at h
      | true =>
        simp only [hq, Option.some.injEq] at h
        subst h
        have hz : ∃ z, tZero K.P elem = some z := by
          unfold bigOk at hq
          cases hz : tZero K.P elem with
          | none => simp [hz] at hq
          | some z => exact ⟨z, rfl⟩
        obtain ⟨z, hz⟩ := hz
        simp only [aOpE, hz, hb, newBlk, hq]
        rfl
  | load t a => obtain ⟨v, hv, h⟩ := ev1_some h; simp only [aOpE, hv]; exact xKeep_map h fun _ q => loadF_ok q
  | store t a x =>
    obtain ⟨v, hv, h⟩ := ev1_some h
    obtain ⟨u, hu, h⟩ := ev1_some h
    cases hst : storeF K H t v u with
    | none => simp [hst] at h
    | some H' =>
      simp only [hst, Option.some.injEq] at h
      subst h
      simp only [aOpE, hv, hu, storeF_ok hst]
      rfl
  | binOp op t x y yt => obtain ⟨v, hv, h⟩ := ev1_some h; obtain ⟨u, hu, h⟩ := ev1_some h; simp only [aOpE, hv, hu]; exact xKeep_E h fun _ q => binF_ok har q
  | unOp op t x => obtain ⟨v, hv, h⟩ := ev1_some h; simp only [aOpE, hv]; exact xKeep_map h fun _ q => unF_ok har q
  | convert a b x => obtain ⟨v, hv, h⟩ := ev1_some h; simp only [aOpE, hv]; exact xKeep_map h fun _ q => convF_ok har q
  | fieldAddr t x i => obtain ⟨v, hv, h⟩ := ev1_some h; simp only [aOpE, hv]; exact xKeep_ok h
  | field t x i => obtain ⟨v, hv, h⟩ := ev1_some h; simp only [aOpE, hv]; exact xKeep_ok h
  | indexAddr t x i => obtain ⟨v, hv, h⟩ := ev1_some h; obtain ⟨u, hu, h⟩ := ev1_some h; simp only [aOpE, hv, hu]; exact xKeep_E h fun _ q => indexAddrF_ok hs q
  | index t x i => obtain ⟨v, hv, h⟩ := ev1_some h; obtain ⟨u, hu, h⟩ := ev1_some h; simp only [aOpE, hv, hu]; exact xKeep_E h fun _ q => indexF_ok hs q
  | extract t i => obtain ⟨v, hv, h⟩ := ev1_some h; simp only [aOpE, hv]; exact xKeep_ok h
  | call c =>
    simp only [opF, xCall] at h
    simp only [aOpE]
    cases ha : mapO ev c.args.toList with
    | none => simp [ha] at h
    | some args =>
      simp only [ha] at h ⊢
      exact callee_ok hs h
  | _ => exact runE_some h

theorem aOp_eq (f : FuncId) (s : St) (o : Oper) : aOp K f s o = aOpE K f o.dst (evalO K s.regs) s.own s.H o.op := by
  cases o with
  | mk dst op type pos after guard => cases op <;> rfl
end Go.Tm
