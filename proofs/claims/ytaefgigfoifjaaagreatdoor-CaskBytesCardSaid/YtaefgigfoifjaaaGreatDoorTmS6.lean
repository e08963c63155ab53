/- The tree machine: slice expressions, lengths, operators. -/
import Derived.Test.YtaefgigfoifjaaaGreatDoorTmS5
set_option linter.unusedVariables false
set_option linter.unusedSimpArgs false
set_option linter.unusedSectionVars false
namespace Go.Tm
section
variable {F : Fr} {g : Gh} {κ : Nat → Option Tok} {own : Nat → Nat} {H : List AB} {w : World} {K : Cfg}

def OptR (g : Gh) : Option AV → Option Value → Prop
  | none, none => True
  | some x, some r => VR g x r
  | _, _ => False

theorem optI_eq {x : Option AV} {r : Option Value} (h : OptR g x r) {v : Option Int} (hv : optI x = some v) : (v = none ∧ r = none) ∨ ∃ k n, v = some n ∧ r = some (.int k n) := by
  cases x with
  | none =>
    cases r with
    | none => simp [optI] at hv; exact .inl ⟨hv.symm, rfl⟩
    | some => exact h.elim
  | some x =>
    cases r with
    | none => exact h.elim
    | some r =>
      simp only [optI, Option.map_eq_some_iff] at hv
      obtain ⟨⟨k, n⟩, h1, rfl⟩ := hv
      exact .inr ⟨k, n, rfl, by rw [asI_eq h h1]⟩

theorem run_sliceBound {P : Program} {k : IntKind} {n : Int} {y : Nat} {c : BoundsCode} (h0 : 0 ≤ n) (h1 : n ≤ y) : (Instr.sliceBound (.int k n) y c).run P w = .ok n.toNat w := by
  simp [Instr.sliceBound, asIntOf, h0, h1]

theorem bounds_ok {isSlice : Bool} {len cap : Nat} (hc : len ≤ cap) {lo hi mx : Option AV} {rlo rhi rmx : Option Value} (h1 : OptR g lo rlo) (h2 : OptR g hi rhi) (h3 : OptR g mx rmx) {p p' : List Bool} {l h : Nat} {m : Option Nat}
    (hk : Ok (aBounds K len lo hi mx) p (l, h, m) p') :
    (Instr.sliceBounds isSlice len cap rlo rhi rmx).run K.P w = .ok (l, h, m.getD cap) w ∧ l ≤ h ∧ h ≤ m.getD len ∧ m.getD len ≤ len ∧ (mx = none ↔ m = none) := by
  unfold aBounds at hk
  split at hk
  · rename_i lo' hi' mx' e1 e2 e3
    simp only [Ok_bind, Ok_chk, decide_eq_true_eq] at hk
    obtain ⟨_, _, ⟨⟨b1, b2, b3, b4⟩, _⟩, hk⟩ := hk
    have hm : mx = none ↔ mx' = none := by
      cases mx with
      | none => simp [optI] at e3; simp [← e3]
      | some x => simp only [optI, Option.map_eq_some_iff] at e3; obtain ⟨q, _, rfl⟩ := e3; simp
    rcases optI_eq h1 e1 with ⟨rfl, rfl⟩ | ⟨k1, n1, rfl, rfl⟩ <;> rcases optI_eq h2 e2 with ⟨rfl, rfl⟩ | ⟨k2, n2, rfl, rfl⟩ <;> rcases optI_eq h3 e3 with ⟨rfl, rfl⟩ | ⟨k3, n3, rfl, rfl⟩ <;>
      simp only [Option.getD_none, Option.getD_some] at b1 b2 b3 b4 <;>
      first
        | exact absurd hk Ok_fail
        | (simp only [Ok_pure, Prod.mk.injEq] at hk
           obtain ⟨⟨rfl, rfl, rfl⟩, _⟩ := hk
           refine ⟨?_, by simp <;> omega, by simp <;> omega, by simp <;> omega, by simpa using hm⟩
           simp only [Instr.sliceBounds, Sem.run_bind, Sem.run_pure, Result.andThen_ok, Option.getD_none, Option.getD_some, Option.map_none, Option.map_some, Option.isSome_none, Option.isSome_some, Int.toNat_natCast, Int.toNat_zero]
           repeat (first
             | rfl
             | (rw [run_sliceBound (by omega) (by omega)]; simp only [Result.andThen_ok])))
  · exact absurd hk Ok_fail

theorem tail_nil {tl : Tail} {len l h : Nat} {m : Option Nat} (ht : tl ≠ .nil) : cutTail tl len l h m ≠ .nil := by
  cases tl <;> cases m <;> simp only [cutTail] <;> (try split) <;> simp_all

theorem slice_ok (hs : SW F g κ H w) {t : TypeId} {x : AV} {rx : Value} (hx : RV g κ own x rx) {lo hi mx : Option AV} {rlo rhi rmx : Option Value} (h1 : OptR g lo rlo) (h2 : OptR g hi rhi) (h3 : OptR g mx rmx) {p p' : List Bool} {y : AV}
    (h : Ok (aSlice K H t x lo hi mx) p y p') : ∃ s, (Instr.sliceAt t rx rlo rhi rmx).run K.P w = .ok s w ∧ RV g κ own y s := by
  unfold aSlice at h
  split at h
  · rename_i s hu
    split at h
    · simp only [Ok_bind, Ok_pure] at h
      obtain ⟨⟨l, hh, m⟩, _, hb, rfl, _⟩ := h
      have h3' : rmx = none := by
        cases rmx with
        | none => rfl
        | some => exact h3.elim
      subst h3'
      obtain ⟨hr, b1, b2, b3, b4⟩ := bounds_ok (w := w) (isSlice := false) (Nat.le_refl s.length) h1 h2 (mx := none) (rmx := none) trivial hb
      have hm : m = none := b4.1 rfl
      subst hm
      cases hx.1 with
      | str =>
        refine ⟨.string (ByteArray.extract ⟨⟨s⟩⟩ l hh), ?_, ?_⟩
        · have hsz : (⟨⟨s⟩⟩ : ByteArray).size = s.length := rfl
          simp [Instr.sliceAt, run_underlying hu, Instr.slice, hsz, hr]
        · have : ByteArray.extract ⟨⟨s⟩⟩ l hh = ⟨⟨(s.take hh).drop l⟩⟩ := by
            apply ByteArray.ext
            rw [ByteArray.data_extract]
            simp [List.extract_eq_take_drop, List.drop_take]
          rw [this]
          exact RV.of_other .str (by simp)
    · exact absurd h Ok_fail
  · rename_i elem xs tl hu
    cases hsz : tSize K.P elem with
    | none => simp only [hsz] at h; exact absurd h Ok_fail
    | some n =>
      simp only [hsz, Ok_bind, Ok_chk, Ok_pure] at h
      obtain ⟨_, _, ⟨hall, _⟩, ⟨l, hh, m⟩, _, hb, rfl, _⟩ := h
      have hcell : ∀ y ∈ xs, y.cells.length = n := by simpa using hall
      cases hv : hx.1 with
      | nil =>
        obtain ⟨hr, b1, b2, b3, b4⟩ := bounds_ok (w := w) (isSlice := true) (cap := 0) (Nat.le_refl _) h1 h2 h3 hb
        simp only [List.length_nil, Nat.le_zero] at b3
        have hm : m.getD 0 = 0 := b3
        have hh0 : hh = 0 := by have b2' : hh ≤ m.getD 0 := b2; omega
        have hl0 : l = 0 := by omega
        subst hh0; subst hl0
        rw [hm] at hr
        refine ⟨.slice none 0 0, ?_, RV.of_other (by simpa [cutTail] using VR.nil) (by simp [cutTail])⟩
        simp [Instr.sliceAt, run_underlying hu, Instr.slice, hr, run_tSize hsz]
      | @sl _ _ b o cap sz rs ht hsz' hc h1' hn hf hI hvv =>
        obtain ⟨hr, b1, b2, b3, b4⟩ := bounds_ok (w := w) (isSlice := true) hn h1 h2 h3 hb
        have hhl : hh ≤ xs.length := by omega
        have hlen : ((xs.take hh).drop l).length = hh - l := by simp; omega
        have hrun : ∀ a', a' = (if m.getD cap = l then (⟨b, o, none⟩ : Addr) else ⟨b, o + l * n, none⟩) → (Instr.sliceAt t (.slice (some ⟨b, o, none⟩) xs.length cap) rlo rhi rmx).run K.P w = .ok (.slice (some a') (hh - l) (m.getD cap - l)) w := by
          intro a' e
          subst e
          simp [Instr.sliceAt, run_underlying hu, Instr.slice, hr, run_tSize hsz, add_none]
          split <;> simp
        have hcap : hh - l ≤ m.getD cap - l := by
          cases m with
          | none => simp; omega
          | some m => simp at b2 ⊢; omega
        -- the address
        obtain ⟨o', ho', ho''⟩ : ∃ o', (if m.getD cap = l then (⟨b, o, none⟩ : Addr) else ⟨b, o + l * n, none⟩) = ⟨b, o', none⟩ ∧ (l < hh → o' = o + l * n) := by
          by_cases e : m.getD cap = l
          · refine ⟨o, by rw [if_pos e], fun q => ?_⟩
            exfalso
            cases m with
            | none => simp at e; omega
            | some m => simp at e b2; omega
          · exact ⟨o + l * n, by rw [if_neg e], fun _ => rfl⟩
        have hcells : ∀ y ∈ (xs.take hh).drop l, y.cells.length = n := fun y hy => hcell y (List.mem_of_mem_take (List.mem_of_mem_drop hy))
        have hflat : ((xs.take hh).drop l).flatMap AV.cells = ((xs.flatMap AV.cells).take (hh * n)).drop (l * n) := by
          rw [flat_drop (fun y hy => hcell y (List.mem_of_mem_take hy)), flat_take hcell]
        have hvr : ∀ tl', tl' ≠ .nil → (tl' = .full → m.getD cap - l = hh - l) → VR g (.sl ((xs.take hh).drop l) tl') (.slice (some ⟨b, o', none⟩) (hh - l) (m.getD cap - l)) := by
          intro tl' ht' hf'
          have key : VR g (.sl ((xs.take hh).drop l) tl') (.slice (some ⟨b, o', none⟩) ((xs.take hh).drop l).length (m.getD cap - l)) := by
            refine .sl (sz := n) (fun k => rs (l * n + k)) ht' hcells ?_ ?_ (by rw [hlen]; exact hcap) (fun q => by rw [hlen]; exact hf' q) ?_ ?_
            · rw [hflat, closedL_iff] at *
              exact fun y hy => hc y (List.mem_of_mem_take (List.mem_of_mem_drop hy))
            · rw [hflat]
              exact fun y hy => h1' y (List.mem_of_mem_take (List.mem_of_mem_drop hy))
            · intro k y q
              rw [hflat, List.getElem?_drop, List.getElem?_take] at q
              split at q
              · rename_i hk
                have hlt : l < hh := by
                  rcases Nat.lt_or_ge l hh with q' | q'
                  · exact q'
                  · have := Nat.mul_le_mul_right n q'; omega
                rw [ho'' hlt, Nat.add_assoc]
                exact hI _ y q
              · simp at q
            · intro k y q
              rw [hflat, List.getElem?_drop, List.getElem?_take] at q
              split at q
              · exact hvv _ y q
              · simp at q
          rw [hlen] at key; exact key
        refine ⟨_, hrun _ ho'.symm, ?_⟩
        by_cases hown : ∃ st e z, cutTail tl xs.length l hh m = .own st e z
        · obtain ⟨st, e, z, hq⟩ := hown
          have : m = none ∧ l = 0 ∧ hh = xs.length ∧ tl = .own st e z := by
            cases tl <;> cases m <;> simp only [cutTail] at hq <;> (try split at hq) <;> simp_all
          obtain ⟨rfl, rfl, rfl, rfl⟩ := this
          have e1 : (xs.take xs.length).drop 0 = xs := by simp
          have e2 : o' = o := by
            by_cases q : (none : Option Nat).getD cap = 0
            · simp only [q, if_true, Addr.mk.injEq] at ho'; omega
            · simp only [q, if_false, Addr.mk.injEq] at ho'; omega
          subst e2
          rw [hq, e1]
          simpa using hx
        · refine RV.of_other (hvr _ (tail_nil ht) ?_) (fun ys st e z q => hown ⟨st, e, z, by simpa using congrArg (fun z => match z with | AV.sl _ tl => tl | _ => .nil) q⟩)
          intro q
          cases tl <;> cases m <;> simp only [cutTail] at q <;> (try split at q) <;> simp_all <;> omega
  · rename_i elem b off len sz hu
    cases hsz : tSize K.P elem with
    | none => simp only [hsz] at h; exact absurd h Ok_fail
    | some n =>
      simp only [hsz, Ok_bind, Ok_chk, decide_eq_true_eq] at h
      obtain ⟨_, _, ⟨rfl, _⟩, ⟨l, hh, m⟩, _, hb, h⟩ := h
      dsimp only at h
      cases hx.1 with
      | @ms _ _ _ _ rb cap hρ hlc =>
        obtain ⟨hr, b1, b2, b3, b4⟩ := bounds_ok (w := w) (isSlice := true) hlc.1 h1 h2 h3 hb
        split at h
        · rename_i e
          rw [Ok_pure] at h
          obtain ⟨rfl, _⟩ := h
          have e0 : hh - l = 0 := by omega
          by_cases q : m.getD cap = l
          · refine ⟨.slice (some ⟨rb, off, none⟩) 0 0, by simp [Instr.sliceAt, run_underlying hu, Instr.slice, hr, run_tSize hsz, q, e0], RV.of_other ?_ (by simp)⟩
            exact .sl (xs := []) (sz := 0) (fun _ => undef) (by simp) (by simp) rfl (by simp) (Nat.le_refl _) (by simp) (by simp) (by simp)
          · refine ⟨.slice (some ⟨rb, off + l * n, none⟩) 0 (m.getD cap - l), by simp [Instr.sliceAt, run_underlying hu, Instr.slice, hr, run_tSize hsz, q, e0, add_none], RV.of_other ?_ (by simp)⟩
            exact .sl (xs := []) (sz := 0) (fun _ => undef) (by simp) (by simp) rfl (by simp) (Nat.zero_le _) (by simp) (by simp) (by simp)
        · rename_i e
          rw [Ok_pure] at h
          obtain ⟨rfl, _⟩ := h
          have hq : m.getD cap ≠ l := by
            cases m with
            | none => simp at e b2 ⊢; have := hlc.1; omega
            | some m => simpa using fun q => e q.symm
          have hmc : m.getD cap ≤ cap := by
            cases m with
            | none => simp
            | some m => simp at b3 ⊢; have := hlc.1; omega
          have hlm : l ≤ m.getD cap := by
            cases m with
            | none => simp at b2 ⊢; have := hlc.1; omega
            | some m => simp at b2 ⊢; omega
          have hhm : hh ≤ m.getD cap := by
            cases m with
            | none => simp at b2 ⊢; have := hlc.1; omega
            | some m => simp at b2 ⊢; omega
          refine ⟨.slice (some ⟨rb, off + l * n, none⟩) (hh - l) (m.getD cap - l), by simp [Instr.sliceAt, run_underlying hu, Instr.slice, hr, run_tSize hsz, hq, add_none], RV.of_other (.ms hρ ⟨by omega, ?_⟩) (by simp)⟩
          have := hlc.2
          have h5 : l * n + (m.getD cap - l) * n ≤ cap * n := by rw [← Nat.add_mul]; exact Nat.mul_le_mul_right _ (by omega)
          omega
  · rename_i nn elem b off hu
    split at h
    · rename_i sz t' cs hsz hH
      rw [nth_eq] at hH
      simp only [Ok_bind, Ok_chk, decide_eq_true_eq] at h
      obtain ⟨_, _, ⟨hfit, _⟩, ⟨l, hh, m⟩, _, hb, h⟩ := h
      dsimp only at h
      cases hx.1 with
      | @ptr _ _ rb hρ =>
        obtain ⟨rb', ob, q1, q2, q3, _, _, q6⟩ := hs.blk b _ hH rfl
        rw [hρ] at q1; cases q1
        have hN : cs.length ≤ g.N rb := by
          cases ob with
          | cells rcs e fz => rw [← q6 rcs e fz rfl]; exact q3.2.1
          | _ => simp [BRo] at q3
        obtain ⟨hr, b1, b2, b3, b4⟩ := bounds_ok (w := w) (isSlice := false) (Nat.le_refl nn) h1 h2 h3 hb
        split at h
        · rename_i e
          rw [Ok_pure] at h
          obtain ⟨rfl, _⟩ := h
          have e0 : hh - l = 0 := by omega
          refine ⟨.slice (some ⟨rb, off, none⟩) 0 0, by simp [Instr.sliceAt, run_underlying hu, Instr.sureAddr, hr, run_tSize hsz, ← e, e0], RV.of_other ?_ (by simp)⟩
          exact .sl (xs := []) (sz := 0) (fun _ => undef) (by simp) (by simp) rfl (by simp) (Nat.le_refl _) (by simp) (by simp) (by simp)
        · rename_i e
          rw [Ok_pure] at h
          obtain ⟨rfl, _⟩ := h
          have hq : m.getD nn ≠ l := fun q => e q.symm
          refine ⟨.slice (some ⟨rb, off + l * (sz + 1), none⟩) (hh - l) (m.getD nn - l), by simp [Instr.sliceAt, run_underlying hu, Instr.sureAddr, hr, run_tSize hsz, hq, add_none], RV.of_other (.ms hρ ⟨by omega, ?_⟩) (by simp)⟩
          have h5 : l * (sz + 1) + (m.getD nn - l) * (sz + 1) ≤ nn * (sz + 1) := by rw [← Nat.add_mul]; exact Nat.mul_le_mul_right _ (by omega)
          omega
    · rename_i sz t' len q hsz hH
      rw [nth_eq] at hH
      simp only [Ok_bind, Ok_chk, decide_eq_true_eq] at h
      obtain ⟨_, _, ⟨hfit, _⟩, ⟨l, hh, m⟩, _, hb, h⟩ := h
      dsimp only at h
      cases hx.1 with
      | @ptr _ _ rb hρ =>
        obtain ⟨rb', ob, q1, q2, q3, _, _, q6⟩ := hs.blk b _ hH rfl
        rw [hρ] at q1; cases q1
        have hN : len ≤ g.N rb := by
          cases ob with
          | cells rcs e fz => rw [← q6 rcs e fz rfl, ← q3.1.1]; exact q3.2.2.1
          | _ => simp [BRo] at q3
        obtain ⟨hr, b1, b2, b3, b4⟩ := bounds_ok (w := w) (isSlice := false) (Nat.le_refl nn) h1 h2 h3 hb
        split at h
        · rename_i e
          rw [Ok_pure] at h
          obtain ⟨rfl, _⟩ := h
          have e0 : hh - l = 0 := by omega
          refine ⟨.slice (some ⟨rb, off, none⟩) 0 0, by simp [Instr.sliceAt, run_underlying hu, Instr.sureAddr, hr, run_tSize hsz, ← e, e0], RV.of_other ?_ (by simp)⟩
          exact .sl (xs := []) (sz := 0) (fun _ => undef) (by simp) (by simp) rfl (by simp) (Nat.le_refl _) (by simp) (by simp) (by simp)
        · rename_i e
          rw [Ok_pure] at h
          obtain ⟨rfl, _⟩ := h
          have hq : m.getD nn ≠ l := fun q => e q.symm
          refine ⟨.slice (some ⟨rb, off + l * (sz + 1), none⟩) (hh - l) (m.getD nn - l), by simp [Instr.sliceAt, run_underlying hu, Instr.sureAddr, hr, run_tSize hsz, hq, add_none], RV.of_other (.ms hρ ⟨by omega, ?_⟩) (by simp)⟩
          have h5 : l * (sz + 1) + (m.getD nn - l) * (sz + 1) ≤ nn * (sz + 1) := by rw [← Nat.add_mul]; exact Nat.mul_le_mul_right _ (by omega)
          omega
    · exact absurd h Ok_fail
  · exact absurd h Ok_fail
end
end Go.Tm
