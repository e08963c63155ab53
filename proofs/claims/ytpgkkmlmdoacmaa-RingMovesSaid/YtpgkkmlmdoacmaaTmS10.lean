/- The tree machine: copy, clear, make; maps; ranges. -/
import Derived.Test.YtpgkkmlmdoacmaaTmS9
set_option linter.unusedVariables false
set_option linter.unusedSimpArgs false
set_option linter.unusedSectionVars false
namespace Go.Tm
section
variable {F : Fr} {g : Gh} {κ : Nat → Option Tok} {own : Nat → Nat} {H : List AB} {w : World} {K : Cfg}

theorem copy_ok (hs : SW F g κ H w) {t t2 ty : TypeId} {d x : AV} {rd rx : Value} (hd : VR g d rd) (hx : VR g x rx) {z : AV} {H' : List AB} (h : aCopy K H t d x = some (z, H')) :
    ∃ r w', (Builtin.copy_ #[t, t2] ty #[rd, rx]).run K.P w = .ok r w' ∧ SW F g κ H' w' ∧ VR g z r := by
  unfold aCopy at h
  split at h
  · rename_i elem hu
    split at h
    · rename_i n hn
      split at h
      · simp at h
      · rename_i ys hys
        obtain ⟨hlen, hyc, hy1, news, hnv, _, hkey⟩ := els_ok (K := K) hs hx hys
        have e0 : (#[t, t2] : Array TypeId)[0]? = some t := rfl
        have e2 : (#[rd, rx] : Array Value)[0]? = some rd := rfl
        have e3 : (#[rd, rx] : Array Value)[1]? = some rx := rfl
        split at h
        · rename_i tl
          simp at h
          obtain ⟨rfl, rfl⟩ := h
          have hz : Nat.min ys.length 0 = 0 := by simp
          have hk0 := hkey 0 (Nat.zero_le _)
          simp only [Nat.zero_mul, List.take_zero] at hk0
          cases hd with
          | nil =>
            refine ⟨goInt 0, w, ?_, hs, .v rfl⟩
            simp [Builtin.copy_, e0, e2, e3, run_underlying hu, hlen, run_tSize hn, hk0]
          | sl rs ht _ _ _ _ _ _ _ =>
            refine ⟨goInt 0, w, ?_, hs, .v rfl⟩
            simp [Builtin.copy_, e0, e2, e3, run_underlying hu, hlen, run_tSize hn, hk0, storeCells]
        · rename_i b off len sz
          rw [nth_eq] at h
          split at h
          · rename_i e cs hH
            split at h
            · rename_i hc
              obtain ⟨rfl, hfit⟩ := hc
              simp at h
              obtain ⟨rfl, rfl⟩ := h
              cases hd with
              | @ms _ _ _ _ rb cap hρ hlc =>
                have hm : min ys.length len ≤ ys.length := by omega
                have hk := hkey _ hm
                have hfl : (ys.take (min ys.length len)).flatMap AV.cells = (ys.flatMap AV.cells).take (min ys.length len * sz) := flat_take hyc _
                have hv : VRs g ((ys.take (min ys.length len)).flatMap AV.cells) (news.take (min ys.length len * sz)) := by rw [hfl]; exact hnv.take _
                have hl : ((ys.take (min ys.length len)).flatMap AV.cells).length = min ys.length len * sz := by
                  rw [flat_len (fun y q => hyc y (List.mem_of_mem_take q))]; simp
                have hle : min ys.length len * sz ≤ len * sz := Nat.mul_le_mul_right _ (by omega)
                obtain ⟨w', f1, f2⟩ := storeCells_ok (K := K) (off := off) hs hρ hH hv (by
                  rw [allOne_iff] at *
                  intro y q
                  rw [hfl] at q
                  exact hy1 y (List.mem_of_mem_take q)) (by omega)
                refine ⟨goInt (min ys.length len : Nat), w', ?_, f2, .v rfl⟩
                have hk' : (Builtin.firstCells sz (Nat.min ys.length len) rx).run K.P w = .ok ⟨news.take (min ys.length len * sz)⟩ w := hk
                simp only [Builtin.copy_, e0, e2, e3, Sem.run_bind, run_underlying hu, Result.andThen_ok, hlen, run_tSize hn, hk', f1, Sem.run_pure]
            · simp at h
          · simp at h
        · simp at h
    · simp at h
  · simp at h

theorem clear_ok (hs : SW F g κ H w) {t ty : TypeId} {d : AV} {rd : Value} (hd : VR g d rd) {H' : List AB} (h : aClear K H t d = some H') :
    ∃ w', (Builtin.clear_ #[t] ty #[rd]).run K.P w = .ok (.tuple #[]) w' ∧ SW F g κ H' w' := by
  have e0 : (#[t] : Array TypeId)[0]? = some t := rfl
  have e2 : (#[rd] : Array Value)[0]? = some rd := rfl
  unfold aClear at h
  split at h
  · rename_i hu
    simp at h; subst h
    cases hd with
    | ms hρ hlc => exact ⟨w, by simp [Builtin.clear_, run_underlying hu], hs⟩
  · rename_i elem b off len sz hu
    rw [nth_eq] at h
    split at h
    · rename_i e cs z hH hz
      split at h
      · rename_i hc
        obtain ⟨hc1, hc2, hc3⟩ := hc
        simp at h; subst h
        cases hd with
        | @ms _ _ _ _ rb cap hρ hlc =>
          obtain ⟨v, q1, q2, q3⟩ := run_tZero (w := w) hz
          have hzc := (q2 g).cells (allOne_notTup q3)
          have hvs : v.cells.size = sz := by rw [← hc1, hzc.1]; simp
          have hrep := rep_VRs hzc (by omega) (len + 1)
          have hzz : (Builtin.zeroCells v.cells (len + 1)) = ((Array.range ((len + 1) * z.cells.length)).map (fun i => v.cells[i % v.cells.size]!)) := by
            unfold Builtin.zeroCells
            rw [hvs, hc1]
          obtain ⟨w', f1, f2⟩ := storeCells_ok (K := K) (off := off) hs hρ hH hrep (rep_one q3 _) (by rw [rep_len, hc1]; exact hc3)
          refine ⟨w', ?_, f2⟩
          rw [← hzz] at f1
          simp [Builtin.clear_, run_underlying hu, q1, f1]
      · simp at h
    · simp at h
  · rename_i hu
    simp at h; subst h
    cases hd with
    | nil => exact ⟨w, by simp [Builtin.clear_, run_underlying hu], hs⟩
    | sl => exact ⟨w, by simp [Builtin.clear_, run_underlying hu], hs⟩
  · rename_i b hu
    rw [nth_eq] at h
    split at h
    · rename_i es clock hH
      simp at h; subst h
      cases hd with
      | @map _ rb hρ =>
        obtain ⟨rb', o, p1, p2, p3, _⟩ := hs.blk _ _ hH rfl
        rw [hρ] at p1; cases p1
        cases o with
        | map res rc =>
          obtain ⟨rfl, p4, p5⟩ := p3
          have hlt := lt_of_some p2
          refine ⟨{ w with heap := w.heap.setIfInBounds rb (.map #[] rc) }, by simp [Builtin.clear_, run_underlying hu, getObj, setObj, Sem.run, p2], ?_⟩
          refine hs.change hH rfl hρ ⟨rfl, rfl, rfl, by simp, fun b' hb' => by simp [Array.getElem?_setIfInBounds, Ne.symm hb'], Nat.le_refl _⟩ fun _ => ⟨.map #[] rc, by simp [hlt], ⟨rfl, rfl, by simp⟩, by simp⟩
        | _ => simp [BRo] at p3
    · simp at h
  · simp at h

theorem wrap_in {n : Int} (h0 : 0 ≤ n) (h1 : n ≤ 9223372036854775807) : IntKind.i64.wrap n = n := by
  simp [IntKind.wrap, IntKind.bits, IntKind.signed]
  omega

theorem makeSlice_ok (hs : SW F g κ H w) {isMut : Bool} {site : Nat} {t : TypeId} {l c : AV} {rl rc : Value} (hl : VR g l rl) (hc : VR g c rc) {an : AN} (h : aMakeSlice K isMut site own H t l c = some an) :
    OpOk F g κ own H w ((do pure (.value (← Instr.makeSlice t rl rc)) : Sem Next).run K.P w) an := by
  unfold aMakeSlice at h
  split at h
  · rename_i elem k1 l' k2 c' hu e1 e2
    split at h
    · rename_i info z n hi hz hn
      split at h
      · rename_i hcond
        obtain ⟨c1, c2, c3, c4, c5⟩ := hcond
        obtain ⟨v, q1, q2, q3⟩ := run_tZero (w := w) hz
        have hzc := (q2 g).cells (allOne_notTup q3)
        have hvs : v.cells.size = n + 1 := by rw [← c5, hzc.1]; simp
        have hrl := asI_eq hl e1
        have hrc := asI_eq hc e2
        subst hrl; subst hrc
        have hisz := info_size hn hi
        have hrow : (Instr.makeSlice t (.int k1 l') (.int k2 c')).run K.P w = .ok (.slice (some ⟨w.heap.size, 0, none⟩) l'.toNat c'.toNat) (w.alloc (.cells ((Array.range (c'.toNat * (n + 1))).map (fun i => v.cells[i % v.cells.size]!)) elem)) := by
          have w1 := wrap_in c1 (by omega : l' ≤ 9223372036854775807)
          have w2 := wrap_in (by omega : 0 ≤ c') c4
          have hb : ¬ ((info.bytes : Int) * c' > 2 ^ 48) := by
            have h5 : ((c'.toNat * info.bytes : Nat) : Int) ≤ 140737488355328 := by omega
            rw [Int.natCast_mul, Int.toNat_of_nonneg (by omega), Int.mul_comm] at h5
            omega
          have hcond2 : ¬ ((decide (c' < 0) || decide ((info.bytes : Int) * c' > 2 ^ 48)) || decide (l' < 0) || decide (l' > c')) = true := by
            simp only [Bool.or_eq_true, decide_eq_true_eq, not_or]
            exact ⟨⟨⟨by omega, hb⟩, by omega⟩, by omega⟩
          simp only [Instr.makeSlice, Sem.run_bind, run_underlying hu, Result.andThen_ok, asInt, asIntOf, Sem.run_pure, run_typeInfo hi, w1, w2]
          rw [if_neg (by simpa using hcond2)]
          simp only [Sem.run_bind, run_askRoom, Result.andThen_ok, run_tSize hn]
          by_cases h0 : c'.toNat * (n + 1) = 0
          · rw [if_pos h0]
            have hr0 : Array.range 0 = #[] := rfl
            simp [h0, newRow, hr0]
          · rw [if_neg h0]
            simp [q1, newRow]
        have hval : ((do pure (.value (← Instr.makeSlice t (.int k1 l') (.int k2 c'))) : Sem Next).run K.P w) = .ok (.value (.slice (some ⟨w.heap.size, 0, none⟩) l'.toNat c'.toNat)) (w.alloc (.cells ((Array.range (c'.toNat * (n + 1))).map (fun i => v.cells[i % v.cells.size]!)) elem)) := by
          simp only [Sem.run_bind, hrow, Result.andThen_ok, Sem.run_pure]
        have hlc : l'.toNat ≤ c'.toNat := by omega
        have hrep := rep_VRs hzc (by omega) c'.toNat
        rw [c5] at hrep
        have hlc2 : l'.toNat * (n + 1) ≤ c'.toNat * (n + 1) := Nat.mul_le_mul_right _ hlc
        -- the first cells
        have hpre : VRs g (rep z.cells l'.toNat) (((Array.range (c'.toNat * (n + 1))).map (fun i => v.cells[i % v.cells.size]!)).toList.take (l'.toNat * (n + 1))) := by
          have := hrep.take (l'.toNat * (n + 1))
          have e : (rep z.cells c'.toNat).take (l'.toNat * (n + 1)) = rep z.cells l'.toNat := by
            apply List.ext_getElem?
            intro i
            rw [List.getElem?_take]
            by_cases hi : i < l'.toNat * (n + 1)
            · rw [if_pos hi, rep_get _ (by omega) _ _ (by rw [c5]; omega), rep_get _ (by omega) _ _ (by rw [c5]; omega)]
            · rw [if_neg hi, List.getElem?_eq_none (by rw [rep_len, c5]; omega)]
          rwa [e] at this
        cases isMut with
        | true =>
          simp at h; subst h
          have hle := hs.le_new (objLen (.cells ((Array.range (c'.toNat * (n + 1))).map (fun i => v.cells[i % v.cells.size]!)) elem))
          refine OpOk.grow hle (hs.alloc _ _ ?_) hval (RV.of_other (.ms (by simp [Gh.addBlk]) ⟨hlc, by simp [Gh.addBlk, objLen]⟩) (by simp))
          refine ⟨rfl, by rw [rep_len, c5]; simp; exact hlc2, fun i x r a b => ?_, rep_one q3 _, rfl, fun q => by simp at q⟩
          have hi : i < l'.toNat * (n + 1) := by have := (List.getElem?_eq_some_iff.1 a).1; rw [rep_len, c5] at this; exact this
          refine (hpre.2 i x r a ?_).mono hle
          rw [List.getElem?_take, if_pos hi]; exact b
        | false =>
          simp only [] at h
          split at h
          · rename_i hcl
            simp at h; subst h
            have hflat : (List.replicate l'.toNat z).flatMap AV.cells = rep z.cells l'.toNat := by
              generalize l'.toNat = m
              induction m with
              | zero => rfl
              | succ m ih => rw [List.replicate_succ, List.flatMap_cons, ih]; rfl
            have hcells : ∀ y ∈ List.replicate l'.toNat z, y.cells.length = n + 1 := by
              intro y q; rw [(List.mem_replicate.1 q).2]; exact c5
            have hlenp : (((Array.range (c'.toNat * (n + 1))).map (fun i => v.cells[i % v.cells.size]!)).toList.take (l'.toNat * (n + 1))).length = l'.toNat * (n + 1) := by
              have hL : ((Array.range (c'.toNat * (n + 1))).map (fun i => v.cells[i % v.cells.size]!)).toList.length = c'.toNat * (n + 1) := by simp
              rw [List.length_take, hL, Nat.min_eq_left hlc2]
            have hsub : ∀ (i : Nat) (x : Value), (((Array.range (c'.toNat * (n + 1))).map (fun i => v.cells[i % v.cells.size]!)).toList.take (l'.toNat * (n + 1)))[i]? = some x → ((Array.range (c'.toNat * (n + 1))).map (fun i => v.cells[i % v.cells.size]!)).toList[i]? = some x := by
              intro i x q
              rw [List.getElem?_take] at q
              split at q
              · exact q
              · simp at q
            refine ⟨_, _, _, fun s => if s = site then some ⟨w.heap.size, l'.toNat, n + 1, c'.toNat⟩ else κ s, hval, hs.le_addImm (((Array.range (c'.toNat * (n + 1))).map (fun i => v.cells[i % v.cells.size]!)).toList.take (l'.toNat * (n + 1))), ?_, ⟨?_, ?_⟩, ?_⟩
            · refine hs.allocImm _ elem _ hsub _ (fun s t q => ?_) (fun s s' t t' q q' e e' => ?_)
              · split at q
                · simp at q; subst q
                  exact .inr ⟨rfl, by simp, hlc, Nat.le_of_eq hlenp⟩
                · exact .inl q
              · have hlt : ∀ s t, κ s = some t → t.blk ≠ w.heap.size := fun s t q => by
                  obtain ⟨_, ⟨_, _, h2, _⟩, _⟩ := hs.tok s t q
                  have := lt_of_some h2; omega
                split at q
                · split at q'
                  · omega
                  · exact absurd e' (hlt _ _ q')
                · exact absurd e (hlt _ _ q)
            · have := newImm hs (xs := List.replicate l'.toNat z) (sz := n + 1) ((Array.range (c'.toNat * (n + 1))).map (fun i => v.cells[i % v.cells.size]!)) elem hcells (by rw [hflat]; exact rep_closed hcl _) (by rw [hflat]; exact rep_one q3 _)
                (((Array.range (c'.toNat * (n + 1))).map (fun i => v.cells[i % v.cells.size]!)).toList.take (l'.toNat * (n + 1))) (by rw [hflat]; exact hpre) hsub c'.toNat (by simpa using hlc) (.own site (own site + 1) (n + 1)) (by simp) (by simp)
              simpa using this
            · intro zs s e zz q
              simp only [AV.sl.injEq, Tail.own.injEq] at q
              obtain ⟨rfl, rfl, rfl, rfl⟩ := q
              exact ⟨by simp, fun _ _ => ⟨⟨w.heap.size, l'.toNat, n + 1, c'.toNat⟩, by simp, by simp, rfl, rfl⟩⟩
            · intro y r q
              refine ⟨q.1.mono (hs.le_addImm _), fun zs s e zz k => ?_⟩
              obtain ⟨p1, p2⟩ := q.2 zs s e zz k
              by_cases hss : s = site
              · subst hss; simp; omega
              · simp [hss]; exact ⟨p1, p2⟩
          · simp at h
      · simp at h
    · simp at h
  · simp at h
end
end Go.Tm
