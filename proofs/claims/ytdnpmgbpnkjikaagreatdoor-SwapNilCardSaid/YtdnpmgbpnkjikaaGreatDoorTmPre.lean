/- The fast machine: the first statements of a code, run apart from the others. -/
import Derived.Test.YtdnpmgbpnkjikaaGreatDoorTmFast5
set_option linter.unusedVariables false
set_option linter.unusedSimpArgs false
set_option linter.unusedSectionVars false
namespace Go.Tm
/-- What stands behind the first n statements. -/
def restC : Nat → Code → Code
  | 0, c => c
  | n + 1, c => match c with
    | .seq _ b => restC n b
    | c => c
/-- The first n statements. -/
noncomputable def preF (K : Cfg) (call : FO) (f : FuncId) (k n : Nat) : Nat → Code → FK
  | 0, _, r, own, H => some (.mk .normal r own H)
  | m + 1, c, r, own, H => match c with
    | .seq a b => match codeF a K call f k n r own H with
      | none => none
      | some x => match x with
        | .mk e r own H => match e with
          | .normal => preF K call f k n m b r own H
          | _ => none
    | _ => none
theorem preF_code {K : Cfg} {call : FO} {f : FuncId} {k n : Nat} : ∀ {m : Nat} {c : Code} {r r' : RT} {own own' : Nat → Nat} {H H' : List AB} {x : FR}, preF K call f k n m c r own H = some (.mk .normal r' own' H') → codeF (restC m c) K call f k n r' own' H' = x → codeF c K call f k n r own H = x
  | 0, c, r, r', own, own', H, H', x, h, hx => by
    obtain ⟨rfl, rfl, rfl⟩ : r = r' ∧ own = own' ∧ H = H' := by simpa [preF] using h
    exact hx
  | m + 1, c, r, r', own, own', H, H', x, h, hx => by
    cases c <;> simp only [preF] at h <;> try (cases h; done)
    rename_i a b
    simp only [codeF, cSeq]
    cases ha : codeF a K call f k n r own H with
    | none => simp [ha] at h
    | some y =>
      obtain ⟨e, r1, own1, H1⟩ := y
      simp only [ha] at h
      cases e <;> simp only at h <;> try (cases h; done)
      exact preF_code h hx
theorem bodyF_of {K : Cfg} {call : FO} {k : Nat} {f : FuncId} {args : List AV} {H : List AB} {fn : Func} {c : Code} {r : RT} {x : FX} (hf : K.P.funcs[f]? = some fn) (hc : fn.body = some c) (hl : Nat.ble args.length fn.ntmps = true) (hk : ∀ g : RT → FR, RT.ofLK (args.map AV.unown) 0 (RT.full (Nat.succ (Nat.log2 fn.ntmps))) g = g r) (hx : codeF c K call f k fn.ntmps r (fun _ => 0) H = some x) : bodyF K call k f args H = endF K fn.ntmps fn.results.toList x := by
  unfold bodyF
  rw [hf]
  simp only [hc, hl]
  unfold runF
  rw [hk, hx]
end Go.Tm
namespace Go.Tm
/-- What a call over values alone tells, of what its code left. -/
noncomputable def finY (y : Option (AV × List AB)) : Option AV := Option.rec (motive := fun _ => Option AV) none (fun y => snap y.2 6 y.1) y
noncomputable def finF (K : Cfg) (n : Nat) (rs : List ResultVar) (x : FR) : Option AV := Option.rec (motive := fun _ => Option AV) none (fun x => finY (endF K n rs x)) x
theorem finF_run {K : Cfg} {f : FuncId} {n k : Nat} {fn : Func} {c : Code} {r : RT} {v : AV} {H : List AB} (hf : K.P.funcs[f]? = some fn) (hc : fn.body = some c) (hl : Nat.ble 0 fn.ntmps = true) (hk : ∀ g : RT → FR, RT.ofLK [] 0 (RT.full (Nat.succ (Nat.log2 fn.ntmps))) g = g r) (e1 : K.libv f = none) (e2 : K.lib f = none) (e3 : K.vals f = true) {x : FR} (hx : codeF c K (callF K k) f (k + 1) fn.ntmps r (fun _ => 0) [] = x) (h : finF K fn.ntmps fn.results.toList x = some v) (hv : v.closed = true) : callF K (k + 1) f [] H = some (v, H) := by
  subst hx
  cases hx : codeF c K (callF K k) f (k + 1) fn.ntmps r (fun _ => 0) [] with
  | none => rw [hx] at h; cases h
  | some x =>
    rw [hx] at h
    cases hy : endF K fn.ntmps fn.results.toList x with
    | none =>
      have h : finY (endF K fn.ntmps fn.results.toList x) = some v := h
      rw [hy] at h; cases h
    | some y =>
      have h : finY (endF K fn.ntmps fn.results.toList x) = some v := h
      rw [hy] at h
      have h : snap y.2 6 y.1 = some v := h
      have hb : bodyF K (callF K k) (k + 1) f [] [] = some y := by
        rw [bodyF_of (args := []) hf hc hl hk hx]
        exact hy
      show callWF K (callF K k) (k + 1) f [] H = _
      have e3 : (K.vals f && AV.closedL []) = true := by rw [e3]; rfl
      simp only [callWF, e1, e2, e3, hb, h, hv]
end Go.Tm
