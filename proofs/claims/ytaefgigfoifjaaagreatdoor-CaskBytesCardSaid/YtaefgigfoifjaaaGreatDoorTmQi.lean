/- TmS14, TmS15, joined. -/
import Derived.Test.YtaefgigfoifjaaaGreatDoorTmS13
set_option linter.unusedVariables false
set_option linter.unusedSimpArgs false
set_option linter.unusedSectionVars false
section
namespace Go.Tm

def OpOk' (P : Program) (F : Fr) (g : Gh) (κ : Nat → Option Tok) (own : Nat → Nat) (H : List AB) (w : World) (run : Result Next) : AN → Prop
 | .call f args => ∃ rargs, run = (callFunc f ⟨rargs⟩).run P w ∧ VRs g args rargs
 | .val x own' H' => OpOk F g κ own H w run (.val x own' H')
 | .skip H' => OpOk F g κ own H w run (.skip H')

section
variable {F : Fr} {g : Gh} {κ : Nat → Option Tok} {w : World} {K : Cfg} {s : St} {a : Act} {p p' : List Bool} {an : AN}

theorem OpOk.lift {H : List AB} {own : Nat → Nat} {run : Result Next} (hn : ∀ f args, an ≠ .call f args) (h : OpOk F g κ own H w run an) : OpOk' K.P F g κ own H w run an := by
 cases an with
 | val => exact h
 | skip => exact h
 | call f args => exact absurd rfl (hn f args)

theorem runV {P : Program} {x : Sem Value} {r : Value} {w' : World} (h : x.run P w = .ok r w') : (do pure (.value (← x)) : Sem Next).run P w = .ok (.value r) w' := by simp [h]
theorem runU {P : Program} {x : Sem Unit} {w' : World} (h : x.run P w = .ok () w') : (do x; pure .skip : Sem Next).run P w = .ok .skip w' := by simp [h]

theorem aKeep_ok (hs : SW F g κ s.H w) {x : Option AV} {sem : Sem Value} (h : Ok (aKeep s x) p an p') (hx : ∀ y, x = some y → ∃ r, sem.run K.P w = .ok r w ∧ VR g y r) : OpOk' K.P F g κ s.own s.H w ((do pure (.value (← sem)) : Sem Next).run K.P w) an := by
 unfold aKeep at h
 split at h
 ·rename_i y
  rw [Ok_pure] at h
  obtain ⟨rfl, _⟩ := h
  obtain ⟨r, h1, h2⟩ := hx y rfl
  exact OpOk.plainU hs (runV h1) h2
 ·exact absurd h Ok_fail

theorem aKeepE_ok (hs : SW F g κ s.H w) {x : E AV} {sem : Sem Value} (h : Ok (aKeepE s x) p an p') (hx : ∀ y q, Ok x p y q → ∃ r, sem.run K.P w = .ok r w ∧ VR g y r) : OpOk' K.P F g κ s.own s.H w ((do pure (.value (← sem)) : Sem Next).run K.P w) an := by
 unfold aKeepE at h
 rw [Ok_bind] at h
 obtain ⟨y, q, h1, h2⟩ := h
 rw [Ok_pure] at h2
 obtain ⟨rfl, _⟩ := h2
 obtain ⟨r, h1, h2⟩ := hx y q h1
 exact OpOk.plainU hs (runV h1) h2

theorem OpOk.chg {H' : List AB} {w' : World} {x : AV} {r : Value} {run : Result Next} (hs : SW F g κ H' w') (hr : run = .ok (.value r) w') (h : VR g x r) (own : Nat → Nat) (H : List AB) (w : World) : OpOk F g κ own H w run (.val x.unown own H') :=
 ⟨r, w', g, κ, hr, .refl g, hs, .of_unown h, fun _ _ q => q⟩

theorem OpOk.liftV {H : List AB} {own : Nat → Nat} {x : Sem Value} (h : OpOk F g κ own H w ((do pure (.value (← x)) : Sem Next).run K.P w) an) : OpOk' K.P F g κ own H w ((do pure (.value (← x)) : Sem Next).run K.P w) an := by
 refine OpOk.lift (fun f args e => ?_) h
 subst e
 obtain ⟨rargs, h1, _⟩ := h
 simp only [Sem.run_bind] at h1
 cases hx : x.run K.P w with
 | ok v w' => rw [hx] at h1; simp [Result.andThen] at h1
 | halt q w' => rw [hx] at h1; simp [Result.andThen] at h1

theorem parts_ok {κ : Nat → Option Tok} {own : Nat → Nat} {regs : List AV} (hg : Glob K g) (hr : Regs g κ own regs a.tmps) : ∀ {parts : List (Nat × Operand)} {ps : List (Nat × AV)}, mapO (fun p : Nat × Operand => (evalO K regs p.2).map fun x => (p.1, x)) parts = some ps →
  ps.length = parts.length ∧ ∀ (i : Nat) (n m : Nat) (x : AV) (r : Value), ps[i]? = some (n, x) → (parts.map fun (p : Nat × Operand) => (p.1, a.eval p.2))[i]? = some (m, r) → n = m ∧ VR g x r := by
 intro parts ps h
 refine ⟨mapO_len h, fun i n m x r h1 h2 => ?_⟩
 simp only [List.getElem?_map, Option.map_eq_some_iff] at h2
 obtain ⟨q, hq, he⟩ := h2
 obtain ⟨y, hy, hz⟩ := mapO_get h i q hq
 rw [hz] at h1
 simp only [Option.map_eq_some_iff] at hy
 obtain ⟨v, hv, rfl⟩ := hy
 cases h1
 cases he
 exact ⟨rfl, (evalO_RV hg hr hv).1⟩

theorem one_arg {x : AV} {rs : List Value} (h : VRs g [x] rs) : ∃ r, rs = [r] ∧ VR g x r := by
 obtain ⟨r, rs', rfl, h1, h2⟩ := h.head
 have : rs' = [] := by cases rs' with | nil => rfl | cons => exact absurd h2.1 (by simp)
 subst this; exact ⟨r, rfl, h1⟩

theorem two_args {x y : AV} {rs : List Value} (h : VRs g [x, y] rs) : ∃ r t, rs = [r, t] ∧ VR g x r ∧ VR g y t := by
 obtain ⟨r, rs', rfl, h1, h2⟩ := h.head
 obtain ⟨t, rfl, h3⟩ := one_arg h2
 exact ⟨r, t, rfl, h1, h3⟩

theorem keep_minMax (hs : SW F g κ s.H w) {isMax : Bool} {args : List AV} {rargs : List Value} (hv : VRs g args rargs) {z : AV} (h : aMinMax isMax args = some z) (ts : Array TypeId) (ty : TypeId) :
  ∃ r, (if isMax then Builtin.max_ ts ty ⟨rargs⟩ else Builtin.min_ ts ty ⟨rargs⟩).run K.P w = .ok r w ∧ VR g z r := by
 unfold aMinMax at h
 split at h
 ·rename_i k x rest
  obtain ⟨r, rs, rfl, hr, hrest⟩ := hv.head
  obtain ⟨rfl, _⟩ := vr_v hr
  obtain ⟨m, rfl, h2⟩ := minMax_go (K := K) (w := w) hrest h
  refine ⟨_, ?_, .v rfl⟩
  cases isMax
  ·simp only [Bool.false_eq_true, if_false] at h2 ⊢; exact h2
  ·simp only [if_true] at h2 ⊢; exact h2
 ·simp at h

theorem aBuiltin_ok (hs : SW F g κ s.H w) {f : FuncId} {site : Nat} {b : Builtin} {ts : Array TypeId} {args : List AV} {rargs : List Value} (hv : VRs g args rargs) (hrv : ∀ (i : Nat) (x : AV) (r : Value), args[i]? = some x → rargs[i]? = some r → RV g κ s.own x r)
  (ty : TypeId) (cs : Array Bool) (h : Ok (aBuiltin K f s site b ts.toList args) p an p') : OpOk' K.P F g κ s.own s.H w ((builtin b ts ty cs ⟨rargs⟩).run K.P w) an := by
 unfold aBuiltin at h
 split at h
 ·rename_i t t2 x y hts
  obtain ⟨rx, ry, rfl, hx, hy⟩ := two_args hv
  have hts' : ts = #[t, t2] := Array.ext' hts
  subst hts'
  have hx' := hrv 0 x rx rfl rfl
  split at h
  ·rename_i e hu
   exact OpOk.liftV (append_ok hs hu (by simp) hx' hy h)
  ·rename_i hu
   exact OpOk.liftV (append_ok hs hu (by simp) hx' hy h)
  ·exact absurd h Ok_fail
 ·rename_i t ts' x hts
  obtain ⟨rx, rfl, hx⟩ := one_arg hv
  have ht : ts[0]? = some t := by rw [← Array.getElem?_toList, hts]; rfl
  exact aKeep_ok hs h fun y hy => len_ok hs hx hy ty ts ht
 ·rename_i t ts' hts
  obtain ⟨rx, rfl, hx⟩ := one_arg hv
  have ht : ts[0]? = some t := by rw [← Array.getElem?_toList, hts]; rfl
  split at h
  ·rename_i e hu
   rw [Ok_pure] at h
   obtain ⟨rfl, _⟩ := h
   refine OpOk.plain hs (r := goInt 0) (runV ?_) (.of_other (.v rfl) (by simp))
   have hrx : rx = .slice none 0 0 := by
    cases hx with
    | nil => rfl
    | sl _ hne => exact absurd rfl hne
   subst hrx
   simp [Builtin.cap_, ht, run_underlying hu]
  ·exact absurd h Ok_fail
 ·rename_i t t2 x y hts
  obtain ⟨rx, ry, rfl, hx, hy⟩ := two_args hv
  have hts' : ts = #[t, t2] := Array.ext' hts
  subst hts'
  split at h
  ·rename_i r H' hc
   rw [Ok_pure] at h
   obtain ⟨rfl, _⟩ := h
   obtain ⟨r', w', h1, h2, h3⟩ := copy_ok (ty := ty) (t2 := t2) hs hx hy hc
   exact OpOk.chg h2 (runV h1) h3 _ s.H w
  ·exact absurd h Ok_fail
 ·rename_i t x hts
  obtain ⟨rx, rfl, hx⟩ := one_arg hv
  have hts' : ts = #[t] := Array.ext' hts
  subst hts'
  split at h
  ·rename_i H' hc
   rw [Ok_pure] at h
   obtain ⟨rfl, _⟩ := h
   obtain ⟨w', h1, h2⟩ := clear_ok (ty := ty) hs hx hc
   exact OpOk.chg (x := .undef) h2 (runV h1) (.tup (rs := []) rfl (by simp)) _ s.H w
  ·exact absurd h Ok_fail
 ·rename_i t ts' x k hts
  obtain ⟨rx, rk, rfl, hx, hk⟩ := two_args hv
  have ht : ts[0]? = some t := by rw [← Array.getElem?_toList, hts]; rfl
  split at h
  ·rename_i H' hc
   rw [Ok_pure] at h
   obtain ⟨rfl, _⟩ := h
   obtain ⟨w', h1, h2⟩ := delete_ok (ty := ty) hs ht hx hk hc
   exact OpOk.chg (x := .undef) h2 (runV h1) (.tup (rs := []) rfl (by simp)) _ s.H w
  ·exact absurd h Ok_fail
 ·obtain ⟨rx, rfl, hx⟩ := one_arg hv
  rw [Ok_pure] at h
  obtain ⟨rfl, _⟩ := h
  refine OpOk.plain hs (r := .pointer none) ?_ (.of_other (.v rfl) (by simp))
  rcases sl_lies hs hx with ⟨_, _, rfl⟩ | ⟨_, _, _, _, _, _, _, _, _, _⟩
  ·exact runV (Lib.run_unsafeSliceData_nil (P := K.P) w ts ty 0 0)
  ·cases hx; exact runV (Lib.run_unsafeSliceData_nil (P := K.P) w ts ty 0 0); simp_all
 ·rename_i b' off l sz
  obtain ⟨rx, rfl, hx⟩ := one_arg hv
  rw [Ok_pure] at h
  obtain ⟨rfl, _⟩ := h
  cases hx with
  | @ms _ _ _ _ rb cap hb hn =>
   exact OpOk.plain hs (r := .pointer (some ⟨rb, off, none⟩)) (runV (Lib.run_unsafeSliceData_row (P := K.P) w ts ty _ _ cap (by omega))) (.of_other (.ptr hb) (by simp))
 ·rename_i t ts' x n hts
  obtain ⟨rx, rn, rfl, hx, hn⟩ := two_args hv
  have ht : ts[0]? = some t := by rw [← Array.getElem?_toList, hts]; rfl
  split at h
  ·rename_i u hu
   split at h
   ·rename_i r H' hc
    rw [Ok_pure] at h
    obtain ⟨rfl, _⟩ := h
    obtain ⟨r', w', h1, h2, h3⟩ := unsafeString_ok (ty := ty) hs ht hu hx hn hc
    exact OpOk.chg h2 (runV h1) h3 _ s.H w
   ·exact absurd h Ok_fail
  ·exact absurd h Ok_fail
 ·refine aKeep_ok hs h fun y hy => ?_
  have := keep_minMax (K := K) hs hv hy ts ty
  simpa using this
 ·refine aKeep_ok hs h fun y hy => ?_
  have := keep_minMax (K := K) hs hv hy ts ty
  simpa using this
 ·exact absurd h Ok_fail

theorem optArg {κ : Nat → Option Tok} {own : Nat → Nat} {regs : List AV} (hg : Glob K g) (hr : Regs g κ own regs a.tmps) {o : Option Operand} {v : Option AV} (h : o.elim (some none) (fun x => (evalO K regs x).map some) = some v) :
  OptR g v (o.map a.eval) := by
 cases o with
 | none => simp at h; subst h; trivial
 | some x =>
  simp only [Option.elim, Option.map_eq_some_iff] at h
  obtain ⟨y, hy, rfl⟩ := h
  exact (evalO_RV hg hr hy).1

theorem run_nilCheck {P : Program} {o : Oper} {ρ : Operand → Value} {x : Operand} (ho : o.op = .nilCheck x) (hx : (∃ q, ρ x = .pointer (some q)) ∨ (∃ t v, ρ x = .iface t v) ∨ ∃ f a b, ρ x = .func (.func f) a b) : (execOp ρ o).run P w = .ok (.value (ρ x)) w := by
 simp only [execOp, ho]
 rcases hx with ⟨q, h⟩ | ⟨t, v, h⟩ | ⟨f, a, b, h⟩ <;> rw [h] <;> rfl

theorem OpOk.newBlk {g' : Gh} {H' : List AB} {w' : World} {x : AV} {r : Value} {run : Result Next} (hle : Gh.Le g g') (hs : SW F g' κ H' w') (hr : run = .ok (.value r) w') (h : VR g' x r) (hx : ∀ xs s e z, x ≠ .sl xs (.own s e z)) (own : Nat → Nat) (H : List AB) (w : World) : OpOk F g κ own H w run (.val x own H') :=
 ⟨r, w', g', κ, hr, hle, hs, .of_other h hx, fun _ _ q => q.mono hle⟩

theorem aOp_ok (hs : SW F g κ s.H w) (hg : Glob K g) (hr : Regs g κ s.own s.regs a.tmps) {f : FuncId} {o : Oper} (h : Ok (aOp K f s o) p an p') : OpOk' K.P F g κ s.own s.H w ((execOp a.eval o).run K.P w) an := by
 have ev : ∀ {x : Operand} {v : AV}, evalO K s.regs x = some v → RV g κ s.own v (a.eval x) := fun h => evalO_RV hg hr h
 obtain ⟨dst, op, type, pos, after, guard⟩ := o
 cases op <;> simp only [aOp] at h <;> simp only [execOp]
 case move x =>
  split at h
  ·rename_i v hv
   rw [Ok_pure] at h; obtain ⟨rfl, _⟩ := h
   exact OpOk.plain hs rfl (ev hv)
  ·exact absurd h Ok_fail
 case assign x =>
  split at h
  ·rename_i v hv
   rw [Ok_pure] at h; obtain ⟨rfl, _⟩ := h
   exact OpOk.plain hs rfl (ev hv)
  ·exact absurd h Ok_fail
 case pick c x y =>
  split at h
  ·rename_i b vx vy hc hx hy
   rw [Ok_bind] at h
   obtain ⟨t, q, h1, h2⟩ := h
   rw [Ok_pure] at h2; obtain ⟨rfl, _⟩ := h2
   have ht := Ok_branch h1
   subst ht
   obtain ⟨hcv, _⟩ := vr_v (ev hc).1
   cases t
   ·exact OpOk.plain hs (by rw [← hcv]; rfl) (ev hy)
   ·exact OpOk.plain hs (by rw [← hcv]; rfl) (ev hx)
  ·exact absurd h Ok_fail
 case alloc elem =>
  split at h
  ·rename_i z hz
   rw [Ok_pure] at h; obtain ⟨rfl, _⟩ := h
   obtain ⟨r, w', g', h1, h2, h3, h4⟩ := allocBig_ok (K := K) hs hz (K.big elem)
   exact OpOk.newBlk h2 h3 (runV h1) h4 (by simp) _ s.H w
  ·exact absurd h Ok_fail
 case box elem x =>
  split at h
  ·rename_i v hv
   split at h
   ·rename_i h1
    rw [Ok_pure] at h; obtain ⟨rfl, _⟩ := h
    obtain ⟨r, w', g', h1, h2, h3, h4⟩ := box_ok (K := K) (elem := elem) hs (ev hv).1 h1
    exact OpOk.newBlk h2 h3 (runV h1) h4 (by simp) _ s.H w
   ·exact absurd h Ok_fail
  ·exact absurd h Ok_fail
 case build t parts =>
  split at h
  ·rename_i ps hps
   obtain ⟨q1, q2⟩ := parts_ok hg hr hps
   exact aKeep_ok hs h fun y hy => build_ok (by simpa using q1) (by simpa using q2) hy
  ·exact absurd h Ok_fail
 case buildSlice t len parts =>
  split at h
  ·rename_i ps hps
   rw [Ok_of] at h
   obtain ⟨q1, q2⟩ := parts_ok hg hr hps
   exact OpOk.liftV (buildSlice_ok hs (by simpa using q1) (by simpa using q2) h.1)
  ·exact absurd h Ok_fail
 case load t x =>
  split at h
  ·rename_i v hv
   exact aKeep_ok hs h fun y hy => run_loadAt hs (ev hv).1 hy
  ·exact absurd h Ok_fail
 case store t x y =>
  split at h
  ·rename_i v u hv hu
   split at h
   ·rename_i H' hH
    rw [Ok_pure] at h; obtain ⟨rfl, _⟩ := h
    obtain ⟨w', h1, h2⟩ := storeAt_ok hs (ev hv).1 (ev hu).1 hH
    exact ⟨w', g, runU h1, .refl g, h2⟩
   ·exact absurd h Ok_fail
  ·exact absurd h Ok_fail
 case nilCheck x =>
  split at h
  ·rename_i b i hv
   rw [Ok_pure] at h; obtain ⟨rfl, _⟩ := h
   have hx := (ev hv).1
   generalize a.eval x = rx at hx
   cases hx with
   | ptr hb => exact OpOk.plain hs rfl (.of_other (.ptr hb) (by simp))
  ·rename_i cs hv
   rw [Ok_pure] at h; obtain ⟨rfl, _⟩ := h
   have hx := (ev hv).1
   generalize a.eval x = rx at hx
   have hx' := hx
   cases hx with
   | rp => exact OpOk.plain hs rfl (.of_other hx' (by simp))
  ·rename_i t y hv
   rw [Ok_pure] at h; obtain ⟨rfl, _⟩ := h
   have hx := (ev hv).1
   generalize a.eval x = rx at hx
   have hx' := hx
   cases hx with
   | iface => exact OpOk.plain hs rfl (.of_other hx' (by simp))
  ·rename_i g' c d hv
   rw [Ok_pure] at h; obtain ⟨rfl, _⟩ := h
   have hx := (ev hv).1
   generalize a.eval x = rx at hx
   have hx' := hx
   cases hx with
   | func => exact OpOk.plain hs rfl (.of_other hx' (by simp))
  ·exact absurd h Ok_fail
 case binOp op' t x y t2 =>
  split at h
  ·rename_i v u hv hu
   exact aKeepE_ok hs h fun z q hz => binOp_ok (ev hv).1 (ev hu).1 hz
  ·exact absurd h Ok_fail
 case unOp op' t x =>
  split at h
  ·rename_i v hv
   exact aKeep_ok hs h fun y hy => unOp_ok (ev hv).1 hy
  ·exact absurd h Ok_fail
 case convert src dst x =>
  split at h
  ·rename_i v hv
   unfold aKeep at h
   split at h
   ·rename_i y hy
    rw [Ok_pure] at h; obtain ⟨rfl, _⟩ := h
    split at hy
    ·rename_i z hz
     cases hy
     obtain ⟨h1, rfl⟩ := unsafe_ok hs (ev hv).1 hz
     exact OpOk.plainU hs (runV h1) (ev hv).1
    ·split at hy
     ·rename_i z hz
      cases hy
      obtain ⟨r, h1, h2⟩ := convertM_ok hs (ev hv).1 hz
      exact OpOk.plainU hs (runV h1) h2
     obtain ⟨r, w', g', h1, h2, h3, h4⟩ := convert_ok hs (ev hv).1 hy
     exact OpOk.newBlk h2 h3 (runV h1) h4.unown (fun xs s e z q => absurd q unown_ne) _ s.H w
   ·exact absurd h Ok_fail
  ·exact absurd h Ok_fail
 case makeMap t r =>
  cases r with
  | none =>
   simp only at h
   rw [Ok_pure] at h; obtain ⟨rfl, _⟩ := h
   obtain ⟨v, w', g', h1, h2, h3, h4⟩ := makeMap_ok (K := K) (t := t) hs (.inl rfl)
   exact OpOk.newBlk h2 h3 (runV h1) h4 (by simp) _ s.H w
  | some x =>
   simp only at h
   split at h
   ·rename_i k n kt et hv hu
    rw [Ok_pure] at h; obtain ⟨rfl, _⟩ := h
    obtain ⟨hx, _⟩ := vr_v (ev hv).1
    obtain ⟨v, w', g', h1, h2, h3, h4⟩ := makeMap_ok (K := K) (t := t) (r := some (a.eval x)) hs (.inr ⟨⟨k, n, by rw [← hx]⟩, kt, et, hu⟩)
    exact OpOk.newBlk h2 h3 (runV h1) h4 (by simp) _ s.H w
   ·exact absurd h Ok_fail
 case makeSlice t l c =>
  split at h
  ·rename_i v u hv hu
   rw [Ok_of] at h
   exact OpOk.liftV (makeSlice_ok hs (ev hv).1 (ev hu).1 h.1)
  ·exact absurd h Ok_fail
 case lookup t m k ok =>
  split at h
  ·rename_i v u hv hu
   exact aKeep_ok hs h fun y hy => lookup_ok hs (ev hv).1 (ev hu).1 hy
  ·exact absurd h Ok_fail
 case mapUpdate t m k x =>
  split at h
  ·rename_i v u y hv hu hy
   split at h
   ·rename_i H' hH
    rw [Ok_pure] at h; obtain ⟨rfl, _⟩ := h
    obtain ⟨w', h1, h2⟩ := mapUpdate_ok hs (ev hv).1 (ev hu).1 (ev hy).1 hH
    exact ⟨w', g, runU h1, .refl g, h2⟩
   ·exact absurd h Ok_fail
  ·exact absurd h Ok_fail
 case insert t m k x =>
  split at h
  ·rename_i v u y hv hu hy
   split at h
   ·rename_i H' hH
    rw [Ok_pure] at h; obtain ⟨rfl, _⟩ := h
    obtain ⟨w', h1, h2⟩ := mapUpdate_ok hs (ev hv).1 (ev hu).1 (ev hy).1 hH
    exact ⟨w', g, runU h1, .refl g, h2⟩
   ·exact absurd h Ok_fail
  ·exact absurd h Ok_fail
 case mapEntry t m k =>
  split at h
  ·rename_i v u hv hu
   split at h
   ·rename_i r H' hH
    rw [Ok_pure] at h; obtain ⟨rfl, _⟩ := h
    obtain ⟨r', w', h1, h2, h3⟩ := mapEntry_ok hs (ev hv).1 (ev hu).1 hH
    exact OpOk.chg h2 (runV h1) h3 _ s.H w
   ·exact absurd h Ok_fail
  ·exact absurd h Ok_fail
 case entryStore t m st x =>
  split at h
  ·rename_i v u y hv hu hy
   split at h
   ·rename_i H' hH
    rw [Ok_pure] at h; obtain ⟨rfl, _⟩ := h
    obtain ⟨w', h1, h2⟩ := entryStore_ok (t := t) hs (ev hv).1 (ev hu).1 (ev hy).1 hH
    exact ⟨w', g, runU h1, .refl g, h2⟩
   ·exact absurd h Ok_fail
  ·exact absurd h Ok_fail
 case range t x =>
  split at h
  ·rename_i l hv hu
   rw [Ok_pure] at h; obtain ⟨rfl, _⟩ := h
   have hx := (ev hv).1
   generalize a.eval x = rx at hx
   cases hx
   obtain ⟨v, w', g', h1, h2, h3, h4⟩ := rangeStr_ok (K := K) (t := t) hs hu
   exact OpOk.newBlk h2 h3 (runV h1) h4 (by simp) _ s.H w
  ·rename_i kt et hv hu
   rw [Ok_pure] at h; obtain ⟨rfl, _⟩ := h
   obtain ⟨hx, _⟩ := vr_v (ev hv).1
   obtain ⟨v, w', g', h1, h2, h3, h4⟩ := rangeNil_ok (K := K) (t := t) hs hu
   exact OpOk.newBlk h2 h3 (runV (by rw [← hx]; exact h1)) h4 (by simp) _ s.H w
  ·rename_i b kt et hv hu
   rw [nth_eq] at h
   split at h
   ·rename_i es clock hH
    rw [Ok_pure] at h; obtain ⟨rfl, _⟩ := h
    have hx := (ev hv).1
    generalize a.eval x = rx at hx
    cases hx with
    | map hb =>
     obtain ⟨v, w', g', h1, h2, h3, h4⟩ := rangeMap_ok (K := K) (t := t) hs hu hb hH
     exact OpOk.newBlk h2 h3 (runV h1) h4 (by simp) _ s.H w
   ·exact absurd h Ok_fail
  ·exact absurd h Ok_fail
 case next it isStr =>
  split at h
  ·rename_i v hv
   split at h
   ·rename_i r H' hH
    rw [Ok_pure] at h; obtain ⟨rfl, _⟩ := h
    obtain ⟨r', w', h1, h2, h3⟩ := next_ok (ty := type) hs (ev hv).1 hH
    exact OpOk.chg h2 (runV h1) h3 _ s.H w
   ·exact absurd h Ok_fail
  ·exact absurd h Ok_fail
 case entry it =>
  split at h
  ·rename_i v hv
   exact aKeep_ok hs h fun y hy => entry_ok hs (ev hv).1 hy
  ·exact absurd h Ok_fail
 case typeAssert x xt t ok =>
  split at h
  ·rename_i v hv
   exact aKeep_ok hs h fun y hy => typeAssert_ok (ev hv).1 hy
  ·exact absurd h Ok_fail
 case makeInterface t x =>
  split at h
  ·exact absurd h Ok_fail
  ·rename_i v d hne hv hu
   rw [Ok_pure] at h; obtain ⟨rfl, _⟩ := h
   refine OpOk.plain hs (r := .iface t (a.eval x)) ?_ (.of_other (.iface (ev hv).1.unown) (by simp))
   refine runV ?_
   simp only [Instr.makeInterface, Sem.run_bind, run_underlying hu, Result.andThen_ok]
   cases d <;> first | exact absurd rfl (hne _ _ hv) | rfl
  ·exact absurd h Ok_fail
 case makeFunc fn first captured =>
  split at h
  ·rename_i vs us hvs hus
   rw [Ok_pure] at h; obtain ⟨rfl, _⟩ := h
   have h1 := evalOs_VRs hg hr hvs
   have h2 := evalOs_VRs hg hr hus
   have un : ∀ {l : List AV} {rs : List Value}, VRs g l rs → VRs g (l.map AV.unown) rs := fun {l rs} q => ⟨by simpa using q.1, fun i x r p q' => by
    simp only [List.getElem?_map, Option.map_eq_some_iff] at p
    obtain ⟨y, hy, rfl⟩ := p
    exact (q.2 i y r hy q').unown⟩
   have h3 := un h1
   have h4 := un h2
   refine OpOk.plain hs (r := .func fn (first.map a.eval) (captured.map a.eval)) (runV rfl) (.of_other ?_ (by simp))
   have e1 : first.map a.eval = ⟨first.toList.map a.eval⟩ := by apply Array.ext'; simp
   have e2 : captured.map a.eval = ⟨captured.toList.map a.eval⟩ := by apply Array.ext'; simp
   rw [e1, e2]
   exact .func h3.1 h4.1 h3.2 h4.2
  ·exact absurd h Ok_fail
 case slice t x lo hi mx =>
  split at h
  ·rename_i v l hh m hv hl hhi hm
   rw [Ok_bind] at h
   obtain ⟨r, q, h1, h2⟩ := h
   rw [Ok_pure] at h2; obtain ⟨rfl, _⟩ := h2
   obtain ⟨rr, h3, h4⟩ := slice_ok hs (ev hv) (optArg hg hr hl) (optArg hg hr hhi) (optArg hg hr hm) h1
   exact OpOk.plain hs (runV h3) h4
  ·exact absurd h Ok_fail
 case fieldAddr t x i =>
  split at h
  ·rename_i v hv
   exact aKeep_ok hs h fun y hy => fieldAt_ok hs (ev hv).1 hy
  ·exact absurd h Ok_fail
 case field t x i =>
  split at h
  ·rename_i v hv
   exact aKeep_ok hs h fun y hy => field_ok (ev hv).1 hy
  ·exact absurd h Ok_fail
 case indexAddr t x i =>
  split at h
  ·rename_i v u hv hu
   exact aKeepE_ok hs h fun z q hz => indexAt_ok hs (ev hv).1 (ev hu).1 hz
  ·exact absurd h Ok_fail
 case index t x i =>
  split at h
  ·rename_i v u hv hu
   exact aKeepE_ok hs h fun z q hz => index_ok (ev hv).1 (ev hu).1 hz
  ·exact absurd h Ok_fail
 case extract t i =>
  split at h
  ·rename_i v hv
   exact aKeep_ok hs h fun y hy => extract_ok (ev hv).1 hy
  ·exact absurd h Ok_fail
 case call c =>
  split at h
  ·exact absurd h Ok_fail
  ·rename_i args hargs
   have hv := evalOs_VRs hg hr hargs
   have hargs' : c.args.map a.eval = ⟨c.args.toList.map a.eval⟩ := by apply Array.ext'; simp
   have un : ∀ {l : List AV} {rs : List Value}, VRs g l rs → VRs g (l.map AV.unown) rs := fun {l rs} q => ⟨by simpa using q.1, fun i x r p q' => by
    simp only [List.getElem?_map, Option.map_eq_some_iff] at p
    obtain ⟨y, hy, rfl⟩ := p
    exact (q.2 i y r hy q').unown⟩
   split at h
   ·rename_i b hb
    have hrun : (resolve a.eval c type >>= fun d => invoke d.target d.args) = builtin b c.argTypes type (c.args.map fun | .const _ => true | _ => false) ⟨c.args.toList.map a.eval⟩ := by
     simp only [resolve, hb]
     rw [hargs']
     rfl
    show OpOk' _ _ _ _ _ _ _ ((resolve a.eval c type >>= fun d => invoke d.target d.args).run K.P w) an
    rw [hrun]
    refine aBuiltin_ok hs hv (fun i x r q1 q2 => ?_) _ _ h
    simp only [List.getElem?_map, Option.map_eq_some_iff] at q2
    obtain ⟨oo, ho, rfl⟩ := q2
    obtain ⟨y, hy, hz⟩ := mapO_get hargs i oo ho
    rw [hz] at q1; cases q1
    exact ev hy
   ·rename_i r name hb
    split at h
    ·rename_i t x hv'
     split at h
     ·rename_i g' y hm
      rw [Ok_pure] at h; obtain ⟨rfl, _⟩ := h
      have hx := (ev hv').1
      generalize hrr : a.eval r = rr at hx
      cases hx with
      | @iface _ _ rx hx =>
       obtain ⟨ry, h1, h2⟩ := method_ok (w := w) hx hm (n := K.P.types.size + Made.depth - 1)
       have hd : K.P.types.size + Made.depth - 1 + 1 = K.P.types.size + Made.depth := by
        have : 0 < Made.depth := by decide
        omega
       rw [hd] at h1
       refine ⟨ry :: c.args.toList.map a.eval, ?_, un (VRs.cons h2 hv)⟩
       have hrun : (resolve a.eval c type >>= fun d => invoke d.target d.args) = callMethod (.iface t rx) name ⟨c.args.toList.map a.eval⟩ := by
        simp only [resolve, hb]
        rw [hargs', hrr]
        have h0 : (#[Value.iface t rx] ++ (⟨c.args.toList.map a.eval⟩ : Array Value))[0]? = some (.iface t rx) := by simp
        have h1 : (#[Value.iface t rx] ++ (⟨c.args.toList.map a.eval⟩ : Array Value)).extract 1 (#[Value.iface t rx] ++ (⟨c.args.toList.map a.eval⟩ : Array Value)).size = ⟨c.args.toList.map a.eval⟩ := by
         apply Array.ext'
         simp
         rw [List.take_of_length_le (by simp)]
        show invoke (.fn (.method name) #[]) (#[Value.iface t rx] ++ (⟨c.args.toList.map a.eval⟩ : Array Value)) = _
        simp only [invoke, h0, h1]
       show (resolve a.eval c type >>= fun d => invoke d.target d.args).run K.P w = _
       rw [hrun]
       simp [callMethod, h1]
     ·exact absurd h Ok_fail
    ·exact absurd h Ok_fail
   ·rename_i fo hb
    split at h
    ·rename_i g' first captured hv'
     rw [Ok_pure] at h; obtain ⟨rfl, _⟩ := h
     have hx := (ev hv').1
     generalize hrr : a.eval fo = rr at hx
     cases hx with
     | @func _ _ _ r1 r2 l1 l2 h1 h2 =>
      refine ⟨r1 ++ c.args.toList.map a.eval ++ r2, ?_, un ((VRs.append ⟨l1, h1⟩ hv).append ⟨l2, h2⟩)⟩
      have hrun : (resolve a.eval c type >>= fun d => invoke d.target d.args) = callFunc g' ⟨r1 ++ c.args.toList.map a.eval ++ r2⟩ := by
       simp only [resolve, hb]
       rw [hargs', hrr]
       simp [Deferred.ofValue, invoke]
      show (resolve a.eval c type >>= fun d => invoke d.target d.args).run K.P w = _
      rw [hrun]
    ·exact absurd h Ok_fail
 all_goals exact absurd h Ok_fail
end
end Go.Tm
end
section
namespace Go.Tm

def Does (P : Program) (f : FuncId) (rargs : Array Value) (w : World) (R : Value → World → Prop) : Prop :=
 ((callFunc f rargs).run P w = .ok (.enter f rargs) w ∧ Calls P f rargs w fun | .returned v, w' => R v w' | _, _ => False) ∨
 ∃ v w', (callFunc f rargs).run P w = .ok (.value v) w' ∧ R v w'

theorem Does.mono {P : Program} {f : FuncId} {rargs : Array Value} {w : World} {R R' : Value → World → Prop} (h : Does P f rargs w R) (hr : ∀ v w', R v w' → R' v w') : Does P f rargs w R' := by
 rcases h with ⟨h1, h2⟩ | ⟨v, w', h1, h2⟩
 ·exact .inl ⟨h1, h2.mono fun e w' q => by cases e <;> first | exact hr _ _ q | exact q⟩
 ·exact .inr ⟨v, w', h1, hr _ _ h2⟩

def Live (g : Gh) (H : List AB) (rb : Nat) : Prop := ∃ k A, H[k]? = some A ∧ A.live = true ∧ g.ρ k = some rb

def noTok : Nat → Option Tok := fun _ => none

def CallOk (K : Cfg) (f : FuncId) (args : List AV) (H : List AB) (r : AV) (H' : List AB) : Prop :=
 ∀ (g : Gh) (w : World) (rargs : List Value), Glob K g → SW ⟨w, Live g H, g⟩ g noTok H w → VRs g args rargs →
  Does K.P f ⟨rargs⟩ w fun v w' => ∃ g', SW ⟨w, Live g H, g⟩ g' noTok H' w' ∧ VR g' r v

def OrcOk (K : Cfg) (call : Orc) : Prop := ∀ (f : FuncId) (args : List AV) (H : List AB) (p p' : List Bool) (r : AV) (H' : List AB), Ok (call f args H) p (r, H') p' → CallOk K f args H r H'

section
variable {F : Fr} {g : Gh} {κ : Nat → Option Tok} {w : World} {K : Cfg} {H : List AB}

theorem SW.down (hs : SW F g κ H w) : SW ⟨w, Live g H, g⟩ g noTok H w := by
 refine ⟨hs.imm, hs.dom, fun k A hk hl => ?_, hs.inj, fun s t q => by simp [noTok] at q, fun s s' t t' q => by simp [noTok] at q, .refl _ w _, fun b i v _ _ q => q, .refl g⟩
 obtain ⟨rb, o, h1, h2, h3, h4, h5⟩ := hs.blk k A hk hl
 exact ⟨rb, o, h1, h2, h3, .inl ⟨k, A, hk, hl, h1⟩, h5⟩

theorem SW.up (hs : SW F g κ H w) {g' : Gh} {H' : List AB} {w' : World} (h : SW ⟨w, Live g H, g⟩ g' noTok H' w') : SW F g' κ H' w' := by
 have place : ∀ rb, Live g H rb → F.L rb ∨ F.w0.heap.size ≤ rb := by
  rintro rb ⟨k, A, hk, hl, hr⟩
  obtain ⟨rb', o, h1, _, _, h4, _⟩ := hs.blk k A hk hl
  rw [hr] at h1; cases h1
  exact h4
 have hsz := hs.kept.size
 refine ⟨h.imm, h.dom, fun k A hk hl => ?_, h.inj, fun s t ht => ?_, hs.tinj, ?_, fun b i v hb hl q => ?_, hs.le.trans h.le⟩
 ·obtain ⟨rb, o, h1, h2, h3, h4, h5⟩ := h.blk k A hk hl
  refine ⟨rb, o, h1, h2, h3, ?_, h5⟩
  rcases h4 with h4 | h4
  ·exact place rb h4
  ·right
   have h4' : w.heap.size ≤ rb := h4
   omega
 ·obtain ⟨h1, ⟨rcs, e, h2, h3⟩, hn, h4, h5⟩ := hs.tok s t ht
  have hlt := lt_of_some h2
  have hnl : ¬ Live g H t.blk := by
   rintro ⟨k, A, hk, hl, hr⟩
   exact h5 k A hk hl hr
  refine ⟨h1, ⟨rcs, e, ?_, h3⟩, hn, fun i hi => ?_, fun k A hk hl hr => ?_⟩
  ·rw [h.kept.block t.blk hlt hnl]; exact h2
  ·cases hI : g'.I t.blk i with
   | none => rfl
   | some v =>
    have := h.old t.blk i v hlt hnl hI
    have h6 : g.I t.blk i = none := h4 i hi
    rw [h6] at this; cases this
  ·obtain ⟨rb, o, q1, _, _, q4, _⟩ := h.blk k A hk hl
   rw [hr] at q1; cases q1
   rcases q4 with q4 | q4
   ·exact hnl q4
   ·have q4' : w.heap.size ≤ t.blk := q4
    omega
 ·have k1 := hs.kept
  have k2 := h.kept
  refine ⟨k2.os.trans k1.os, k2.tape.trans k1.tape, k2.output.trans k1.output, Nat.le_trans k1.size k2.size, fun b hb hl => ?_, fun q => Nat.le_trans (k1.drawn q) (k2.drawn (hs.le.dr.trans q))⟩
  rw [k2.block b (Nat.lt_of_lt_of_le hb k1.size) (fun q => by
   rcases place b q with q | q
   ·exact hl q
   ·omega)]
  exact k1.block b hb hl
 ·have hnl : ¬ Live g H b := fun q => by
   rcases place b q with q | q
   ·exact hl q
   ·omega
  exact hs.old b i v hb hl (h.old b i v (Nat.lt_of_lt_of_le hb hsz) hnl q)

structure Ref (F F' : Fr) : Prop where
 place : ∀ rb, F'.L rb ∨ F'.w0.heap.size ≤ rb → F.L rb ∨ F.w0.heap.size ≤ rb
 kept : Kept F.g0.dr F.w0 F.L F'.w0
 old : ∀ b i v, b < F.w0.heap.size → ¬ F.L b → F'.g0.I b i = some v → F.g0.I b i = some v
 le : Gh.Le F.g0 F'.g0
theorem Ref.refl (F : Fr) : Ref F F := ⟨fun _ h => h, .refl _ _ _, fun _ _ _ _ _ h => h, .refl _⟩
theorem Ref.trans {F F' F'' : Fr} (h : Ref F F') (k : Ref F' F'') : Ref F F'' := by
 have hL : ∀ b, b < F.w0.heap.size → ¬ F.L b → ¬ F'.L b := fun b hb hl q => by
  rcases h.place b (.inl q) with q | q
  ·exact hl q
  ·omega
 refine ⟨fun rb q => h.place rb (k.place rb q), ?_, fun b i v hb hl q => h.old b i v hb hl (k.old b i v (Nat.lt_of_lt_of_le hb h.kept.size) (hL b hb hl) q), h.le.trans k.le⟩
 exact ⟨k.kept.os.trans h.kept.os, k.kept.tape.trans h.kept.tape, k.kept.output.trans h.kept.output, Nat.le_trans h.kept.size k.kept.size, fun b hb hl => (k.kept.block b (Nat.lt_of_lt_of_le hb h.kept.size) (hL b hb hl)).trans (h.kept.block b hb hl), fun q => Nat.le_trans (h.kept.drawn q) (k.kept.drawn (h.le.dr.trans q))⟩
theorem Ref.up {F F' : Fr} (h : Ref F F') {g : Gh} {κ : Nat → Option Tok} {H : List AB} {w : World} (hs : SW F' g κ H w) : SW F g noTok H w := by
 have hL : ∀ b, b < F.w0.heap.size → ¬ F.L b → ¬ F'.L b := fun b hb hl q => by
  rcases h.place b (.inl q) with q | q
  ·exact hl q
  ·omega
 refine ⟨hs.imm, hs.dom, fun k A hk hl => ?_, hs.inj, fun s t q => by simp [noTok] at q, fun s s' t t' q => by simp [noTok] at q, ?_, fun b i v hb hl q => h.old b i v hb hl (hs.old b i v (Nat.lt_of_lt_of_le hb h.kept.size) (hL b hb hl) q), h.le.trans hs.le⟩
 ·obtain ⟨rb, o, h1, h2, h3, h4, h5⟩ := hs.blk k A hk hl
  exact ⟨rb, o, h1, h2, h3, h.place rb h4, h5⟩
 ·exact ⟨hs.kept.os.trans h.kept.os, hs.kept.tape.trans h.kept.tape, hs.kept.output.trans h.kept.output, Nat.le_trans h.kept.size hs.kept.size, fun b hb hl => (hs.kept.block b (Nat.lt_of_lt_of_le hb h.kept.size) (hL b hb hl)).trans (h.kept.block b hb hl), fun q => Nat.le_trans (h.kept.drawn q) (hs.kept.drawn (h.le.dr.trans q))⟩
def mark (D : Nat) : Deferred := { target := .collected D, args := #[] }
def Marks (F F' : Fr) (ds : List Deferred) : Prop :=
 ∃ M : List Nat, ds = M.map mark ∧ M.Nodup ∧ ∀ D ∈ M, F.w0.heap.size ≤ D ∧ D < F'.w0.heap.size ∧ ¬ F'.L D ∧ F'.w0.heap[D]? = some (.deferred (some []))
theorem Marks.nil (F F' : Fr) : Marks F F' [] := ⟨[], rfl, .nil, fun _ h => by cases h⟩
def Rel (F : Fr) (s : St) (a : Act) (w : World) : Prop := ∃ F', Ref F F' ∧ Marks F F' a.defers ∧ ∃ g κ, SW F' g κ s.H w ∧ Regs g κ s.own s.regs a.tmps

theorem put_defers (a : Act) (d : Option Tmp) (v : Value) : (a.put d v).defers = a.defers := by cases d <;> rfl

theorem RV.undef {own : Nat → Nat} : RV g κ own .undef Go.undef := .of_other (.tup (rs := []) rfl (by simp)) (by simp [AV.undef])

theorem aDo_ok {call : Orc} (hg : Glob K F.g0) (hc : OrcOk K call) {s s' : St} {a : Act} (hR : Rel F s a w) {f : FuncId} {o : Oper} {p p' : List Bool} (h : Ok (aDo K call f o s) p s' p') {next : Act → World → Prop} {Q : Exit → Act → World → Prop}
  (hn : ∀ a' w', Rel F s' a' w' → a'.defers = a.defers → next a' w') : o.wp K.P a w next Q := by
 obtain ⟨F', hF, hd, g, κ, hs, hr⟩ := hR
 have hgg : Glob K g := (hg.mono hF.le).mono hs.le
 unfold aDo at h
 rw [Ok_bind] at h
 obtain ⟨an, p1, h1, h2⟩ := h
 have hop := aOp_ok hs hgg hr h1
 unfold Oper.wp
 cases an with
 | val x own' H' =>
  simp only at h2
  rw [Ok_pure] at h2
  obtain ⟨rfl, _⟩ := h2
  obtain ⟨r, w', g', κ', hrun, hle, hsw, hrv, hkeep⟩ := hop
  rw [hrun, Oper.upon_value]
  refine hn _ _ ⟨F', hF, by rw [put_defers]; exact hd, g', κ', hsw, ?_⟩ (put_defers _ _ _)
  have hr' : Regs g' κ' own' s.regs a.tmps := ⟨hr.1, fun i x r p q => hkeep x r (hr.2 i x r p q)⟩
  exact hr'.put hrv o.dst
 | skip H' =>
  simp only at h2
  rw [Ok_pure] at h2
  obtain ⟨rfl, _⟩ := h2
  obtain ⟨w', g', hrun, hle, hsw⟩ := hop
  rw [hrun, Oper.upon_skip]
  exact hn _ _ ⟨F', hF, by rw [put_defers]; exact hd, g', κ, hsw, (hr.mono hle).put RV.undef o.dst⟩ (put_defers _ _ _)
 | call f' args =>
  simp only at h2
  rw [Ok_bind] at h2
  obtain ⟨⟨r, H'⟩, p2, h3, h4⟩ := h2
  simp only at h4
  rw [Ok_pure] at h4
  obtain ⟨rfl, _⟩ := h4
  obtain ⟨rargs, hrun, hv⟩ := hop
  rw [hrun]
  have hdoes := hc f' args s.H p1 p2 r H' h3 g w rargs hgg hs.down hv
  have fin : ∀ v w', (∃ g', SW ⟨w, Live g s.H, g⟩ g' noTok H' w' ∧ VR g' r v) → next (a.put o.dst v) w' := by
   rintro v w' ⟨g', q1, q2⟩
   refine hn _ _ ⟨F', hF, by rw [put_defers]; exact hd, g', κ, hs.up q1, (hr.mono q1.le).put (.of_unown q2) o.dst⟩ (put_defers _ _ _)
  rcases hdoes with ⟨e1, e2⟩ | ⟨v, w', e1, e2⟩
  ·rw [e1, Oper.upon_enter]
   refine e2.mono fun e w' q => ?_
   cases e with
   | returned v => exact fin v w' q
   | panicked => exact q.elim
   | outgrown => exact q.elim
  ·rw [e1, Oper.upon_value]
   exact fin v w' e2

theorem Rel.skipped {s : St} {a : Act} (hR : Rel F s a w) (d : Option Tmp) : Rel F { s with regs := putReg s.regs d .undef } (a.put d Go.undef) w := by
 obtain ⟨F', hF, hd, g, κ, hs, hr⟩ := hR
 exact ⟨F', hF, by rw [put_defers]; exact hd, g, κ, hs, hr.put RV.undef d⟩

theorem yield_ok {s : St} {a : Act} (hR : Rel F s a w) (ops : Array Oper) (j : Nat) : yielded ops a.tmps j = aYield s.regs ops j := by
 obtain ⟨_, _, _, g, κ, hs, hr⟩ := hR
 unfold yielded aYield
 cases hd : (ops[j]?).bind (·.dst) with
 | none => rfl
 | some d =>
  simp only [Option.bind_some, nth_eq]
  cases hx : s.regs[d]? with
  | none =>
   have : a.tmps[d]? = none := by
    rw [Array.getElem?_eq_none_iff, ← hr.1]
    exact List.getElem?_eq_none_iff.1 hx
   rw [this]
  | some x =>
   have hlt : d < a.tmps.size := by rw [← hr.1]; exact (List.getElem?_eq_some_iff.1 hx).1
   have hv := (hr.2 d x _ hx (by rw [Array.getElem?_eq_getElem hlt])).1
   rw [Array.getElem?_eq_getElem hlt]
   generalize a.tmps[d] = r at hv
   cases hv with
   | v hf => cases r <;> rfl
   | _ => rfl

theorem aList_ok {call : Orc} (hg : Glob K F.g0) (hc : OrcOk K call) {f : FuncId} {ops : Array Oper} {Q : Exit → Act → World → Prop} : ∀ {l : List Oper} {s s' : St} {a : Act} {w : World} {p p' : List Bool}, Rel F s a w → Ok (aList K call f ops l s) p s' p' →
  (∀ a' w', Rel F s' a' w' → a'.defers = a.defers → Q .normal a' w') → wpList K.P ops Q l a w
 | [], s, s', a, w, p, p', hR, h, hq => by
  simp only [aList] at h
  rw [Ok_pure] at h
  obtain ⟨rfl, _⟩ := h
  exact hq _ _ hR rfl
 | o :: rest, s, s', a, w, p, p', hR, h, hq => by
  simp only [aList] at h
  refine wpList_step fun Kn hKn => ?_
  split at h
  ·rename_i hgd
   rw [if_pos (by simp [Region.wanted, hgd]), ]
   rw [Ok_bind] at h
   obtain ⟨s1, p1, h1, h2⟩ := h
   exact aDo_ok hg hc hR h1 fun a' w' hR' hd' => hKn _ _ (aList_ok hg hc hR' h2 fun a'' w'' q1 q2 => hq a'' w'' q1 (q2.trans hd'))
  ·rename_i j want hgd
   have hy := yield_ok hR ops j
   split at h
   ·rename_i hn
    rw [if_neg (by simp [Region.wanted, hgd, hy, hn])]
    exact hKn _ _ (aList_ok hg hc (hR.skipped o.dst) h fun a'' w'' q1 q2 => hq a'' w'' q1 (q2.trans (put_defers _ _ _)))
   ·rename_i b hb
    rw [Ok_bind] at h
    obtain ⟨t, p1, h1, h2⟩ := h
    have ht := Ok_branch h1
    subst ht
    split at h2
    ·rename_i hbw
     rw [if_pos (by simp [Region.wanted, hgd, hy, hb]; simpa using hbw)]
     rw [Ok_bind] at h2
     obtain ⟨s1, p2, h3, h4⟩ := h2
     exact aDo_ok hg hc hR h3 fun a' w' hR' hd' => hKn _ _ (aList_ok hg hc hR' h4 fun a'' w'' q1 q2 => hq a'' w'' q1 (q2.trans hd'))
    ·rename_i hbw
     rw [if_neg (by simp [Region.wanted, hgd, hy, hb]; simpa using hbw)]
     exact hKn _ _ (aList_ok hg hc (hR.skipped o.dst) h2 fun a'' w'' q1 q2 => hq a'' w'' q1 (q2.trans (put_defers _ _ _)))
end
end Go.Tm
end
