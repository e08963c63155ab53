/- The tree machine over unknown values: a range over a function whose values are told. -/
import Derived.Test.YtpgkkmlmdoacmaaTmQd
set_option linter.unusedVariables false
set_option linter.unusedSimpArgs false
set_option linter.unusedSectionVars false
namespace Go.Tm
section
variable {K : Cfg} {f : FuncId} {R : List AV} {own : Nat → Nat} {H : List AB} {Q : AX → St → Prop}
def roundE (K : Cfg) (f : FuncId) (assign body : Code) (n : Nat) : St → E (AX × List AB) := fun s1 => do
 let (e, s1) ← aCode K (aCall K n) f (n + 1) assign s1
 match e with
 | .normal => do
  let (e, s2) ← aCode K (aCall K n) f (n + 1) body { regs := s1.regs.map AV.unown, own := fun _ => 0, H := s1.H }
  pure (e, s2.H)
 | _ => E.fail
theorem rounds_tell {assign body : Code} {ps : List Nat} {regs : List AV} (I : Nat → List AB → Prop) (all : List (List AV))
  (hstep : ∀ i xs H1, all[i]? = some xs → I i H1 → xs.length = ps.length ∧ Wc K f assign (putAt regs ps xs) (fun _ => 0) H1 fun e s => e = .normal ∧ Wc K f body (s.regs.map AV.unown) (fun _ => 0) s.H fun e s => e = .normal ∧ I (i + 1) s.H) :
  ∀ (k : Nat) (xss : List (List AV)) (i : Nat) (H1 : List AB), xss.length = k → all.drop i = xss → I i H1 → W (fun n => seqRounds (roundE K f assign body n) regs ps xss H1) fun x => x.1 = .normal ∧ I (i + k) x.2 := by
 intro k
 induction k with
 | zero =>
  intro xss i H1 hk hd hi
  have : xss = [] := List.length_eq_zero_iff.1 hk
  subst this
  exact W.ret (a := (.normal, H1)) (fun _ => rfl) ⟨rfl, hi⟩
 | succ k ih =>
  intro xss i H1 hk hd hi
  cases xss with
  | nil => simp at hk
  | cons xs r =>
   have hget : all[i]? = some xs := by
    have := congrArg (fun l => l[0]?) hd
    simpa [List.getElem?_drop] using this
   have hd' : all.drop (i + 1) = r := by
    have := congrArg (List.drop 1) hd
    simpa [List.drop_drop] using this
   obtain ⟨hl, ⟨⟨e1, s1⟩, N1, h1, he1, ⟨⟨e2, s2⟩, N2, h2, he2, hI⟩⟩⟩ := hstep i xs H1 hget hi
   simp only at he1 he2
   subst he1 he2
   obtain ⟨⟨e3, H3⟩, N3, h3, he3, hI3⟩ := ih r (i + 1) s2.H (by simpa using hk) hd' hI
   refine ⟨(e3, H3), max N1 (max N2 N3), fun n hn => ?_, he3, by simpa [Nat.add_assoc, Nat.add_comm 1 k] using hI3⟩
   have a1 := h1 n (by omega)
   have a2 := h2 n (by omega)
   have a3 := h3 n (by omega)
   show seqRounds (roundE K f assign body n) regs ps (xs :: r) H1 [] = _
   unfold seqRounds
   refine (E.bind_nil (a := ()) (by simp [E.chk, hl])).trans ?_
   refine (E.bind_nil (a := (AX.normal, s2.H)) ?_).trans a3
   unfold roundE
   refine (E.bind_nil a1).trans ?_
   exact (E.bind_nil a2).trans rfl
theorem Wc.range {g : Operand} {ps : Array Tmp} {assign body : Code} {x : AV} {xss : List (List AV)} (hx : evalO K R g = some x) (hq : aSeq K x H = some xss) (hc : (simpleA assign && roundy assign && roundy body) = true) (I : Nat → List AB → Prop) (h0 : I 0 H)
  (hstep : ∀ i xs H1, xss[i]? = some xs → I i H1 → xs.length = ps.toList.length ∧ Wc K f assign (putAt (R.map AV.unown) ps.toList xs) (fun _ => 0) H1 fun e s => e = .normal ∧ Wc K f body (s.regs.map AV.unown) (fun _ => 0) s.H fun e s => e = .normal ∧ I (i + 1) s.H)
  (hend : ∀ H2, I xss.length H2 → Q .normal ⟨R.map AV.unown, fun _ => 0, H2⟩) : Wc K f (.rangeFunc g ps assign body) R own H Q := by
 have h := rounds_tell I xss hstep xss.length xss 0 H rfl (by simp) h0
 obtain ⟨⟨e, H2⟩, N, h1, he, h2⟩ := h
 simp only at he
 subst he
 rw [Nat.zero_add] at h2
 refine ⟨(.normal, ⟨R.map AV.unown, fun _ => 0, H2⟩), N, fun n hn => ?_, hend H2 h2⟩
 have a := h1 n hn
 show aCode K (aCall K n) f (n + 1) (.rangeFunc g ps assign body) ⟨R, own, H⟩ [] = _
 have hb : ((evalO K R g).bind fun x => aSeq K x H) = some xss := by rw [hx]; exact hq
 simp only [aCode, hb, hc]
 exact (E.bind_nil a).trans rfl
end
end Go.Tm
