/- The tree machine: what a call does over one block of plain cells, it does wherever that block stands. -/
import Derived.Test.YtbhjnkdediijnaaDoorTmCut
set_option linter.unusedVariables false
set_option linter.unusedSimpArgs false
set_option linter.unusedSectionVars false
namespace Go.Tm

theorem VR.plain {g h : Gh} (hI : h.I = g.I) {x : AV} {r : Value} (k : VR g x r) : x.closed = true → VR h x r := by
 induction k with
 | v h => intro _; exact .v h
 | str => intro _; exact .str
 | agg hl _ ih => intro q; simp only [AV.closed] at q; exact .agg hl fun i x r a b => ih i x r a b (closed_get q a)
 | tup hl _ ih => intro q; simp only [AV.closed] at q; exact .tup hl fun i x r a b => ih i x r a b (closed_get q a)
 | nil => intro _; exact .nil
 | sl rs ht hs hc h1 hn hf hi _ ih => intro _; exact .sl rs ht hs hc h1 hn hf (fun k y q => by rw [hI]; exact hi k y q) fun k y q => ih k y q (closed_get hc q)
 | ms hb hn => intro q; simp [AV.closed] at q
 | ptr hb => intro q; simp [AV.closed] at q
 | rp rs hc h1 hi _ ih => intro _; exact .rp rs hc h1 (fun k y q => by rw [hI]; exact hi k y q) fun k y q => ih k y q (closed_get hc q)
 | map hb => intro q; simp [AV.closed] at q
 | iface _ ih => intro q; simp only [AV.closed] at q; exact .iface (ih q)
 | func l1 l2 _ _ i1 i2 =>
  intro q
  simp only [AV.closed, Bool.and_eq_true] at q
  exact .func l1 l2 (fun i x r a b => i1 i x r a b (closed_get q.1 a)) (fun i x r a b => i2 i x r a b (closed_get q.2 a))

theorem BRo.plain {g h : Gh} (hI : h.I = g.I) {t : TypeId × Bool} {cs : List AV} {o : Obj} (k : BRo g (.cells t cs) o) (hc : AV.closedL cs = true) : BRo h (.cells t cs) o := by
 cases o <;> try (exact k.elim)
 exact ⟨k.1, k.2.1, fun i x r a b => (k.2.2.1 i x r a b).plain hI (closed_get hc a), k.2.2.2⟩

theorem get_setAt {α : Type} {l : List α} {d i : Nat} {x y : α} (h : (setAt l d x)[i]? = some y) : (i = d ∧ y = x ∧ i < l.length) ∨ (i ≠ d ∧ l[i]? = some y) := by
 have hi : i < l.length := by
  have := (List.getElem?_eq_some_iff.1 h).1
  rw [length_setAt] at this; exact this
 rw [← nth_eq, nth_set _ _ _ _ hi] at h
 split at h
 ·rename_i e; exact .inl ⟨e, (Option.some.inj h).symm, hi⟩
 ·rename_i e; exact .inr ⟨e, by rw [← nth_eq]; exact h⟩

theorem CallOk.frame {K : Cfg} {f : FuncId} {t : TypeId × Bool} {cs cs' : List AV} {args : List AV} {r : AV} (hargs : AV.closedL args = true) (hcs : AV.closedL cs = true) (hcs' : AV.closedL cs' = true) (hr : r.closed = true)
  (h : CallOk K f (.ptr 0 0 :: args) [.cells t cs] r [.cells t cs']) {H : List AB} {b : Nat} (hb : nth H b = some (.cells t cs)) : CallOk K f (.ptr b 0 :: args) H r (setAt H b (.cells t cs')) := by
 intro g w rargs hg hs hv
 rw [nth_eq] at hb
 obtain ⟨rb, o, hρ, ho, hbr, _, hIrb, hN⟩ := hs.blk b _ hb rfl
 let g1 : Gh := { g with ρ := fun k => if k = 0 then some rb else none }
 have hρ1 : ∀ {k c : Nat}, g1.ρ k = some c → k = 0 ∧ c = rb := fun {k c} q => by
  have q : (if k = 0 then some rb else none) = some c := q
  split at q
  ·exact ⟨‹_›, (Option.some.inj q).symm⟩
  ·cases q
 have hget1 : ∀ {k : Nat} {A B : AB}, ([A] : List AB)[k]? = some B → k = 0 ∧ B = A := fun {k A B} q => by
  cases k with
  | zero => simp at q; exact ⟨rfl, q.symm⟩
  | succ k => simp at q
 have hs1 : SW ⟨w, Live g1 [.cells t cs], g1⟩ g1 noTok [.cells t cs] w := by
  refine ⟨hs.imm, fun k c q => ?_, fun k A hk hl => ?_, fun k k' A A' c hk _ hk' _ _ _ => ?_, fun s t q => by simp [noTok] at q, fun s s' t t' q => by simp [noTok] at q, .refl _ w _, fun _ _ _ _ _ q => q, .refl _⟩
  ·obtain ⟨rfl, rfl⟩ := hρ1 q
   exact ⟨by simp, lt_of_some ho⟩
  ·obtain ⟨rfl, rfl⟩ := hget1 hk
   exact ⟨rb, o, rfl, ho, hbr.plain (show g1.I = g.I from rfl) hcs, .inl ⟨0, _, rfl, rfl, rfl⟩, hIrb, hN⟩
  ·rw [(hget1 hk).1, (hget1 hk').1]
 have hv1 : VRs g1 (.ptr 0 0 :: args) rargs := by
  obtain ⟨v0, rest, rfl, h0, hrest⟩ := hv.head
  cases h0 with
  | ptr hb0 =>
   rw [hρ] at hb0
   cases hb0
   refine VRs.cons (.ptr rfl) ⟨hrest.1, fun i x r a c => (hrest.2 i x r a c).plain (show g1.I = g.I from rfl) (closed_get hargs a)⟩
 refine (h g1 w rargs ⟨fun i cs q => ?_, hg.ints, hg.dr⟩ hs1 hv1).mono fun v w' ⟨g', h1, h2⟩ => ?_
 ·have hG := hg.1 i cs q
  exact hG.plain (show g1.I = g.I from rfl) rfl
 ·have hle1 := h1.le
  obtain ⟨rb', o', p1, p2, p3, _, p5, p6⟩ := h1.blk 0 _ rfl rfl
  have hrb' : g'.ρ 0 = some rb := hle1.blk 0 rb rfl
  rw [hrb'] at p1
  cases p1
  have hlive1 : ∀ {c : Nat}, Live g1 [.cells t cs] c → c = rb := fun {c} ⟨k, A, hk, _, hr⟩ => (hρ1 hr).2
  have hliveH : Live g H rb := ⟨b, _, hb, rfl, hρ⟩
  have hsz := h1.kept.size
  have holdI : ∀ {c i : Nat} {u : Value}, c < w.heap.size → c ≠ rb → g'.I c i = some u → g.I c i = some u := fun {c i u} hc hne q => h1.old c i u hc (fun hl => hne (hlive1 hl)) q
  let g2 : Gh := { g with I := g'.I }
  have hle2 : Gh.Le g g2 := ⟨fun c i u q => hle1.imm c i u q, fun _ _ q => q, fun _ _ _ => rfl, rfl⟩
  have hkeep : ∀ {c : Nat} {oo : Obj}, w.heap[c]? = some oo → c ≠ rb → w'.heap[c]? = some oo := fun {c oo} q hne => by
   rw [h1.kept.block c (lt_of_some q) (fun hl => hne (hlive1 hl))]; exact q
  have hne_of : ∀ {k : Nat} {A : AB} {c : Nat}, k ≠ b → H[k]? = some A → A.live = true → g.ρ k = some c → c ≠ rb := fun {k A c} hk hA hl hc e => by
   subst e
   exact hk (hs.inj k b A _ _ hA hl hb rfl hc hρ)
  refine ⟨g2, ⟨h1.imm, fun k c q => ⟨by rw [length_setAt]; exact (hs.dom k c q).1, Nat.lt_of_lt_of_le (hs.dom k c q).2 hsz⟩, fun k A hk hl => ?_, fun k k' A A' c hk hl hk' hl' hc hc' => ?_, fun s t q => by simp [noTok] at q, fun s s' t t' q => by simp [noTok] at q, ?_, fun c i u hc hnl q => ?_, hle2⟩, h2.plain (show g2.I = g'.I from rfl) hr⟩
  ·rcases get_setAt hk with ⟨rfl, rfl, _⟩ | ⟨hne, hk'⟩
   ·exact ⟨rb, o', hρ, p2, p3.plain (show g2.I = g'.I from rfl) hcs', .inl hliveH, p5, fun rcs e fz q => by rw [p6 rcs e fz q]; exact hle1.len 0 rb rfl⟩
   ·obtain ⟨c, oo, q1, q2, q3, q4, q5, q6⟩ := hs.blk k A hk' hl
    have hcne := hne_of hne hk' hl q1
    refine ⟨c, oo, q1, hkeep q2 hcne, q3.mono hle2, q4, fun i => ?_, q6⟩
    cases hI : g'.I c i with
    | none => rfl
    | some u =>
     have := holdI (lt_of_some q2) hcne hI
     rw [q5 i] at this; cases this
  ·have back : ∀ {k : Nat} {A : AB}, (setAt H b (.cells t cs'))[k]? = some A → A.live = true → ∃ B, H[k]? = some B ∧ B.live = true := fun {k A} q hl => by
    rcases get_setAt q with ⟨rfl, rfl, _⟩ | ⟨_, q'⟩
    ·exact ⟨_, hb, rfl⟩
    ·exact ⟨A, q', hl⟩
   obtain ⟨B, hB, hBl⟩ := back hk hl
   obtain ⟨B', hB', hBl'⟩ := back hk' hl'
   exact hs.inj k k' B B' c hB hBl hB' hBl' hc hc'
  ·exact ⟨h1.kept.os, h1.kept.tape, h1.kept.output, hsz, fun c hc hnl => h1.kept.block c hc fun hl => hnl (hlive1 hl ▸ hliveH), h1.kept.drawn⟩
  ·by_cases e : c = rb
   ·subst e; exact absurd hliveH hnl
   ·exact holdI hc e q
end Go.Tm
