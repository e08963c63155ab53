/- The tree machine: a call's own blocks forgotten where nothing that stays leads to them. -/
import Derived.Test.YtbhjnkdediijnaaDoorTmMemo
set_option linter.unusedVariables false
set_option linter.unusedSimpArgs false
set_option linter.unusedSectionVars false
namespace Go.Tm

mutual
def AV.low (n : Nat) : AV → Bool
 | .ms b _ _ _ => Nat.blt b n
 | .ptr b _ => Nat.blt b n
 | .map b => Nat.blt b n
 | .agg cs => AV.lowL n cs
 | .tup cs => AV.lowL n cs
 | .iface _ x => AV.low n x
 | .func _ a b => AV.lowL n a && AV.lowL n b
 | .v _ => true
 | .str _ => true
 | .sl _ _ => true
 | .rp _ => true
def AV.lowL (n : Nat) : List AV → Bool
 | [] => true
 | x :: r => match AV.low n x with
  | true => AV.lowL n r
  | false => false
end
def lowEs (n : Nat) : List (AV × AV × Nat) → Bool
 | [] => true
 | e :: r => match AV.low n e.1 with
  | true => match AV.low n e.2.1 with
   | true => lowEs n r
   | false => false
  | false => false
def BT.low (n : Nat) : BT → Bool
 | .leaf cs => AV.lowL n cs
 | .node _ l r => match BT.low n l with
  | true => BT.low n r
  | false => false
def AB.low (n : Nat) : AB → Bool
 | .cells _ cs => AV.lowL n cs
 | .rope _ _ r => BT.low n r
 | .map es _ => lowEs n es
 | .iter _ _ => true
 | .iterM b _ _ => match b with
  | some m => Nat.blt m n
  | none => true
 | .dead => true
def lowH (n : Nat) : List AB → Bool
 | [] => true
 | A :: r => match A.low n with
  | true => lowH n r
  | false => false

theorem lowL_mem {n : Nat} : ∀ {l : List AV}, AV.lowL n l = true → ∀ {i : Nat} {x : AV}, l[i]? = some x → AV.low n x = true
 | [], _, i, x, h => by simp at h
 | y :: r, h, i, x, hi => by
  unfold AV.lowL at h
  cases hy : AV.low n y with
  | false => simp [hy] at h
  | true =>
   simp only [hy] at h
   cases i with
   | zero => simp at hi; subst hi; exact hy
   | succ i => exact lowL_mem h (by simpa using hi)
theorem BT.low_mem {n : Nat} : ∀ {t : BT}, BT.low n t = true → ∀ {i : Nat} {x : AV}, t.toL[i]? = some x → AV.low n x = true
 | .leaf cs, h, i, x, hi => by
  unfold BT.low at h
  unfold BT.toL at hi
  exact lowL_mem h hi
 | .node m l r, h, i, x, hi => by
  unfold BT.low at h
  cases hl : BT.low n l with
  | false => simp [hl] at h
  | true =>
   simp only [hl] at h
   simp only [BT.toL, List.getElem?_append] at hi
   split at hi
   ·exact BT.low_mem hl hi
   ·exact BT.low_mem h hi
theorem lowEs_mem {n : Nat} : ∀ {l : List (AV × AV × Nat)}, lowEs n l = true → ∀ {i : Nat} {e : AV × AV × Nat}, l[i]? = some e → AV.low n e.1 = true ∧ AV.low n e.2.1 = true
 | [], _, i, x, h => by simp at h
 | y :: r, h, i, x, hi => by
  unfold lowEs at h
  cases hy : AV.low n y.1 with
  | false => simp [hy] at h
  | true =>
   cases hz : AV.low n y.2.1 with
   | false => simp [hy, hz] at h
   | true =>
    simp only [hy, hz] at h
    cases i with
    | zero => simp at hi; subst hi; exact ⟨hy, hz⟩
    | succ i => exact lowEs_mem h (by simpa using hi)
theorem lowH_mem {n : Nat} : ∀ {l : List AB}, lowH n l = true → ∀ {i : Nat} {A : AB}, l[i]? = some A → A.low n = true
 | [], _, i, x, h => by simp at h
 | y :: r, h, i, x, hi => by
  unfold lowH at h
  cases hy : y.low n with
  | false => simp [hy] at h
  | true =>
   simp only [hy] at h
   cases i with
   | zero => simp at hi; subst hi; exact hy
   | succ i => exact lowH_mem h (by simpa using hi)

mutual
theorem closed_low (n : Nat) : ∀ {x : AV}, x.closed = true → AV.low n x = true
 | .v _, _ => by unfold AV.low; rfl
 | .str _, _ => by unfold AV.low; rfl
 | .sl _ _, _ => by unfold AV.low; rfl
 | .rp _, _ => by unfold AV.low; rfl
 | .ms .., h => by simp [AV.closed] at h
 | .ptr .., h => by simp [AV.closed] at h
 | .map _, h => by simp [AV.closed] at h
 | .agg cs, h => by unfold AV.low; exact closed_lowL n (by simpa [AV.closed] using h)
 | .tup cs, h => by unfold AV.low; exact closed_lowL n (by simpa [AV.closed] using h)
 | .iface _ x, h => by unfold AV.low; exact closed_low n (by simpa [AV.closed] using h)
 | .func _ a b, h => by
  unfold AV.low
  simp only [AV.closed, Bool.and_eq_true] at h
  rw [closed_lowL n h.1, closed_lowL n h.2]
  rfl
theorem closed_lowL (n : Nat) : ∀ {l : List AV}, AV.closedL l = true → AV.lowL n l = true
 | [], _ => by unfold AV.lowL; rfl
 | x :: r, h => by
  simp only [AV.closedL, Bool.and_eq_true] at h
  unfold AV.lowL
  rw [closed_low n h.1]
  exact closed_lowL n h.2
end

def Gh.cut (g : Gh) (n : Nat) : Gh := { g with ρ := fun k => if k < n then g.ρ k else none }
theorem cut_of {g : Gh} {n b rb : Nat} (h : g.ρ b = some rb) (hb : Nat.blt b n = true) : (g.cut n).ρ b = some rb := by
 show (if b < n then g.ρ b else none) = some rb
 rw [if_pos (blt_true hb)]; exact h
theorem of_cut {g : Gh} {n b rb : Nat} (h : (g.cut n).ρ b = some rb) : g.ρ b = some rb ∧ b < n := by
 have h : (if b < n then g.ρ b else none) = some rb := h
 split at h
 ·exact ⟨h, ‹_›⟩
 ·cases h

theorem closed_get {l : List AV} (h : AV.closedL l = true) {k : Nat} {y : AV} (hk : l[k]? = some y) : y.closed = true := by
 rw [closedL_iff] at h
 exact h y (List.mem_of_getElem? hk)

theorem VR.cut {g : Gh} {n : Nat} {x : AV} {r : Value} (k : VR g x r) : AV.low n x = true → VR (g.cut n) x r := by
 induction k with
 | v h => intro _; exact .v h
 | str => intro _; exact .str
 | agg hl _ ih => intro q; unfold AV.low at q; exact .agg hl fun i x r a b => ih i x r a b (lowL_mem q a)
 | tup hl _ ih => intro q; unfold AV.low at q; exact .tup hl fun i x r a b => ih i x r a b (lowL_mem q a)
 | nil => intro _; exact .nil
 | sl rs ht hs hc h1 hn hf hi _ ih => intro _; exact .sl rs ht hs hc h1 hn hf hi fun k y q => ih k y q (closed_low n (closed_get hc q))
 | ms hb hn => intro q; unfold AV.low at q; exact .ms (cut_of hb q) hn
 | ptr hb => intro q; unfold AV.low at q; exact .ptr (cut_of hb q)
 | rp rs hc h1 hi _ ih => intro _; exact .rp rs hc h1 hi fun k y q => ih k y q (closed_low n (closed_get hc q))
 | map hb => intro q; unfold AV.low at q; exact .map (cut_of hb q)
 | iface _ ih => intro q; unfold AV.low at q; exact .iface (ih q)
 | func l1 l2 _ _ i1 i2 =>
  intro q
  unfold AV.low at q
  simp only [Bool.and_eq_true] at q
  exact .func l1 l2 (fun i x r a b => i1 i x r a b (lowL_mem q.1 a)) (fun i x r a b => i2 i x r a b (lowL_mem q.2 a))

theorem BRo.cut {g : Gh} {n : Nat} {A : AB} {o : Obj} (k : BRo g A o) (h : A.low n = true) : BRo (g.cut n) A o := by
 cases A <;> cases o <;> simp only [BRo] at k ⊢ <;> try exact k
 ·exact ⟨k.1, k.2.1, fun i x r a b => (k.2.2.1 i x r a b).cut (lowL_mem h a), k.2.2.2⟩
 ·exact ⟨k.1, k.2.1, k.2.2.1, fun i x r a b => (k.2.2.2.1 i x r a b).cut (BT.low_mem h a), k.2.2.2.2⟩
 ·exact ⟨k.1, k.2.1, fun i x y b e p q => ⟨((k.2.2 i x y b e p q).1).cut (lowEs_mem h p).1, ((k.2.2 i x y b e p q).2.1).cut (lowEs_mem h p).2, (k.2.2 i x y b e p q).2.2⟩⟩
 ·rename_i b _ _ _ _ _ _
  refine ⟨?_, k.2⟩
  cases b with
  | none => exact k.1
  | some q =>
   obtain ⟨rb, h1, h2⟩ := k.1
   exact ⟨rb, h1, cut_of h2 h⟩

theorem SW.cut {F : Fr} {g : Gh} {κ : Nat → Option Tok} {H : List AB} {w : World} (h : SW F g κ H w) {n : Nat} (hn : n ≤ H.length) (h0 : ∀ k b, F.g0.ρ k = some b → k < n) (hl : lowH n (H.take n) = true) : SW F (g.cut n) κ (H.take n) w := by
 have get : ∀ {k : Nat} {A : AB}, (H.take n)[k]? = some A → k < n ∧ H[k]? = some A := fun {k A} q => by
  rw [List.getElem?_take] at q
  split at q
  ·exact ⟨‹_›, q⟩
  ·cases q
 refine ⟨h.imm, fun k b q => ?_, fun k A hk hlv => ?_, fun k k' A A' rb hk hl1 hk' hl2 hr hr' => ?_, fun s t q => ?_, h.tinj, h.kept, h.old, ?_⟩
 ·obtain ⟨q1, q2⟩ := of_cut q
  exact ⟨by rw [List.length_take]; omega, (h.dom k b q1).2⟩
 ·obtain ⟨k1, k2⟩ := get hk
  obtain ⟨rb, o, h1, h2, h3, h4⟩ := h.blk k A k2 hlv
  exact ⟨rb, o, cut_of h1 (blt_of k1), h2, h3.cut (lowH_mem hl hk), h4⟩
 ·exact h.inj k k' A A' rb (get hk).2 hl1 (get hk').2 hl2 (of_cut hr).1 (of_cut hr').1
 ·obtain ⟨h1, h2, h3, h4, h5⟩ := h.tok s t q
  exact ⟨h1, h2, h3, h4, fun k A hk hlv hr => h5 k A (get hk).2 hlv (of_cut hr).1⟩
 ·exact ⟨h.le.imm, fun k b q => cut_of (h.le.blk k b q) (blt_of (h0 k b q)), h.le.len, h.le.dr⟩

theorem CallOk.cut {K : Cfg} {f : FuncId} {args : List AV} {H H' : List AB} {r : AV} (h : CallOk K f args H r H') (hn : H.length ≤ H'.length) (hr : AV.low H.length r = true) (hH : lowH H.length (H'.take H.length) = true) : CallOk K f args H r (H'.take H.length) :=
 fun g w rargs hg hs hv => (h g w rargs hg hs hv).mono fun _ _ ⟨g', h1, h2⟩ => ⟨g'.cut H.length, h1.cut hn (fun k b q => (hs.dom k b q).1) hH, h2.cut hr⟩

noncomputable def spine {α R : Type} (l : List α) : (List α → R) → R := List.rec (motive := fun _ => (List α → R) → R) (fun k => k []) (fun x _ next k => next fun r => k (x :: r)) l
theorem spine_eq {α R : Type} : ∀ (l : List α) (k : List α → R), spine l k = k l
 | [], _ => rfl
 | x :: r, k => spine_eq r fun r => k (x :: r)
noncomputable def toldCut (K : Cfg) (n : Nat) (f : FuncId) (args : List AV) (H : List AB) : Option (AV × List AB) :=
 match callF K n f args H with
 | none => none
 | some x => forceN H.length fun k => match Nat.ble k x.2.length with
  | false => some x
  | true => match AV.low k x.1 with
   | false => some x
   | true => match lowH k (x.2.take k) with
    | true => spine (x.2.take k) fun H => some (x.1, H)
    | false => some x
theorem cut_told {K : Cfg} (hk : CfgOk K) (hs : K.sym = false) (har : K.ar = Ar.real) {n : Nat} {f : FuncId} {args : List AV} {H H' : List AB} {r : AV} (h : toldCut K n f args H = some (r, H')) : CallOk K f args H r H' := by
 unfold toldCut at h
 cases hx : callF K n f args H with
 | none => simp [hx] at h
 | some x =>
  obtain ⟨v, H1⟩ := x
  simp only [hx, forceN_eq] at h
  have hc : CallOk K f args H v H1 := call_ok hk n f args H [] [] v H1 ⟨[], callF_ok hs har n f args H _ hx, by simp⟩
  have same : (some (v, H1) : Option (AV × List AB)) = some (r, H') → CallOk K f args H r H' := fun q => by
   cases q; exact hc
  cases h1 : Nat.ble H.length H1.length with
  | false => exact same (by simpa [h1] using h)
  | true => cases h2 : AV.low H.length v with
   | false => exact same (by simpa [h1, h2] using h)
   | true => cases h3 : lowH H.length (H1.take H.length) with
    | false => exact same (by simpa [h1, h2, h3] using h)
    | true =>
     simp only [h1, h2, h3, spine_eq, Option.some.injEq, Prod.mk.injEq] at h
     obtain ⟨rfl, rfl⟩ := h
     exact hc.cut (Nat.le_of_ble_eq_true h1) h2 h3
theorem callOk_like {K K' : Cfg} (hP : K'.P = K.P) (hgl : K'.gl = K.gl) (hi : K'.ints = K.ints) (hd : K'.dr = K.dr := by rfl) {f : FuncId} {args : List AV} {H H' : List AB} {r : AV} (h : CallOk K f args H r H') : CallOk K' f args H r H' := by
 intro g w rargs hg hs hv
 rw [hP]
 refine h g w rargs ⟨fun i cs q => hg.1 i cs (by rw [hgl]; exact q), fun i q => hg.2 i (by rw [hi]; exact q), fun q => hd.symm.trans (hg.3 q)⟩ hs hv
end Go.Tm
