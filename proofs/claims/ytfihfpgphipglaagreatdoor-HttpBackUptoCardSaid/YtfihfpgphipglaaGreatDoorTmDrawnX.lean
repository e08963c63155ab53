/- The tree machine over unknown values: a drawn region in which a reading stands unordered beside an operation that changes memory: the reading is shown to tell the same at both ends of the change. -/
import Derived.Test.YtfihfpgphipglaaGreatDoorTmSymDrawn
set_option linter.unusedVariables false
set_option linter.unusedSimpArgs false
set_option linter.unusedSectionVars false
namespace Go.Tm
def kX (K : Cfg) (f : FuncId) (ew : List Nat) (i : Nat) (o : Oper) : Nat := match ew.contains i with
 | true => 2
 | false => kOf (touch K f o)
def excX (er ew : List Nat) (i j : Nat) : Bool := (er.contains i && ew.contains j) || (ew.contains i && er.contains j)
def pairsX (K : Cfg) (f : FuncId) (ops : Array Oper) (er ew : List Nat) (m j : Nat) (o : Oper) : Nat → List Oper → Bool
 | _, [] => true
 | i, a :: r => match m.testBit i with
  | true => pairsX K f ops er ew m j o (i + 1) r
  | false => match apartO ops a o with
   | false => false
   | true => match compat (kX K f ew i a) (kX K f ew j o) || excX er ew i j with
    | true => pairsX K f ops er ew m j o (i + 1) r
    | false => false
def okX (K : Cfg) (f : FuncId) (er ew : List Nat) (j : Nat) (o : Oper) : Bool := !er.contains j || (Nat.beq (kOf (touch K f o)) 1 && !ew.contains j)
def goX (K : Cfg) (f : FuncId) (ops : Array Oper) (er ew : List Nat) : List Oper → List Nat → List Oper → Bool
 | [], _, _ => true
 | o :: rest, befs, acc => match befOf befs o.after.toList 0 with
  | none => false
  | some m => match pairsX K f ops er ew m acc.length o 0 acc && okX K f er ew acc.length o with
   | true => goX K f ops er ew rest (befs ++ [m]) (acc ++ [o])
   | false => false
structure Rd where
 o : Oper
 R : List AV
 own : Nat → Nat
 x : AV
def Rd.fits (K : Cfg) (f : FuncId) (r : Rd) (H : List AB) : Prop := ∃ own' H', aOp K f ⟨r.R, r.own, H⟩ r.o [] = some (.val r.x own' H', [], []) ∧ same r.x r.x = true
def Rd.of (r : Rd) (t : Tr) : Prop := t.o = r.o ∧ t.s.regs = r.R ∧ t.s.own = r.own ∧ t.x = r.x
theorem fitX_ok {K : Cfg} {f : FuncId} {r : Rd} {t : Tr} {H : List AB} (hs : K.sym = false) (h : r.of t) (hf : r.fits K f H) : aFit K f t H [] = some ((), [], []) := by
 obtain ⟨e1, e2, e3, e4⟩ := h
 obtain ⟨own', H', h1, h2⟩ := hf
 unfold aFit
 rw [show ({ t.s with H := H } : St) = ⟨r.R, r.own, H⟩ by rw [← e2, ← e3], e1, E.bind_nil h1]
 simp only
 rw [e4, h2, hs]
 rfl
section
variable {K : Cfg} {f : FuncId} {ops : Array Oper} {er ew : List Nat}
theorem pairX_ok {a b : Tr} (h : b.bef.testBit a.i = true ∨ (apartO ops a.o b.o = true ∧ (compat a.k b.k = true ∨ (a.k = 1 ∧ b.k = 2 ∧ aFit K f a b.s.H [] = some ((), [], []) ∧ aFit K f a b.s'.H [] = some ((), [], [])) ∨ (a.k = 2 ∧ b.k = 1 ∧ aFit K f b a.s.H [] = some ((), [], []) ∧ aFit K f b a.s'.H [] = some ((), [], []))))) : aPair K f ops a b [] = some ((), [], []) := by
 unfold aPair
 cases hq : b.bef.testBit a.i with
 | true => rfl
 | false =>
  rcases h with h | ⟨h1, h2⟩
  ·rw [hq] at h; cases h
  ·simp only
   have h1' : apartTr ops a b = true := h1
   refine E.bind_nil (a := ()) (by rw [h1']; rfl) |>.trans ?_
   rcases h2 with h2 | ⟨e1, e2, f1, f2⟩ | ⟨e1, e2, f1, f2⟩
   ·generalize a.k = p at h2
    generalize b.k = q at h2
    match p, q, h2 with
    | 0, _, _ => rfl
    | 1, 0, _ => rfl
    | 2, 0, _ => rfl
    | _ + 3, 0, _ => rfl
    | 1, 1, _ => rfl
    | 1, _ + 2, h => exact absurd h (by simp [compat])
    | _ + 2, _ + 1, h => exact absurd h (by simp [compat])
   ·rw [e1, e2]
    exact (E.bind_nil f1).trans f2
   ·rw [e1, e2]
    exact (E.bind_nil f1).trans f2
def WdX (K : Cfg) (f : FuncId) (ops : Array Oper) (er ew : List Nat) : Nat → List Oper → St → List Rd → List (List AB × List AB) → (St → Prop) → Prop
 | _, [], s, _, _, Q => Q s
 | i, o :: l, s, rl, wl, Q => ∃ t N, (∀ n, N ≤ n → aTr K (aCall K n) f ops 0 o 0 s [] = some (t, [], [])) ∧ (t.k = 0 ∨ t.k = kX K f ew i o) ∧ t.o = o ∧ t.s = s ∧
   (er.contains i = true → ∀ p ∈ wl, (Rd.mk o s.regs s.own t.x).fits K f p.1 ∧ (Rd.mk o s.regs s.own t.x).fits K f p.2) ∧
   (ew.contains i = true → ∀ r ∈ rl, r.fits K f s.H ∧ r.fits K f t.s'.H) ∧
   WdX K f ops er ew (i + 1) l t.s' (match er.contains i with | true => rl ++ [⟨o, s.regs, s.own, t.x⟩] | false => rl) (match ew.contains i with | true => wl ++ [(s.H, t.s'.H)] | false => wl) Q
def SeenX (K : Cfg) (f : FuncId) (er ew : List Nat) (rl : List Rd) (wl : List (List AB × List AB)) (j : Nat) (t : Tr) : Prop :=
 t.i = j ∧ (t.k = 0 ∨ t.k = kX K f ew j t.o) ∧ okX K f er ew j t.o = true ∧ (er.contains j = true → ∃ r ∈ rl, r.of t) ∧ (ew.contains j = true → (t.s.H, t.s'.H) ∈ wl)
theorem kX_er {j : Nat} {o : Oper} (h : okX K f er ew j o = true) (hj : er.contains j = true) : kX K f ew j o = 1 := by
 unfold okX at h
 rw [hj] at h
 simp only [Bool.not_true, Bool.false_or, Bool.and_eq_true, Bool.not_eq_true'] at h
 unfold kX
 rw [h.2]
 exact Nat.eq_of_beq_eq_true h.1
theorem pairsX_ok (hs : K.sym = false) {rl : List Rd} {wl : List (List AB × List AB)} {b : Tr} {j : Nat} (hbk : b.k = 0 ∨ b.k = kX K f ew j b.o) (hok : okX K f er ew j b.o = true)
  (h1 : er.contains j = true → ∀ p ∈ wl, ∃ r : Rd, r.of b ∧ r.fits K f p.1 ∧ r.fits K f p.2) (h2 : ew.contains j = true → ∀ r ∈ rl, r.fits K f b.s.H ∧ r.fits K f b.s'.H) :
  ∀ (l : List Tr) (i : Nat), (∀ (j : Nat) (t : Tr), l[j]? = some t → SeenX K f er ew rl wl (i + j) t) → pairsX K f ops er ew b.bef j b.o i (l.map (·.o)) = true → aPairs K f ops l b [] = some ((), [], [])
 | [], _, _, _ => rfl
 | a :: r, i, hl, h => by
  obtain ⟨hi, hak, haok, har, haw⟩ := hl 0 a rfl
  simp only [Nat.add_zero] at hi hak haok har haw
  have hrest : ∀ (j : Nat) (t : Tr), r[j]? = some t → SeenX K f er ew rl wl (i + 1 + j) t := fun j t q => by
   have := hl (j + 1) t (by simpa using q)
   rwa [show i + (j + 1) = i + 1 + j by omega] at this
  simp only [List.map_cons, pairsX] at h
  cases hq : b.bef.testBit i with
  | true =>
   simp only [hq] at h
   exact (E.bind_nil (pairX_ok (.inl (by rw [hi]; exact hq)))).trans (pairsX_ok hs hbk hok h1 h2 r (i + 1) hrest h)
  | false =>
   simp only [hq] at h
   cases h3 : apartO ops a.o b.o with
   | false => simp [h3] at h
   | true =>
    simp only [h3] at h
    cases h4 : compat (kX K f ew i a.o) (kX K f ew j b.o) || excX er ew i j with
    | false => simp [h4] at h
    | true =>
     simp only [h4] at h
     refine (E.bind_nil (pairX_ok (.inr ⟨h3, ?_⟩))).trans (pairsX_ok hs hbk hok h1 h2 r (i + 1) hrest h)
     by_cases ha0 : a.k = 0
     ·exact .inl (by rw [ha0]; rfl)
     by_cases hb0 : b.k = 0
     ·exact .inl (by rw [hb0]; generalize a.k = p; match p with | 0 => rfl | 1 => rfl | 2 => rfl | _ + 3 => rfl)
     have ha1 : a.k = kX K f ew i a.o := by rcases hak with q | q; exact absurd q ha0; exact q
     have hb1 : b.k = kX K f ew j b.o := by rcases hbk with q | q; exact absurd q hb0; exact q
     rcases Bool.or_eq_true_iff.1 h4 with h5 | h5
     ·exact .inl (by rw [ha1, hb1]; exact h5)
     ·unfold excX at h5
      rcases Bool.or_eq_true_iff.1 h5 with h6 | h6
      ·rw [Bool.and_eq_true] at h6
       refine .inr (.inl ⟨by rw [ha1]; exact kX_er haok h6.1, by rw [hb1]; unfold kX; rw [h6.2], ?_⟩)
       obtain ⟨rd, hrd, hof⟩ := har h6.1
       obtain ⟨f1, f2⟩ := h2 h6.2 rd hrd
       exact ⟨fitX_ok hs hof f1, fitX_ok hs hof f2⟩
      ·rw [Bool.and_eq_true] at h6
       refine .inr (.inr ⟨by rw [ha1]; unfold kX; rw [h6.1], by rw [hb1]; exact kX_er hok h6.2, ?_⟩)
       obtain ⟨rd, hof, f1, f2⟩ := h1 h6.2 _ (haw h6.1)
       exact ⟨fitX_ok hs hof f1, fitX_ok hs hof f2⟩
theorem WdX.run (hs : K.sym = false) {Q : St → Prop} : ∀ (l : List Oper) (s : St) (befs : List Nat) (acc : List Tr) (rl : List Rd) (wl : List (List AB × List AB)), WdX K f ops er ew acc.length l s rl wl Q → goX K f ops er ew l befs (acc.map (·.o)) = true →
  (∀ (j : Nat) (t : Tr), acc[j]? = some t → SeenX K f er ew rl wl (0 + j) t) → W (fun n => aDrawn K (aCall K n) f ops l befs acc s) Q
 | [], s, befs, acc, rl, wl, h, _, _ => W.ret (fun _ => rfl) h
 | o :: rest, s, befs, acc, rl, wl, h, hst, hacc => by
  obtain ⟨t, N, h1, h2, h3, h4, h5, h6, h7⟩ := h
  unfold goX at hst
  cases hm : befOf befs o.after.toList 0 with
  | none => simp [hm] at hst
  | some m =>
   simp only [hm, List.length_map] at hst
   cases hp : pairsX K f ops er ew m acc.length o 0 (acc.map (·.o)) && okX K f er ew acc.length o with
   | false => simp [hp] at hst
   | true =>
    simp only [hp] at hst
    rw [Bool.and_eq_true] at hp
    have hof : ∀ (i m : Nat), (Rd.mk o s.regs s.own t.x).of { t with i := i, bef := m } := fun i m => ⟨h3, by rw [← h4], by rw [← h4], rfl⟩
    have hpairs : aPairs K f ops acc { t with i := acc.length, bef := m } [] = some ((), [], []) :=
     pairsX_ok hs (rl := rl) (wl := wl) (b := { t with i := acc.length, bef := m }) (j := acc.length) (by show t.k = 0 ∨ t.k = kX K f ew acc.length t.o; rw [h3]; exact h2) (by show okX K f er ew acc.length t.o = true; rw [h3]; exact hp.2)
      (fun q p hp' => ⟨_, hof _ _, h5 q p hp'⟩) (fun q r hr => by show r.fits K f t.s.H ∧ _; rw [h4]; exact h6 q r hr) acc 0 hacc (by show pairsX K f ops er ew m acc.length t.o 0 _ = true; rw [h3]; exact hp.1)
    obtain ⟨a, M, ha, hq⟩ := WdX.run hs rest t.s' (befs ++ [m]) (acc ++ [{ t with i := acc.length, bef := m }]) _ _ (by rw [List.length_append]; exact h7) (by rw [List.map_append]; simpa [h3] using hst) (fun j t' q => by
     have grow1 : ∀ r ∈ rl, r ∈ (match er.contains acc.length with | true => rl ++ [Rd.mk o s.regs s.own t.x] | false => rl) := fun r hr => by
      cases er.contains acc.length with
      | true => exact List.mem_append_left _ hr
      | false => exact hr
     have grow2 : ∀ p ∈ wl, p ∈ (match ew.contains acc.length with | true => wl ++ [(s.H, t.s'.H)] | false => wl) := fun r hr => by
      cases ew.contains acc.length with
      | true => exact List.mem_append_left _ hr
      | false => exact hr
     rw [List.getElem?_append] at q
     split at q
     ·obtain ⟨a1, a2, a3, a4, a5⟩ := hacc j t' q
      exact ⟨a1, a2, a3, fun w => by obtain ⟨r, hr, hr'⟩ := a4 w; exact ⟨r, grow1 r hr, hr'⟩, fun w => grow2 _ (a5 w)⟩
     ·rename_i hj
      have hj0 : j - acc.length = 0 := by
       rcases Nat.eq_zero_or_pos (j - acc.length) with h0 | h0
       ·exact h0
       ·rw [List.getElem?_eq_none (by simp; omega)] at q; cases q
      rw [hj0] at q
      simp at q
      subst q
      have hj1 : 0 + j = acc.length := by omega
      rw [hj1]
      refine ⟨rfl, by show t.k = 0 ∨ t.k = kX K f ew acc.length t.o; rw [h3]; exact h2, by show okX K f er ew acc.length t.o = true; rw [h3]; exact hp.2, fun w => ⟨_, ?_, hof _ _⟩, fun w => ?_⟩
      ·rw [w]; simp
      ·rw [w]
       show (t.s.H, t.s'.H) ∈ _
       rw [h4]; simp)
    refine ⟨a, max N M, fun n hn => ?_, hq⟩
    show aDrawn K (aCall K n) f ops (o :: rest) befs acc s [] = _
    unfold aDrawn
    simp only [hm]
    refine (E.bind_nil (aTr_i hs acc.length m (h1 n (by omega)))).trans ?_
    refine (E.bind_nil hpairs).trans ?_
    exact ha n (by omega)
theorem Wc.drawnX (hs : K.sym = false) (er ew : List Nat) {id : Nat} {R : List AV} {own : Nat → Nat} {H : List AB} {Q : AX → St → Prop} (hst : goX K f ops er ew ops.toList [] [] = true) (h : WdX K f ops er ew 0 ops.toList ⟨R, own, H⟩ [] [] (Q .normal)) : Wc K f (.region id ops true) R own H Q :=
 W.bind (x := fun n => aDrawn K (aCall K n) f ops ops.toList [] [] ⟨R, own, H⟩) (f := fun _ s => pure (AX.normal, s)) (W.mono (WdX.run hs ops.toList _ [] [] [] [] h hst (by simp)) fun s hs => W.ret (a := (AX.normal, s)) (fun _ => rfl) hs)
section
variable {Q : St → Prop} {R : List AV} {own : Nat → Nat} {H : List AB} {o : Oper} {l : List Oper} {i : Nat} {rl : List Rd} {wl : List (List AB × List AB)}
theorem WdX.id {s : St} (h : WdX K f ops er ew i l s rl wl Q) : WdX K f ops er ew i l s rl wl Q := h
theorem WdX.nil {s : St} (h : Q s) : WdX K f ops er ew i [] s rl wl Q := h
theorem WdX.norm {R' : List AV} (e : R = R') (h : WdX K f ops er ew i l ⟨R', own, H⟩ rl wl Q) : WdX K f ops er ew i l ⟨R, own, H⟩ rl wl Q := by subst e; exact h
theorem kmin {n : Nat} (h : Nat.ble n 2 = true) : Nat.min n 2 = kOf n := by
 have hle := Nat.le_of_ble_eq_true h
 match n, hle with
 | 0, _ => rfl
 | 1, _ => rfl
 | 2, _ => rfl
theorem WdX.val (hs : K.sym = false) {x : AV} {own' : Nat → Nat} {H' : List AB} {d : Nat} (hg : Goes ops R o) (hd : o.dst = some d) (her : er.contains i = false) (hew : ew.contains i = false) (ho : aOp K f ⟨R, own, H⟩ o [] = some (.val x own' H', [], [])) (hk : Nat.ble (touch K f o) 2 = true)
  (h : WdX K f ops er ew (i + 1) l ⟨setAt R d x, own', H'⟩ rl wl Q) : WdX K f ops er ew i (o :: l) ⟨R, own, H⟩ rl wl Q := by
 refine ⟨{ i := 0, o, bef := 0, s := ⟨R, own, H⟩, s' := ⟨setAt R d x, own', H'⟩, x, k := Nat.min (touch K f o) 2, run := true }, 0, fun n _ => ?_, .inr ?_, rfl, rfl, fun q => (by rw [her] at q; cases q), fun q => (by rw [hew] at q; cases q), ?_⟩
 ·rw [tr_goes hs hg]
  unfold aTrDo
  rw [E.bind_nil ho, hd]; rfl
 ·unfold kX
  rw [hew]
  exact kmin hk
 ·rw [her, hew]; exact h
theorem WdX.read (hs : K.sym = false) {x : AV} {own' : Nat → Nat} {H' : List AB} {d : Nat} (hg : Goes ops R o) (hd : o.dst = some d) (her : er.contains i = true) (hew : ew.contains i = false) (ho : aOp K f ⟨R, own, H⟩ o [] = some (.val x own' H', [], [])) (hk : Nat.ble (touch K f o) 2 = true)
  (hf : ∀ p ∈ wl, (Rd.mk o R own x).fits K f p.1 ∧ (Rd.mk o R own x).fits K f p.2) (h : WdX K f ops er ew (i + 1) l ⟨setAt R d x, own', H'⟩ (rl ++ [⟨o, R, own, x⟩]) wl Q) : WdX K f ops er ew i (o :: l) ⟨R, own, H⟩ rl wl Q := by
 refine ⟨{ i := 0, o, bef := 0, s := ⟨R, own, H⟩, s' := ⟨setAt R d x, own', H'⟩, x, k := Nat.min (touch K f o) 2, run := true }, 0, fun n _ => ?_, .inr ?_, rfl, rfl, fun _ => hf, fun q => (by rw [hew] at q; cases q), ?_⟩
 ·rw [tr_goes hs hg]
  unfold aTrDo
  rw [E.bind_nil ho, hd]; rfl
 ·unfold kX
  rw [hew]
  exact kmin hk
 ·rw [her, hew]; exact h
theorem WdX.call (hs : K.sym = false) {g : FuncId} {args : List AV} {d : Nat} (hg : Goes ops R o) (hd : o.dst = some d) (her : er.contains i = false) (hew : ew.contains i = true) (ho : aOp K f ⟨R, own, H⟩ o [] = some (.call g args, [], [])) (h0 : ∀ r ∈ rl, r.fits K f H)
  (h : Tells K g args H fun r H' => (∀ r ∈ rl, r.fits K f H') ∧ WdX K f ops er ew (i + 1) l ⟨setAt R d r.unown, own, H'⟩ rl (wl ++ [(H, H')]) Q) : WdX K f ops er ew i (o :: l) ⟨R, own, H⟩ rl wl Q := by
 obtain ⟨⟨r, H'⟩, N, h1, h2, h3⟩ := h
 refine ⟨{ i := 0, o, bef := 0, s := ⟨R, own, H⟩, s' := ⟨setAt R d r.unown, own, H'⟩, x := r.unown, k := if touch K f o == 3 && isPure K g args then 0 else 2, run := true }, N, fun n hn => ?_, ?_, rfl, rfl, fun q => (by rw [her] at q; cases q), fun _ rd hr => ⟨h0 rd hr, h2 rd hr⟩, ?_⟩
 ·rw [tr_goes hs hg]
  unfold aTrDo
  rw [E.bind_nil ho]
  refine (E.bind_nil (h1 n hn)).trans ?_
  simp only [hd]; rfl
 ·unfold kX
  rw [hew]
  simp only
  split
  ·exact .inl rfl
  ·exact .inr rfl
 ·rw [her, hew]; exact h3
theorem WdX.pure (hs : K.sym = false) {g : FuncId} {args : List AV} {d : Nat} (hg : Goes ops R o) (hd : o.dst = some d) (her : er.contains i = false) (hew : ew.contains i = false) (ho : aOp K f ⟨R, own, H⟩ o [] = some (.call g args, [], [])) (hk : (touch K f o == 3 && isPure K g args) = true)
  (h : Tells K g args H fun r H' => WdX K f ops er ew (i + 1) l ⟨setAt R d r.unown, own, H'⟩ rl wl Q) : WdX K f ops er ew i (o :: l) ⟨R, own, H⟩ rl wl Q := by
 obtain ⟨⟨r, H'⟩, N, h1, h2⟩ := h
 refine ⟨{ i := 0, o, bef := 0, s := ⟨R, own, H⟩, s' := ⟨setAt R d r.unown, own, H'⟩, x := r.unown, k := 0, run := true }, N, fun n hn => ?_, .inl rfl, rfl, rfl, fun q => (by rw [her] at q; cases q), fun q => (by rw [hew] at q; cases q), ?_⟩
 ·rw [tr_goes hs hg]
  unfold aTrDo
  rw [E.bind_nil ho]
  refine (E.bind_nil (h1 n hn)).trans ?_
  simp only [hk, if_true, hd]; rfl
 ·rw [her, hew]; exact h2
theorem WdX.skip (hs : K.sym = false) {H' : List AB} (hg : Goes ops R o) (hd : o.dst = none) (her : er.contains i = false) (hew : ew.contains i = true) (ho : aOp K f ⟨R, own, H⟩ o [] = some (.skip H', [], [])) (h0 : ∀ r ∈ rl, r.fits K f H) (h1 : ∀ r ∈ rl, r.fits K f H')
  (h : WdX K f ops er ew (i + 1) l ⟨R, own, H'⟩ rl (wl ++ [(H, H')]) Q) : WdX K f ops er ew i (o :: l) ⟨R, own, H⟩ rl wl Q := by
 refine ⟨{ i := 0, o, bef := 0, s := ⟨R, own, H⟩, s' := ⟨R, own, H'⟩, x := .undef, k := 2, run := true }, 0, fun n hn => ?_, .inr ?_, rfl, rfl, fun q => (by rw [her] at q; cases q), fun _ rd hr => ⟨h0 rd hr, h1 rd hr⟩, ?_⟩
 ·rw [tr_goes hs hg]
  unfold aTrDo
  rw [E.bind_nil ho, hd]; rfl
 ·unfold kX
  rw [hew]
 ·rw [her, hew]; exact h
theorem WdX.skip0 (hs : K.sym = false) {H' : List AB} (hg : Goes ops R o) (hd : o.dst = none) (her : er.contains i = false) (hew : ew.contains i = false) (hk : kOf (touch K f o) = 2) (ho : aOp K f ⟨R, own, H⟩ o [] = some (.skip H', [], []))
  (h : WdX K f ops er ew (i + 1) l ⟨R, own, H'⟩ rl wl Q) : WdX K f ops er ew i (o :: l) ⟨R, own, H⟩ rl wl Q := by
 refine ⟨{ i := 0, o, bef := 0, s := ⟨R, own, H⟩, s' := ⟨R, own, H'⟩, x := .undef, k := 2, run := true }, 0, fun n hn => ?_, .inr ?_, rfl, rfl, fun q => (by rw [her] at q; cases q), fun q => (by rw [hew] at q; cases q), ?_⟩
 ·rw [tr_goes hs hg]
  unfold aTrDo
  rw [E.bind_nil ho, hd]; rfl
 ·unfold kX
  rw [hew]
  exact hk.symm
 ·rw [her, hew]; exact h
theorem WdX.not (hs : K.sym = false) {j d : Nat} {want b : Bool} (hg : o.guard = some (j, want)) (hd : o.dst = some d) (her : er.contains i = false) (hew : ew.contains i = false) (hy : aYield R ops j = some b) (hb : (b == want) = false) (h : WdX K f ops er ew (i + 1) l ⟨setAt R d .undef, own, H⟩ rl wl Q) : WdX K f ops er ew i (o :: l) ⟨R, own, H⟩ rl wl Q := by
 refine ⟨{ i := 0, o, bef := 0, s := ⟨R, own, H⟩, s' := ⟨setAt R d .undef, own, H⟩, x := .undef, k := 0, run := false }, 0, fun n _ => ?_, .inl rfl, rfl, rfl, fun q => (by rw [her] at q; cases q), fun q => (by rw [hew] at q; cases q), ?_⟩
 ·unfold aTr
  simp only [hg, hy, hs]
  rw [E.bind_nil (a := (b == want)) rfl]
  simp only [hb, Bool.false_eq_true, if_false, aTrSkip, hd]; rfl
 ·rw [her, hew]; exact h
end
end
end Go.Tm
