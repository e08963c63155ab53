/- The tree machine: texts, over unknown bytes; a drawn region whose last operation is a call. -/
import Derived.Test.YtbhjnkdediijnaaDoorTmQd
import Derived.Test.YtbhjnkdediijnaaDoorTmSymDrawn
import Derived.Test.YtbhjnkdediijnaaDoorTmStep
import Derived.Test.YtbhjnkdediijnaaDoorTmMapOps
set_option linter.unusedVariables false
set_option linter.unusedSimpArgs false
set_option linter.unusedSectionVars false
namespace Go.Tm
abbrev u8v (c : UInt8) : AV := .v (.int .u8 c.toNat)
section
variable {K : Cfg} {f : FuncId} {o : Oper} {R : List AV} {own : Nat → Nat} {H : List AB}
theorem op_fieldAddr {t : TypeId} {x : Operand} {i : Nat} {v r : AV} (ho : o.op = .fieldAddr t x i) (hx : evalO K R x = some v) (hr : aFieldAddr K t v i = some r) : aOp K f ⟨R, own, H⟩ o [] = some (.val r.unown own H, [], []) := by
 simp only [aOp, ho, hx, aKeep, hr]; rfl
theorem op_nilCheck {x : Operand} {b i : Nat} (ho : o.op = .nilCheck x) (hx : evalO K R x = some (.ptr b i)) : aOp K f ⟨R, own, H⟩ o [] = some (.val (.ptr b i) own H, [], []) := by
 simp only [aOp, ho, hx]; rfl
theorem op_binv {op : BinOp} {t yt : TypeId} {x y : Operand} {a b r : AV} (ho : o.op = .binOp op t x y yt) (hx : evalO K R x = some a) (hy : evalO K R y = some b) (hr : aBinOp K op t x y a b [] = some (r, [], [])) : aOp K f ⟨R, own, H⟩ o [] = some (.val r.unown own H, [], []) := by
 simp only [aOp, ho, hx, hy, aKeepE]
 exact (E.bind_nil hr).trans rfl
theorem op_conv_unsafe {s d : TypeId} {x : Operand} {a r : AV} (ho : o.op = .convert s d x) (hx : evalO K R x = some a) (hr : aUnsafe K H s d a = some r) : aOp K f ⟨R, own, H⟩ o [] = some (.val r.unown own H, [], []) := by
 simp only [aOp, ho, hx, aKeep, hr]; rfl
theorem op_store {t : TypeId} {a x : Operand} {p v : AV} {H' : List AB} (ho : o.op = .store t a x) (ha : evalO K R a = some p) (hx : evalO K R x = some v) (hs : aStore K H t p v = some H') : aOp K f ⟨R, own, H⟩ o [] = some (.skip H', [], []) := by
 simp only [aOp, ho, ha, hx, hs]; rfl
theorem op_index_str (hs : K.sym = false) {t : TypeId} {x i : Operand} {s : List UInt8} {k : IntKind} {n : Int} {j : Nat} (ho : o.op = .index t x i) (hu : K.P.underlying t = some .string) (hx : evalO K R x = some (.str s)) (hi : evalO K R i = some (.v (.int k n))) (hn : n = (j : Int)) (hj : j < s.length) : aOp K f ⟨R, own, H⟩ o [] = some (.val (u8v s[j]) own H, [], []) := by
 subst hn
 simp only [aOp, ho, hx, hi, aKeepE, aIndex, asI, hu, hs]
 refine (E.bind_nil (a := u8v s[j]) ?_).trans rfl
 rw [decide_eq_true (show 0 ≤ (j : Int) ∧ (j : Int) < (s.length : Int) by omega)]
 refine (E.bind_nil (a := ()) rfl).trans ?_
 refine (E.bind_nil (a := s[j]) (by rw [Int.toNat_natCast, nth_eq, List.getElem?_eq_getElem hj]; rfl)).trans rfl
theorem bounds_str (hs : K.sym = false) {s : List UInt8} {l h : Option AV} {a b : Nat} {t : TypeId} (hu : K.P.underlying t = some .string) (ha : optI l = some (l.map fun _ => (a : Int))) (hb : optI h = some (h.map fun _ => (b : Int))) (ha0 : l = none → a = 0) (hb0 : h = none → b = s.length) (hab : a ≤ b) (hbs : b ≤ s.length) : aSlice K H t (.str s) l h none [] = some (.str ((s.take b).drop a), [], []) := by
 simp only [aSlice, hu, aBounds, ha, hb, hs]
 have e1 : (l.map fun _ => (a : Int)).getD 0 = a := by
  cases l with
  | none => rw [ha0 rfl]; rfl
  | some _ => rfl
 have e2 : (h.map fun _ => (b : Int)).getD (s.length : Int) = b := by
  cases h with
  | none => rw [hb0 rfl]; rfl
  | some _ => rfl
 simp only [optI, e1, e2]
 refine (E.bind_nil (a := (a, b, none)) ?_).trans rfl
 rw [show decide (0 ≤ (a : Int) ∧ (a : Int) ≤ (b : Int) ∧ (b : Int) ≤ Option.getD none (s.length : Int) ∧ Option.getD none (s.length : Int) ≤ (s.length : Int)) = true by simp; omega]
 refine (E.bind_nil (a := ()) rfl).trans ?_
 simp only [Int.toNat_natCast]
 rfl
theorem op_slice_str_hi (hs : K.sym = false) {t : TypeId} {x l : Operand} {s : List UInt8} {k : IntKind} {n : Int} {b : Nat} (ho : o.op = .slice t x none (some l) none) (hu : K.P.underlying t = some .string) (hx : evalO K R x = some (.str s)) (hl : evalO K R l = some (.v (.int k n))) (hn : n = (b : Int)) (hb : b ≤ s.length) : aOp K f ⟨R, own, H⟩ o [] = some (.val (.str (s.take b)) own H, [], []) := by
 subst hn
 simp only [aOp, ho, hx, hl, Option.elim, Option.map]
 have h := bounds_str (H := H) hs hu (l := none) (h := some (.v (.int k (b : Int)))) (a := 0) (b := b) rfl rfl (fun _ => rfl) (fun q => by cases q) (Nat.zero_le _) hb
 exact (E.bind_nil h).trans rfl
theorem op_slice_str_lo (hs : K.sym = false) {t : TypeId} {x l : Operand} {s : List UInt8} {k : IntKind} {n : Int} {a : Nat} (ho : o.op = .slice t x (some l) none none) (hu : K.P.underlying t = some .string) (hx : evalO K R x = some (.str s)) (hl : evalO K R l = some (.v (.int k n))) (hn : n = (a : Int)) (hb : a ≤ s.length) : aOp K f ⟨R, own, H⟩ o [] = some (.val (.str (s.drop a)) own H, [], []) := by
 subst hn
 simp only [aOp, ho, hx, hl, Option.elim, Option.map]
 have h := bounds_str (H := H) hs hu (l := some (.v (.int k (a : Int)))) (h := none) (a := a) (b := s.length) rfl rfl (fun q => by cases q) (fun _ => rfl) hb (Nat.le_refl _)
 rw [List.take_length] at h
 exact (E.bind_nil h).trans rfl
theorem op_slice_str_both (hs : K.sym = false) {t : TypeId} {x l h' : Operand} {s : List UInt8} {k k' : IntKind} {n m : Int} {a b : Nat} (ho : o.op = .slice t x (some l) (some h') none) (hu : K.P.underlying t = some .string) (hx : evalO K R x = some (.str s)) (hl : evalO K R l = some (.v (.int k n))) (hh : evalO K R h' = some (.v (.int k' m))) (hn : n = (a : Int)) (hm : m = (b : Int)) (hab : a ≤ b) (hb : b ≤ s.length) : aOp K f ⟨R, own, H⟩ o [] = some (.val (.str ((s.take b).drop a)) own H, [], []) := by
 subst hn hm
 simp only [aOp, ho, hx, hl, hh, Option.elim, Option.map]
 have h := bounds_str (H := H) hs hu (l := some (.v (.int k (a : Int)))) (h := some (.v (.int k' (b : Int)))) (a := a) (b := b) rfl rfl (fun q => by cases q) (fun q => by cases q) hab hb
 exact (E.bind_nil h).trans rfl
end
theorem op_add_str {K : Cfg} (hs : K.sym = false) {f : FuncId} {o : Oper} {R : List AV} {own : Nat → Nat} {H : List AB} {t yt : TypeId} {y z : Operand} {a b : List UInt8} (ho : o.op = .binOp .add t y z yt) (hx : evalO K R y = some (.str a)) (hy : evalO K R z = some (.str b)) (hl : a.length + b.length ≤ 9223372036854775807) : aOp K f ⟨R, own, H⟩ o [] = some (.val (.str (a ++ b)) own H, [], []) := by
 refine (op_bin_str (r := .str (a ++ b)) ho hx hy ?_).trans rfl
 simp only [aStrOp, hs]
 rw [decide_eq_true hl]
 exact (E.bind_nil (a := ()) rfl).trans rfl
theorem op_conv_text {K : Cfg} {f : FuncId} {o : Oper} {R : List AV} {own : Nat → Nat} {H : List AB} {s d e : TypeId} {c : Operand} {bs : List UInt8} {tl : Tail} (ho : o.op = .convert s d c) (h1 : K.P.underlying s = some (.slice e)) (h2 : K.P.underlying d = some .string) (h3 : K.P.underlying e = some (.int .u8)) (hx : evalO K R c = some (.sl (bs.map u8v) tl)) : aOp K f ⟨R, own, H⟩ o [] = some (.val (.str bs) own H, [], []) := by
 have hm : mapO (fun y => match y with | AV.v (.int .u8 n) => some (UInt8.ofNat n.toNat) | _ => none) (bs.map u8v) = some bs := by
  clear hx
  induction bs with
  | nil => rfl
  | cons b r ih =>
   simp only [List.map_cons, mapO]
   rw [ih]
   show some (UInt8.ofNat (Int.toNat (b.toNat : Int)) :: r) = _
   rw [Int.toNat_natCast, UInt8.ofNat_toNat]
 refine op_conv_val (r := .str bs) ho hx ?_ ?_ ?_
 ·simp only [aUnsafe, h1, h2]
 ·simp only [aConvertM, h1, h2]
 ·simp only [aConvert, h1, h2, h3]
  exact congrArg (Option.map AV.str) hm
theorem pairs_bits {K : Cfg} {f : FuncId} {ops : Array Oper} {b : Tr} : ∀ (l : List Tr) (i : Nat), (∀ (j : Nat) (t : Tr), l[j]? = some t → t.i = i + j) → (∀ j, j < l.length → b.bef.testBit (i + j) = true) → aPairs K f ops l b [] = some ((), [], [])
 | [], _, _, _ => rfl
 | a :: r, i, hl, h => by
  have hi : a.i = i := by simpa using hl 0 a rfl
  have h0 : b.bef.testBit i = true := by simpa using h 0 (by simp)
  refine (E.bind_nil (a := ()) ?_).trans (pairs_bits r (i + 1) (fun j t q => by have := hl (j + 1) t (by simpa using q); omega) (fun j q => by have := h (j + 1) (by simpa using q); rw [show i + 1 + j = i + (j + 1) by omega]; exact this))
  unfold aPair
  rw [hi, h0]
  rfl
def statGoL (K : Cfg) (f : FuncId) (ops : Array Oper) (last : Oper) : List Oper → List Nat → List Oper → Bool
 | [], befs, acc => match befOf befs last.after.toList 0 with
  | none => false
  | some m => (List.range acc.length).all fun i => m.testBit i
 | o :: rest, befs, acc => match befOf befs o.after.toList 0 with
  | none => false
  | some m => match pairsStat K f ops m o 0 acc with
   | true => statGoL K f ops last rest (befs ++ [m]) (acc ++ [o])
   | false => false
def LastQ (K : Cfg) (f : FuncId) (last : Oper) (Q : St → Prop) (s : St) : Prop := ∃ g args d, last.guard = none ∧ last.dst = some d ∧ aOp K f s last [] = some (.call g args, [], []) ∧ Tells K g args s.H fun r H' => Q ⟨setAt s.regs d r.unown, s.own, H'⟩
theorem Wd.runL {K : Cfg} (hs : K.sym = false) {f : FuncId} {ops : Array Oper} {last : Oper} {Q : St → Prop} : ∀ (l : List Oper) (s : St) (befs : List Nat) (acc : List Tr), Wd K f ops l s (LastQ K f last Q) → statGoL K f ops last l befs (acc.map (·.o)) = true → (∀ (j : Nat) (t : Tr), acc[j]? = some t → t.i = 0 + j ∧ (t.k = 0 ∨ t.k = kOf (touch K f t.o))) → W (fun n => aDrawn K (aCall K n) f ops (l ++ [last]) befs acc s) Q
 | [], s, befs, acc, h, hst, hacc => by
  obtain ⟨g, args, d, hg, hd, ho, ⟨r, H'⟩, N, h1, h2⟩ := h
  unfold statGoL at hst
  cases hm : befOf befs last.after.toList 0 with
  | none => simp [hm] at hst
  | some m =>
   simp only [hm, List.length_map] at hst
   refine ⟨⟨setAt s.regs d r.unown, s.own, H'⟩, N, fun n hn => ?_, h2⟩
   show aDrawn K (aCall K n) f ops [last] befs acc s [] = _
   unfold aDrawn
   simp only [hm]
   obtain ⟨t, ht, hb, hs'⟩ : ∃ t : Tr, aTr K (aCall K n) f ops acc.length last m s [] = some (t, [], []) ∧ t.bef = m ∧ t.s' = ⟨setAt s.regs d r.unown, s.own, H'⟩ := by
    unfold aTr
    simp only [hg]
    unfold aTrDo
    rw [E.bind_nil ho]
    refine ⟨_, (E.bind_nil (h1 n hn)).trans rfl, rfl, ?_⟩
    simp only [hd]; rfl
   refine (E.bind_nil ht).trans ?_
   refine (E.bind_nil (a := ()) (pairs_bits acc 0 (fun j t q => (hacc j t q).1) (fun j q => ?_))).trans ?_
   ·rw [hb, Nat.zero_add]
    exact List.all_eq_true.1 hst j (List.mem_range.2 q)
   ·rw [← hs']; rfl
 | o :: rest, s, befs, acc, h, hst, hacc => by
  obtain ⟨t, N, h1, h2, h3, h4⟩ := h
  unfold statGoL at hst
  cases hm : befOf befs o.after.toList 0 with
  | none => simp [hm] at hst
  | some m =>
   simp only [hm] at hst
   cases hp : pairsStat K f ops m o 0 (acc.map (·.o)) with
   | false => simp [hp] at hst
   | true =>
    simp only [hp] at hst
    have hpairs : aPairs K f ops acc { t with i := acc.length, bef := m } [] = some ((), [], []) := pairsStat_ok (K := K) (ops := ops) (b := { t with i := acc.length, bef := m }) h2 acc 0 hacc (by show pairsStat K f ops m t.o 0 _ = true; rw [h3]; exact hp)
    have hacc' : ∀ (j : Nat) (t' : Tr), (acc ++ [{ t with i := acc.length, bef := m }])[j]? = some t' → t'.i = 0 + j ∧ (t'.k = 0 ∨ t'.k = kOf (touch K f t'.o)) := fun j t' q => by
     rw [List.getElem?_append] at q
     split at q
     ·exact hacc j t' q
     ·rename_i hj
      have hj0 : j - acc.length = 0 := by
       rcases Nat.eq_zero_or_pos (j - acc.length) with h0 | h0
       ·exact h0
       ·rw [List.getElem?_eq_none (by simp; omega)] at q; cases q
      rw [hj0] at q
      simp at q
      subst q
      exact ⟨by simp; omega, h2⟩
    obtain ⟨a, M, ha, hq⟩ := Wd.runL hs rest t.s' (befs ++ [m]) (acc ++ [{ t with i := acc.length, bef := m }]) h4 (by rw [List.map_append]; simpa [h3] using hst) hacc'
    refine ⟨a, max N M, fun n hn => ?_, hq⟩
    show aDrawn K (aCall K n) f ops (o :: (rest ++ [last])) befs acc s [] = _
    unfold aDrawn
    simp only [hm]
    refine (E.bind_nil (aTr_i hs acc.length m (h1 n (by omega)))).trans ?_
    refine (E.bind_nil hpairs).trans ?_
    exact ha n (by omega)
theorem Wc.drawnL {K : Cfg} (hs : K.sym = false) {f : FuncId} {id : Nat} {ops : Array Oper} {front : List Oper} {last : Oper} {R : List AV} {own : Nat → Nat} {H : List AB} {Q : AX → St → Prop} (hl : ops.toList = front ++ [last]) (hst : statGoL K f ops last front [] [] = true) (h : Wd K f ops front ⟨R, own, H⟩ (LastQ K f last (Q .normal))) : Wc K f (.region id ops true) R own H Q :=
 W.bind (x := fun n => aDrawn K (aCall K n) f ops ops.toList [] [] ⟨R, own, H⟩) (f := fun _ s => pure (AX.normal, s)) (W.mono (by rw [hl]; exact Wd.runL hs front _ [] [] h hst (by simp)) fun s hs => W.ret (a := (AX.normal, s)) (fun _ => rfl) hs)
theorem Tells.lib {K : Cfg} {f : FuncId} {g : List AV → List AB → Option (AV × List AB)} {args : List AV} {H H' : List AB} {r : AV} {Q : AV → List AB → Prop} (h0 : K.libv f = none) (hf : K.lib f = some g) (hr : g args H = some (r, H')) (h : Q r H') : Tells K f args H Q := by
 refine ⟨(r, H'), 1, fun n hn => ?_, h⟩
 obtain ⟨n, rfl⟩ : ∃ j, n = j + 1 := ⟨n - 1, by omega⟩
 show aCallW K (aCall K n) (n + 1) f args H [] = _
 unfold aCallW
 simp only [h0, hf, hr]
 rfl
theorem Wc.drawnZ {K : Cfg} (hs : K.sym = false) {f : FuncId} {id : Nat} {ops : Array Oper} {R : List AV} {own : Nat → Nat} {H : List AB} {Q : AX → St → Prop} (hne : ops.toList ≠ []) (hst : statGoL K f ops (ops.toList.getLast hne) ops.toList.dropLast [] [] = true) (h : Wd K f ops ops.toList.dropLast ⟨R, own, H⟩ (LastQ K f (ops.toList.getLast hne) (Q .normal))) : Wc K f (.region id ops true) R own H Q :=
 Wc.drawnL hs (List.dropLast_concat_getLast hne).symm hst h
theorem Wd.lst {K : Cfg} {f : FuncId} {ops : Array Oper} {l l' : List Oper} {s : St} {Q : St → Prop} (e : l = l') (h : Wd K f ops l' s Q) : Wd K f ops l s Q := by subst e; exact h
end Go.Tm
