/- strings.Builder over the tree machine: WriteString, WriteByte, String; bytes' own functions by a run at each byte. -/
import Derived.Test.YtaefgigfoifjaaaGreatDoorTmMono
import Derived.Test.YtaefgigfoifjaaaGreatDoorTmQd
import Derived.Test.YtaefgigfoifjaaaGreatDoorTmSymDrawn
set_option linter.unusedVariables false
set_option linter.unusedSimpArgs false
set_option linter.unusedSectionVars false
namespace Go.Tm
abbrev u8v (c : UInt8) : AV := .v (.int .u8 c.toNat)
section
variable {K : Cfg} {f : FuncId} {o : Oper} {R : List AV} {own : Nat → Nat} {H : List AB}
theorem op_fieldAddr {t : TypeId} {x : Operand} {i : Nat} {v r : AV} (ho : o.op = .fieldAddr t x i) (hx : evalO K R x = some v) (hr : aFieldAddr K t v i = some r) : aOp K f ⟨R, own, H⟩ o [] = some (.val r.unown own H, [], []) := by
 simp only [aOp, ho, hx, aKeep, hr]; rfl
theorem op_nilCheck {x : Operand} {b i : Nat} (ho : o.op = .nilCheck x) (hx : evalO K R x = some (.ptr b i)) : aOp K f ⟨R, own, H⟩ o [] = some (.val (.ptr b i) own H, [], []) := by
 simp only [aOp, ho, hx]; rfl
theorem op_extract {x : Operand} {i : Nat} {xs : List AV} {v : AV} (ho : o.op = .extract x i) (hx : evalO K R x = some (.tup xs)) (hv : nth xs i = some v) : aOp K f ⟨R, own, H⟩ o [] = some (.val v.unown own H, [], []) := by
 simp only [aOp, ho, hx, aKeep, aExtract, hv]; rfl
theorem op_binv {op : BinOp} {t yt : TypeId} {x y : Operand} {a b r : AV} (ho : o.op = .binOp op t x y yt) (hx : evalO K R x = some a) (hy : evalO K R y = some b) (hr : aBinOp K op t x y a b [] = some (r, [], [])) : aOp K f ⟨R, own, H⟩ o [] = some (.val r.unown own H, [], []) := by
 simp only [aOp, ho, hx, hy, aKeepE]
 exact (E.bind_nil hr).trans rfl
theorem op_conv_unsafe {s d : TypeId} {x : Operand} {a r : AV} (ho : o.op = .convert s d x) (hx : evalO K R x = some a) (hr : aUnsafe K H s d a = some r) : aOp K f ⟨R, own, H⟩ o [] = some (.val r.unown own H, [], []) := by
 simp only [aOp, ho, hx, aKeep, hr]; rfl
theorem op_conv_val {s d : TypeId} {x : Operand} {a r : AV} (ho : o.op = .convert s d x) (hx : evalO K R x = some a) (h1 : aUnsafe K H s d a = none) (h2 : aConvertM K H s d a = none) (hr : aConvert K s d a = some r) : aOp K f ⟨R, own, H⟩ o [] = some (.val r.unown own H, [], []) := by
 simp only [aOp, ho, hx, aKeep, h1, h2, hr]; rfl
theorem op_store {t : TypeId} {a x : Operand} {p v : AV} {H' : List AB} (ho : o.op = .store t a x) (ha : evalO K R a = some p) (hx : evalO K R x = some v) (hs : aStore K H t p v = some H') : aOp K f ⟨R, own, H⟩ o [] = some (.skip H', [], []) := by
 simp only [aOp, ho, ha, hx, hs]; rfl
theorem op_alloc {t : TypeId} {z : AV} (ho : o.op = .alloc t) (hz : tZero K.P t = some z) (hb : K.big t = none) : aOp K f ⟨R, own, H⟩ o [] = some (.val (.ptr H.length 0) own (H ++ [.cells (t, true) z.cells]), [], []) := by
 simp only [aOp, ho, hz, hb, newBlk]; rfl
theorem op_build {t : TypeId} {ps : Array (Nat × Operand)} {qs : List (Nat × AV)} {r : AV} (ho : o.op = .build t ps) (hq : mapO (fun p : Nat × Operand => (evalO K R p.2).map fun x => (p.1, x)) ps.toList = some qs) (hb : aBuild K t qs = some r) : aOp K f ⟨R, own, H⟩ o [] = some (.val r.unown own H, [], []) := by
 simp only [aOp, ho, hq, aKeep, hb]; rfl
theorem op_mkIface {t : TypeId} {x : Operand} {v : AV} {d : TypeDesc} (ho : o.op = .makeInterface t x) (hx : evalO K R x = some v) (hu : K.P.underlying t = some d) (hd : ∀ ms, d ≠ .interface ms) : aOp K f ⟨R, own, H⟩ o [] = some (.val (.iface t v.unown) own H, [], []) := by
 simp only [aOp, ho, hx, hu]
 cases d <;> first | rfl | exact absurd rfl (hd _)
theorem op_index_str (hs : K.sym = false) {t : TypeId} {x i : Operand} {s : List UInt8} {k : IntKind} {n : Int} {j : Nat} (ho : o.op = .index t x i) (hu : K.P.underlying t = some .string) (hx : evalO K R x = some (.str s)) (hi : evalO K R i = some (.v (.int k n))) (hn : n = (j : Int)) (hj : j < s.length) : aOp K f ⟨R, own, H⟩ o [] = some (.val (u8v s[j]) own H, [], []) := by
 subst hn
 simp only [aOp, ho, hx, hi, aKeepE, aIndex, asI, hu, hs]
 refine (E.bind_nil (a := u8v s[j]) ?_).trans rfl
 rw [decide_eq_true (show 0 ≤ (j : Int) ∧ (j : Int) < (s.length : Int) by omega)]
 refine (E.bind_nil (a := ()) rfl).trans ?_
 refine (E.bind_nil (a := s[j]) (by rw [Int.toNat_natCast, nth_eq, List.getElem?_eq_getElem hj]; rfl)).trans rfl
theorem bounds_str (hs : K.sym = false) {s : List UInt8} {l h : Option AV} {a b : Nat} {t : TypeId} (hu : K.P.underlying t = some .string) (ha : optI l = some (l.map fun _ => (a : Int))) (hb : optI h = some (h.map fun _ => (b : Int))) (ha0 : l = none → a = 0) (hb0 : h = none → b = s.length) (hab : a ≤ b) (hbs : b ≤ s.length) : aSlice K H t (.str s) l h none [] = some (.str ((s.take b).drop a), [], []) := by
 simp only [aSlice, hu, aBounds, ha, hb, hs]
 have e1 : (l.map fun _ => (a : Int)).getD 0 = a := by
  cases l with
  | none => rw [ha0 rfl]; rfl
  | some _ => rfl
 have e2 : (h.map fun _ => (b : Int)).getD (s.length : Int) = b := by
  cases h with
  | none => rw [hb0 rfl]; rfl
  | some _ => rfl
 simp only [optI, e1, e2]
 refine (E.bind_nil (a := (a, b, none)) ?_).trans rfl
 rw [show decide (0 ≤ (a : Int) ∧ (a : Int) ≤ (b : Int) ∧ (b : Int) ≤ Option.getD none (s.length : Int) ∧ Option.getD none (s.length : Int) ≤ (s.length : Int)) = true by simp; omega]
 refine (E.bind_nil (a := ()) rfl).trans ?_
 simp only [Int.toNat_natCast]
 rfl
theorem op_slice_str_hi (hs : K.sym = false) {t : TypeId} {x l : Operand} {s : List UInt8} {k : IntKind} {n : Int} {b : Nat} (ho : o.op = .slice t x none (some l) none) (hu : K.P.underlying t = some .string) (hx : evalO K R x = some (.str s)) (hl : evalO K R l = some (.v (.int k n))) (hn : n = (b : Int)) (hb : b ≤ s.length) : aOp K f ⟨R, own, H⟩ o [] = some (.val (.str (s.take b)) own H, [], []) := by
 subst hn
 simp only [aOp, ho, hx, hl, Option.elim, Option.map]
 have h := bounds_str (H := H) hs hu (l := none) (h := some (.v (.int k (b : Int)))) (a := 0) (b := b) rfl rfl (fun _ => rfl) (fun q => by cases q) (Nat.zero_le _) hb
 exact (E.bind_nil h).trans rfl
theorem op_slice_str_lo (hs : K.sym = false) {t : TypeId} {x l : Operand} {s : List UInt8} {k : IntKind} {n : Int} {a : Nat} (ho : o.op = .slice t x (some l) none none) (hu : K.P.underlying t = some .string) (hx : evalO K R x = some (.str s)) (hl : evalO K R l = some (.v (.int k n))) (hn : n = (a : Int)) (hb : a ≤ s.length) : aOp K f ⟨R, own, H⟩ o [] = some (.val (.str (s.drop a)) own H, [], []) := by
 subst hn
 simp only [aOp, ho, hx, hl, Option.elim, Option.map]
 have h := bounds_str (H := H) hs hu (l := some (.v (.int k (a : Int)))) (h := none) (a := a) (b := s.length) rfl rfl (fun q => by cases q) (fun _ => rfl) hb (Nat.le_refl _)
 rw [List.take_length] at h
 exact (E.bind_nil h).trans rfl
theorem op_slice_str_both (hs : K.sym = false) {t : TypeId} {x l h' : Operand} {s : List UInt8} {k k' : IntKind} {n m : Int} {a b : Nat} (ho : o.op = .slice t x (some l) (some h') none) (hu : K.P.underlying t = some .string) (hx : evalO K R x = some (.str s)) (hl : evalO K R l = some (.v (.int k n))) (hh : evalO K R h' = some (.v (.int k' m))) (hn : n = (a : Int)) (hm : m = (b : Int)) (hab : a ≤ b) (hb : b ≤ s.length) : aOp K f ⟨R, own, H⟩ o [] = some (.val (.str ((s.take b).drop a)) own H, [], []) := by
 subst hn hm
 simp only [aOp, ho, hx, hl, hh, Option.elim, Option.map]
 have h := bounds_str (H := H) hs hu (l := some (.v (.int k (a : Int)))) (h := some (.v (.int k' (b : Int)))) (a := a) (b := b) rfl rfl (fun q => by cases q) (fun q => by cases q) hab hb
 exact (E.bind_nil h).trans rfl
end
theorem Tells.libv {K : Cfg} {f : FuncId} {g : List AV → Option AV} {args : List AV} {H : List AB} {r : AV} {Q : AV → List AB → Prop} (hf : K.libv f = some g) (hr : g args = some r) (h : Q r H) : Tells K f args H Q := by
 refine ⟨(r, H), 1, fun n hn => ?_, h⟩
 obtain ⟨n, rfl⟩ : ∃ j, n = j + 1 := ⟨n - 1, by omega⟩
 show aCallW K (aCall K n) (n + 1) f args H [] = _
 unfold aCallW
 simp only [hf, hr]
 rfl
end Go.Tm
