/- HpBld, HpBuf, HpByt, joined. -/
import Derived.Test.YtfihfpgphipglaaGreatDoorHpA
import Derived.Test.YtfihfpgphipglaaGreatDoorTmQd
import Derived.Test.YtfihfpgphipglaaGreatDoorTmSymDrawn
set_option linter.unusedVariables false
set_option linter.unusedSimpArgs false
set_option linter.unusedSectionVars false
section
namespace Go.Tm
abbrev u8v (c : UInt8) : AV := .v (.int .u8 c.toNat)
section
variable {K : Cfg} {f : FuncId} {o : Oper} {R : List AV} {own : Nat → Nat} {H : List AB}
theorem op_fieldAddr {t : TypeId} {x : Operand} {i : Nat} {v r : AV} (ho : o.op = .fieldAddr t x i) (hx : evalO K R x = some v) (hr : aFieldAddr K t v i = some r) : aOp K f ⟨R, own, H⟩ o [] = some (.val r.unown own H, [], []) := by
 simp only [aOp, ho, hx, aKeep, hr]; rfl
theorem op_nilCheck {x : Operand} {b i : Nat} (ho : o.op = .nilCheck x) (hx : evalO K R x = some (.ptr b i)) : aOp K f ⟨R, own, H⟩ o [] = some (.val (.ptr b i) own H, [], []) := by
 simp only [aOp, ho, hx]; rfl
theorem op_extract {x : Operand} {i : Nat} {xs : List AV} {v : AV} (ho : o.op = .extract x i) (hx : evalO K R x = some (.tup xs)) (hv : nth xs i = some v) : aOp K f ⟨R, own, H⟩ o [] = some (.val v.unown own H, [], []) := by
 simp only [aOp, ho, hx, aKeep, aExtract, hv]; rfl
theorem op_binv {op : BinOp} {t yt : TypeId} {x y : Operand} {a b r : AV} (ho : o.op = .binOp op t x y yt) (hx : evalO K R x = some a) (hy : evalO K R y = some b) (hr : aBinOp K op t x y a b [] = some (r, [], [])) : aOp K f ⟨R, own, H⟩ o [] = some (.val r.unown own H, [], []) := by
 simp only [aOp, ho, hx, hy, aKeepE]
 exact (E.bind_nil hr).trans rfl
theorem op_conv_unsafe {s d : TypeId} {x : Operand} {a r : AV} (ho : o.op = .convert s d x) (hx : evalO K R x = some a) (hr : aUnsafe K H s d a = some r) : aOp K f ⟨R, own, H⟩ o [] = some (.val r.unown own H, [], []) := by
 simp only [aOp, ho, hx, aKeep, hr]; rfl
theorem op_conv_val {s d : TypeId} {x : Operand} {a r : AV} (ho : o.op = .convert s d x) (hx : evalO K R x = some a) (h1 : aUnsafe K H s d a = none) (h2 : aConvertM K H s d a = none) (hr : aConvert K s d a = some r) : aOp K f ⟨R, own, H⟩ o [] = some (.val r.unown own H, [], []) := by
 simp only [aOp, ho, hx, aKeep, h1, h2, hr]; rfl
theorem op_store {t : TypeId} {a x : Operand} {p v : AV} {H' : List AB} (ho : o.op = .store t a x) (ha : evalO K R a = some p) (hx : evalO K R x = some v) (hs : aStore K H t p v = some H') : aOp K f ⟨R, own, H⟩ o [] = some (.skip H', [], []) := by
 simp only [aOp, ho, ha, hx, hs]; rfl
theorem op_alloc {t : TypeId} {z : AV} (ho : o.op = .alloc t) (hz : tZero K.P t = some z) (hb : K.big t = none) : aOp K f ⟨R, own, H⟩ o [] = some (.val (.ptr H.length 0) own (H ++ [.cells (t, true) z.cells]), [], []) := by
 simp only [aOp, ho, hz, hb, newBlk]; rfl
theorem op_build {t : TypeId} {ps : Array (Nat × Operand)} {qs : List (Nat × AV)} {r : AV} (ho : o.op = .build t ps) (hq : mapO (fun p : Nat × Operand => (evalO K R p.2).map fun x => (p.1, x)) ps.toList = some qs) (hb : aBuild K t qs = some r) : aOp K f ⟨R, own, H⟩ o [] = some (.val r.unown own H, [], []) := by
 simp only [aOp, ho, hq, aKeep, hb]; rfl
theorem op_mkIface {t : TypeId} {x : Operand} {v : AV} {d : TypeDesc} (ho : o.op = .makeInterface t x) (hx : evalO K R x = some v) (hu : K.P.underlying t = some d) (hd : ∀ ms, d ≠ .interface ms) : aOp K f ⟨R, own, H⟩ o [] = some (.val (.iface t v.unown) own H, [], []) := by
 simp only [aOp, ho, hx, hu]
 cases d <;> first | rfl | exact absurd rfl (hd _)
theorem op_index_str (hs : K.sym = false) {t : TypeId} {x i : Operand} {s : List UInt8} {k : IntKind} {n : Int} {j : Nat} (ho : o.op = .index t x i) (hu : K.P.underlying t = some .string) (hx : evalO K R x = some (.str s)) (hi : evalO K R i = some (.v (.int k n))) (hn : n = (j : Int)) (hj : j < s.length) : aOp K f ⟨R, own, H⟩ o [] = some (.val (u8v s[j]) own H, [], []) := by
 subst hn
 simp only [aOp, ho, hx, hi, aKeepE, aIndex, asI, hu, hs]
 refine (E.bind_nil (a := u8v s[j]) ?_).trans rfl
 rw [decide_eq_true (show 0 ≤ (j : Int) ∧ (j : Int) < (s.length : Int) by omega)]
 refine (E.bind_nil (a := ()) rfl).trans ?_
 refine (E.bind_nil (a := s[j]) (by rw [Int.toNat_natCast, nth_eq, List.getElem?_eq_getElem hj]; rfl)).trans rfl
theorem bounds_str (hs : K.sym = false) {s : List UInt8} {l h : Option AV} {a b : Nat} {t : TypeId} (hu : K.P.underlying t = some .string) (ha : optI l = some (l.map fun _ => (a : Int))) (hb : optI h = some (h.map fun _ => (b : Int))) (ha0 : l = none → a = 0) (hb0 : h = none → b = s.length) (hab : a ≤ b) (hbs : b ≤ s.length) : aSlice K H t (.str s) l h none [] = some (.str ((s.take b).drop a), [], []) := by
 simp only [aSlice, hu, aBounds, ha, hb, hs]
 have e1 : (l.map fun _ => (a : Int)).getD 0 = a := by
  cases l with
  | none => rw [ha0 rfl]; rfl
  | some _ => rfl
 have e2 : (h.map fun _ => (b : Int)).getD (s.length : Int) = b := by
  cases h with
  | none => rw [hb0 rfl]; rfl
  | some _ => rfl
 simp only [optI, e1, e2]
 refine (E.bind_nil (a := (a, b, none)) ?_).trans rfl
 rw [show decide (0 ≤ (a : Int) ∧ (a : Int) ≤ (b : Int) ∧ (b : Int) ≤ Option.getD none (s.length : Int) ∧ Option.getD none (s.length : Int) ≤ (s.length : Int)) = true by simp; omega]
 refine (E.bind_nil (a := ()) rfl).trans ?_
 simp only [Int.toNat_natCast]
 rfl
theorem op_slice_str_hi (hs : K.sym = false) {t : TypeId} {x l : Operand} {s : List UInt8} {k : IntKind} {n : Int} {b : Nat} (ho : o.op = .slice t x none (some l) none) (hu : K.P.underlying t = some .string) (hx : evalO K R x = some (.str s)) (hl : evalO K R l = some (.v (.int k n))) (hn : n = (b : Int)) (hb : b ≤ s.length) : aOp K f ⟨R, own, H⟩ o [] = some (.val (.str (s.take b)) own H, [], []) := by
 subst hn
 simp only [aOp, ho, hx, hl, Option.elim, Option.map]
 have h := bounds_str (H := H) hs hu (l := none) (h := some (.v (.int k (b : Int)))) (a := 0) (b := b) rfl rfl (fun _ => rfl) (fun q => by cases q) (Nat.zero_le _) hb
 exact (E.bind_nil h).trans rfl
theorem op_slice_str_lo (hs : K.sym = false) {t : TypeId} {x l : Operand} {s : List UInt8} {k : IntKind} {n : Int} {a : Nat} (ho : o.op = .slice t x (some l) none none) (hu : K.P.underlying t = some .string) (hx : evalO K R x = some (.str s)) (hl : evalO K R l = some (.v (.int k n))) (hn : n = (a : Int)) (hb : a ≤ s.length) : aOp K f ⟨R, own, H⟩ o [] = some (.val (.str (s.drop a)) own H, [], []) := by
 subst hn
 simp only [aOp, ho, hx, hl, Option.elim, Option.map]
 have h := bounds_str (H := H) hs hu (l := some (.v (.int k (a : Int)))) (h := none) (a := a) (b := s.length) rfl rfl (fun q => by cases q) (fun _ => rfl) hb (Nat.le_refl _)
 rw [List.take_length] at h
 exact (E.bind_nil h).trans rfl
end
theorem Tells.libv {K : Cfg} {f : FuncId} {g : List AV → Option AV} {args : List AV} {H : List AB} {r : AV} {Q : AV → List AB → Prop} (hf : K.libv f = some g) (hr : g args = some r) (h : Q r H) : Tells K f args H Q := by
 refine ⟨(r, H), 1, fun n hn => ?_, h⟩
 obtain ⟨n, rfl⟩ : ∃ j, n = j + 1 := ⟨n - 1, by omega⟩
 show aCallW K (aCall K n) (n + 1) f args H [] = _
 unfold aCallW
 simp only [hf, hr]
 rfl
end Go.Tm
end
section
namespace Go.Proofs
open Go.Tm
set_option maxRecDepth 100000
def toldTrue : List AV → Option AV
 | [] => some (.v (.bool true))
 | _ => none
noncomputable def Kp (x : Value) : Cfg := { Kb x with libv := fun f => if f == 7 then some toldTrue else (Kb x).libv f }
section
variable {x : Value}
theorem u67 : (Kp x).P.underlying 67 = some (.slice 5) := Tryz.underlying67
theorem u9 : (Kp x).P.underlying 9 = some .string := Tryz.underlying9
theorem u5 : (Kp x).P.underlying 5 = some (.int .u8) := Tryz.underlying5
theorem u3 : (Kp x).P.underlying 3 = some (.int .i64) := Tryz.underlying3
theorem sz5 : tSize (Kp x).P 5 = some 1 := by kernel_rfl
theorem sz3 : tSize (Kp x).P 3 = some 1 := by kernel_rfl
theorem sz66 : tSize (Kp x).P 66 = some 1 := by kernel_rfl
theorem sz67 : tSize (Kp x).P 67 = some 1 := by kernel_rfl
theorem ag5 : tAgg (Kp x).P 5 = some false := by kernel_rfl
theorem ag66 : tAgg (Kp x).P 66 = some false := by kernel_rfl
theorem ag67 : tAgg (Kp x).P 67 = some false := by kernel_rfl
theorem z5 : tZero (Kp x).P 5 = some (.v (.int .u8 0)) := by kernel_rfl
theorem in5 : ∃ info, (Kp x).P.info? 5 = some info ∧ info.bytes = 1 := by
 have h : ((Kp x).P.info? 5).map (·.bytes) = some 1 := by kernel_rfl
 cases hi : (Kp x).P.info? 5 with
 | none => rw [hi] at h; cases h
 | some i => rw [hi] at h; exact ⟨i, rfl, by simpa using h⟩
theorem u66 : (Kp x).P.underlying 66 = some (.pointer 69) := Tryz.underlying66
theorem u96 : (Kp x).P.underlying 96 = some .unsafePointer := Tryz.underlying96
theorem sz69 : tSize (Kp x).P 69 = some 2 := by kernel_rfl
theorem lies69 : liesAt (Kp x).P (Kp x).P.depth 69 (2 / (Kp x).P.cellsOf 69) 0 69 1 = true := by kernel_rfl
theorem cv1 {H : List AB} {b : Nat} {a buf : AV} (hb : nth H b = some (.cells (69, true) [a, buf])) : aUnsafe (Kp x) H 66 96 (.ptr b 0) = some (.ptr b 0) := by
 simp only [aUnsafe, u66, u96, hb, sz69]; rfl
theorem cv2 {H : List AB} {b : Nat} {a buf : AV} (hb : nth H b = some (.cells (69, true) [a, buf])) : aUnsafe (Kp x) H 96 66 (.ptr b 0) = some (.ptr b 0) := by
 simp only [aUnsafe, u66, u96, hb, sz69]
 rw [show ([a, buf] : List AV).length = 2 from rfl, lies69]; rfl
theorem st66 {H : List AB} {b : Nat} {a buf : AV} (hb : nth H b = some (.cells (69, true) [a, buf])) : aStore (Kp x) H 66 (.ptr b 0) (.ptr b 0) = some (setAt H b (.cells (69, true) [.ptr b 0, buf])) := by
 simp only [aStore, sz66, hb]
 rw [if_pos ⟨rfl, by simp, rfl⟩]; rfl
theorem st67 {H : List AB} {b : Nat} {a buf v : AV} (hv : v.unown = v) (h1 : v.cells = [v]) (h2 : v.one = true) (hb : nth H b = some (.cells (69, true) [a, buf])) : aStore (Kp x) H 67 (.ptr b 1) v = some (setAt H b (.cells (69, true) [a, v])) := by
 simp only [aStore, sz67, hb]
 rw [if_pos ⟨by rw [h1]; rfl, by simp, by rw [h1]; simp [allOne, h2]⟩, hv, h1]; rfl
theorem ptr_ne (b : Nat) (p q : Operand) : aBinOp (Kp x) .neq 66 p q (.ptr b 0) (.ptr b 0) [] = some (.v (.bool false), [], []) := by
 simp only [aBinOp, aNilEq, u66, sz69]
 simp; rfl
theorem ptr_nil (b : Nat) (p q : Operand) : aBinOp (Kp x) .eql 66 p q (.ptr b 0) (.v (.pointer none)) [] = some (.v (.bool false), [], []) := by
 simp only [aBinOp, aNilEq, u66]; rfl
theorem fb0 (b : Nat) : aFieldAddr (Kp x) 69 (.ptr b 0) 0 = some (.ptr b 0) := by kernel_rfl
theorem fb1 (b : Nat) : aFieldAddr (Kp x) 69 (.ptr b 0) 1 = some (.ptr b 1) := by kernel_rfl
def Bld (H : List AB) (b : Nat) (bs : List UInt8) : Prop :=
 (bs = [] ∧ ∃ a, (a = .v (.pointer none) ∨ a = .ptr b 0) ∧ nth H b = some (.cells (69, true) [a, .sl [] .nil])) ∨
 (bs ≠ [] ∧ ∃ k, k ≠ b ∧ nth H b = some (.cells (69, true) [.ptr b 0, .ms k 0 bs.length 1]) ∧ nth H k = some (.cells (5, false) (bs.map u8v)))
theorem nth_set_same {α : Type} : ∀ {l : List α} {i : Nat} {a b : α}, nth l i = some a → nth (setAt l i b) i = some b
 | [], _, _, _, h => by cases h
 | _ :: _, 0, _, _, _ => rfl
 | _ :: r, i + 1, _, _, h => nth_set_same (l := r) h
theorem nth_set_other {α : Type} : ∀ {l : List α} {i j : Nat} {b : α}, i ≠ j → nth (setAt l i b) j = nth l j
 | [], _, _, _, _ => rfl
 | _ :: _, 0, 0, _, h => absurd rfl h
 | _ :: _, 0, _ + 1, _, _ => rfl
 | _ :: _, _ + 1, 0, _, _ => rfl
 | _ :: r, i + 1, j + 1, _, h => nth_set_other (l := r) (by omega)
theorem nth_lt' {α : Type} : ∀ {l : List α} {i : Nat} {a : α}, nth l i = some a → i < l.length
 | [], _, _, h => by cases h
 | _ :: _, 0, _, _ => by simp
 | _ :: r, i + 1, _, h => by have := nth_lt' (l := r) h; simp; omega
theorem nth_app_left {α : Type} : ∀ {l m : List α} {i : Nat} {a : α}, nth l i = some a → nth (l ++ m) i = some a
 | [], _, _, _, h => by cases h
 | _ :: _, _, 0, _, h => h
 | _ :: r, m, i + 1, _, h => nth_app_left (l := r) (m := m) h
theorem nth_app_new {α : Type} : ∀ (l : List α) (a : α), nth (l ++ [a]) l.length = some a
 | [], _ => rfl
 | _ :: r, a => nth_app_new r a
theorem set_self {α : Type} : ∀ {l : List α} {i : Nat} {a : α}, nth l i = some a → setAt l i a = l
 | [], _, _, h => by cases h
 | _ :: _, 0, _, h => by cases h; rfl
 | _ :: r, i + 1, _, h => by simp only [setAt]; rw [set_self (l := r) h]
theorem setAt_len {α : Type} : ∀ (l : List α) (i : Nat) (a : α), (setAt l i a).length = l.length
 | [], _, _ => rfl
 | _ :: _, 0, _ => rfl
 | _ :: r, i + 1, a => by simp only [setAt, List.length_cons, setAt_len r i a]
set_option maxHeartbeats 2000000 in
theorem check_tells (H : List AB) (b : Nat) (a buf : AV) (ha : a = .v (.pointer none) ∨ a = .ptr b 0) (hb : nth H b = some (.cells (69, true) [a, buf])) : Tells (Kp x) 52 [.ptr b 0] H fun r H' => H' = setAt H b (.cells (69, true) [.ptr b 0, buf]) := by
 refine Tells.mem (c := _) Tryz.func52 rfl (args' := [.ptr b 0]) (m := 19) rfl rfl rfl rfl rfl ?_
 (repeat (first|(with_reducible first|apply jA|apply jC|apply jD|apply jE|apply jF|apply jG|apply jH|apply jI|apply jJ|apply jK|apply jL|apply jM|apply jN|apply jO)|(with_reducible apply SeqQ.id;refine SeqQ.norm (by first|(simp only [j0];rfl)|rfl) ?_)|with_reducible refine jP (by decide) ?_|((first|((with_reducible first|apply jm|apply jn|apply jb|apply ju);repeat rfl));refine jT (by first|(simp only [j0];rfl)|rfl) ?_)))
 refine Wo.doVal rfl rfl (op_nilCheck rfl rfl) ?_
 refine Wo.doVal rfl rfl (op_fieldAddr rfl rfl (fb0 _)) ?_
 refine Wo.doVal rfl rfl (op_load_ptr (v := a) rfl rfl hb (take_one ag66 sz66)) ?_
 have hua : a.unown = a := by rcases ha with rfl | rfl <;> rfl
 rw [hua]
 rcases ha with rfl | rfl
 ·(repeat (first|(with_reducible first|apply jA|apply jC|apply jD|apply jE|apply jF|apply jG|apply jH|apply jI|apply jJ|apply jK|apply jL|apply jM|apply jN|apply jO)|(with_reducible apply SeqQ.id;refine SeqQ.norm (by first|(simp only [j0];rfl)|rfl) ?_)|with_reducible refine jP (by decide) ?_|((first|((with_reducible first|apply jm|apply jn|apply jb|apply ju);repeat rfl));refine jT (by first|(simp only [j0];rfl)|rfl) ?_)))
  refine Wc.cond rfl rfl (fun _ => ?_) (fun h => nomatch h)
  (repeat (first|(with_reducible first|apply jA|apply jC|apply jD|apply jE|apply jF|apply jG|apply jH|apply jI|apply jJ|apply jK|apply jL|apply jM|apply jN|apply jO)|(with_reducible apply SeqQ.id;refine SeqQ.norm (by first|(simp only [j0];rfl)|rfl) ?_)|with_reducible refine jP (by decide) ?_|((first|((with_reducible first|apply jm|apply jn|apply jb|apply ju);repeat rfl));refine jT (by first|(simp only [j0];rfl)|rfl) ?_)))
  refine Wo.doVal rfl rfl (op_conv_unsafe rfl rfl (cv1 hb)) ?_
  refine Wo.doCall rfl rfl (op_call (args := [.ptr b 0]) rfl rfl) (Tells.libv (g := toldSame) (r := .ptr b 0) rfl rfl ?_)
  refine Wo.doVal rfl rfl (op_conv_unsafe rfl rfl (cv2 hb)) ?_
  refine Wo.doVal rfl rfl (op_nilCheck rfl rfl) ?_
  refine Wo.doVal rfl rfl (op_fieldAddr rfl rfl (fb0 _)) ?_
  refine Wo.doSkip rfl rfl (op_store rfl rfl rfl (st66 hb)) ?_
  (repeat (first|(with_reducible first|apply jA|apply jC|apply jD|apply jE|apply jF|apply jG|apply jH|apply jI|apply jJ|apply jK|apply jL|apply jM|apply jN|apply jO)|(with_reducible apply SeqQ.id;refine SeqQ.norm (by first|(simp only [j0];rfl)|rfl) ?_)|with_reducible refine jP (by decide) ?_|((first|((with_reducible first|apply jm|apply jn|apply jb|apply ju);repeat rfl));refine jT (by first|(simp only [j0];rfl)|rfl) ?_)))
  exact EndQ.normal rfl rfl
 ·refine Wo.doVal rfl rfl (op_binv rfl rfl rfl (ptr_nil b _ _)) ?_
  (repeat (first|(with_reducible first|apply jA|apply jC|apply jD|apply jE|apply jF|apply jG|apply jH|apply jI|apply jJ|apply jK|apply jL|apply jM|apply jN|apply jO)|(with_reducible apply SeqQ.id;refine SeqQ.norm (by first|(simp only [j0];rfl)|rfl) ?_)|with_reducible refine jP (by decide) ?_|((first|((with_reducible first|apply jm|apply jn|apply jb|apply ju);repeat rfl));refine jT (by first|(simp only [j0];rfl)|rfl) ?_)))
  refine Wc.cond rfl rfl (fun h => nomatch h) (fun _ => ?_)
  (repeat (first|(with_reducible first|apply jA|apply jC|apply jD|apply jE|apply jF|apply jG|apply jH|apply jI|apply jJ|apply jK|apply jL|apply jM|apply jN|apply jO)|(with_reducible apply SeqQ.id;refine SeqQ.norm (by first|(simp only [j0];rfl)|rfl) ?_)|with_reducible refine jP (by decide) ?_|((first|((with_reducible first|apply jm|apply jn|apply jb|apply ju);repeat rfl));refine jT (by first|(simp only [j0];rfl)|rfl) ?_)))
  refine Wo.doVal rfl rfl (op_nilCheck rfl rfl) ?_
  refine Wo.doVal rfl rfl (op_fieldAddr rfl rfl (fb0 _)) ?_
  refine Wo.doVal rfl rfl (op_load_ptr (v := .ptr b 0) rfl rfl hb (take_one ag66 sz66)) ?_
  (repeat (first|(with_reducible first|apply jA|apply jC|apply jD|apply jE|apply jF|apply jG|apply jH|apply jI|apply jJ|apply jK|apply jL|apply jM|apply jN|apply jO)|(with_reducible apply SeqQ.id;refine SeqQ.norm (by first|(simp only [j0];rfl)|rfl) ?_)|with_reducible refine jP (by decide) ?_|((first|((with_reducible first|apply jm|apply jn|apply jb|apply ju);repeat rfl));refine jT (by first|(simp only [j0];rfl)|rfl) ?_)))
  refine Wo.doVal rfl rfl (op_binv rfl rfl rfl (ptr_ne b _ _)) ?_
  (repeat (first|(with_reducible first|apply jA|apply jC|apply jD|apply jE|apply jF|apply jG|apply jH|apply jI|apply jJ|apply jK|apply jL|apply jM|apply jN|apply jO)|(with_reducible apply SeqQ.id;refine SeqQ.norm (by first|(simp only [j0];rfl)|rfl) ?_)|with_reducible refine jP (by decide) ?_|((first|((with_reducible first|apply jm|apply jn|apply jb|apply ju);repeat rfl));refine jT (by first|(simp only [j0];rfl)|rfl) ?_)))
  refine Wc.cond rfl rfl (fun h => nomatch h) (fun _ => ?_)
  (repeat (first|(with_reducible first|apply jA|apply jC|apply jD|apply jE|apply jF|apply jG|apply jH|apply jI|apply jJ|apply jK|apply jL|apply jM|apply jN|apply jO)|(with_reducible apply SeqQ.id;refine SeqQ.norm (by first|(simp only [j0];rfl)|rfl) ?_)|with_reducible refine jP (by decide) ?_|((first|((with_reducible first|apply jm|apply jn|apply jb|apply ju);repeat rfl));refine jT (by first|(simp only [j0];rfl)|rfl) ?_)))
  refine EndQ.normal rfl ?_
  exact (set_self hb).symm
def BufV (H : List AB) (v : AV) (bs : List UInt8) : Prop :=
 (bs = [] ∧ v = .sl [] .nil) ∨ (bs ≠ [] ∧ ∃ k, v = .ms k 0 bs.length 1 ∧ nth H k = some (.cells (5, false) (bs.map u8v)))
theorem BufV.plain {H : List AB} {v : AV} {bs : List UInt8} (h : BufV H v bs) : v.unown = v ∧ v.cells = [v] ∧ v.one = true := by
 rcases h with ⟨_, rfl⟩ | ⟨_, k, rfl, _⟩ <;> exact ⟨rfl, rfl, rfl⟩
theorem room_ok {n : Nat} (h : n ≤ 140737488355328) : roomOk n 1 = true := by
 simp only [roomOk, decide_eq_true_eq]; omega
theorem app_bytes {H : List AB} {v w : AV} {bs ys : List UInt8} {f : FuncId} {d : Nat} {own : Nat → Nat} (hg : (Kp x).chg f d = true) (hv : BufV H v bs) (hw : asEls H 1 w = some (ys.map u8v)) (hr : bs.length + ys.length ≤ 140737488355328) :
  ∃ v' H', aAppend (Kp x) f d own H 67 v w [] = some (.val v' own H', [], []) ∧ BufV H' v' (bs ++ ys) ∧ ∀ j A, (∀ n, v ≠ .ms j 0 n 1) → nth H j = some A → nth H' j = some A ∧ ∀ n, v' ≠ .ms j 0 n 1 := by
 obtain ⟨info, hi, hb⟩ := in5 (x := x)
 have hroom : roomOk (bs.length + ys.length) info.bytes = true := by rw [hb]; exact room_ok hr
 have hz : ((AV.v (Value.int .u8 0)).cells.length == 0 + 1) = true := rfl
 rcases hv with ⟨rfl, rfl⟩ | ⟨hne, k, rfl, hk⟩
 ·cases ys with
  | nil =>
   refine ⟨.sl [] .nil, H, ?_, .inl ⟨rfl, rfl⟩, fun j A _ h => ⟨h, fun n q => by cases q⟩⟩
   simp only [aAppend, u67, hi, sz5, z5, hw, hz, hg]
   simp only [List.length_nil, List.map_nil, Nat.add_zero] at hroom ⊢
   refine (E.bind_nil (a := ()) (by show E.chk false _ [] = _; rw [hroom]; rfl)).trans ?_
   refine (E.bind_nil (a := ()) rfl).trans ?_
   exact (E.bind_nil (a := ()) rfl).trans rfl
  | cons y ys =>
   refine ⟨.ms H.length 0 (y :: ys).length 1, H ++ [.cells (5, false) ((y :: ys).map u8v)], ?_, .inr ⟨by simp, H.length, rfl, nth_app_new _ _⟩, fun j A _ h => ⟨nth_app_left h, fun n q => ?_⟩⟩
   ·simp only [aAppend, u67, hi, sz5, z5, hw, hz, hg]
    have hfl : ((y :: ys).map u8v).flatMap AV.cells = (y :: ys).map u8v := by
     generalize y :: ys = l
     induction l with
     | nil => rfl
     | cons a r ih => simp only [List.map_cons, List.flatMap_cons, ih]; rfl
    refine (E.bind_nil (a := ()) (by rw [show roomOk _ info.bytes = true by simpa using hroom]; rfl)).trans ?_
    refine (E.bind_nil (a := ()) rfl).trans ?_
    refine (E.bind_nil (a := ()) rfl).trans ?_
    simp only [List.map_cons] at hfl ⊢
    rw [List.flatMap_nil, List.nil_append, hfl]
    simp only [List.length_cons, List.length_nil, List.length_map, Nat.zero_add]
    rfl
   ·have := nth_lt' h
    cases q
    omega
 ·cases ys with
  | nil =>
   refine ⟨.ms k 0 bs.length 1, H, ?_, .inr ⟨by simpa using hne, k, by simp, by simpa using hk⟩, fun j A hj h => ⟨h, hj⟩⟩
   simp only [aAppend, u67, hi, sz5, z5, hw, hz, hk]
   simp only [List.length_nil, List.map_nil, Nat.add_zero] at hroom ⊢
   refine (E.bind_nil (a := ()) rfl).trans ?_
   refine (E.bind_nil (a := ()) rfl).trans ?_
   refine (E.bind_nil (a := ()) (by show E.chk false _ [] = _; simp [E.chk])).trans ?_
   exact (E.bind_nil (a := ()) (by show E.chk false _ [] = _; rw [hroom]; rfl)).trans rfl
  | cons y ys =>
   have hfl : ((y :: ys).map u8v).flatMap AV.cells = (y :: ys).map u8v := by
    generalize y :: ys = l
    induction l with
    | nil => rfl
    | cons a r ih => simp only [List.map_cons, List.flatMap_cons, ih]; rfl
   refine ⟨.ms H.length 0 (bs.length + (y :: ys).length) 1, setAt H k .dead ++ [.cells (5, false) (bs.map u8v ++ (y :: ys).map u8v)], ?_, .inr ⟨by simp, H.length, by rw [List.length_append], ?_⟩, fun j A hj h => ⟨?_, fun n q => ?_⟩⟩
   ·simp only [aAppend, u67, hi, sz5, z5, hw, hz, hk]
    refine (E.bind_nil (a := ()) rfl).trans ?_
    refine (E.bind_nil (a := ()) rfl).trans ?_
    refine (E.bind_nil (a := ()) (by show E.chk false _ [] = _; simp [E.chk])).trans ?_
    refine (E.bind_nil (a := ()) (by rw [show roomOk _ info.bytes = true by simpa using hroom]; rfl)).trans ?_
    simp only [List.map_cons] at hfl ⊢
    rw [hfl]
    simp only [List.length_cons, List.length_map]
    rfl
   ·rw [← setAt_len H k .dead, List.map_append]
    exact nth_app_new _ _
   ·refine nth_app_left ?_
    rw [nth_set_other]
    ·exact h
    ·rintro rfl
     exact hj _ rfl
   ·have := nth_lt' h
    cases q
    omega
theorem Bld.lt {H : List AB} {b : Nat} {bs : List UInt8} (h : Bld H b bs) : b < H.length := by
 rcases h with ⟨_, a, _, h⟩ | ⟨_, k, _, h, _⟩ <;> exact nth_lt' h
theorem Bld.buf {H : List AB} {b : Nat} {bs : List UInt8} (h : Bld H b bs) : ∃ a v, (a = .v (.pointer none) ∨ a = .ptr b 0) ∧ nth H b = some (.cells (69, true) [a, v]) ∧ (∀ n, v ≠ .ms b 0 n 1) ∧ BufV (setAt H b (.cells (69, true) [.ptr b 0, v])) v bs := by
 rcases h with ⟨rfl, a, ha, h⟩ | ⟨hne, k, hkb, h, hk⟩
 ·exact ⟨a, _, ha, h, (fun n q => by cases q), .inl ⟨rfl, rfl⟩⟩
 ·exact ⟨_, _, .inr rfl, h, (fun n q => by cases q; exact hkb rfl), .inr ⟨hne, k, rfl, by rw [nth_set_other (Ne.symm hkb)]; exact hk⟩⟩
theorem Bld.of {H : List AB} {b : Nat} {bs : List UInt8} {v : AV} (h : nth H b = some (.cells (69, true) [.ptr b 0, v])) (hv : BufV H v bs) (hb : ∀ n, v ≠ .ms b 0 n 1) : Bld H b bs := by
 rcases hv with ⟨rfl, rfl⟩ | ⟨hne, k, rfl, hk⟩
 ·exact .inl ⟨rfl, _, .inr rfl, h⟩
 ·exact .inr ⟨hne, k, fun q => hb _ (by rw [q]), h, hk⟩
theorem BufV.set {H : List AB} {v : AV} {bs : List UInt8} (hv : BufV H v bs) {b : Nat} (hb : ∀ n, v ≠ .ms b 0 n 1) (A : AB) : BufV (setAt H b A) v bs := by
 rcases hv with ⟨rfl, rfl⟩ | ⟨hne, k, rfl, hk⟩
 ·exact .inl ⟨rfl, rfl⟩
 ·exact .inr ⟨hne, k, rfl, by rw [nth_set_other (fun q => hb _ (by rw [q]))]; exact hk⟩
theorem op_append {K : Cfg} {f : FuncId} {o : Oper} {R : List AV} {own own' : Nat → Nat} {H H' : List AB} {t t2 d : TypeId} {a c : Operand} {ts : Array TypeId} {v w r : AV} (ho : o.op = .call { callee := .builtin .append, args := #[a, c], argTypes := ts }) (hd : o.dst = some d) (ht : ts.toList = [t, t2]) (hu2 : (∃ e, K.P.underlying t2 = some (.slice e)) ∨ K.P.underlying t2 = some .string) (ha : evalO K R a = some v) (hx : evalO K R c = some w) (hr : aAppend K f d own H t v w [] = some (.val r own' H', [], [])) : aOp K f ⟨R, own, H⟩ o [] = some (.val r own' H', [], []) := by
 have hm : mapO (evalO K R) [a, c] = some [v, w] := by simp [mapO, ha, hx]
 rcases hu2 with ⟨e, hu2⟩ | hu2
 ·simp only [aOp, ho, ht, hm, aBuiltin, hu2, hd, Option.getD_some, hr]
 ·simp only [aOp, ho, ht, hm, aBuiltin, hu2, hd, Option.getD_some, hr]
set_option maxHeartbeats 2000000 in
theorem ws_tells (H : List AB) (b : Nat) (bs s : List UInt8) (hb : Bld H b bs) (hl : bs.length + s.length ≤ 140737488355328) : Tells (Kp x) 32 [.ptr b 0, .str s] H fun r H' => Bld H' b (bs ++ s) := by
 refine Tells.mem (c := _) Tryz.func32 rfl (args' := [.ptr b 0, .str s]) (m := 17) rfl rfl rfl rfl rfl ?_
 obtain ⟨a, v, ha, hn, hvb, hv⟩ := hb.buf
 (repeat (first|(with_reducible first|apply jA|apply jC|apply jD|apply jE|apply jF|apply jG|apply jH|apply jI|apply jJ|apply jK|apply jL|apply jM|apply jN|apply jO)|(with_reducible apply SeqQ.id;refine SeqQ.norm (by first|(simp only [j0];rfl)|rfl) ?_)|with_reducible refine jP (by decide) ?_|((first|((with_reducible first|apply jm|apply jn|apply jb|apply ju);repeat rfl)|((with_reducible apply jk);exact u9;rfl));refine jT (by first|(simp only [j0];rfl)|rfl) ?_)))
 refine Wo.doCall rfl rfl (op_call (args := [.ptr b 0]) rfl rfl) ((check_tells H b a v ha hn).mono ?_)
 rintro r1 H1 rfl
 have hn1 := nth_set_same (b := AB.cells (69, true) [.ptr b 0, v]) hn
 generalize setAt H b (.cells (69, true) [.ptr b 0, v]) = H1 at *
 (repeat (first|(with_reducible first|apply jA|apply jC|apply jD|apply jE|apply jF|apply jG|apply jH|apply jI|apply jJ|apply jK|apply jL|apply jM|apply jN|apply jO)|(with_reducible apply SeqQ.id;refine SeqQ.norm (by first|(simp only [j0];rfl)|rfl) ?_)|with_reducible refine jP (by decide) ?_|((first|((with_reducible first|apply jm|apply jn|apply jb|apply ju);repeat rfl)|((with_reducible apply jk);exact u9;rfl));refine jT (by first|(simp only [j0];rfl)|rfl) ?_)))
 refine Wo.doVal rfl rfl (op_nilCheck rfl rfl) ?_
 refine Wo.doVal rfl rfl (op_fieldAddr rfl rfl (fb1 _)) ?_
 refine Wo.doVal rfl rfl (op_load_ptr (v := v) rfl rfl hn1 (take_one ag67 sz67)) ?_
 rw [hv.plain.1]
 (repeat (first|(with_reducible first|apply jA|apply jC|apply jD|apply jE|apply jF|apply jG|apply jH|apply jI|apply jJ|apply jK|apply jL|apply jM|apply jN|apply jO)|(with_reducible apply SeqQ.id;refine SeqQ.norm (by first|(simp only [j0];rfl)|rfl) ?_)|with_reducible refine jP (by decide) ?_|((first|((with_reducible first|apply jm|apply jn|apply jb|apply ju);repeat rfl)|((with_reducible apply jk);exact u9;rfl));refine jT (by first|(simp only [j0];rfl)|rfl) ?_)))
 obtain ⟨v', H2, hop, hv', hfr⟩ := app_bytes (x := x) (f := 32) (d := 14) (own := fun _ => 0) (w := .str s) rfl hv rfl hl
 refine Wo.doVal rfl rfl (op_append rfl rfl rfl (.inr u9) rfl rfl hop) ?_
 obtain ⟨hn2, hvb'⟩ := hfr b _ hvb hn1
 refine Wo.doVal rfl rfl (op_nilCheck rfl rfl) ?_
 refine Wo.doVal rfl rfl (op_fieldAddr rfl rfl (fb1 _)) ?_
 refine Wo.doSkip rfl rfl (op_store rfl rfl rfl (st67 hv'.plain.1 hv'.plain.2.1 hv'.plain.2.2 hn2)) ?_
 (repeat (first|(with_reducible first|apply jA|apply jC|apply jD|apply jE|apply jF|apply jG|apply jH|apply jI|apply jJ|apply jK|apply jL|apply jM|apply jN|apply jO)|(with_reducible apply SeqQ.id;refine SeqQ.norm (by first|(simp only [j0];rfl)|rfl) ?_)|with_reducible refine jP (by decide) ?_|((first|((with_reducible first|apply jm|apply jn|apply jb|apply ju);repeat rfl)|((with_reducible apply jk);exact u9;rfl));refine jT (by first|(simp only [j0];rfl)|rfl) ?_)))
 refine EndQ.ret rfl ?_
 exact Bld.of (nth_set_same hn2) (hv'.set hvb' _) hvb'
set_option maxHeartbeats 2000000 in
theorem wb_tells (H : List AB) (b : Nat) (bs : List UInt8) (c : UInt8) (hb : Bld H b bs) (hl : bs.length + 1 ≤ 140737488355328) : Tells (Kp x) 34 [.ptr b 0, u8v c] H fun r H' => Bld H' b (bs ++ [c]) := by
 refine Tells.mem (c := _) Tryz.func34 rfl (args' := [.ptr b 0, u8v c]) (m := 15) rfl rfl rfl rfl rfl ?_
 obtain ⟨a, v, ha, hn, hvb, hv⟩ := hb.buf
 (repeat (first|(with_reducible first|apply jA|apply jC|apply jD|apply jE|apply jF|apply jG|apply jH|apply jI|apply jJ|apply jK|apply jL|apply jM|apply jN|apply jO)|(with_reducible apply SeqQ.id;refine SeqQ.norm (by first|(simp only [j0];rfl)|rfl) ?_)|with_reducible refine jP (by decide) ?_|((first|((with_reducible first|apply jm|apply jn|apply jb|apply ju);repeat rfl)|((with_reducible apply jk);exact u9;rfl));refine jT (by first|(simp only [j0];rfl)|rfl) ?_)))
 refine Wo.doCall rfl rfl (op_call (args := [.ptr b 0]) rfl rfl) ((check_tells H b a v ha hn).mono ?_)
 rintro r1 H1 rfl
 have hn1 := nth_set_same (b := AB.cells (69, true) [.ptr b 0, v]) hn
 generalize setAt H b (.cells (69, true) [.ptr b 0, v]) = H1 at *
 (repeat (first|(with_reducible first|apply jA|apply jC|apply jD|apply jE|apply jF|apply jG|apply jH|apply jI|apply jJ|apply jK|apply jL|apply jM|apply jN|apply jO)|(with_reducible apply SeqQ.id;refine SeqQ.norm (by first|(simp only [j0];rfl)|rfl) ?_)|with_reducible refine jP (by decide) ?_|((first|((with_reducible first|apply jm|apply jn|apply jb|apply ju);repeat rfl)|((with_reducible apply jk);exact u9;rfl));refine jT (by first|(simp only [j0];rfl)|rfl) ?_)))
 refine Wo.doVal rfl rfl (op_nilCheck rfl rfl) ?_
 refine Wo.doVal rfl rfl (op_fieldAddr rfl rfl (fb1 _)) ?_
 refine Wo.doVal rfl rfl (op_load_ptr (v := v) rfl rfl hn1 (take_one ag67 sz67)) ?_
 rw [hv.plain.1]
 (repeat (first|(with_reducible first|apply jA|apply jC|apply jD|apply jE|apply jF|apply jG|apply jH|apply jI|apply jJ|apply jK|apply jL|apply jM|apply jN|apply jO)|(with_reducible apply SeqQ.id;refine SeqQ.norm (by first|(simp only [j0];rfl)|rfl) ?_)|with_reducible refine jP (by decide) ?_|((first|((with_reducible first|apply jm|apply jn|apply jb|apply ju);repeat rfl)|((with_reducible apply jk);exact u9;rfl));refine jT (by first|(simp only [j0];rfl)|rfl) ?_)))
 refine Wo.doVal rfl rfl (op_buildSlice (qs := [(0, u8v c)]) rfl rfl rfl (build_one u67 sz5 z5 rfl rfl rfl rfl rfl)) ?_
 obtain ⟨v', H2, hop, hv', hfr⟩ := app_bytes (x := x) (f := 34) (d := 14) (own := fun _ => 0) (w := .sl [u8v c] .full) (ys := [c]) rfl hv rfl hl
 refine Wo.doVal rfl rfl (op_append rfl rfl rfl (.inl ⟨_, u67⟩) rfl rfl hop) ?_
 obtain ⟨hn2, hvb'⟩ := hfr b _ hvb hn1
 refine Wo.doVal rfl rfl (op_nilCheck rfl rfl) ?_
 refine Wo.doVal rfl rfl (op_fieldAddr rfl rfl (fb1 _)) ?_
 refine Wo.doSkip rfl rfl (op_store rfl rfl rfl (st67 hv'.plain.1 hv'.plain.2.1 hv'.plain.2.2 hn2)) ?_
 (repeat (first|(with_reducible first|apply jA|apply jC|apply jD|apply jE|apply jF|apply jG|apply jH|apply jI|apply jJ|apply jK|apply jL|apply jM|apply jN|apply jO)|(with_reducible apply SeqQ.id;refine SeqQ.norm (by first|(simp only [j0];rfl)|rfl) ?_)|with_reducible refine jP (by decide) ?_|((first|((with_reducible first|apply jm|apply jn|apply jb|apply ju);repeat rfl)|((with_reducible apply jk);exact u9;rfl));refine jT (by first|(simp only [j0];rfl)|rfl) ?_)))
 refine EndQ.ret rfl ?_
 exact Bld.of (nth_set_same hn2) (hv'.set hvb' _) hvb'
end
end Go.Proofs
end
section
namespace Go.Tm
variable {K : Cfg} {f : FuncId} {o : Oper} {R : List AV} {own : Nat → Nat} {H : List AB}
theorem all_byte {p : Nat → Bool} (h : (List.range 256).all p = true) {n : Nat} (hn : n < 256) : p n = true := List.all_eq_true.1 h n (List.mem_range.2 hn)
theorem byte_tells (hs : K.sym = false) (har : K.ar = Ar.real) {n : Nat} {bs : List AV} {P : Nat → Option (AV × List AB) → Bool} {Q : Nat → AV → Prop} (e1 : K.libv f = none) (e2 : K.lib f = none) (e3 : K.vals f = true) (hcl : AV.closedL bs = true) (h : ((List.range 256).all fun c => P c (callF K (n + 1) f (bs ++ [.v (.int .u8 c)]) [])) = true) (hP : ∀ c r, P c r = true → ∃ v, r = some (v, []) ∧ Q c v) (c : UInt8) (H : List AB) : Tells K f (bs ++ [u8v c]) H fun r H' => H' = H ∧ Q c.toNat r := by
 obtain ⟨v, hv, hq⟩ := hP _ _ (all_byte h c.toNat_lt)
 have hc2 : AV.closedL (bs ++ [u8v c]) = true := by
  have : ∀ l : List AV, AV.closedL l = true → AV.closedL (l ++ [u8v c]) = true := by
   intro l
   induction l with
   | nil => intro _; rfl
   | cons a r ih =>
    intro q
    simp only [AV.closedL, Bool.and_eq_true, List.cons_append] at q ⊢
    exact ⟨q.1, ih q.2⟩
  exact this bs hcl
 refine (Tells.runv hs har e1 e2 (by rw [e3, hc2]; rfl) hv).mono ?_
 rintro r H' ⟨rfl, rfl⟩
 exact ⟨rfl, hq⟩
theorem op_conv_chars {s d e : TypeId} {x : Operand} {l : List UInt8} (ho : o.op = .convert s d x) (h1 : K.P.underlying s = some .string) (h2 : K.P.underlying d = some (.slice e)) (h3 : K.P.underlying e = some (.int .u8)) (hx : evalO K R x = some (.str l)) : aOp K f ⟨R, own, H⟩ o [] = some (.val (.sl (l.map u8v) .unk) own H, [], []) := by
 refine op_conv_val (r := .sl (l.map u8v) .unk) ho hx ?_ ?_ ?_
 ·simp only [aUnsafe, h1, h2]
 ·simp only [aConvertM, h1, h2]
 ·simp only [aConvert, h1, h2, h3]
theorem Wo.mid {Q : AX → St → Prop} {ops : Array Oper} {l : List Oper} (P : St → Prop) (h : Wo K f ops l R own H fun e s => e = .normal ∧ P s) (hn : ∀ R own H, P ⟨R, own, H⟩ → Q .normal ⟨R, own, H⟩) : Wo K f ops l R own H Q :=
 W.mono h fun s hs => by
  obtain ⟨R, own, H⟩ := s
  exact hn R own H hs.2
theorem dead_norm {R R' : List AV} {F : (Nat → AV) → List AV} (e : R = R') (h : ∃ d, R' = F d) : ∃ d, R = F d := by subst e; exact h
theorem Wo.isMove {Q : AX → St → Prop} {ops : Array Oper} {l : List Oper} {a : Option Tmp} {x : Operand} {c : TypeId} {d : String} {e : Array Edge} (h : Wo K f ops (⟨a, .move x, c, d, e, none⟩ :: l) R own H Q) : Wo K f ops (⟨a, .move x, c, d, e, none⟩ :: l) R own H Q := h
theorem Wo.isAssign {Q : AX → St → Prop} {ops : Array Oper} {l : List Oper} {a : Option Tmp} {x : Operand} {c : TypeId} {d : String} {e : Array Edge} (h : Wo K f ops (⟨a, .assign x, c, d, e, none⟩ :: l) R own H Q) : Wo K f ops (⟨a, .assign x, c, d, e, none⟩ :: l) R own H Q := h
theorem Wo.isBin {Q : AX → St → Prop} {ops : Array Oper} {l : List Oper} {a : Option Tmp} {p : BinOp} {t u : TypeId} {x y : Operand} {c : TypeId} {d : String} {e : Array Edge} (h : Wo K f ops (⟨a, .binOp p t x y u, c, d, e, none⟩ :: l) R own H Q) : Wo K f ops (⟨a, .binOp p t x y u, c, d, e, none⟩ :: l) R own H Q := h
theorem Wo.isLen {Q : AX → St → Prop} {ops : Array Oper} {l : List Oper} {a : Option Tmp} {xs : Array Operand} {ts : Array TypeId} {c : TypeId} {d : String} {e : Array Edge} (h : Wo K f ops (⟨a, .call { callee := .builtin .len, args := xs, argTypes := ts }, c, d, e, none⟩ :: l) R own H Q) : Wo K f ops (⟨a, .call { callee := .builtin .len, args := xs, argTypes := ts }, c, d, e, none⟩ :: l) R own H Q := h
theorem Wc.condT (hs : K.sym = false) {Q : AX → St → Prop} {c : Operand} {a b : Code} {t : Bool} (hc : evalO K R c = some (.v (.bool t))) (ht : t = true) (h : Wc K f a R own H Q) : Wc K f (.cond c a b) R own H Q := Wc.cond hs hc (fun _ => h) (fun q => absurd (ht.symm.trans q) (by simp))
theorem Wc.condF (hs : K.sym = false) {Q : AX → St → Prop} {c : Operand} {a b : Code} {t : Bool} (hc : evalO K R c = some (.v (.bool t))) (ht : t = false) (h : Wc K f b R own H Q) : Wc K f (.cond c a b) R own H Q := Wc.cond hs hc (fun q => absurd (ht.symm.trans q) (by simp)) (fun _ => h)
end Go.Tm
namespace Go.Proofs
open Go.Tm
set_option maxRecDepth 100000
def isInt (k : IntKind) (n : Nat) : Option (AV × List AB) → Bool
 | some (.v (.int k' m), []) => decide (k' = k) && decide (m = (n : Int))
 | _ => false
theorem isInt_of {k : IntKind} {n : Nat} {r : Option (AV × List AB)} (h : isInt k n r = true) : ∃ v, r = some (v, []) ∧ v = .v (.int k n) := by
 unfold isInt at h
 split at h
 ·simp only [Bool.and_eq_true, decide_eq_true_eq] at h
  obtain ⟨rfl, rfl⟩ := h
  exact ⟨_, rfl, rfl⟩
 ·cases h
def isBool (b : Bool) : Option (AV × List AB) → Bool
 | some (.v (.bool b'), []) => decide (b' = b)
 | _ => false
theorem isBool_of {b : Bool} {r : Option (AV × List AB)} (h : isBool b r = true) : ∃ v, r = some (v, []) ∧ v = .v (.bool b) := by
 unfold isBool at h
 split at h
 ·simp only [decide_eq_true_eq] at h
  subst h
  exact ⟨_, rfl, rfl⟩
 ·cases h
def hexOf (c : Nat) : Nat := if 48 ≤ c ∧ c ≤ 57 then c - 48 else if 97 ≤ c ∧ c ≤ 102 then c - 87 else if 65 ≤ c ∧ c ≤ 70 then c - 55 else 16
def letter (c : Nat) : Bool := (decide (65 ≤ c) && decide (c ≤ 90)) || (decide (97 ≤ c) && decide (c ≤ 122))
def digit (c : Nat) : Bool := decide (48 ≤ c) && decide (c ≤ 57)
def markAt (c : Nat) : Int := if c = 45 then 0 else if c = 46 then 1 else if c = 95 then 2 else if c = 126 then 3 else -1
theorem lower_runs (x : Value) : ((List.range 256).all fun c => isInt .u8 (c ||| 32) (callF (Kp x) 5 67 ([] ++ [.v (.int .u8 c)]) [])) = true := by kernel_rfl
section
variable {x : Value}
theorem lower_tells (c : UInt8) (H : List AB) : Tells (Kp x) 67 [u8v c] H fun r H' => H' = H ∧ r = .v (.int .u8 ((c.toNat ||| 32 : Nat) : Int)) := byte_tells rfl rfl rfl rfl rfl rfl (lower_runs x) (fun _ _ h => isInt_of h) c H
end
end Go.Proofs
end
