/- The writer: a Builder over the tree machine. -/
import Derived.Test.YtaefgigfoifjaaaGreatDoorCkCfg
set_option linter.unusedVariables false
set_option linter.unusedSimpArgs false
set_option linter.unusedSectionVars false
namespace Go.Proofs.Ck
open Go.Tm
set_option maxRecDepth 100000
def Old (n : Nat) (H H' : List AB) : Prop := H.length ≤ H'.length ∧ ∀ j, j < n → nth H' j = nth H j
theorem Old.refl (n : Nat) (H : List AB) : Old n H H := ⟨Nat.le_refl _, fun _ _ => rfl⟩
theorem Old.trans {n : Nat} {H H1 H2 : List AB} (h : Old n H H1) (h' : Old n H1 H2) : Old n H H2 := ⟨Nat.le_trans h.1 h'.1, fun j hj => (h'.2 j hj).trans (h.2 j hj)⟩
theorem Old.mono {n m : Nat} {H H' : List AB} (h : Old n H H') (hm : m ≤ n) : Old m H H' := ⟨h.1, fun j hj => h.2 j (by omega)⟩
theorem nth_set_same {α : Type} : ∀ {l : List α} {i : Nat} {a b : α}, nth l i = some a → nth (setAt l i b) i = some b
 | [], _, _, _, h => by cases h
 | _ :: _, 0, _, _, _ => rfl
 | _ :: r, i + 1, _, _, h => nth_set_same (l := r) h
theorem nth_set_other {α : Type} : ∀ {l : List α} {i j : Nat} {b : α}, i ≠ j → nth (setAt l i b) j = nth l j
 | [], _, _, _, _ => rfl
 | _ :: _, 0, 0, _, h => absurd rfl h
 | _ :: _, 0, _ + 1, _, _ => rfl
 | _ :: _, _ + 1, 0, _, _ => rfl
 | _ :: r, i + 1, j + 1, _, h => nth_set_other (l := r) (by omega)
theorem nth_lt' {α : Type} : ∀ {l : List α} {i : Nat} {a : α}, nth l i = some a → i < l.length
 | [], _, _, h => by cases h
 | _ :: _, 0, _, _ => by simp
 | _ :: r, i + 1, _, h => by have := nth_lt' (l := r) h; simp; omega
theorem nth_app_lt {α : Type} : ∀ {l m : List α} {i : Nat}, i < l.length → nth (l ++ m) i = nth l i
 | [], _, _, h => by simp at h
 | _ :: _, _, 0, _ => rfl
 | _ :: r, m, i + 1, h => nth_app_lt (l := r) (m := m) (by simpa using h)
theorem nth_app_left {α : Type} {l m : List α} {i : Nat} {a : α} (h : nth l i = some a) : nth (l ++ m) i = some a := (nth_app_lt (nth_lt' h)).trans h
theorem nth_app_new {α : Type} : ∀ (l : List α) (a : α), nth (l ++ [a]) l.length = some a
 | [], _ => rfl
 | _ :: r, a => nth_app_new r a
theorem set_self {α : Type} : ∀ {l : List α} {i : Nat} {a : α}, nth l i = some a → setAt l i a = l
 | [], _, _, h => by cases h
 | _ :: _, 0, _, h => by cases h; rfl
 | _ :: r, i + 1, _, h => by simp only [setAt]; rw [set_self (l := r) h]
theorem setAt_len {α : Type} : ∀ (l : List α) (i : Nat) (a : α), (setAt l i a).length = l.length
 | [], _, _ => rfl
 | _ :: _, 0, _ => rfl
 | _ :: r, i + 1, a => by simp only [setAt, List.length_cons, setAt_len r i a]
theorem Old.set {n b : Nat} {H : List AB} (hb : n ≤ b) (A : AB) : Old n H (setAt H b A) := ⟨by rw [setAt_len]; exact Nat.le_refl _, fun j hj => nth_set_other (by omega)⟩
theorem Old.app {n : Nat} {H : List AB} (hn : n ≤ H.length) (l : List AB) : Old n H (H ++ l) := ⟨by simp, fun j hj => nth_app_lt (by omega)⟩
theorem Old.of {n : Nat} {H H' : List AB} (h1 : ∀ j, j < n → nth H' j = nth H j) (h2 : H'.length = H.length) : Old n H H' := ⟨by omega, h1⟩
section
theorem u37 : Kk.P.underlying 37 = some (.slice 5) := Tryz.underlying37
theorem u9 : Kk.P.underlying 9 = some .string := Tryz.underlying9
theorem u70 : Kk.P.underlying 70 = some (.pointer 72) := Tryz.underlying70
theorem u188 : Kk.P.underlying 188 = some .unsafePointer := Tryz.underlying188
theorem sz5 : tSize Kk.P 5 = some 1 := by kernel_rfl
theorem z5 : tZero Kk.P 5 = some (.v (.int .u8 0)) := by kernel_rfl
theorem in5 : ∃ info, Kk.P.info? 5 = some info ∧ info.bytes = 1 := by
 have h : (Kk.P.info? 5).map (·.bytes) = some 1 := by kernel_rfl
 cases hi : Kk.P.info? 5 with
 | none => rw [hi] at h; cases h
 | some i => rw [hi] at h; exact ⟨i, rfl, by simpa using h⟩
theorem sz72 : tSize Kk.P 72 = some 2 := by kernel_rfl
theorem lies72 : liesAt Kk.P Kk.P.depth 74 (2 / Kk.P.cellsOf 74) 0 72 1 = true := by kernel_rfl
theorem lies72' : liesAt Kk.P Kk.P.depth 72 (2 / Kk.P.cellsOf 72) 0 72 1 = true := by kernel_rfl
def isB (t : Nat) : Prop := t = 74 ∨ t = 72
theorem cv1 {H : List AB} {b t : Nat} {a buf : AV} (hb : nth H b = some (.cells (t, true) [a, buf])) : aUnsafe Kk H 70 188 (.ptr b 0) = some (.ptr b 0) := by
 simp only [aUnsafe, u70, u188, hb, sz72]; rfl
theorem cv2 {H : List AB} {b t : Nat} (ht : isB t) {a buf : AV} (hb : nth H b = some (.cells (t, true) [a, buf])) : aUnsafe Kk H 188 70 (.ptr b 0) = some (.ptr b 0) := by
 simp only [aUnsafe, u70, u188, hb, sz72]
 rcases ht with rfl | rfl
 ·rw [show ([a, buf] : List AV).length = 2 from rfl, lies72]; rfl
 ·rw [show ([a, buf] : List AV).length = 2 from rfl, lies72']; rfl
theorem ptr_ne (b : Nat) (p q : Operand) : aBinOp Kk .neq 70 p q (.ptr b 0) (.ptr b 0) [] = some (.v (.bool false), [], []) := by
 simp only [aBinOp, aNilEq, u70, sz72]
 simp; rfl
def Bld (n : Nat) (H : List AB) (b : Nat) (bs : Bs) : Prop := n ≤ b ∧ ∃ t, isB t ∧
 ((bs = [] ∧ ∃ a, (a = .v (.pointer none) ∨ a = .ptr b 0) ∧ nth H b = some (.cells (t, true) [a, .sl [] .nil])) ∨
 (bs ≠ [] ∧ ∃ k, k ≠ b ∧ n ≤ k ∧ nth H b = some (.cells (t, true) [.ptr b 0, .ms k 0 bs.length 1]) ∧ nth H k = some (.cells (5, false) (bs.map u8v))))
theorem check_tells (H : List AB) (b t : Nat) (ht : isB t) (a buf : AV) (ha : a = .v (.pointer none) ∨ a = .ptr b 0) (hb : nth H b = some (.cells (t, true) [a, buf])) : Tells Kk 151 [.ptr b 0] H fun r H' => H' = setAt H b (.cells (t, true) [.ptr b 0, buf]) := by
 refine Tells.mem (c := _) Tryz.func151 rfl (args' := [.ptr b 0]) (m := 19) rfl rfl rfl rfl rfl ?_
 have hua : a.unown = a := by rcases ha with rfl | rfl <;> rfl
 (repeat(first|with_reducible refine jZ ?_|(with_reducible apply jW;refine jX (by first|(simp only [j0,jU];rfl)|rfl) ?_)|with_reducible apply jE|with_reducible refine jP (by decide) ?_|(with_reducible apply jQ;first|refine kR rfl rfl ?_|refine kT rfl rfl ?_)|((first|((with_reducible apply kv);rfl)|((with_reducible apply ky);rfl;rfl)|((with_reducible apply kz);rfl;rfl)|((with_reducible apply kl);rfl;assumption;rfl;(first|assumption|rfl)));refine jT (by first|(simp only [j0,jU];rfl)|rfl) ?_)))
 rcases ha with rfl | rfl
 ·(repeat(first|with_reducible refine jZ ?_|(with_reducible apply jW;refine jX (by first|(simp only [j0,jU];rfl)|rfl) ?_)|with_reducible apply jE|with_reducible refine jP (by decide) ?_|(with_reducible apply jQ;first|refine kR rfl rfl ?_|refine kT rfl rfl ?_)|((first|((with_reducible apply kv);rfl)|((with_reducible apply ky);rfl;rfl)|((with_reducible apply kz);rfl;rfl)|((with_reducible apply kl);rfl;assumption;rfl;(first|assumption|rfl)));refine jT (by first|(simp only [j0,jU];rfl)|rfl) ?_)))
  refine Wo.doVal rfl rfl (op_conv_unsafe rfl rfl (cv1 hb)) ?_
  refine kC rfl rfl (Tells.libv (g := toldSame) (r := .ptr b 0) rfl rfl ?_)
  refine Wo.doVal rfl rfl (op_conv_unsafe rfl rfl (cv2 ht hb)) ?_
  (repeat(first|with_reducible refine jZ ?_|(with_reducible apply jW;refine jX (by first|(simp only [j0,jU];rfl)|rfl) ?_)|with_reducible apply jE|with_reducible refine jP (by decide) ?_|(with_reducible apply jQ;first|refine kR rfl rfl ?_|refine kT rfl rfl ?_)|((first|((with_reducible apply kv);rfl)|((with_reducible apply ky);rfl;rfl)|((with_reducible apply kz);rfl;rfl)|((with_reducible apply kl);rfl;assumption;rfl;(first|assumption|rfl)));refine jT (by first|(simp only [j0,jU];rfl)|rfl) ?_)))
  refine kS rfl rfl rfl hb rfl rfl rfl rfl rfl ?_
  intro H' hH _ _ _
  (repeat(first|with_reducible refine jZ ?_|(with_reducible apply jW;refine jX (by first|(simp only [j0,jU];rfl)|rfl) ?_)|with_reducible apply jE|with_reducible refine jP (by decide) ?_|(with_reducible apply jQ;first|refine kR rfl rfl ?_|refine kT rfl rfl ?_)|((first|((with_reducible apply kv);rfl)|((with_reducible apply ky);rfl;rfl)|((with_reducible apply kz);rfl;rfl)|((with_reducible apply kl);rfl;assumption;rfl;(first|assumption|rfl)));refine jT (by first|(simp only [j0,jU];rfl)|rfl) ?_)))
  exact EndQ.normal rfl hH
 ·(repeat(first|with_reducible refine jZ ?_|(with_reducible apply jW;refine jX (by first|(simp only [j0,jU];rfl)|rfl) ?_)|with_reducible apply jE|with_reducible refine jP (by decide) ?_|(with_reducible apply jQ;first|refine kR rfl rfl ?_|refine kT rfl rfl ?_)|((first|((with_reducible apply kv);rfl)|((with_reducible apply ky);rfl;rfl)|((with_reducible apply kz);rfl;rfl)|((with_reducible apply kl);rfl;assumption;rfl;(first|assumption|rfl)));refine jT (by first|(simp only [j0,jU];rfl)|rfl) ?_)))
  refine Wo.doVal rfl rfl (op_binv rfl rfl rfl (ptr_ne b _ _)) ?_
  (repeat(first|with_reducible refine jZ ?_|(with_reducible apply jW;refine jX (by first|(simp only [j0,jU];rfl)|rfl) ?_)|with_reducible apply jE|with_reducible refine jP (by decide) ?_|(with_reducible apply jQ;first|refine kR rfl rfl ?_|refine kT rfl rfl ?_)|((first|((with_reducible apply kv);rfl)|((with_reducible apply ky);rfl;rfl)|((with_reducible apply kz);rfl;rfl)|((with_reducible apply kl);rfl;assumption;rfl;(first|assumption|rfl)));refine jT (by first|(simp only [j0,jU];rfl)|rfl) ?_)))
  refine EndQ.normal rfl ?_
  exact (set_self hb).symm
def BufV (n : Nat) (H : List AB) (v : AV) (bs : Bs) : Prop :=
 (bs = [] ∧ v = .sl [] .nil) ∨ (bs ≠ [] ∧ ∃ k, n ≤ k ∧ v = .ms k 0 bs.length 1 ∧ nth H k = some (.cells (5, false) (bs.map u8v)))
theorem BufV.plain {n : Nat} {H : List AB} {v : AV} {bs : Bs} (h : BufV n H v bs) : v.unown = v ∧ v.cells = [v] ∧ v.one = true := by
 rcases h with ⟨_, rfl⟩ | ⟨_, k, _, rfl, _⟩ <;> exact ⟨rfl, rfl, rfl⟩
theorem room_ok {n : Nat} (h : n ≤ 140737488355328) : roomOk n 1 = true := by
 simp only [roomOk, decide_eq_true_eq]; omega
theorem app_bytes {n : Nat} {H : List AB} {v w : AV} {bs ys : Bs} {f : FuncId} {d : Nat} {own : Nat → Nat} (hn : n ≤ H.length) (hg : Kk.chg f d = true) (hv : BufV n H v bs) (hw : asEls H 1 w = some (ys.map u8v)) (hr : bs.length + ys.length ≤ 140737488355328) :
  ∃ v' H', aAppend Kk f d own H 37 v w [] = some (.val v' own H', [], []) ∧ BufV n H' v' (bs ++ ys) ∧ Old n H H' ∧ ∀ j A, (∀ n, v ≠ .ms j 0 n 1) → nth H j = some A → nth H' j = some A ∧ ∀ n, v' ≠ .ms j 0 n 1 := by
 obtain ⟨info, hi, hb⟩ := in5
 have hroom : roomOk (bs.length + ys.length) info.bytes = true := by rw [hb]; exact room_ok hr
 have hz : ((AV.v (Value.int .u8 0)).cells.length == 0 + 1) = true := rfl
 rcases hv with ⟨rfl, rfl⟩ | ⟨hne, k, hnk, rfl, hk⟩
 ·cases ys with
  | nil =>
   refine ⟨.sl [] .nil, H, ?_, .inl ⟨rfl, rfl⟩, Old.refl _ _, fun j A _ h => ⟨h, fun n q => by cases q⟩⟩
   simp only [aAppend, u37, hi, sz5, z5, hw, hz, hg]
   simp only [List.length_nil, List.map_nil, Nat.add_zero] at hroom ⊢
   refine (E.bind_nil (a := ()) (by show E.chk false _ [] = _; rw [hroom]; rfl)).trans ?_
   refine (E.bind_nil (a := ()) rfl).trans ?_
   exact (E.bind_nil (a := ()) rfl).trans rfl
  | cons y ys =>
   refine ⟨.ms H.length 0 (y :: ys).length 1, H ++ [.cells (5, false) ((y :: ys).map u8v)], ?_, .inr ⟨by simp, H.length, hn, rfl, nth_app_new _ _⟩, Old.app hn _, fun j A _ h => ⟨nth_app_left h, fun n q => ?_⟩⟩
   ·simp only [aAppend, u37, hi, sz5, z5, hw, hz, hg]
    have hfl : ((y :: ys).map u8v).flatMap AV.cells = (y :: ys).map u8v := by
     generalize y :: ys = l
     induction l with
     | nil => rfl
     | cons a r ih => simp only [List.map_cons, List.flatMap_cons, ih]; rfl
    refine (E.bind_nil (a := ()) (by rw [show roomOk _ info.bytes = true by simpa using hroom]; rfl)).trans ?_
    refine (E.bind_nil (a := ()) rfl).trans ?_
    refine (E.bind_nil (a := ()) rfl).trans ?_
    simp only [List.map_cons] at hfl ⊢
    rw [List.flatMap_nil, List.nil_append, hfl]
    simp only [List.length_cons, List.length_nil, List.length_map, Nat.zero_add]
    rfl
   ·have := nth_lt' h
    cases q
    omega
 ·cases ys with
  | nil =>
   refine ⟨.ms k 0 bs.length 1, H, ?_, .inr ⟨by simpa using hne, k, hnk, by simp, by simpa using hk⟩, Old.refl _ _, fun j A hj h => ⟨h, hj⟩⟩
   simp only [aAppend, u37, hi, sz5, z5, hw, hz, hk]
   simp only [List.length_nil, List.map_nil, Nat.add_zero] at hroom ⊢
   refine (E.bind_nil (a := ()) rfl).trans ?_
   refine (E.bind_nil (a := ()) rfl).trans ?_
   refine (E.bind_nil (a := ()) (by show E.chk false _ [] = _; simp [E.chk])).trans ?_
   exact (E.bind_nil (a := ()) (by show E.chk false _ [] = _; rw [hroom]; rfl)).trans rfl
  | cons y ys =>
   have hfl : ((y :: ys).map u8v).flatMap AV.cells = (y :: ys).map u8v := by
    generalize y :: ys = l
    induction l with
    | nil => rfl
    | cons a r ih => simp only [List.map_cons, List.flatMap_cons, ih]; rfl
   refine ⟨.ms H.length 0 (bs.length + (y :: ys).length) 1, setAt H k .dead ++ [.cells (5, false) (bs.map u8v ++ (y :: ys).map u8v)], ?_, .inr ⟨by simp, H.length, hn, by rw [List.length_append], ?_⟩, (Old.set hnk _).trans (Old.app (by rw [setAt_len]; exact hn) _), fun j A hj h => ⟨?_, fun n q => ?_⟩⟩
   ·simp only [aAppend, u37, hi, sz5, z5, hw, hz, hk]
    refine (E.bind_nil (a := ()) rfl).trans ?_
    refine (E.bind_nil (a := ()) rfl).trans ?_
    refine (E.bind_nil (a := ()) (by show E.chk false _ [] = _; simp [E.chk])).trans ?_
    refine (E.bind_nil (a := ()) (by rw [show roomOk _ info.bytes = true by simpa using hroom]; rfl)).trans ?_
    simp only [List.map_cons] at hfl ⊢
    rw [hfl]
    simp only [List.length_cons, List.length_map]
    rfl
   ·rw [← setAt_len H k .dead, List.map_append]
    exact nth_app_new _ _
   ·refine nth_app_left ?_
    rw [nth_set_other]
    ·exact h
    ·rintro rfl
     exact hj _ rfl
   ·have := nth_lt' h
    cases q
    omega
theorem Bld.lt {n : Nat} {H : List AB} {b : Nat} {bs : Bs} (h : Bld n H b bs) : b < H.length := by
 obtain ⟨_, t, _, ⟨_, a, _, h⟩ | ⟨_, k, _, _, h, _⟩⟩ := h <;> exact nth_lt' h
theorem Bld.buf {n : Nat} {H : List AB} {b : Nat} {bs : Bs} (h : Bld n H b bs) : ∃ t a v, isB t ∧ (a = .v (.pointer none) ∨ a = .ptr b 0) ∧ nth H b = some (.cells (t, true) [a, v]) ∧ (∀ n, v ≠ .ms b 0 n 1) ∧ BufV n (setAt H b (.cells (t, true) [.ptr b 0, v])) v bs := by
 obtain ⟨hb, t, ht, ⟨rfl, a, ha, h⟩ | ⟨hne, k, hkb, hnk, h, hk⟩⟩ := h
 ·exact ⟨t, a, _, ht, ha, h, (fun n q => by cases q), .inl ⟨rfl, rfl⟩⟩
 ·exact ⟨t, _, _, ht, .inr rfl, h, (fun n q => by cases q; exact hkb rfl), .inr ⟨hne, k, hnk, rfl, by rw [nth_set_other (Ne.symm hkb)]; exact hk⟩⟩
theorem Bld.of {n : Nat} {H : List AB} {b t : Nat} {bs : Bs} {v : AV} (hn : n ≤ b) (ht : isB t) (h : nth H b = some (.cells (t, true) [.ptr b 0, v])) (hv : BufV n H v bs) (hb : ∀ n, v ≠ .ms b 0 n 1) : Bld n H b bs := by
 refine ⟨hn, t, ht, ?_⟩
 rcases hv with ⟨rfl, rfl⟩ | ⟨hne, k, hnk, rfl, hk⟩
 ·exact .inl ⟨rfl, _, .inr rfl, h⟩
 ·exact .inr ⟨hne, k, fun q => hb _ (by rw [q]), hnk, h, hk⟩
theorem BufV.set {n : Nat} {H : List AB} {v : AV} {bs : Bs} (hv : BufV n H v bs) {b : Nat} (hb : ∀ n, v ≠ .ms b 0 n 1) {H' : List AB} (ho : ∀ j, j ≠ b → nth H' j = nth H j) : BufV n H' v bs := by
 rcases hv with ⟨rfl, rfl⟩ | ⟨hne, k, hnk, rfl, hk⟩
 ·exact .inl ⟨rfl, rfl⟩
 ·exact .inr ⟨hne, k, hnk, rfl, by rw [ho k (fun q => hb _ (by rw [q]))]; exact hk⟩
theorem Bld.old {n m : Nat} {H H' : List AB} {b : Nat} {bs : Bs} (h : Bld n H b bs) (hm : ∀ j, n ≤ j → j < H.length → nth H' j = nth H j) : Bld n H' b bs := by
 obtain ⟨hb, t, ht, h⟩ := h
 refine ⟨hb, t, ht, ?_⟩
 rcases h with ⟨rfl, a, ha, h⟩ | ⟨hne, k, hkb, hnk, h, hk⟩
 ·exact .inl ⟨rfl, a, ha, (hm b hb (nth_lt' h)).trans h⟩
 ·exact .inr ⟨hne, k, hkb, hnk, (hm b hb (nth_lt' h)).trans h, (hm k hnk (nth_lt' hk)).trans hk⟩
theorem op_append {K : Cfg} {f : FuncId} {o : Oper} {R : List AV} {own own' : Nat → Nat} {H H' : List AB} {t t2 d : TypeId} {a c : Operand} {ts : Array TypeId} {v w r : AV} (ho : o.op = .call { callee := .builtin .append, args := #[a, c], argTypes := ts }) (hd : o.dst = some d) (ht : ts.toList = [t, t2]) (hu2 : (∃ e, K.P.underlying t2 = some (.slice e)) ∨ K.P.underlying t2 = some .string) (ha : evalO K R a = some v) (hx : evalO K R c = some w) (hr : aAppend K f d own H t v w [] = some (.val r own' H', [], [])) : aOp K f ⟨R, own, H⟩ o [] = some (.val r own' H', [], []) := by
 have hm : mapO (evalO K R) [a, c] = some [v, w] := by simp [mapO, ha, hx]
 rcases hu2 with ⟨e, hu2⟩ | hu2
 ·simp only [aOp, ho, ht, hm, aBuiltin, hu2, hd, Option.getD_some, hr]
 ·simp only [aOp, ho, ht, hm, aBuiltin, hu2, hd, Option.getD_some, hr]
theorem ws_tells {n : Nat} (H : List AB) (b : Nat) (bs s : Bs) (hb : Bld n H b bs) (hl : bs.length + s.length ≤ 140737488355328) : Tells Kk 106 [.ptr b 0, .str s] H fun r H' => Bld n H' b (bs ++ s) ∧ Old n H H' := by
 refine Tells.mem (c := _) Tryz.func106 rfl (args' := [.ptr b 0, .str s]) (m := 17) rfl rfl rfl rfl rfl ?_
 obtain ⟨t, a, v, ht, ha, hn, hvb, hv⟩ := hb.buf
 have hbn := hb.1
 have hlt := hb.lt
 (repeat(first|with_reducible refine jZ ?_|(with_reducible apply jW;refine jX (by first|(simp only [j0,jU];rfl)|rfl) ?_)|with_reducible apply jE|with_reducible refine jP (by decide) ?_|(with_reducible apply jQ;first|refine kR rfl rfl ?_|refine kT rfl rfl ?_)|((first|((with_reducible apply kv);rfl)|((with_reducible apply ky);rfl;rfl)|((with_reducible apply kz);rfl;rfl)|((with_reducible apply kl);rfl;assumption;rfl;(first|assumption|rfl)));refine jT (by first|(simp only [j0,jU];rfl)|rfl) ?_)))
 refine kC rfl rfl ((check_tells H b t ht a v ha hn).mono ?_)
 rintro r1 H1 rfl
 have hn1 := nth_set_same (b := AB.cells (t, true) [.ptr b 0, v]) hn
 have ho1 := Old.set (H := H) hbn (.cells (t, true) [.ptr b 0, v])
 generalize setAt H b (.cells (t, true) [.ptr b 0, v]) = H1 at *
 have hvu := hv.plain.1
 (repeat(first|with_reducible refine jZ ?_|(with_reducible apply jW;refine jX (by first|(simp only [j0,jU];rfl)|rfl) ?_)|with_reducible apply jE|with_reducible refine jP (by decide) ?_|(with_reducible apply jQ;first|refine kR rfl rfl ?_|refine kT rfl rfl ?_)|((first|((with_reducible apply kv);rfl)|((with_reducible apply ky);rfl;rfl)|((with_reducible apply kz);rfl;rfl)|((with_reducible apply kl);rfl;assumption;rfl;(first|assumption|rfl)));refine jT (by first|(simp only [j0,jU];rfl)|rfl) ?_)))
 obtain ⟨v', H2, hop, hv', ho2, hfr⟩ := app_bytes (n := n) (f := 106) (d := 14) (own := fun _ => 0) (w := .str s) (by have := ho1.1; omega) rfl hv rfl hl
 refine Wo.doVal rfl rfl (op_append rfl rfl rfl (.inr u9) rfl rfl hop) ?_
 obtain ⟨hn2, hvb'⟩ := hfr b _ hvb hn1
 (repeat(first|with_reducible refine jZ ?_|(with_reducible apply jW;refine jX (by first|(simp only [j0,jU];rfl)|rfl) ?_)|with_reducible apply jE|with_reducible refine jP (by decide) ?_|(with_reducible apply jQ;first|refine kR rfl rfl ?_|refine kT rfl rfl ?_)|((first|((with_reducible apply kv);rfl)|((with_reducible apply ky);rfl;rfl)|((with_reducible apply kz);rfl;rfl)|((with_reducible apply kl);rfl;assumption;rfl;(first|assumption|rfl)));refine jT (by first|(simp only [j0,jU];rfl)|rfl) ?_)))
 refine kS rfl rfl rfl hn2 (by rw [hv'.plain.2.1]; try rfl) rfl (by rw [hv'.plain.2.1]; simp [allOne, hv'.plain.2.2]) hv'.plain.1 (by rw [hv'.plain.2.1]; try rfl) ?_
 intro H3 _ hn3 ho3 hl3
 (repeat(first|with_reducible refine jZ ?_|(with_reducible apply jW;refine jX (by first|(simp only [j0,jU];rfl)|rfl) ?_)|with_reducible apply jE|with_reducible refine jP (by decide) ?_|(with_reducible apply jQ;first|refine kR rfl rfl ?_|refine kT rfl rfl ?_)|((first|((with_reducible apply kv);rfl)|((with_reducible apply ky);rfl;rfl)|((with_reducible apply kz);rfl;rfl)|((with_reducible apply kl);rfl;assumption;rfl;(first|assumption|rfl)));refine jT (by first|(simp only [j0,jU];rfl)|rfl) ?_)))
 exact EndQ.ret rfl ⟨Bld.of hbn ht hn3 (hv'.set hvb' ho3) hvb', ho1.trans (ho2.trans (Old.of (fun j hj => ho3 j (by omega)) hl3))⟩
theorem wb_tells {n : Nat} (H : List AB) (b : Nat) (bs : Bs) (c : UInt8) (hb : Bld n H b bs) (hl : bs.length + 1 ≤ 140737488355328) : Tells Kk 145 [.ptr b 0, u8v c] H fun r H' => Bld n H' b (bs ++ [c]) ∧ Old n H H' := by
 refine Tells.mem (c := _) Tryz.func145 rfl (args' := [.ptr b 0, u8v c]) (m := 15) rfl rfl rfl rfl rfl ?_
 obtain ⟨t, a, v, ht, ha, hn, hvb, hv⟩ := hb.buf
 have hbn := hb.1
 have hlt := hb.lt
 (repeat(first|with_reducible refine jZ ?_|(with_reducible apply jW;refine jX (by first|(simp only [j0,jU];rfl)|rfl) ?_)|with_reducible apply jE|with_reducible refine jP (by decide) ?_|(with_reducible apply jQ;first|refine kR rfl rfl ?_|refine kT rfl rfl ?_)|((first|((with_reducible apply kv);rfl)|((with_reducible apply ky);rfl;rfl)|((with_reducible apply kz);rfl;rfl)|((with_reducible apply kl);rfl;assumption;rfl;(first|assumption|rfl)));refine jT (by first|(simp only [j0,jU];rfl)|rfl) ?_)))
 refine kC rfl rfl ((check_tells H b t ht a v ha hn).mono ?_)
 rintro r1 H1 rfl
 have hn1 := nth_set_same (b := AB.cells (t, true) [.ptr b 0, v]) hn
 have ho1 := Old.set (H := H) hbn (.cells (t, true) [.ptr b 0, v])
 generalize setAt H b (.cells (t, true) [.ptr b 0, v]) = H1 at *
 have hvu := hv.plain.1
 (repeat(first|with_reducible refine jZ ?_|(with_reducible apply jW;refine jX (by first|(simp only [j0,jU];rfl)|rfl) ?_)|with_reducible apply jE|with_reducible refine jP (by decide) ?_|(with_reducible apply jQ;first|refine kR rfl rfl ?_|refine kT rfl rfl ?_)|((first|((with_reducible apply kv);rfl)|((with_reducible apply ky);rfl;rfl)|((with_reducible apply kz);rfl;rfl)|((with_reducible apply kl);rfl;assumption;rfl;(first|assumption|rfl)));refine jT (by first|(simp only [j0,jU];rfl)|rfl) ?_)))
 obtain ⟨v', H2, hop, hv', ho2, hfr⟩ := app_bytes (n := n) (f := 145) (d := 14) (own := fun _ => 0) (w := .sl [u8v c] .full) (ys := [c]) (by have := ho1.1; omega) rfl hv rfl hl
 refine Wo.doVal rfl rfl (op_append rfl rfl rfl (.inl ⟨_, u37⟩) rfl rfl hop) ?_
 obtain ⟨hn2, hvb'⟩ := hfr b _ hvb hn1
 (repeat(first|with_reducible refine jZ ?_|(with_reducible apply jW;refine jX (by first|(simp only [j0,jU];rfl)|rfl) ?_)|with_reducible apply jE|with_reducible refine jP (by decide) ?_|(with_reducible apply jQ;first|refine kR rfl rfl ?_|refine kT rfl rfl ?_)|((first|((with_reducible apply kv);rfl)|((with_reducible apply ky);rfl;rfl)|((with_reducible apply kz);rfl;rfl)|((with_reducible apply kl);rfl;assumption;rfl;(first|assumption|rfl)));refine jT (by first|(simp only [j0,jU];rfl)|rfl) ?_)))
 refine kS rfl rfl rfl hn2 (by rw [hv'.plain.2.1]; try rfl) rfl (by rw [hv'.plain.2.1]; simp [allOne, hv'.plain.2.2]) hv'.plain.1 (by rw [hv'.plain.2.1]; try rfl) ?_
 intro H3 _ hn3 ho3 hl3
 (repeat(first|with_reducible refine jZ ?_|(with_reducible apply jW;refine jX (by first|(simp only [j0,jU];rfl)|rfl) ?_)|with_reducible apply jE|with_reducible refine jP (by decide) ?_|(with_reducible apply jQ;first|refine kR rfl rfl ?_|refine kT rfl rfl ?_)|((first|((with_reducible apply kv);rfl)|((with_reducible apply ky);rfl;rfl)|((with_reducible apply kz);rfl;rfl)|((with_reducible apply kl);rfl;assumption;rfl;(first|assumption|rfl)));refine jT (by first|(simp only [j0,jU];rfl)|rfl) ?_)))
 exact EndQ.ret rfl ⟨Bld.of hbn ht hn3 (hv'.set hvb' ho3) hvb', ho1.trans (ho2.trans (Old.of (fun j hj => ho3 j (by omega)) hl3))⟩
end
end Go.Proofs.Ck
