/- HcEls, HcFirst, joined. -/
import Derived.Test.YtfihfpgphipglaaGreatDoorHcHeads
set_option linter.unusedVariables false
set_option linter.unusedSimpArgs false
set_option linter.unusedSectionVars false
section
namespace Go.Proofs.Hc
open Go.Tm
set_option maxRecDepth 100000
def BufE (e n : Nat) (H : List AB) (v : AV) (els : List AV) : Prop :=
 (els = [] ∧ v = .sl [] .nil) ∨ (els ≠ [] ∧ ∃ k, v = .ms k 0 els.length n ∧ nth H k = some (.cells (e, false) (els.flatMap AV.cells)))
theorem BufE.plain {e n : Nat} {H : List AB} {v : AV} {els : List AV} (h : BufE e n H v els) : v.cells = [v] ∧ v.one = true ∧ v.unown = v := by
 rcases h with ⟨_, rfl⟩ | ⟨_, k, rfl, _⟩ <;> exact ⟨rfl, rfl, rfl⟩
theorem BufE.same {e n : Nat} {H : List AB} {v : AV} {els : List AV} (h : BufE e n H v els) : Go.Tm.same v v = true := by
 rcases h with ⟨_, rfl⟩ | ⟨_, k, rfl, _⟩
 ·rfl
 ·simp [Go.Tm.same]
theorem BufE.kept {e n : Nat} {H H' : List AB} {v : AV} {els : List AV} (h : BufE e n H v els) (hk : ∀ k A m, v = .ms k 0 m n → nth H k = some A → nth H' k = some A) : BufE e n H' v els := by
 rcases h with ⟨rfl, rfl⟩ | ⟨hne, k, rfl, h⟩
 ·exact .inl ⟨rfl, rfl⟩
 ·exact .inr ⟨hne, k, rfl, hk k _ _ rfl h⟩
theorem flat_len {n : Nat} : ∀ {els : List AV}, (∀ y ∈ els, y.cells.length = n) → (els.flatMap AV.cells).length = els.length * n
 | [], _ => by simp
 | y :: r, h => by
  rw [List.flatMap_cons, List.length_append, flat_len fun z hz => h z (by simp [hz]), h y (by simp), List.length_cons, Nat.add_mul]; omega
theorem app_els {K : Cfg} (hs : K.sym = false) {t e n d f : Nat} {own : Nat → Nat} {H : List AB} {v y z : AV} {els : List AV} {info : TypeInfo} (hu : K.P.underlying t = some (.slice e)) (hi : K.P.info? e = some info) (hz : tSize K.P e = some (n + 1)) (h0 : tZero K.P e = some z) (hz1 : z.cells.length = n + 1) (hg : K.chg f d = true)
  (hv : BufE e (n + 1) H v els) (hel : ∀ y ∈ els, y.cells.length = n + 1) (hy : y.cells.length = n + 1) (hr : roomOk (els.length + 1) info.bytes = true) :
  ∃ H', aAppend K f d own H t v (.sl [y] .full) [] = some (.val (.ms H.length 0 (els.length + 1) (n + 1)) own H', [], []) ∧ BufE e (n + 1) H' (.ms H.length 0 (els.length + 1) (n + 1)) (els ++ [y]) ∧ H'.length = H.length + 1 ∧ ∀ j A, (∀ m, v ≠ .ms j 0 m (n + 1)) → nth H j = some A → nth H' j = some A := by
 have hels : asEls H (n + 1) (.sl [y] .full) = some [y] := by
  simp only [asEls]
  rw [if_pos (by simp [hy])]
 have hzb : (z.cells.length == n + 1) = true := by simp [hz1]
 rcases hv with ⟨rfl, rfl⟩ | ⟨hne, k, rfl, hk⟩
 ·refine ⟨H ++ [.cells (e, false) y.cells], ?_, .inr ⟨by simp, H.length, by simp, by simpa using nth_app_new _ _⟩, by simp, fun j A _ h => nth_app_left h⟩
  simp only [aAppend, hu, hi, hz, h0, hels, hzb, hg, hs]
  refine (E.bind_nil (a := ()) (by show E.chk false (roomOk (([] : List AV).length + 1) info.bytes) [] = _; rw [hr]; rfl)).trans ?_
  refine (E.bind_nil (a := ()) rfl).trans ?_
  refine (E.bind_nil (a := ()) rfl).trans ?_
  simp only [List.flatMap_cons, List.flatMap_nil, List.append_nil, List.nil_append, List.length_nil, List.length_cons, Nat.zero_add]
  rfl
 ·refine ⟨setAt H k .dead ++ [.cells (e, false) (els.flatMap AV.cells ++ y.cells)], ?_, .inr ⟨by simp, H.length, by simp, ?_⟩, by simp [setAt_len], fun j A hj h => ?_⟩
  ·simp only [aAppend, hu, hi, hz, h0, hels, hzb, hk, hs]
   refine (E.bind_nil (a := ()) (by simp [E.chk])).trans ?_
   refine (E.bind_nil (a := ()) (by simp [E.chk])).trans ?_
   refine (E.bind_nil (a := ()) (by simp [E.chk, flat_len hel])).trans ?_
   refine (E.bind_nil (a := ()) (by show E.chk false (roomOk (els.length + 1) info.bytes) [] = _; rw [hr]; rfl)).trans ?_
   simp only [List.flatMap_cons, List.flatMap_nil, List.append_nil, List.length_cons, List.length_nil, Nat.zero_add]
   rfl
  ·rw [← setAt_len H k .dead, List.flatMap_append]
   simpa using nth_app_new (setAt H k .dead) (AB.cells (e, false) (els.flatMap AV.cells ++ y.cells))
  ·refine nth_app_left ?_
   rw [nth_set_other]
   ·exact h
   ·rintro rfl
    exact hj _ rfl
theorem snap_cells (H : List AB) (n : Nat) : ∀ (l : List AV), (∀ y ∈ l, snap H n y = some y) → mapO (snap H n) l = some l
 | [], _ => rfl
 | y :: r, h => by
  simp only [mapO, h y (by simp), snap_cells H n r fun z hz => h z (by simp [hz])]
theorem snap_str (H : List AB) (n : Nat) (s : Bs) : snap H n (.str s) = some (.str s) := by cases n <;> rfl
theorem chunk_strs : ∀ l : List Bs, chunk 1 l.length (l.map AV.str) = l.map AV.str
 | [] => rfl
 | a :: r => by
  simp only [List.length_cons, List.map_cons, chunk, List.drop_succ_cons, List.drop_zero, chunk_strs r]
  rfl
theorem flat_hd : ∀ l : List Hd, (l.map hdV).flatMap AV.cells = l.flatMap fun h => [AV.str h.1, AV.str h.2]
 | [] => rfl
 | a :: r => by simp only [List.map_cons, List.flatMap_cons, flat_hd r]; rfl
theorem chunk_hds : ∀ l : List Hd, chunk 2 l.length (l.flatMap fun h => [AV.str h.1, AV.str h.2]) = l.map hdV
 | [] => rfl
 | a :: r => by
  simp only [List.length_cons, List.flatMap_cons, List.map_cons, chunk]
  rw [show ([AV.str a.1, AV.str a.2] ++ r.flatMap fun h => [AV.str h.1, AV.str h.2]).drop 2 = r.flatMap fun h => [AV.str h.1, AV.str h.2] from rfl, chunk_hds r]
  rfl
theorem strs_ok (l : List AV) (h : ∀ y ∈ l, ∃ s, y = AV.str s) : AV.closedL l = true ∧ allOne l = true := by
 constructor
 ·rw [closedL_iff]; intro y hy; obtain ⟨s, rfl⟩ := h y hy; rfl
 ·unfold allOne; rw [List.all_eq_true]; intro y hy; obtain ⟨s, rfl⟩ := h y hy; rfl
theorem snap_strs {e : Nat} {H : List AB} {v : AV} {l : List Bs} (n : Nat) (h : BufE e 1 H v (l.map AV.str)) : snap H (n + 1) v = some (.sl (l.map AV.str) (outTl l)) := by
 rcases h with ⟨h1, rfl⟩ | ⟨hne, k, rfl, hk⟩
 ·obtain rfl : l = [] := by simpa using h1
  rfl
 ·have hl : l ≠ [] := by simpa using hne
  rw [flat_strs] at hk
  obtain ⟨c1, c2⟩ := strs_ok (l.map AV.str) fun y hy => by obtain ⟨s, _, rfl⟩ := List.mem_map.1 hy; exact ⟨s, rfl⟩
  simp only [snap, hk, List.length_map, Nat.mul_one, List.drop_zero]
  rw [if_pos ⟨by omega, by omega⟩, List.take_of_length_le (by simp), snap_cells H n _ fun y hy => by obtain ⟨s, _, rfl⟩ := List.mem_map.1 hy; exact snap_str H n s]
  simp only [c1, c2, Bool.and_self, if_true]
  rw [chunk_strs, outTl, if_neg hl]
theorem snap_hds {e : Nat} {H : List AB} {v : AV} {l : List Hd} (n : Nat) (h : BufE e 2 H v (l.map hdV)) : snap H (n + 1) v = some (.sl (l.map hdV) (outTl l)) := by
 rcases h with ⟨h1, rfl⟩ | ⟨hne, k, rfl, hk⟩
 ·obtain rfl : l = [] := by simpa using h1
  rfl
 ·have hl : l ≠ [] := by simpa using hne
  rw [flat_hd] at hk
  have hm : ∀ y ∈ l.flatMap (fun h => [AV.str h.1, AV.str h.2]), ∃ s, y = AV.str s := fun y hy => by
   obtain ⟨h, _, hy⟩ := List.mem_flatMap.1 hy
   rcases List.mem_cons.1 hy with rfl | hy
   ·exact ⟨_, rfl⟩
   ·exact ⟨_, by simpa using hy⟩
  obtain ⟨c1, c2⟩ := strs_ok _ hm
  have hlen : (l.flatMap fun h => [AV.str h.1, AV.str h.2]).length = l.length * 2 := by
   rw [← flat_hd, flat_len (n := 2) (fun y hy => by obtain ⟨s, _, rfl⟩ := List.mem_map.1 hy; rfl), List.length_map]
  simp only [snap, hk, List.length_map, List.drop_zero]
  rw [if_pos ⟨by omega, by omega⟩, List.take_of_length_le (by omega), snap_cells H n _ fun y hy => by obtain ⟨s, rfl⟩ := hm y hy; exact snap_str H n s]
  simp only [c1, c2, Bool.and_self, if_true]
  rw [chunk_hds, outTl, if_neg hl]
end Go.Proofs.Hc
end
section
namespace Go.Proofs.Hc
open Go.Tm
set_option maxRecDepth 100000
def decD (s : Bs) : Bs := (dec s).getD []
def decOk (s : Bs) : Bool := (dec s).isSome
theorem decV_eq (s : Bs) : decV s = .tup [.str (decD s), .v (.bool (decOk s))] := by
 unfold decV decD decOk
 cases dec s <;> rfl
theorem dec_said {s : Bs} (h : s.length < 4294967281) : toldDec [.str s] = some (.tup [.str (decD s), .v (.bool (decOk s))]) := by
 rw [← decV_eq]
 exact if_pos h
theorem decAll_eq : ∀ l : List Bs, decAll l = if l.all decOk = true then some (l.map decD) else none
 | [] => rfl
 | a :: r => by
  rw [decAll, decAll_eq r]
  unfold decOk decD
  cases h : dec a with
  | none => simp [h]
  | some b =>
   simp only [List.all_cons, List.map_cons, h, Option.isSome_some, Bool.true_and, Option.getD_some]
   cases r.all (fun s => (dec s).isSome) <;> rfl
def pairD (p : Bs) : Hd := (decD (Lib.cut p [61]).1, decD (Lib.cut p [61]).2.1)
def pairOk (p : Bs) : Bool := decOk (Lib.cut p [61]).1 && decOk (Lib.cut p [61]).2.1
theorem decPairs_eq : ∀ l : List Bs, decPairs l = if l.all pairOk = true then some (l.map pairD) else none
 | [] => rfl
 | a :: r => by
  rw [decPairs, decPairs_eq r]
  unfold pairOk pairD decOk decD
  cases h1 : dec (Lib.cut a [61]).1 with
  | none => simp [h1]
  | some b =>
   cases h2 : dec (Lib.cut a [61]).2.1 with
   | none => simp [h1, h2]
   | some c =>
    simp only [List.all_cons, List.map_cons, h1, h2, Option.isSome_some, Bool.true_and, Option.getD_some]
    cases r.all (fun p => (dec (Lib.cut p [61]).1).isSome && (dec (Lib.cut p [61]).2.1).isSome) <;> rfl
theorem splitK_len (sep : Bs) : ∀ (n : Nat) (s : Bs), (Lib.splitK sep 0 n s).length ≤ n + 1
 | 0, s => by simp [Lib.splitK]
 | n + 1, s => by
  rw [Lib.splitK]
  split
  ·simp
  ·have := splitK_len sep n (s.drop ((Lib.index s sep).toNat + sep.length))
   simp only [List.length_cons]; omega
theorem splitK_part (sep : Bs) : ∀ (n : Nat) (s p : Bs), p ∈ Lib.splitK sep 0 n s → p.length ≤ s.length
 | 0, s, p, h => by simp [Lib.splitK] at h; rw [h]; exact Nat.le_refl _
 | n + 1, s, p, h => by
  rw [Lib.splitK] at h
  split at h
  ·simp at h; rw [h]; exact Nat.le_refl _
  ·rcases List.mem_cons.1 h with rfl | h
   ·simp only [List.length_take]; omega
   ·have := splitK_part sep n _ p h
    simp only [List.length_drop] at this; omega
theorem split_len (s : Bs) (c : UInt8) : (Lib.split s [c]).length ≤ s.length + 1 := by
 have := splitK_len [c] (Lib.count s [c]) s
 have h2 : s.count c ≤ s.length := List.count_le_length
 rw [← Lib.count_one] at h2
 unfold Lib.split
 omega
theorem split_part {s p : Bs} {c : UInt8} (h : p ∈ Lib.split s [c]) : p.length ≤ s.length := splitK_part _ _ _ _ h
theorem split_said {s : Bs} {c : UInt8} (h : s.length < 4294967281) : toldSplit [.str s, .str [c]] = some (.sl ((Lib.split s [c]).map AV.str) .unk) := if_pos ⟨h, by simp⟩
def zero31 : List AV := [.str [], .sl [] .nil, .sl [] .nil, .sl [] .nil, .str []]
section
variable {x : Value}
theorem z31 : tZero (Kq x).P 31 = some (.agg [.str [], .sl [] .nil, .sl [] .nil, .sl [] .nil, .str []]) := by kernel_rfl
theorem z4 : tZero (Kq x).P 4 = some (.v (.bool false)) := by kernel_rfl
theorem sz31 : tSize (Kq x).P 31 = some 5 := by kernel_rfl
theorem sz4 : tSize (Kq x).P 4 = some 1 := by kernel_rfl
theorem ag4 : tAgg (Kq x).P 4 = some false := by kernel_rfl
theorem sz28 : tSize (Kq x).P 28 = some 1 := by kernel_rfl
theorem ag28 : tAgg (Kq x).P 28 = some false := by kernel_rfl
theorem sz29 : tSize (Kq x).P 29 = some 1 := by kernel_rfl
theorem ag29 : tAgg (Kq x).P 29 = some false := by kernel_rfl
theorem z9 : tZero (Kq x).P 9 = some (.str []) := by kernel_rfl
theorem fb31 (b : Nat) : (aFieldAddr (Kq x) 31 (.ptr b 0) 0 = some (.ptr b 0) ∧ aFieldAddr (Kq x) 31 (.ptr b 0) 1 = some (.ptr b 1)) ∧ aFieldAddr (Kq x) 31 (.ptr b 0) 2 = some (.ptr b 2) ∧ aFieldAddr (Kq x) 31 (.ptr b 0) 3 = some (.ptr b 3) ∧ aFieldAddr (Kq x) 31 (.ptr b 0) 4 = some (.ptr b 4) := by
 refine ⟨⟨?_, ?_⟩, ?_, ?_, ?_⟩ <;> kernel_rfl
theorem in9 : ∃ info, (Kq x).P.info? 9 = some info ∧ info.bytes = 16 := by
 have h : ((Kq x).P.info? 9).map (·.bytes) = some 16 := by kernel_rfl
 cases hi : (Kq x).P.info? 9 with
 | none => rw [hi] at h; cases h
 | some i => rw [hi] at h; exact ⟨i, rfl, by simpa using h⟩
theorem tv31 (a b c d e : AV) : takeVar (Kq x).P 31 [a, b, c, d, e] = some (.agg [a, b, c, d, e]) := by kernel_rfl
theorem st4 {H : List AB} {b : Nat} {p : AV} (h : nth H b = some (.cells (4, true) [p])) (c : Bool) : aStore (Kq x) H 4 (.ptr b 0) (.v (.bool c)) = some (setAt H b (.cells (4, true) [.v (.bool c)])) := by
 simp only [aStore, sz4, h]
 rw [if_pos ⟨rfl, by simp, rfl⟩]; rfl
def Plain1 (v : AV) : Prop := v.cells = [v] ∧ v.one = true ∧ v.unown = v
theorem st31 {H : List AB} {b : Nat} {p1 p2 p3 p4 p5 a1 a2 a3 a4 a5 : AV} (h : nth H b = some (.cells (31, true) [p1, p2, p3, p4, p5])) (h1 : allOne [a1, a2, a3, a4, a5] = true) : aStore (Kq x) H 31 (.ptr b 0) (.agg [a1, a2, a3, a4, a5]) = some (setAt H b (.cells (31, true) [a1, a2, a3, a4, a5])) := by
 simp only [aStore, sz31, h]
 rw [if_pos ⟨rfl, by simp, h1⟩]
 rfl
theorem st31_0 {H : List AB} {b : Nat} {p1 p2 p3 p4 p5 : AV} (h : nth H b = some (.cells (31, true) [p1, p2, p3, p4, p5])) (a : Bs) : aStore (Kq x) H 9 (.ptr b 0) (.str a) = some (setAt H b (.cells (31, true) [.str a, p2, p3, p4, p5])) := by
 simp only [aStore, sz9, h]
 rw [if_pos ⟨rfl, by simp, rfl⟩]; rfl
theorem st31_1 {H : List AB} {b : Nat} {p1 p2 p3 p4 p5 a : AV} (h : nth H b = some (.cells (31, true) [p1, p2, p3, p4, p5])) (ha : Plain1 a) : aStore (Kq x) H 28 (.ptr b 1) a = some (setAt H b (.cells (31, true) [p1, a, p3, p4, p5])) := by
 simp only [aStore, sz28, h]
 rw [if_pos ⟨by rw [ha.1]; rfl, by simp, by rw [ha.1]; simp [allOne, ha.2.1]⟩, ha.2.2, ha.1]; rfl
theorem st31_2 {H : List AB} {b : Nat} {p1 p2 p3 p4 p5 a : AV} (h : nth H b = some (.cells (31, true) [p1, p2, p3, p4, p5])) (ha : Plain1 a) : aStore (Kq x) H 29 (.ptr b 2) a = some (setAt H b (.cells (31, true) [p1, p2, a, p4, p5])) := by
 simp only [aStore, sz29, h]
 rw [if_pos ⟨by rw [ha.1]; rfl, by simp, by rw [ha.1]; simp [allOne, ha.2.1]⟩, ha.2.2, ha.1]; rfl
set_option maxHeartbeats 1000000 in
theorem decoded_tells (s : Bs) (hs : s.length < 4294967281) (H : List AB) (b : Nat) (g : Bool) (hn : nth H b = some (.cells (4, true) [.v (.bool g)])) : Tells (Kq x) 46 [.str s, .ptr b 0] H fun r H' => r = .str (decD s) ∧ H' = setAt H b (.cells (4, true) [.v (.bool (g && decOk s))]) := by
 refine Tells.mem (c := _) Tryz.func46 rfl (args' := [.str s, .ptr b 0]) (m := 14) rfl rfl rfl rfl rfl ?_
 (repeat (first|(with_reducible first|apply jA|apply jC|apply jD|apply jE|apply jF|apply jG|apply jH|apply jI|apply jJ|apply jK|apply jL|apply jM|apply jN|apply jO)|(with_reducible apply SeqQ.id;refine SeqQ.norm (by first|(simp only [j0];rfl)|rfl) ?_)|with_reducible refine jP (by decide) ?_|(with_reducible apply jQ;first|refine jR rfl rfl rfl ?_|refine jS rfl rfl rfl ?_)|((first|((with_reducible first|apply jm|apply jn|apply jb|apply ju);repeat rfl)|((with_reducible apply jy);iterate 3 rfl)|((with_reducible apply jz);iterate 3 rfl)|((with_reducible apply jp);iterate 5 rfl)|((with_reducible apply jq);iterate 5 rfl)|((with_reducible apply jk);exact u9;rfl));refine jT (by first|(simp only [j0];rfl)|rfl) ?_)))
 refine Wo.doCall rfl rfl (op_call (args := [.str s]) rfl rfl) (Tells.libv (g := toldDec) rfl (dec_said hs) ?_)
 (repeat (first|(with_reducible first|apply jA|apply jC|apply jD|apply jE|apply jF|apply jG|apply jH|apply jI|apply jJ|apply jK|apply jL|apply jM|apply jN|apply jO)|(with_reducible apply SeqQ.id;refine SeqQ.norm (by first|(simp only [j0];rfl)|rfl) ?_)|with_reducible refine jP (by decide) ?_|(with_reducible apply jQ;first|refine jR rfl rfl rfl ?_|refine jS rfl rfl rfl ?_)|((first|((with_reducible first|apply jm|apply jn|apply jb|apply ju);repeat rfl)|((with_reducible apply jy);iterate 3 rfl)|((with_reducible apply jz);iterate 3 rfl)|((with_reducible apply jp);iterate 5 rfl)|((with_reducible apply jq);iterate 5 rfl)|((with_reducible apply jk);exact u9;rfl));refine jT (by first|(simp only [j0];rfl)|rfl) ?_)))
 refine Wo.doVal rfl rfl (op_extract rfl rfl rfl) ?_
 refine Wo.doVal rfl rfl (op_extract rfl rfl rfl) ?_
 (repeat (first|(with_reducible first|apply jA|apply jC|apply jD|apply jE|apply jF|apply jG|apply jH|apply jI|apply jJ|apply jK|apply jL|apply jM|apply jN|apply jO)|(with_reducible apply SeqQ.id;refine SeqQ.norm (by first|(simp only [j0];rfl)|rfl) ?_)|with_reducible refine jP (by decide) ?_|(with_reducible apply jQ;first|refine jR rfl rfl rfl ?_|refine jS rfl rfl rfl ?_)|((first|((with_reducible first|apply jm|apply jn|apply jb|apply ju);repeat rfl)|((with_reducible apply jy);iterate 3 rfl)|((with_reducible apply jz);iterate 3 rfl)|((with_reducible apply jp);iterate 5 rfl)|((with_reducible apply jq);iterate 5 rfl)|((with_reducible apply jk);exact u9;rfl));refine jT (by first|(simp only [j0];rfl)|rfl) ?_)))
 refine Wo.doVal rfl rfl (op_load_ptr (v := .v (.bool g)) rfl rfl hn (take_one ag4 sz4)) ?_
 (repeat (first|(with_reducible first|apply jA|apply jC|apply jD|apply jE|apply jF|apply jG|apply jH|apply jI|apply jJ|apply jK|apply jL|apply jM|apply jN|apply jO)|(with_reducible apply SeqQ.id;refine SeqQ.norm (by first|(simp only [j0];rfl)|rfl) ?_)|with_reducible refine jP (by decide) ?_|(with_reducible apply jQ;first|refine jR rfl rfl rfl ?_|refine jS rfl rfl rfl ?_)|((first|((with_reducible first|apply jm|apply jn|apply jb|apply ju);repeat rfl)|((with_reducible apply jy);iterate 3 rfl)|((with_reducible apply jz);iterate 3 rfl)|((with_reducible apply jp);iterate 5 rfl)|((with_reducible apply jq);iterate 5 rfl)|((with_reducible apply jk);exact u9;rfl));refine jT (by first|(simp only [j0];rfl)|rfl) ?_)))
 cases g with
 | true =>
  (repeat (first|(with_reducible first|apply jA|apply jC|apply jD|apply jE|apply jF|apply jG|apply jH|apply jI|apply jJ|apply jK|apply jL|apply jM|apply jN|apply jO)|(with_reducible apply SeqQ.id;refine SeqQ.norm (by first|(simp only [j0];rfl)|rfl) ?_)|with_reducible refine jP (by decide) ?_|(with_reducible apply jQ;first|refine jR rfl rfl rfl ?_|refine jS rfl rfl rfl ?_)|((first|((with_reducible first|apply jm|apply jn|apply jb|apply ju);repeat rfl)|((with_reducible apply jy);iterate 3 rfl)|((with_reducible apply jz);iterate 3 rfl)|((with_reducible apply jp);iterate 5 rfl)|((with_reducible apply jq);iterate 5 rfl)|((with_reducible apply jk);exact u9;rfl));refine jT (by first|(simp only [j0];rfl)|rfl) ?_)))
  refine Wo.doSkip rfl rfl (op_store rfl rfl rfl (st4 hn _)) ?_
  (repeat (first|(with_reducible first|apply jA|apply jC|apply jD|apply jE|apply jF|apply jG|apply jH|apply jI|apply jJ|apply jK|apply jL|apply jM|apply jN|apply jO)|(with_reducible apply SeqQ.id;refine SeqQ.norm (by first|(simp only [j0];rfl)|rfl) ?_)|with_reducible refine jP (by decide) ?_|(with_reducible apply jQ;first|refine jR rfl rfl rfl ?_|refine jS rfl rfl rfl ?_)|((first|((with_reducible first|apply jm|apply jn|apply jb|apply ju);repeat rfl)|((with_reducible apply jy);iterate 3 rfl)|((with_reducible apply jz);iterate 3 rfl)|((with_reducible apply jp);iterate 5 rfl)|((with_reducible apply jq);iterate 5 rfl)|((with_reducible apply jk);exact u9;rfl));refine jT (by first|(simp only [j0];rfl)|rfl) ?_)))
  exact EndQ.ret rfl ⟨rfl, rfl⟩
 | false =>
  (repeat (first|(with_reducible first|apply jA|apply jC|apply jD|apply jE|apply jF|apply jG|apply jH|apply jI|apply jJ|apply jK|apply jL|apply jM|apply jN|apply jO)|(with_reducible apply SeqQ.id;refine SeqQ.norm (by first|(simp only [j0];rfl)|rfl) ?_)|with_reducible refine jP (by decide) ?_|(with_reducible apply jQ;first|refine jR rfl rfl rfl ?_|refine jS rfl rfl rfl ?_)|((first|((with_reducible first|apply jm|apply jn|apply jb|apply ju);repeat rfl)|((with_reducible apply jy);iterate 3 rfl)|((with_reducible apply jz);iterate 3 rfl)|((with_reducible apply jp);iterate 5 rfl)|((with_reducible apply jq);iterate 5 rfl)|((with_reducible apply jk);exact u9;rfl));refine jT (by first|(simp only [j0];rfl)|rfl) ?_)))
  refine Wo.doSkip rfl rfl (op_store rfl rfl rfl (st4 hn _)) ?_
  (repeat (first|(with_reducible first|apply jA|apply jC|apply jD|apply jE|apply jF|apply jG|apply jH|apply jI|apply jJ|apply jK|apply jL|apply jM|apply jN|apply jO)|(with_reducible apply SeqQ.id;refine SeqQ.norm (by first|(simp only [j0];rfl)|rfl) ?_)|with_reducible refine jP (by decide) ?_|(with_reducible apply jQ;first|refine jR rfl rfl rfl ?_|refine jS rfl rfl rfl ?_)|((first|((with_reducible first|apply jm|apply jn|apply jb|apply ju);repeat rfl)|((with_reducible apply jy);iterate 3 rfl)|((with_reducible apply jz);iterate 3 rfl)|((with_reducible apply jp);iterate 5 rfl)|((with_reducible apply jq);iterate 5 rfl)|((with_reducible apply jk);exact u9;rfl));refine jT (by first|(simp only [j0];rfl)|rfl) ?_)))
  exact EndQ.ret rfl ⟨rfl, rfl⟩
structure FMem (H : List AB) (m : Bs) (pv qv : AV) (ps : List Bs) (qs : List Hd) (g : Bool) : Prop where
 b0 : nth H 0 = some (.cells (31, true) zero31)
 b1 : nth H 1 = some (.cells (31, true) [.str m, pv, qv, .sl [] .nil, .str []])
 b2 : nth H 2 = some (.cells (4, true) [.v (.bool g)])
 p : BufE 9 1 H pv (ps.map AV.str)
 q : BufE 52 2 H qv (qs.map hdV)
 pk : ∀ k n, pv = .ms k 0 n 1 → 3 ≤ k
 qk : ∀ k n, qv = .ms k 0 n 2 → 3 ≤ k
 pq : ∀ k n j l, pv = .ms k 0 n 1 → qv = .ms j 0 l 2 → k ≠ j
theorem FMem.flag {H : List AB} {m : Bs} {pv qv : AV} {ps : List Bs} {qs : List Hd} {g : Bool} (h : FMem H m pv qv ps qs g) (g' : Bool) : FMem (setAt H 2 (.cells (4, true) [.v (.bool g')])) m pv qv ps qs g' where
 b0 := by rw [nth_set_other (by omega)]; exact h.b0
 b1 := by rw [nth_set_other (by omega)]; exact h.b1
 b2 := nth_set_same h.b2
 p := h.p.kept fun k A n hk q => by rw [nth_set_other (by have := h.pk k n hk; omega)]; exact q
 q := h.q.kept fun k A n hk q => by rw [nth_set_other (by have := h.qk k n hk; omega)]; exact q
 pk := h.pk
 qk := h.qk
 pq := h.pq
theorem FMem.path {H H' : List AB} {m : Bs} {pv qv : AV} {ps : List Bs} {qs : List Hd} {g : Bool} (h : FMem H m pv qv ps qs g) (d : Bs) {n : Nat} (hb : BufE 9 1 H' (.ms H.length 0 n 1) (ps.map AV.str ++ [.str d])) (hk : ∀ j A, (∀ m, pv ≠ .ms j 0 m 1) → nth H j = some A → nth H' j = some A) :
  FMem (setAt H' 1 (.cells (31, true) [.str m, .ms H.length 0 n 1, qv, .sl [] .nil, .str []])) m (.ms H.length 0 n 1) qv (ps ++ [d]) qs g := by
 have hl := nth_lt' h.b2
 have ne : ∀ j, j < 3 → ∀ m, pv ≠ .ms j 0 m 1 := fun j hj m e => by have := h.pk j m e; omega
 refine ⟨?_, nth_set_same (hk 1 _ (ne 1 (by omega)) h.b1), ?_, ?_, ?_, fun k n e => (by cases e; omega), h.qk, fun k n j l e1 e2 => ?_⟩
 ·rw [nth_set_other (by omega)]; exact hk 0 _ (ne 0 (by omega)) h.b0
 ·rw [nth_set_other (by omega)]; exact hk 2 _ (ne 2 (by omega)) h.b2
 ·rw [List.map_append]
  exact hb.kept fun k A n e q => by cases e; rw [nth_set_other (by omega)]; exact q
 ·refine h.q.kept fun k A l e q => ?_
  rw [nth_set_other (by have := h.qk k l e; omega)]
  exact hk k A (fun m' e' => h.pq k m' k l e' e rfl) q
 ·cases e1
  rcases h.q with ⟨_, hq⟩ | ⟨_, k', hq, hn⟩
  ·rw [hq] at e2; cases e2
  ·rw [hq] at e2; cases e2
   have := nth_lt' hn
   omega
theorem FMem.query {H H' : List AB} {m : Bs} {pv qv : AV} {ps : List Bs} {qs : List Hd} {g : Bool} (h : FMem H m pv qv ps qs g) (d : Hd) {n : Nat} (hb : BufE 52 2 H' (.ms H.length 0 n 2) (qs.map hdV ++ [hdV d])) (hk : ∀ j A, (∀ m, qv ≠ .ms j 0 m 2) → nth H j = some A → nth H' j = some A) :
  FMem (setAt H' 1 (.cells (31, true) [.str m, pv, .ms H.length 0 n 2, .sl [] .nil, .str []])) m pv (.ms H.length 0 n 2) ps (qs ++ [d]) g := by
 have hl := nth_lt' h.b2
 have ne : ∀ j, j < 3 → ∀ m, qv ≠ .ms j 0 m 2 := fun j hj m e => by have := h.qk j m e; omega
 refine ⟨?_, nth_set_same (hk 1 _ (ne 1 (by omega)) h.b1), ?_, ?_, ?_, h.pk, fun k n e => (by cases e; omega), fun k n j l e1 e2 => ?_⟩
 ·rw [nth_set_other (by omega)]; exact hk 0 _ (ne 0 (by omega)) h.b0
 ·rw [nth_set_other (by omega)]; exact hk 2 _ (ne 2 (by omega)) h.b2
 ·refine h.p.kept fun k A l e q => ?_
  rw [nth_set_other (by have := h.pk k l e; omega)]
  exact hk k A (fun m' e' => h.pq k l k m' e e' rfl) q
 ·rw [List.map_append]
  exact hb.kept fun k A n e q => by cases e; rw [nth_set_other (by omega)]; exact q
 ·cases e2
  rcases h.p with ⟨_, hq⟩ | ⟨_, k', hq, hn⟩
  ·rw [hq] at e1; cases e1
  ·rw [hq] at e1; cases e1
   have := nth_lt' hn
   omega
def callV (f : First) (hs : List Hd) (htl : Tail) (body : Bs) : AV := .agg [.str f.method, .sl (f.path.map AV.str) (outTl f.path), .sl (f.query.map hdV) (outTl f.query), .sl (hs.map hdV) htl, .str body]
def FirstSays (s : Bs) (r : AV) : Prop := match firstP s with
 | some f => r = .tup [callV f [] .nil [], .v (.bool true)]
 | none => ∃ a b c d e, r = .tup [.agg [a, b, c, d, e], .v (.bool false)] ∧ allOne [a, b, c, d, e] = true
end
end Go.Proofs.Hc
end
