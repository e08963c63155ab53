/- http.first, walked. -/
import Derived.Test.YtfihfpgphipglaaGreatDoorHcB
set_option linter.unusedVariables false
set_option linter.unusedSimpArgs false
set_option linter.unusedSectionVars false
namespace Go.Proofs.Hc
open Go.Tm
set_option maxRecDepth 100000
section
variable {x : Value}
theorem one28 (own : Nat → Nat) (H : List AB) (s : Bs) : aBuildSlice (Kq x) false own H 28 1 [(0, .str s)] = some (.val (.sl [.str s] .full) own H) := by kernel_rfl
theorem all_take {p : Bs → Bool} {l : List Bs} {i : Nat} (hi : i < l.length) : (l.take (i + 1)).all p = ((l.take i).all p && p l[i]) := by
 rw [List.take_add_one, List.getElem?_eq_getElem hi, List.all_append]
 simp
theorem map_take {α : Type} {f : Bs → α} {l : List Bs} {i : Nat} (hi : i < l.length) : (l.take (i + 1)).map f = (l.take i).map f ++ [f l[i]] := by
 rw [List.take_add_one, List.getElem?_eq_getElem hi, List.map_append]
 rfl
theorem cut_first {t : Bs} {c : UInt8} (h : Lib.hasPrefix t [c] = true) {d : UInt8} (hd : c ≠ d) : 1 ≤ (Lib.cut t [d]).1.length := by
 cases t with
 | nil => cases h
 | cons y q =>
  have hy : c = y := by simpa [Lib.hasPrefix, List.isPrefixOf] using h
  unfold Lib.cut
  split
  ·rename_i h0
   have hroom := Lib.index_room (y :: q) [d] h0
   rw [index_cons] at h0 hroom ⊢
   have : ([d].isPrefixOf (y :: q)) = false := by simp [List.isPrefixOf, ← hy, Ne.symm hd]
   rw [this] at h0 hroom ⊢
   simp only [Bool.false_eq_true, if_false] at h0 hroom ⊢
   split at h0
   ·exact absurd h0 (by decide)
   ·rename_i e
    rw [if_neg e] at hroom ⊢
    have := Lib.index_ge q [d]
    have hne : Lib.index q [d] ≠ -1 := by simpa using e
    simp only [List.length_take, List.length_cons, List.length_nil] at hroom ⊢
    omega
  ·simp
theorem res31 {H : List AB} {regs : List AV} {b : Nat} {a1 a2 a3 a4 a5 v : AV} (h2 : nth regs 2 = some (.ptr b 0)) (hb : nth H b = some (.cells (31, true) [a1, a2, a3, a4, a5])) (h3 : nth regs 3 = some v) : aResults (Kq x) H regs [.cell 2 31, .tmp 3] = some (.tup [.agg [a1, a2, a3, a4, a5], v]) := by
 have h := tv31 (x := x) a1 a2 a3 a4 a5
 simp only [aResults, mapO, aResult, h2, h3, aLoad, deref, hb, List.drop_zero, h]
 rfl
theorem snap_call {H : List AB} {m : Bs} {pv qv : AV} {ps : List Bs} {qs : List Hd} (g : Bool) (hp : BufE 9 1 H pv (ps.map AV.str)) (hq : BufE 52 2 H qv (qs.map hdV)) : snap H 6 (.tup [.agg [.str m, pv, qv, .sl [] .nil, .str []], .v (.bool g)]) = some (.tup [callV ⟨m, ps, qs⟩ [] .nil [], .v (.bool g)]) := by
 have h1 := snap_strs 3 hp
 have h2 := snap_hds 3 hq
 have h3 : snap H 5 (.agg [.str m, pv, qv, .sl [] .nil, .str []]) = some (callV ⟨m, ps, qs⟩ [] .nil []) := by
  rw [snap]
  simp only [mapO, snap_str, h1, h2, show snap H 4 (.sl [] .nil) = some (.sl [] .nil) from rfl]
  rfl
 rw [snap]
 simp only [mapO, h3, show snap H 5 (.v (.bool g)) = some (.v (.bool g)) from rfl]
theorem room16 {n : Nat} {info : TypeInfo} (hb : info.bytes = 16) (h : n < 4294967296) : roomOk (n + 1) info.bytes = true := by
 rw [hb]; simp only [roomOk, decide_eq_true_eq]; omega
theorem room32 {n : Nat} {info : TypeInfo} (hb : info.bytes = 32) (h : n < 4294967296) : roomOk (n + 1) info.bytes = true := by
 rw [hb]; simp only [roomOk, decide_eq_true_eq]; omega
set_option maxHeartbeats 8000000 in
theorem first_tells (s : Bs) (hs : s.length < 2147483648) (H : List AB) : Tells (Kq x) 27 [.str s] H fun r H' => H' = H ∧ FirstSays s r := by
 obtain ⟨m, rest, b1, hc1⟩ : ∃ k v b, Lib.cut s [32] = (k, v, b) := ⟨_, _, _, rfl⟩
 obtain ⟨tg, en, b2, hc2⟩ : ∃ k v b, Lib.cut rest [32] = (k, v, b) := ⟨_, _, _, rfl⟩
 obtain ⟨pa, qu, b3, hc3⟩ : ∃ k v b, Lib.cut tg [63] = (k, v, b) := ⟨_, _, _, rfl⟩
 have l1 := cut_len s [32]
 have l2 := cut_len rest [32]
 have l3 := cut_len tg [63]
 rw [hc1] at l1
 rw [hc2] at l2
 rw [hc3] at l3
 simp only at l1 l2 l3
 have em : methodOf s = m := by unfold methodOf; rw [hc1]
 have et : targetOf s = tg := by unfold targetOf; rw [hc1]; simp only; rw [hc2]
 have ee : endOf s = en := by unfold endOf; rw [hc1]; simp only; rw [hc2]
 have ep : pathOf s = pa := by unfold pathOf; rw [et, hc3]
 have eq : queryOf s = qu := by unfold queryOf; rw [et, hc3]
 have hbad : lineBad s = (m == [] || (decide (m.length > 16) || (!allB capB m || (!Lib.hasPrefix tg [47] || (!allB seenB tg || !(en == version)))))) := by unfold lineBad; rw [em, et, ee]
 have hsay : firstP s = if lineBad s = true then none else match decAll (Lib.split (pa.drop 1) [47]), decPairs (if qu = [] then [] else Lib.split qu [38]) with
  | some p, some q => some ⟨m, p, q⟩
  | _, _ => none := by
  unfold firstP queryParts
  rw [ep, eq, em]
  split
  ·rfl
  ·cases decAll (Lib.split (pa.drop 1) [47]) <;> cases decPairs (if qu = [] then [] else Lib.split qu [38]) <;> rfl
 refine Tells.vals (c := _) Tryz.func27 rfl (args' := [.str s]) (m := 121) rfl rfl rfl rfl rfl ?_
 (repeat (first|(with_reducible first|apply jA|apply jC|apply jD|apply jE|apply jF|apply jG|apply jH|apply jI|apply jJ|apply jK|apply jL|apply jM|apply jN|apply jO)|(with_reducible apply SeqQ.id;refine SeqQ.norm (by first|(simp only [j0];rfl)|rfl) ?_)|with_reducible refine jP (by decide) ?_|(with_reducible apply jQ;first|refine jR rfl rfl rfl ?_|refine jS rfl rfl rfl ?_)|((first|((with_reducible first|apply jm|apply jn|apply jb|apply ju);repeat rfl)|((with_reducible apply jy);iterate 3 rfl)|((with_reducible apply jz);iterate 3 rfl)|((with_reducible apply jp);iterate 5 rfl)|((with_reducible apply jq);iterate 5 rfl)|((with_reducible apply jk);exact u9;rfl)|((with_reducible apply jl);exact u28;rfl));refine jT (by first|(simp only [j0];rfl)|rfl) ?_)))
 refine Wo.doVal rfl rfl (op_alloc rfl z31 rfl) ?_
 (repeat (first|(with_reducible first|apply jA|apply jC|apply jD|apply jE|apply jF|apply jG|apply jH|apply jI|apply jJ|apply jK|apply jL|apply jM|apply jN|apply jO)|(with_reducible apply SeqQ.id;refine SeqQ.norm (by first|(simp only [j0];rfl)|rfl) ?_)|with_reducible refine jP (by decide) ?_|(with_reducible apply jQ;first|refine jR rfl rfl rfl ?_|refine jS rfl rfl rfl ?_)|((first|((with_reducible first|apply jm|apply jn|apply jb|apply ju);repeat rfl)|((with_reducible apply jy);iterate 3 rfl)|((with_reducible apply jz);iterate 3 rfl)|((with_reducible apply jp);iterate 5 rfl)|((with_reducible apply jq);iterate 5 rfl)|((with_reducible apply jk);exact u9;rfl)|((with_reducible apply jl);exact u28;rfl));refine jT (by first|(simp only [j0];rfl)|rfl) ?_)))
 refine Wo.doVal rfl rfl (op_alloc rfl z31 rfl) ?_
 (repeat (first|(with_reducible first|apply jA|apply jC|apply jD|apply jE|apply jF|apply jG|apply jH|apply jI|apply jJ|apply jK|apply jL|apply jM|apply jN|apply jO)|(with_reducible apply SeqQ.id;refine SeqQ.norm (by first|(simp only [j0];rfl)|rfl) ?_)|with_reducible refine jP (by decide) ?_|(with_reducible apply jQ;first|refine jR rfl rfl rfl ?_|refine jS rfl rfl rfl ?_)|((first|((with_reducible first|apply jm|apply jn|apply jb|apply ju);repeat rfl)|((with_reducible apply jy);iterate 3 rfl)|((with_reducible apply jz);iterate 3 rfl)|((with_reducible apply jp);iterate 5 rfl)|((with_reducible apply jq);iterate 5 rfl)|((with_reducible apply jk);exact u9;rfl)|((with_reducible apply jl);exact u28;rfl));refine jT (by first|(simp only [j0];rfl)|rfl) ?_)))
 refine Wo.doCall rfl rfl (op_call (args := [.str s, .str [32]]) rfl rfl) (Tells.libv (g := toldCut) rfl (cut_said (by omega) hc1) ?_)
 (repeat (first|(with_reducible first|apply jA|apply jC|apply jD|apply jE|apply jF|apply jG|apply jH|apply jI|apply jJ|apply jK|apply jL|apply jM|apply jN|apply jO)|(with_reducible apply SeqQ.id;refine SeqQ.norm (by first|(simp only [j0];rfl)|rfl) ?_)|with_reducible refine jP (by decide) ?_|(with_reducible apply jQ;first|refine jR rfl rfl rfl ?_|refine jS rfl rfl rfl ?_)|((first|((with_reducible first|apply jm|apply jn|apply jb|apply ju);repeat rfl)|((with_reducible apply jy);iterate 3 rfl)|((with_reducible apply jz);iterate 3 rfl)|((with_reducible apply jp);iterate 5 rfl)|((with_reducible apply jq);iterate 5 rfl)|((with_reducible apply jk);exact u9;rfl)|((with_reducible apply jl);exact u28;rfl));refine jT (by first|(simp only [j0];rfl)|rfl) ?_)))
 refine Wo.doVal rfl rfl (op_extract rfl rfl rfl) ?_
 refine Wo.doVal rfl rfl (op_extract rfl rfl rfl) ?_
 refine Wo.doVal rfl rfl (op_extract rfl rfl rfl) ?_
 (repeat (first|(with_reducible first|apply jA|apply jC|apply jD|apply jE|apply jF|apply jG|apply jH|apply jI|apply jJ|apply jK|apply jL|apply jM|apply jN|apply jO)|(with_reducible apply SeqQ.id;refine SeqQ.norm (by first|(simp only [j0];rfl)|rfl) ?_)|with_reducible refine jP (by decide) ?_|(with_reducible apply jQ;first|refine jR rfl rfl rfl ?_|refine jS rfl rfl rfl ?_)|((first|((with_reducible first|apply jm|apply jn|apply jb|apply ju);repeat rfl)|((with_reducible apply jy);iterate 3 rfl)|((with_reducible apply jz);iterate 3 rfl)|((with_reducible apply jp);iterate 5 rfl)|((with_reducible apply jq);iterate 5 rfl)|((with_reducible apply jk);exact u9;rfl)|((with_reducible apply jl);exact u28;rfl));refine jT (by first|(simp only [j0];rfl)|rfl) ?_)))
 refine Wo.doCall rfl rfl (op_call (args := [.str rest, .str [32]]) rfl rfl) (Tells.libv (g := toldCut) rfl (cut_said (by omega) hc2) ?_)
 (repeat (first|(with_reducible first|apply jA|apply jC|apply jD|apply jE|apply jF|apply jG|apply jH|apply jI|apply jJ|apply jK|apply jL|apply jM|apply jN|apply jO)|(with_reducible apply SeqQ.id;refine SeqQ.norm (by first|(simp only [j0];rfl)|rfl) ?_)|with_reducible refine jP (by decide) ?_|(with_reducible apply jQ;first|refine jR rfl rfl rfl ?_|refine jS rfl rfl rfl ?_)|((first|((with_reducible first|apply jm|apply jn|apply jb|apply ju);repeat rfl)|((with_reducible apply jy);iterate 3 rfl)|((with_reducible apply jz);iterate 3 rfl)|((with_reducible apply jp);iterate 5 rfl)|((with_reducible apply jq);iterate 5 rfl)|((with_reducible apply jk);exact u9;rfl)|((with_reducible apply jl);exact u28;rfl));refine jT (by first|(simp only [j0];rfl)|rfl) ?_)))
 refine Wo.doVal rfl rfl (op_extract rfl rfl rfl) ?_
 refine Wo.doVal rfl rfl (op_extract rfl rfl rfl) ?_
 refine Wo.doVal rfl rfl (op_extract rfl rfl rfl) ?_
 (repeat (first|(with_reducible first|apply jA|apply jC|apply jD|apply jE|apply jF|apply jG|apply jH|apply jI|apply jJ|apply jK|apply jL|apply jM|apply jN|apply jO)|(with_reducible apply SeqQ.id;refine SeqQ.norm (by first|(simp only [j0];rfl)|rfl) ?_)|with_reducible refine jP (by decide) ?_|(with_reducible apply jQ;first|refine jR rfl rfl rfl ?_|refine jS rfl rfl rfl ?_)|((first|((with_reducible first|apply jm|apply jn|apply jb|apply ju);repeat rfl)|((with_reducible apply jy);iterate 3 rfl)|((with_reducible apply jz);iterate 3 rfl)|((with_reducible apply jp);iterate 5 rfl)|((with_reducible apply jq);iterate 5 rfl)|((with_reducible apply jk);exact u9;rfl)|((with_reducible apply jl);exact u28;rfl));refine jT (by first|(simp only [j0];rfl)|rfl) ?_)))
 refine Wo.doVal rfl rfl (op_bin_str (r := .v (.bool (m == []))) rfl rfl rfl rfl) ?_
 refine Wo.mid (fun st => st.H = [.cells (31, true) zero31, .cells (31, true) zero31] ∧ ∃ d : Nat → AV, st.regs = (d 0 :: d 1 :: .ptr 0 0 :: .v (.bool false) :: .ptr 1 0 :: .str m :: d 6 :: d 7 :: .str tg :: d 9 :: d 10 :: d 11 :: d 12 :: d 13 :: d 14 :: d 15 :: d 16 :: d 17 :: d 18 :: d 19 :: d 20 :: d 21 :: d 22 :: d 23 :: d 24 :: d 25 :: d 26 :: d 27 :: d 28 :: d 29 :: d 30 :: d 31 :: d 32 :: d 33 :: d 34 :: d 35 :: d 36 :: d 37 :: d 38 :: d 39 :: d 40 :: d 41 :: d 42 :: d 43 :: d 44 :: d 45 :: d 46 :: d 47 :: d 48 :: d 49 :: d 50 :: d 51 :: d 52 :: d 53 :: d 54 :: d 55 :: d 56 :: d 57 :: d 58 :: d 59 :: d 60 :: d 61 :: d 62 :: d 63 :: .v (.bool (lineBad s)) :: d 65 :: d 66 :: d 67 :: d 68 :: d 69 :: d 70 :: d 71 :: d 72 :: d 73 :: d 74 :: d 75 :: d 76 :: d 77 :: d 78 :: d 79 :: d 80 :: d 81 :: d 82 :: d 83 :: d 84 :: d 85 :: d 86 :: d 87 :: d 88 :: d 89 :: d 90 :: d 91 :: d 92 :: d 93 :: d 94 :: d 95 :: d 96 :: d 97 :: d 98 :: d 99 :: d 100 :: d 101 :: d 102 :: d 103 :: d 104 :: d 105 :: d 106 :: d 107 :: d 108 :: d 109 :: d 110 :: d 111 :: d 112 :: d 113 :: d 114 :: d 115 :: d 116 :: d 117 :: d 118 :: d 119 :: d 120 :: d 121 :: [])) ?_ ?_
 ·rw [hbad]
  cases hm0 : (m == ([] : Bs)) with
  | true =>
   (repeat (first|(with_reducible first|apply jA|apply jC|apply jD|apply jE|apply jF|apply jG|apply jH|apply jI|apply jJ|apply jK|apply jL|apply jM|apply jN|apply jO)|(with_reducible apply SeqQ.id;refine SeqQ.norm (by first|(simp only [j0];rfl)|rfl) ?_)|with_reducible refine jP (by decide) ?_|(with_reducible apply jQ;first|refine jR rfl rfl rfl ?_|refine jS rfl rfl rfl ?_)|((first|((with_reducible first|apply jm|apply jn|apply jb|apply ju);repeat rfl)|((with_reducible apply jy);iterate 3 rfl)|((with_reducible apply jz);iterate 3 rfl)|((with_reducible apply jp);iterate 5 rfl)|((with_reducible apply jq);iterate 5 rfl)|((with_reducible apply jk);exact u9;rfl)|((with_reducible apply jl);exact u28;rfl));refine jT (by first|(simp only [j0];rfl)|rfl) ?_)))
   exact ⟨rfl, rfl, dead_of rfl⟩
  | false =>
   (repeat (first|(with_reducible first|apply jA|apply jC|apply jD|apply jE|apply jF|apply jG|apply jH|apply jI|apply jJ|apply jK|apply jL|apply jM|apply jN|apply jO)|(with_reducible apply SeqQ.id;refine SeqQ.norm (by first|(simp only [j0];rfl)|rfl) ?_)|with_reducible refine jP (by decide) ?_|(with_reducible apply jQ;first|refine jR rfl rfl rfl ?_|refine jS rfl rfl rfl ?_)|((first|((with_reducible first|apply jm|apply jn|apply jb|apply ju);repeat rfl)|((with_reducible apply jy);iterate 3 rfl)|((with_reducible apply jz);iterate 3 rfl)|((with_reducible apply jp);iterate 5 rfl)|((with_reducible apply jq);iterate 5 rfl)|((with_reducible apply jk);exact u9;rfl)|((with_reducible apply jl);exact u28;rfl));refine jT (by first|(simp only [j0];rfl)|rfl) ?_)))
   by_cases h16 : m.length > 16
   ·rw [decide_eq_true h16, show decide ((m.length : Int) > 16) = true by simp; omega]
    (repeat (first|(with_reducible first|apply jA|apply jC|apply jD|apply jE|apply jF|apply jG|apply jH|apply jI|apply jJ|apply jK|apply jL|apply jM|apply jN|apply jO)|(with_reducible apply SeqQ.id;refine SeqQ.norm (by first|(simp only [j0];rfl)|rfl) ?_)|with_reducible refine jP (by decide) ?_|(with_reducible apply jQ;first|refine jR rfl rfl rfl ?_|refine jS rfl rfl rfl ?_)|((first|((with_reducible first|apply jm|apply jn|apply jb|apply ju);repeat rfl)|((with_reducible apply jy);iterate 3 rfl)|((with_reducible apply jz);iterate 3 rfl)|((with_reducible apply jp);iterate 5 rfl)|((with_reducible apply jq);iterate 5 rfl)|((with_reducible apply jk);exact u9;rfl)|((with_reducible apply jl);exact u28;rfl));refine jT (by first|(simp only [j0];rfl)|rfl) ?_)))
    exact ⟨rfl, rfl, dead_of rfl⟩
   ·rw [decide_eq_false h16, show decide ((m.length : Int) > 16) = false by simp; omega]
    (repeat (first|(with_reducible first|apply jA|apply jC|apply jD|apply jE|apply jF|apply jG|apply jH|apply jI|apply jJ|apply jK|apply jL|apply jM|apply jN|apply jO)|(with_reducible apply SeqQ.id;refine SeqQ.norm (by first|(simp only [j0];rfl)|rfl) ?_)|with_reducible refine jP (by decide) ?_|(with_reducible apply jQ;first|refine jR rfl rfl rfl ?_|refine jS rfl rfl rfl ?_)|((first|((with_reducible first|apply jm|apply jn|apply jb|apply ju);repeat rfl)|((with_reducible apply jy);iterate 3 rfl)|((with_reducible apply jz);iterate 3 rfl)|((with_reducible apply jp);iterate 5 rfl)|((with_reducible apply jq);iterate 5 rfl)|((with_reducible apply jk);exact u9;rfl)|((with_reducible apply jl);exact u28;rfl));refine jT (by first|(simp only [j0];rfl)|rfl) ?_)))
    refine Wo.doCall rfl rfl (op_call (args := [.str m, .func (.func 43) [] []]) rfl rfl) ((all_tells cap_fn m (by omega) _).mono ?_)
    rintro r1 H1 ⟨rfl, rfl⟩
    cases hcap : allB capB m with
    | false =>
     (repeat (first|(with_reducible first|apply jA|apply jC|apply jD|apply jE|apply jF|apply jG|apply jH|apply jI|apply jJ|apply jK|apply jL|apply jM|apply jN|apply jO)|(with_reducible apply SeqQ.id;refine SeqQ.norm (by first|(simp only [j0];rfl)|rfl) ?_)|with_reducible refine jP (by decide) ?_|(with_reducible apply jQ;first|refine jR rfl rfl rfl ?_|refine jS rfl rfl rfl ?_)|((first|((with_reducible first|apply jm|apply jn|apply jb|apply ju);repeat rfl)|((with_reducible apply jy);iterate 3 rfl)|((with_reducible apply jz);iterate 3 rfl)|((with_reducible apply jp);iterate 5 rfl)|((with_reducible apply jq);iterate 5 rfl)|((with_reducible apply jk);exact u9;rfl)|((with_reducible apply jl);exact u28;rfl));refine jT (by first|(simp only [j0];rfl)|rfl) ?_)))
     exact ⟨rfl, rfl, dead_of rfl⟩
    | true =>
     (repeat (first|(with_reducible first|apply jA|apply jC|apply jD|apply jE|apply jF|apply jG|apply jH|apply jI|apply jJ|apply jK|apply jL|apply jM|apply jN|apply jO)|(with_reducible apply SeqQ.id;refine SeqQ.norm (by first|(simp only [j0];rfl)|rfl) ?_)|with_reducible refine jP (by decide) ?_|(with_reducible apply jQ;first|refine jR rfl rfl rfl ?_|refine jS rfl rfl rfl ?_)|((first|((with_reducible first|apply jm|apply jn|apply jb|apply ju);repeat rfl)|((with_reducible apply jy);iterate 3 rfl)|((with_reducible apply jz);iterate 3 rfl)|((with_reducible apply jp);iterate 5 rfl)|((with_reducible apply jq);iterate 5 rfl)|((with_reducible apply jk);exact u9;rfl)|((with_reducible apply jl);exact u28;rfl));refine jT (by first|(simp only [j0];rfl)|rfl) ?_)))
     refine Wo.doCall rfl rfl (op_call (args := [.str tg, .str [47]]) rfl rfl) (Tells.libv (g := toldPrefix) rfl rfl ?_)
     cases hpre : Lib.hasPrefix tg [47] with
     | false =>
      (repeat (first|(with_reducible first|apply jA|apply jC|apply jD|apply jE|apply jF|apply jG|apply jH|apply jI|apply jJ|apply jK|apply jL|apply jM|apply jN|apply jO)|(with_reducible apply SeqQ.id;refine SeqQ.norm (by first|(simp only [j0];rfl)|rfl) ?_)|with_reducible refine jP (by decide) ?_|(with_reducible apply jQ;first|refine jR rfl rfl rfl ?_|refine jS rfl rfl rfl ?_)|((first|((with_reducible first|apply jm|apply jn|apply jb|apply ju);repeat rfl)|((with_reducible apply jy);iterate 3 rfl)|((with_reducible apply jz);iterate 3 rfl)|((with_reducible apply jp);iterate 5 rfl)|((with_reducible apply jq);iterate 5 rfl)|((with_reducible apply jk);exact u9;rfl)|((with_reducible apply jl);exact u28;rfl));refine jT (by first|(simp only [j0];rfl)|rfl) ?_)))
      exact ⟨rfl, rfl, dead_of rfl⟩
     | true =>
      (repeat (first|(with_reducible first|apply jA|apply jC|apply jD|apply jE|apply jF|apply jG|apply jH|apply jI|apply jJ|apply jK|apply jL|apply jM|apply jN|apply jO)|(with_reducible apply SeqQ.id;refine SeqQ.norm (by first|(simp only [j0];rfl)|rfl) ?_)|with_reducible refine jP (by decide) ?_|(with_reducible apply jQ;first|refine jR rfl rfl rfl ?_|refine jS rfl rfl rfl ?_)|((first|((with_reducible first|apply jm|apply jn|apply jb|apply ju);repeat rfl)|((with_reducible apply jy);iterate 3 rfl)|((with_reducible apply jz);iterate 3 rfl)|((with_reducible apply jp);iterate 5 rfl)|((with_reducible apply jq);iterate 5 rfl)|((with_reducible apply jk);exact u9;rfl)|((with_reducible apply jl);exact u28;rfl));refine jT (by first|(simp only [j0];rfl)|rfl) ?_)))
      refine Wo.doCall rfl rfl (op_call (args := [.str tg, .func (.func 44) [] []]) rfl rfl) ((all_tells seen_fn tg (by omega) _).mono ?_)
      rintro r1 H1 ⟨rfl, rfl⟩
      cases hseen : allB seenB tg with
      | false =>
       (repeat (first|(with_reducible first|apply jA|apply jC|apply jD|apply jE|apply jF|apply jG|apply jH|apply jI|apply jJ|apply jK|apply jL|apply jM|apply jN|apply jO)|(with_reducible apply SeqQ.id;refine SeqQ.norm (by first|(simp only [j0];rfl)|rfl) ?_)|with_reducible refine jP (by decide) ?_|(with_reducible apply jQ;first|refine jR rfl rfl rfl ?_|refine jS rfl rfl rfl ?_)|((first|((with_reducible first|apply jm|apply jn|apply jb|apply ju);repeat rfl)|((with_reducible apply jy);iterate 3 rfl)|((with_reducible apply jz);iterate 3 rfl)|((with_reducible apply jp);iterate 5 rfl)|((with_reducible apply jq);iterate 5 rfl)|((with_reducible apply jk);exact u9;rfl)|((with_reducible apply jl);exact u28;rfl));refine jT (by first|(simp only [j0];rfl)|rfl) ?_)))
       exact ⟨rfl, rfl, dead_of rfl⟩
      | true =>
       (repeat (first|(with_reducible first|apply jA|apply jC|apply jD|apply jE|apply jF|apply jG|apply jH|apply jI|apply jJ|apply jK|apply jL|apply jM|apply jN|apply jO)|(with_reducible apply SeqQ.id;refine SeqQ.norm (by first|(simp only [j0];rfl)|rfl) ?_)|with_reducible refine jP (by decide) ?_|(with_reducible apply jQ;first|refine jR rfl rfl rfl ?_|refine jS rfl rfl rfl ?_)|((first|((with_reducible first|apply jm|apply jn|apply jb|apply ju);repeat rfl)|((with_reducible apply jy);iterate 3 rfl)|((with_reducible apply jz);iterate 3 rfl)|((with_reducible apply jp);iterate 5 rfl)|((with_reducible apply jq);iterate 5 rfl)|((with_reducible apply jk);exact u9;rfl)|((with_reducible apply jl);exact u28;rfl));refine jT (by first|(simp only [j0];rfl)|rfl) ?_)))
       refine Wo.doVal rfl rfl (op_bin_str (r := .v (.bool (!(en == version)))) rfl rfl rfl rfl) ?_
       (repeat (first|(with_reducible first|apply jA|apply jC|apply jD|apply jE|apply jF|apply jG|apply jH|apply jI|apply jJ|apply jK|apply jL|apply jM|apply jN|apply jO)|(with_reducible apply SeqQ.id;refine SeqQ.norm (by first|(simp only [j0];rfl)|rfl) ?_)|with_reducible refine jP (by decide) ?_|(with_reducible apply jQ;first|refine jR rfl rfl rfl ?_|refine jS rfl rfl rfl ?_)|((first|((with_reducible first|apply jm|apply jn|apply jb|apply ju);repeat rfl)|((with_reducible apply jy);iterate 3 rfl)|((with_reducible apply jz);iterate 3 rfl)|((with_reducible apply jp);iterate 5 rfl)|((with_reducible apply jq);iterate 5 rfl)|((with_reducible apply jk);exact u9;rfl)|((with_reducible apply jl);exact u28;rfl));refine jT (by first|(simp only [j0];rfl)|rfl) ?_)))
       exact ⟨rfl, rfl, dead_of rfl⟩
 ·rintro R own H1 ⟨rfl, d, rfl⟩
  cases hb : lineBad s with
  | true =>
   rw [if_pos hb] at hsay
   (repeat (first|(with_reducible first|apply jA|apply jC|apply jD|apply jE|apply jF|apply jG|apply jH|apply jI|apply jJ|apply jK|apply jL|apply jM|apply jN|apply jO)|(with_reducible apply SeqQ.id;refine SeqQ.norm (by first|(simp only [j0];rfl)|rfl) ?_)|with_reducible refine jP (by decide) ?_|(with_reducible apply jQ;first|refine jR rfl rfl rfl ?_|refine jS rfl rfl rfl ?_)|((first|((with_reducible first|apply jm|apply jn|apply jb|apply ju);repeat rfl)|((with_reducible apply jy);iterate 3 rfl)|((with_reducible apply jz);iterate 3 rfl)|((with_reducible apply jp);iterate 5 rfl)|((with_reducible apply jq);iterate 5 rfl)|((with_reducible apply jk);exact u9;rfl)|((with_reducible apply jl);exact u28;rfl));refine jT (by first|(simp only [j0];rfl)|rfl) ?_)))
   refine Wo.doVal rfl rfl (op_load_ptr (v := .agg zero31) rfl rfl rfl (tv31 _ _ _ _ _)) ?_
   refine Wo.doSkip rfl rfl (op_store rfl rfl rfl (st31 rfl rfl)) ?_
   (repeat (first|(with_reducible first|apply jA|apply jC|apply jD|apply jE|apply jF|apply jG|apply jH|apply jI|apply jJ|apply jK|apply jL|apply jM|apply jN|apply jO)|(with_reducible apply SeqQ.id;refine SeqQ.norm (by first|(simp only [j0];rfl)|rfl) ?_)|with_reducible refine jP (by decide) ?_|(with_reducible apply jQ;first|refine jR rfl rfl rfl ?_|refine jS rfl rfl rfl ?_)|((first|((with_reducible first|apply jm|apply jn|apply jb|apply ju);repeat rfl)|((with_reducible apply jy);iterate 3 rfl)|((with_reducible apply jz);iterate 3 rfl)|((with_reducible apply jp);iterate 5 rfl)|((with_reducible apply jq);iterate 5 rfl)|((with_reducible apply jk);exact u9;rfl)|((with_reducible apply jl);exact u28;rfl));refine jT (by first|(simp only [j0];rfl)|rfl) ?_)))
   refine EndQ.ret (r := .tup [.agg zero31, .v (.bool false)]) (by kernel_rfl) ⟨.tup [.agg zero31, .v (.bool false)], rfl, rfl, rfl, ?_⟩
   unfold FirstSays
   rw [hsay]
   exact ⟨_, _, _, _, _, rfl, rfl⟩
  | false =>
   rw [if_neg (by rw [hb]; simp)] at hsay
   have hpre : Lib.hasPrefix tg [47] = true := by
    rw [hbad] at hb
    simp only [Bool.or_eq_false_iff, Bool.not_eq_false'] at hb
    exact hb.2.2.2.1
   have hpl := cut_first hpre (d := 63) (by decide)
   rw [hc3] at hpl
   simp only at hpl
   (repeat (first|(with_reducible first|apply jA|apply jC|apply jD|apply jE|apply jF|apply jG|apply jH|apply jI|apply jJ|apply jK|apply jL|apply jM|apply jN|apply jO)|(with_reducible apply SeqQ.id;refine SeqQ.norm (by first|(simp only [j0];rfl)|rfl) ?_)|with_reducible refine jP (by decide) ?_|(with_reducible apply jQ;first|refine jR rfl rfl rfl ?_|refine jS rfl rfl rfl ?_)|((first|((with_reducible first|apply jm|apply jn|apply jb|apply ju);repeat rfl)|((with_reducible apply jy);iterate 3 rfl)|((with_reducible apply jz);iterate 3 rfl)|((with_reducible apply jp);iterate 5 rfl)|((with_reducible apply jq);iterate 5 rfl)|((with_reducible apply jk);exact u9;rfl)|((with_reducible apply jl);exact u28;rfl));refine jT (by first|(simp only [j0];rfl)|rfl) ?_)))
   refine Wo.doVal rfl rfl (op_fieldAddr rfl rfl (fb31 1).1.1) ?_
   refine Wo.doSkip rfl rfl (op_store rfl rfl rfl (st31_0 rfl m)) ?_
   (repeat (first|(with_reducible first|apply jA|apply jC|apply jD|apply jE|apply jF|apply jG|apply jH|apply jI|apply jJ|apply jK|apply jL|apply jM|apply jN|apply jO)|(with_reducible apply SeqQ.id;refine SeqQ.norm (by first|(simp only [j0];rfl)|rfl) ?_)|with_reducible refine jP (by decide) ?_|(with_reducible apply jQ;first|refine jR rfl rfl rfl ?_|refine jS rfl rfl rfl ?_)|((first|((with_reducible first|apply jm|apply jn|apply jb|apply ju);repeat rfl)|((with_reducible apply jy);iterate 3 rfl)|((with_reducible apply jz);iterate 3 rfl)|((with_reducible apply jp);iterate 5 rfl)|((with_reducible apply jq);iterate 5 rfl)|((with_reducible apply jk);exact u9;rfl)|((with_reducible apply jl);exact u28;rfl));refine jT (by first|(simp only [j0];rfl)|rfl) ?_)))
   refine Wo.doCall rfl rfl (op_call (args := [.str tg, .str [63]]) rfl rfl) (Tells.libv (g := toldCut) rfl (cut_said (by omega) hc3) ?_)
   (repeat (first|(with_reducible first|apply jA|apply jC|apply jD|apply jE|apply jF|apply jG|apply jH|apply jI|apply jJ|apply jK|apply jL|apply jM|apply jN|apply jO)|(with_reducible apply SeqQ.id;refine SeqQ.norm (by first|(simp only [j0];rfl)|rfl) ?_)|with_reducible refine jP (by decide) ?_|(with_reducible apply jQ;first|refine jR rfl rfl rfl ?_|refine jS rfl rfl rfl ?_)|((first|((with_reducible first|apply jm|apply jn|apply jb|apply ju);repeat rfl)|((with_reducible apply jy);iterate 3 rfl)|((with_reducible apply jz);iterate 3 rfl)|((with_reducible apply jp);iterate 5 rfl)|((with_reducible apply jq);iterate 5 rfl)|((with_reducible apply jk);exact u9;rfl)|((with_reducible apply jl);exact u28;rfl));refine jT (by first|(simp only [j0];rfl)|rfl) ?_)))
   refine Wo.doVal rfl rfl (op_extract rfl rfl rfl) ?_
   refine Wo.doVal rfl rfl (op_extract rfl rfl rfl) ?_
   refine Wo.doVal rfl rfl (op_extract rfl rfl rfl) ?_
   (repeat (first|(with_reducible first|apply jA|apply jC|apply jD|apply jE|apply jF|apply jG|apply jH|apply jI|apply jJ|apply jK|apply jL|apply jM|apply jN|apply jO)|(with_reducible apply SeqQ.id;refine SeqQ.norm (by first|(simp only [j0];rfl)|rfl) ?_)|with_reducible refine jP (by decide) ?_|(with_reducible apply jQ;first|refine jR rfl rfl rfl ?_|refine jS rfl rfl rfl ?_)|((first|((with_reducible first|apply jm|apply jn|apply jb|apply ju);repeat rfl)|((with_reducible apply jy);iterate 3 rfl)|((with_reducible apply jz);iterate 3 rfl)|((with_reducible apply jp);iterate 5 rfl)|((with_reducible apply jq);iterate 5 rfl)|((with_reducible apply jk);exact u9;rfl)|((with_reducible apply jl);exact u28;rfl));refine jT (by first|(simp only [j0];rfl)|rfl) ?_)))
   refine Wo.doVal rfl rfl (op_alloc rfl z4 rfl) ?_
   refine Wo.doSkip rfl rfl (op_store rfl rfl rfl (st4 rfl true)) ?_
   (repeat (first|(with_reducible first|apply jA|apply jC|apply jD|apply jE|apply jF|apply jG|apply jH|apply jI|apply jJ|apply jK|apply jL|apply jM|apply jN|apply jO)|(with_reducible apply SeqQ.id;refine SeqQ.norm (by first|(simp only [j0];rfl)|rfl) ?_)|with_reducible refine jP (by decide) ?_|(with_reducible apply jQ;first|refine jR rfl rfl rfl ?_|refine jS rfl rfl rfl ?_)|((first|((with_reducible first|apply jm|apply jn|apply jb|apply ju);repeat rfl)|((with_reducible apply jy);iterate 3 rfl)|((with_reducible apply jz);iterate 3 rfl)|((with_reducible apply jp);iterate 5 rfl)|((with_reducible apply jq);iterate 5 rfl)|((with_reducible apply jk);exact u9;rfl)|((with_reducible apply jl);exact u28;rfl));refine jT (by first|(simp only [j0];rfl)|rfl) ?_)))
   refine Wo.doVal rfl rfl (op_makeFunc (xs := []) (ys := [.ptr 2 0]) rfl rfl rfl) ?_
   (repeat (first|(with_reducible first|apply jA|apply jC|apply jD|apply jE|apply jF|apply jG|apply jH|apply jI|apply jJ|apply jK|apply jL|apply jM|apply jN|apply jO)|(with_reducible apply SeqQ.id;refine SeqQ.norm (by first|(simp only [j0];rfl)|rfl) ?_)|with_reducible refine jP (by decide) ?_|(with_reducible apply jQ;first|refine jR rfl rfl rfl ?_|refine jS rfl rfl rfl ?_)|((first|((with_reducible first|apply jm|apply jn|apply jb|apply ju);repeat rfl)|((with_reducible apply jy);iterate 3 rfl)|((with_reducible apply jz);iterate 3 rfl)|((with_reducible apply jp);iterate 5 rfl)|((with_reducible apply jq);iterate 5 rfl)|((with_reducible apply jk);exact u9;rfl)|((with_reducible apply jl);exact u28;rfl));refine jT (by first|(simp only [j0];rfl)|rfl) ?_)))
   refine Wo.doVal rfl rfl (op_slice_str_lo (a := 1) rfl rfl u9 rfl rfl rfl hpl) ?_
   have hdl : (pa.drop 1).length < 4294967281 := by simp only [List.length_drop]; omega
   refine Wo.doCall rfl rfl (op_call (args := [.str (pa.drop 1), .str [47]]) rfl rfl) (Tells.libv (g := toldSplit) rfl (split_said hdl) ?_)
   have hpn := split_len (pa.drop 1) 47
   have hpp : ∀ p ∈ Lib.split (pa.drop 1) [47], p.length < 4294967281 := fun p hp => by have := split_part hp; omega
   rw [List.length_drop] at hpn
   generalize Lib.split (pa.drop 1) [47] = parts at *
   (repeat (first|(with_reducible first|apply jA|apply jC|apply jD|apply jE|apply jF|apply jG|apply jH|apply jI|apply jJ|apply jK|apply jL|apply jM|apply jN|apply jO)|(with_reducible apply SeqQ.id;refine SeqQ.norm (by first|(simp only [j0];rfl)|rfl) ?_)|with_reducible refine jP (by decide) ?_|(with_reducible apply jQ;first|refine jR rfl rfl rfl ?_|refine jS rfl rfl rfl ?_)|((first|((with_reducible first|apply jm|apply jn|apply jb|apply ju);repeat rfl)|((with_reducible apply jy);iterate 3 rfl)|((with_reducible apply jz);iterate 3 rfl)|((with_reducible apply jp);iterate 5 rfl)|((with_reducible apply jq);iterate 5 rfl)|((with_reducible apply jk);exact u9;rfl)|((with_reducible apply jl);exact u28;rfl));refine jT (by first|(simp only [j0];rfl)|rfl) ?_)))
   refine Wc.inv (fun mm st => ∃ (i : Nat) (pv : AV), mm = parts.length - i ∧ i ≤ parts.length ∧ FMem st.H m pv (.sl [] .nil) ((parts.take i).map decD) [] ((parts.take i).all decOk) ∧ ∃ d : Nat → AV, st.regs = (d 0 :: d 1 :: .ptr 0 0 :: .v (.bool false) :: .ptr 1 0 :: d 5 :: d 6 :: d 7 :: d 8 :: d 9 :: d 10 :: d 11 :: d 12 :: d 13 :: .str qu :: d 15 :: .ptr 2 0 :: .func (.func 46) [] [.ptr 2 0] :: d 18 :: d 19 :: d 20 :: d 21 :: d 22 :: d 23 :: d 24 :: d 25 :: d 26 :: d 27 :: d 28 :: d 29 :: d 30 :: d 31 :: d 32 :: d 33 :: d 34 :: d 35 :: d 36 :: d 37 :: d 38 :: d 39 :: d 40 :: d 41 :: d 42 :: d 43 :: d 44 :: d 45 :: d 46 :: d 47 :: d 48 :: d 49 :: d 50 :: d 51 :: d 52 :: d 53 :: d 54 :: d 55 :: d 56 :: d 57 :: d 58 :: d 59 :: d 60 :: d 61 :: d 62 :: d 63 :: d 64 :: d 65 :: d 66 :: d 67 :: d 68 :: d 69 :: d 70 :: d 71 :: d 72 :: d 73 :: d 74 :: d 75 :: d 76 :: .sl (parts.map AV.str) .unk :: i64v ((parts.map AV.str).length : Nat) :: i64v i :: d 80 :: d 81 :: d 82 :: d 83 :: d 84 :: d 85 :: d 86 :: d 87 :: d 88 :: d 89 :: d 90 :: d 91 :: d 92 :: d 93 :: d 94 :: d 95 :: d 96 :: d 97 :: d 98 :: d 99 :: d 100 :: d 101 :: d 102 :: d 103 :: d 104 :: d 105 :: d 106 :: d 107 :: d 108 :: d 109 :: d 110 :: d 111 :: d 112 :: d 113 :: d 114 :: d 115 :: d 116 :: d 117 :: d 118 :: d 119 :: d 120 :: d 121 :: [])) parts.length ?_ ?_
   ·exact ⟨0, .sl [] .nil, by omega, by omega, ⟨rfl, rfl, rfl, .inl ⟨rfl, rfl⟩, .inl ⟨rfl, rfl⟩, (fun k n e => by cases e), (fun k n e => by cases e), (fun k n j l e => by cases e)⟩, dead_of rfl⟩
   ·rintro mm regs own H1 ⟨i, pv, rfl, hi, hF, d, rfl⟩
    have hF : FMem H1 m pv (.sl [] .nil) ((parts.take i).map decD) [] ((parts.take i).all decOk) := hF
    (repeat (first|(with_reducible first|apply jA|apply jC|apply jD|apply jE|apply jF|apply jG|apply jH|apply jI|apply jJ|apply jK|apply jL|apply jM|apply jN|apply jO)|(with_reducible apply SeqQ.id;refine SeqQ.norm (by first|(simp only [j0];rfl)|rfl) ?_)|with_reducible refine jP (by decide) ?_|(with_reducible apply jQ;first|refine jR rfl rfl rfl ?_|refine jS rfl rfl rfl ?_)|((first|((with_reducible first|apply jm|apply jn|apply jb|apply ju);repeat rfl)|((with_reducible apply jy);iterate 3 rfl)|((with_reducible apply jz);iterate 3 rfl)|((with_reducible apply jp);iterate 5 rfl)|((with_reducible apply jq);iterate 5 rfl)|((with_reducible apply jk);exact u9;rfl)|((with_reducible apply jl);exact u28;rfl));refine jT (by first|(simp only [j0];rfl)|rfl) ?_)))
    by_cases hlt : i < parts.length
    ·rw [show decide ((i : Int) < (((parts.map AV.str).length : Nat) : Int)) = true by simp; omega]
     (repeat (first|(with_reducible first|apply jA|apply jC|apply jD|apply jE|apply jF|apply jG|apply jH|apply jI|apply jJ|apply jK|apply jL|apply jM|apply jN|apply jO)|(with_reducible apply SeqQ.id;refine SeqQ.norm (by first|(simp only [j0];rfl)|rfl) ?_)|with_reducible refine jP (by decide) ?_|(with_reducible apply jQ;first|refine jR rfl rfl rfl ?_|refine jS rfl rfl rfl ?_)|((first|((with_reducible first|apply jm|apply jn|apply jb|apply ju);repeat rfl)|((with_reducible apply jy);iterate 3 rfl)|((with_reducible apply jz);iterate 3 rfl)|((with_reducible apply jp);iterate 5 rfl)|((with_reducible apply jq);iterate 5 rfl)|((with_reducible apply jk);exact u9;rfl)|((with_reducible apply jl);exact u28;rfl));refine jT (by first|(simp only [j0];rfl)|rfl) ?_)))
     refine Wo.doVal rfl rfl (op_indexAddr_sl (sz := 0) (j := i) (el := .str parts[i]) rfl rfl u28 sz9 rfl rfl rfl (by simp [List.getElem?_eq_getElem hlt]) rfl) ?_
     refine Wo.doVal rfl rfl (op_load_rp rfl rfl (take_one ag9 sz9)) ?_
     (repeat (first|(with_reducible first|apply jA|apply jC|apply jD|apply jE|apply jF|apply jG|apply jH|apply jI|apply jJ|apply jK|apply jL|apply jM|apply jN|apply jO)|(with_reducible apply SeqQ.id;refine SeqQ.norm (by first|(simp only [j0];rfl)|rfl) ?_)|with_reducible refine jP (by decide) ?_|(with_reducible apply jQ;first|refine jR rfl rfl rfl ?_|refine jS rfl rfl rfl ?_)|((first|((with_reducible first|apply jm|apply jn|apply jb|apply ju);repeat rfl)|((with_reducible apply jy);iterate 3 rfl)|((with_reducible apply jz);iterate 3 rfl)|((with_reducible apply jp);iterate 5 rfl)|((with_reducible apply jq);iterate 5 rfl)|((with_reducible apply jk);exact u9;rfl)|((with_reducible apply jl);exact u28;rfl));refine jT (by first|(simp only [j0];rfl)|rfl) ?_)))
     refine Wc.drawnX rfl [1] [4] (by kernel_rfl) ?_
     refine WdX.val rfl (.inl rfl) rfl rfl rfl (op_fieldAddr rfl rfl (fb31 1).1.2) rfl ?_
     refine WdX.norm (by first | (simp only [setAt]; rfl) | rfl) ?_
     have hpu := hF.p.plain.2.2
     have hload : ∀ qv : AV, takeVar (Kq x).P 28 ([.str m, pv, qv, .sl [] .nil, .str []].drop 1) = some pv := fun qv => take_one ag28 sz28
     refine WdX.read rfl (.inl rfl) rfl rfl rfl ((op_load_ptr (v := pv) rfl rfl hF.b1 (hload _)).trans (by rw [hpu])) rfl (fun p hp => by cases hp) ?_
     refine WdX.norm (by first | (simp only [setAt]; rfl) | rfl) ?_
     (refine WdX.val rfl (.inl rfl) rfl rfl rfl (op_move rfl rfl) rfl ?_; refine WdX.norm (by first | (simp only [setAt]; rfl) | rfl) ?_)
     (refine WdX.val rfl (.inl rfl) rfl rfl rfl (op_move rfl rfl) rfl ?_; refine WdX.norm (by first | (simp only [setAt]; rfl) | rfl) ?_)
     refine WdX.call rfl (.inl rfl) rfl rfl rfl (op_callv (args := [.str parts[i]]) rfl rfl rfl) (fun r hr => by
      obtain rfl := List.mem_singleton.1 hr
      exact ⟨_, _, (op_load_ptr (v := pv) rfl rfl hF.b1 (hload _)).trans (by rw [hpu]), hF.p.same⟩) ((decoded_tells parts[i] (hpp _ (List.getElem_mem hlt)) _ 2 _ hF.b2).mono ?_)
     rintro r1 H2 ⟨rfl, rfl⟩
     have hF2 := hF.flag ((parts.take i).all decOk && decOk parts[i])
     refine ⟨fun r hr => by
      obtain rfl := List.mem_singleton.1 hr
      exact ⟨_, _, (op_load_ptr (v := pv) rfl rfl hF2.b1 (hload _)).trans (by rw [hpu]), hF.p.same⟩, ?_⟩
     generalize setAt H1 2 (.cells (4, true) [.v (.bool ((parts.take i).all decOk && decOk parts[i]))]) = H2 at *
     refine WdX.norm (by first | (simp only [setAt]; rfl) | rfl) ?_
     refine WdX.val rfl (.inl rfl) rfl rfl rfl (op_buildSlice (qs := [(0, .str (decD parts[i]))]) rfl rfl rfl (one28 _ _ _)) rfl ?_
     refine WdX.norm (by first | (simp only [setAt]; rfl) | rfl) ?_
     obtain ⟨info, hi9, hb9⟩ := in9 (x := x)
     obtain ⟨H3, hop, hb3, hl3, hk3⟩ := app_els (K := Kq x) (f := 27) (d := 89) (own := own) (y := .str (decD parts[i])) rfl u28 hi9 sz9 z9 rfl rfl hF2.p (fun y hy => by obtain ⟨s, _, rfl⟩ := List.mem_map.1 hy; rfl) rfl (room16 hb9 (by simp only [List.length_map, List.length_take]; omega))
     refine WdX.val rfl (.inl rfl) rfl rfl rfl (op_append rfl rfl rfl (.inl ⟨_, u28⟩) rfl rfl hop) rfl ?_
     refine WdX.norm (by first | (simp only [setAt]; rfl) | rfl) ?_
     refine WdX.val rfl (.inl rfl) rfl rfl rfl (op_fieldAddr rfl rfl (fb31 1).1.2) rfl ?_
     refine WdX.norm (by first | (simp only [setAt]; rfl) | rfl) ?_
     refine WdX.skip0 rfl (.inl rfl) rfl rfl rfl rfl (op_store rfl rfl rfl (st31_1 (hk3 1 _ (fun n e => by have := hF2.pk 1 n e; omega) hF2.b1) ⟨rfl, rfl, rfl⟩)) ?_
     refine WdX.nil ?_
     (repeat (first|(with_reducible first|apply jA|apply jC|apply jD|apply jE|apply jF|apply jG|apply jH|apply jI|apply jJ|apply jK|apply jL|apply jM|apply jN|apply jO)|(with_reducible apply SeqQ.id;refine SeqQ.norm (by first|(simp only [j0];rfl)|rfl) ?_)|with_reducible refine jP (by decide) ?_|(with_reducible apply jQ;first|refine jR rfl rfl rfl ?_|refine jS rfl rfl rfl ?_)|((first|((with_reducible first|apply jm|apply jn|apply jb|apply ju);repeat rfl)|((with_reducible apply jy);iterate 3 rfl)|((with_reducible apply jz);iterate 3 rfl)|((with_reducible apply jp);iterate 5 rfl)|((with_reducible apply jq);iterate 5 rfl)|((with_reducible apply jk);exact u9;rfl)|((with_reducible apply jl);exact u28;rfl));refine jT (by first|(simp only [j0];rfl)|rfl) ?_)))
     rw [wrap1 (by omega)]
     (repeat (first|(with_reducible first|apply jA|apply jC|apply jD|apply jE|apply jF|apply jG|apply jH|apply jI|apply jJ|apply jK|apply jL|apply jM|apply jN|apply jO)|(with_reducible apply SeqQ.id;refine SeqQ.norm (by first|(simp only [j0];rfl)|rfl) ?_)|with_reducible refine jP (by decide) ?_|(with_reducible apply jQ;first|refine jR rfl rfl rfl ?_|refine jS rfl rfl rfl ?_)|((first|((with_reducible first|apply jm|apply jn|apply jb|apply ju);repeat rfl)|((with_reducible apply jy);iterate 3 rfl)|((with_reducible apply jz);iterate 3 rfl)|((with_reducible apply jp);iterate 5 rfl)|((with_reducible apply jq);iterate 5 rfl)|((with_reducible apply jk);exact u9;rfl)|((with_reducible apply jl);exact u28;rfl));refine jT (by first|(simp only [j0];rfl)|rfl) ?_)))
     have hFn := hF2.path (decD parts[i]) hb3 hk3
     rw [← map_take (f := decD) hlt, ← all_take (p := decOk) hlt] at hFn
     exact LoopQ.normal (parts.length - (i + 1)) (by omega) ⟨i + 1, _, rfl, by omega, hFn, dead_of rfl⟩
    ·obtain rfl : i = parts.length := by omega
     rw [List.take_length] at hF
     rw [show decide (((parts.length : Nat) : Int) < (((parts.map AV.str).length : Nat) : Int)) = false by simp]
     (repeat (first|(with_reducible first|apply jA|apply jC|apply jD|apply jE|apply jF|apply jG|apply jH|apply jI|apply jJ|apply jK|apply jL|apply jM|apply jN|apply jO)|(with_reducible apply SeqQ.id;refine SeqQ.norm (by first|(simp only [j0];rfl)|rfl) ?_)|with_reducible refine jP (by decide) ?_|(with_reducible apply jQ;first|refine jR rfl rfl rfl ?_|refine jS rfl rfl rfl ?_)|((first|((with_reducible first|apply jm|apply jn|apply jb|apply ju);repeat rfl)|((with_reducible apply jy);iterate 3 rfl)|((with_reducible apply jz);iterate 3 rfl)|((with_reducible apply jp);iterate 5 rfl)|((with_reducible apply jq);iterate 5 rfl)|((with_reducible apply jk);exact u9;rfl)|((with_reducible apply jl);exact u28;rfl));refine jT (by first|(simp only [j0];rfl)|rfl) ?_)))
     refine Wo.doVal rfl rfl (op_bin_str (r := .v (.bool (!(qu == [])))) rfl rfl rfl rfl) ?_
     (repeat (first|(with_reducible first|apply jA|apply jC|apply jD|apply jE|apply jF|apply jG|apply jH|apply jI|apply jJ|apply jK|apply jL|apply jM|apply jN|apply jO)|(with_reducible apply SeqQ.id;refine SeqQ.norm (by first|(simp only [j0];rfl)|rfl) ?_)|with_reducible refine jP (by decide) ?_|(with_reducible apply jQ;first|refine jR rfl rfl rfl ?_|refine jS rfl rfl rfl ?_)|((first|((with_reducible first|apply jm|apply jn|apply jb|apply ju);repeat rfl)|((with_reducible apply jy);iterate 3 rfl)|((with_reducible apply jz);iterate 3 rfl)|((with_reducible apply jp);iterate 5 rfl)|((with_reducible apply jq);iterate 5 rfl)|((with_reducible apply jk);exact u9;rfl)|((with_reducible apply jl);exact u28;rfl));refine jT (by first|(simp only [j0];rfl)|rfl) ?_)))
     have hsay2 : firstP s = match decAll parts, decPairs (if qu = [] then [] else Lib.split qu [38]) with
      | some p, some q => some ⟨m, p, q⟩
      | _, _ => none := hsay
     clear hsay
     have hqn : qu ≠ [] → (Lib.split qu [38]).length ≤ qu.length + 1 := fun _ => split_len qu 38
     have hqp : ∀ p ∈ Lib.split qu [38], p.length < 4294967281 := fun p hp => by have := split_part hp; omega
     refine Wc.mid (fun st => ∃ (qv : AV) (g : Bool), FMem st.H m pv qv (parts.map decD) ((if qu = [] then [] else Lib.split qu [38]).map pairD) g ∧ g = (parts.all decOk && (if qu = [] then [] else Lib.split qu [38]).all pairOk) ∧ ∃ d : Nat → AV, st.regs = (d 0 :: d 1 :: .ptr 0 0 :: .v (.bool false) :: .ptr 1 0 :: d 5 :: d 6 :: d 7 :: d 8 :: d 9 :: d 10 :: d 11 :: d 12 :: d 13 :: d 14 :: d 15 :: .ptr 2 0 :: d 17 :: d 18 :: d 19 :: d 20 :: d 21 :: d 22 :: d 23 :: d 24 :: d 25 :: d 26 :: d 27 :: d 28 :: d 29 :: d 30 :: d 31 :: d 32 :: d 33 :: d 34 :: d 35 :: d 36 :: d 37 :: d 38 :: d 39 :: d 40 :: d 41 :: d 42 :: d 43 :: d 44 :: d 45 :: d 46 :: d 47 :: d 48 :: d 49 :: d 50 :: d 51 :: d 52 :: d 53 :: d 54 :: d 55 :: d 56 :: d 57 :: d 58 :: d 59 :: d 60 :: d 61 :: d 62 :: d 63 :: d 64 :: d 65 :: d 66 :: d 67 :: d 68 :: d 69 :: d 70 :: d 71 :: d 72 :: d 73 :: d 74 :: d 75 :: d 76 :: d 77 :: d 78 :: d 79 :: d 80 :: d 81 :: d 82 :: d 83 :: d 84 :: d 85 :: d 86 :: d 87 :: d 88 :: d 89 :: d 90 :: d 91 :: d 92 :: d 93 :: d 94 :: d 95 :: d 96 :: d 97 :: d 98 :: d 99 :: d 100 :: d 101 :: d 102 :: d 103 :: d 104 :: d 105 :: d 106 :: d 107 :: d 108 :: d 109 :: d 110 :: d 111 :: d 112 :: d 113 :: d 114 :: d 115 :: d 116 :: d 117 :: d 118 :: d 119 :: d 120 :: d 121 :: [])) ?_ ?_
     ·by_cases hq0 : qu = []
      ·rw [if_pos hq0, hq0]
       refine Wc.condF rfl rfl rfl ?_
       (repeat (first|(with_reducible first|apply jA|apply jC|apply jD|apply jE|apply jF|apply jG|apply jH|apply jI|apply jJ|apply jK|apply jL|apply jM|apply jN|apply jO)|(with_reducible apply SeqQ.id;refine SeqQ.norm (by first|(simp only [j0];rfl)|rfl) ?_)|with_reducible refine jP (by decide) ?_|(with_reducible apply jQ;first|refine jR rfl rfl rfl ?_|refine jS rfl rfl rfl ?_)|((first|((with_reducible first|apply jm|apply jn|apply jb|apply ju);repeat rfl)|((with_reducible apply jy);iterate 3 rfl)|((with_reducible apply jz);iterate 3 rfl)|((with_reducible apply jp);iterate 5 rfl)|((with_reducible apply jq);iterate 5 rfl)|((with_reducible apply jk);exact u9;rfl)|((with_reducible apply jl);exact u28;rfl));refine jT (by first|(simp only [j0];rfl)|rfl) ?_)))
       exact ⟨rfl, _, _, hF, by simp, dead_of rfl⟩
      ·rw [if_neg hq0]
       refine Wc.condT rfl rfl (by simp [hq0]) ?_
       have hqn := hqn hq0
       (repeat (first|(with_reducible first|apply jA|apply jC|apply jD|apply jE|apply jF|apply jG|apply jH|apply jI|apply jJ|apply jK|apply jL|apply jM|apply jN|apply jO)|(with_reducible apply SeqQ.id;refine SeqQ.norm (by first|(simp only [j0];rfl)|rfl) ?_)|with_reducible refine jP (by decide) ?_|(with_reducible apply jQ;first|refine jR rfl rfl rfl ?_|refine jS rfl rfl rfl ?_)|((first|((with_reducible first|apply jm|apply jn|apply jb|apply ju);repeat rfl)|((with_reducible apply jy);iterate 3 rfl)|((with_reducible apply jz);iterate 3 rfl)|((with_reducible apply jp);iterate 5 rfl)|((with_reducible apply jq);iterate 5 rfl)|((with_reducible apply jk);exact u9;rfl)|((with_reducible apply jl);exact u28;rfl));refine jT (by first|(simp only [j0];rfl)|rfl) ?_)))
       refine Wo.doCall rfl rfl (op_call (args := [.str qu, .str [38]]) rfl rfl) (Tells.libv (g := toldSplit) rfl (split_said (by omega)) ?_)
       generalize Lib.split qu [38] = qs at *
       (repeat (first|(with_reducible first|apply jA|apply jC|apply jD|apply jE|apply jF|apply jG|apply jH|apply jI|apply jJ|apply jK|apply jL|apply jM|apply jN|apply jO)|(with_reducible apply SeqQ.id;refine SeqQ.norm (by first|(simp only [j0];rfl)|rfl) ?_)|with_reducible refine jP (by decide) ?_|(with_reducible apply jQ;first|refine jR rfl rfl rfl ?_|refine jS rfl rfl rfl ?_)|((first|((with_reducible first|apply jm|apply jn|apply jb|apply ju);repeat rfl)|((with_reducible apply jy);iterate 3 rfl)|((with_reducible apply jz);iterate 3 rfl)|((with_reducible apply jp);iterate 5 rfl)|((with_reducible apply jq);iterate 5 rfl)|((with_reducible apply jk);exact u9;rfl)|((with_reducible apply jl);exact u28;rfl));refine jT (by first|(simp only [j0];rfl)|rfl) ?_)))
       refine Wc.inv (fun mm st => ∃ (i : Nat) (qv : AV), mm = qs.length - i ∧ i ≤ qs.length ∧ FMem st.H m pv qv (parts.map decD) ((qs.take i).map pairD) (parts.all decOk && (qs.take i).all pairOk) ∧ ∃ d : Nat → AV, st.regs = (d 0 :: d 1 :: .ptr 0 0 :: .v (.bool false) :: .ptr 1 0 :: d 5 :: d 6 :: d 7 :: d 8 :: d 9 :: d 10 :: d 11 :: d 12 :: d 13 :: d 14 :: d 15 :: .ptr 2 0 :: .func (.func 46) [] [.ptr 2 0] :: d 18 :: d 19 :: d 20 :: d 21 :: d 22 :: d 23 :: d 24 :: d 25 :: d 26 :: d 27 :: d 28 :: d 29 :: d 30 :: d 31 :: d 32 :: d 33 :: d 34 :: d 35 :: d 36 :: d 37 :: d 38 :: d 39 :: d 40 :: d 41 :: d 42 :: d 43 :: d 44 :: d 45 :: d 46 :: d 47 :: d 48 :: d 49 :: d 50 :: d 51 :: d 52 :: d 53 :: d 54 :: d 55 :: d 56 :: d 57 :: d 58 :: d 59 :: d 60 :: d 61 :: d 62 :: d 63 :: d 64 :: d 65 :: d 66 :: d 67 :: d 68 :: d 69 :: d 70 :: d 71 :: d 72 :: d 73 :: d 74 :: d 75 :: d 76 :: d 77 :: d 78 :: d 79 :: d 80 :: d 81 :: d 82 :: d 83 :: d 84 :: d 85 :: d 86 :: d 87 :: d 88 :: d 89 :: d 90 :: d 91 :: d 92 :: d 93 :: d 94 :: .sl (qs.map AV.str) .unk :: i64v ((qs.map AV.str).length : Nat) :: i64v i :: d 98 :: d 99 :: d 100 :: d 101 :: d 102 :: d 103 :: d 104 :: d 105 :: d 106 :: d 107 :: d 108 :: d 109 :: d 110 :: d 111 :: d 112 :: d 113 :: d 114 :: d 115 :: d 116 :: d 117 :: d 118 :: d 119 :: d 120 :: d 121 :: [])) qs.length ?_ ?_
       ·exact ⟨0, .sl [] .nil, by omega, by omega, by simpa using hF, dead_of rfl⟩
       ·rintro mm regs own H1 ⟨i, qv, rfl, hi2, hF, d, rfl⟩
        have hF : FMem H1 m pv qv (parts.map decD) ((qs.take i).map pairD) (parts.all decOk && (qs.take i).all pairOk) := hF
        (repeat (first|(with_reducible first|apply jA|apply jC|apply jD|apply jE|apply jF|apply jG|apply jH|apply jI|apply jJ|apply jK|apply jL|apply jM|apply jN|apply jO)|(with_reducible apply SeqQ.id;refine SeqQ.norm (by first|(simp only [j0];rfl)|rfl) ?_)|with_reducible refine jP (by decide) ?_|(with_reducible apply jQ;first|refine jR rfl rfl rfl ?_|refine jS rfl rfl rfl ?_)|((first|((with_reducible first|apply jm|apply jn|apply jb|apply ju);repeat rfl)|((with_reducible apply jy);iterate 3 rfl)|((with_reducible apply jz);iterate 3 rfl)|((with_reducible apply jp);iterate 5 rfl)|((with_reducible apply jq);iterate 5 rfl)|((with_reducible apply jk);exact u9;rfl)|((with_reducible apply jl);exact u28;rfl));refine jT (by first|(simp only [j0];rfl)|rfl) ?_)))
        by_cases hlt2 : i < qs.length
        ·rw [show decide ((i : Int) < (((qs.map AV.str).length : Nat) : Int)) = true by simp; omega]
         (repeat (first|(with_reducible first|apply jA|apply jC|apply jD|apply jE|apply jF|apply jG|apply jH|apply jI|apply jJ|apply jK|apply jL|apply jM|apply jN|apply jO)|(with_reducible apply SeqQ.id;refine SeqQ.norm (by first|(simp only [j0];rfl)|rfl) ?_)|with_reducible refine jP (by decide) ?_|(with_reducible apply jQ;first|refine jR rfl rfl rfl ?_|refine jS rfl rfl rfl ?_)|((first|((with_reducible first|apply jm|apply jn|apply jb|apply ju);repeat rfl)|((with_reducible apply jy);iterate 3 rfl)|((with_reducible apply jz);iterate 3 rfl)|((with_reducible apply jp);iterate 5 rfl)|((with_reducible apply jq);iterate 5 rfl)|((with_reducible apply jk);exact u9;rfl)|((with_reducible apply jl);exact u28;rfl));refine jT (by first|(simp only [j0];rfl)|rfl) ?_)))
         refine Wo.doVal rfl rfl (op_indexAddr_sl (sz := 0) (j := i) (el := .str qs[i]) rfl rfl u28 sz9 rfl rfl rfl (by simp [List.getElem?_eq_getElem hlt2]) rfl) ?_
         refine Wo.doVal rfl rfl (op_load_rp rfl rfl (take_one ag9 sz9)) ?_
         (repeat (first|(with_reducible first|apply jA|apply jC|apply jD|apply jE|apply jF|apply jG|apply jH|apply jI|apply jJ|apply jK|apply jL|apply jM|apply jN|apply jO)|(with_reducible apply SeqQ.id;refine SeqQ.norm (by first|(simp only [j0];rfl)|rfl) ?_)|with_reducible refine jP (by decide) ?_|(with_reducible apply jQ;first|refine jR rfl rfl rfl ?_|refine jS rfl rfl rfl ?_)|((first|((with_reducible first|apply jm|apply jn|apply jb|apply ju);repeat rfl)|((with_reducible apply jy);iterate 3 rfl)|((with_reducible apply jz);iterate 3 rfl)|((with_reducible apply jp);iterate 5 rfl)|((with_reducible apply jq);iterate 5 rfl)|((with_reducible apply jk);exact u9;rfl)|((with_reducible apply jl);exact u28;rfl));refine jT (by first|(simp only [j0];rfl)|rfl) ?_)))
         obtain ⟨ka, va, ba, hca⟩ : ∃ k v b, Lib.cut qs[i] [61] = (k, v, b) := ⟨_, _, _, rfl⟩
         have lca := cut_len qs[i] [61]
         have hpi := hqp _ (List.getElem_mem hlt2)
         have hpd : pairD qs[i] = (decD ka, decD va) := by unfold pairD; rw [hca]
         have hpo : pairOk qs[i] = (decOk ka && decOk va) := by unfold pairOk; rw [hca]
         rw [hca] at lca
         simp only at lca
         refine Wo.doCall rfl rfl (op_call (args := [.str qs[i], .str [61]]) rfl rfl) (Tells.libv (g := toldCut) rfl (cut_said hpi hca) ?_)
         (repeat (first|(with_reducible first|apply jA|apply jC|apply jD|apply jE|apply jF|apply jG|apply jH|apply jI|apply jJ|apply jK|apply jL|apply jM|apply jN|apply jO)|(with_reducible apply SeqQ.id;refine SeqQ.norm (by first|(simp only [j0];rfl)|rfl) ?_)|with_reducible refine jP (by decide) ?_|(with_reducible apply jQ;first|refine jR rfl rfl rfl ?_|refine jS rfl rfl rfl ?_)|((first|((with_reducible first|apply jm|apply jn|apply jb|apply ju);repeat rfl)|((with_reducible apply jy);iterate 3 rfl)|((with_reducible apply jz);iterate 3 rfl)|((with_reducible apply jp);iterate 5 rfl)|((with_reducible apply jq);iterate 5 rfl)|((with_reducible apply jk);exact u9;rfl)|((with_reducible apply jl);exact u28;rfl));refine jT (by first|(simp only [j0];rfl)|rfl) ?_)))
         refine Wo.doVal rfl rfl (op_extract rfl rfl rfl) ?_
         refine Wo.doVal rfl rfl (op_extract rfl rfl rfl) ?_
         refine Wo.doVal rfl rfl (op_extract rfl rfl rfl) ?_
         (repeat (first|(with_reducible first|apply jA|apply jC|apply jD|apply jE|apply jF|apply jG|apply jH|apply jI|apply jJ|apply jK|apply jL|apply jM|apply jN|apply jO)|(with_reducible apply SeqQ.id;refine SeqQ.norm (by first|(simp only [j0];rfl)|rfl) ?_)|with_reducible refine jP (by decide) ?_|(with_reducible apply jQ;first|refine jR rfl rfl rfl ?_|refine jS rfl rfl rfl ?_)|((first|((with_reducible first|apply jm|apply jn|apply jb|apply ju);repeat rfl)|((with_reducible apply jy);iterate 3 rfl)|((with_reducible apply jz);iterate 3 rfl)|((with_reducible apply jp);iterate 5 rfl)|((with_reducible apply jq);iterate 5 rfl)|((with_reducible apply jk);exact u9;rfl)|((with_reducible apply jl);exact u28;rfl));refine jT (by first|(simp only [j0];rfl)|rfl) ?_)))
         refine Wc.drawnX rfl [1] [4, 7] (by kernel_rfl) ?_
         refine WdX.val rfl (.inl rfl) rfl rfl rfl (op_fieldAddr rfl rfl (fb31 1).2.1) rfl ?_
         refine WdX.norm (by first | (simp only [setAt]; rfl) | rfl) ?_
         have hqu := hF.q.plain.2.2
         have hload : takeVar (Kq x).P 29 ([.str m, pv, qv, .sl [] .nil, .str []].drop 2) = some qv := take_one ag29 sz29
         refine WdX.read rfl (.inl rfl) rfl rfl rfl ((op_load_ptr (v := qv) rfl rfl hF.b1 hload).trans (by rw [hqu])) rfl (fun p hp => by cases hp) ?_
         refine WdX.norm (by first | (simp only [setAt]; rfl) | rfl) ?_
         (refine WdX.val rfl (.inl rfl) rfl rfl rfl (op_move rfl rfl) rfl ?_; refine WdX.norm (by first | (simp only [setAt]; rfl) | rfl) ?_)
         (refine WdX.val rfl (.inl rfl) rfl rfl rfl (op_move rfl rfl) rfl ?_; refine WdX.norm (by first | (simp only [setAt]; rfl) | rfl) ?_)
         refine WdX.call rfl (.inl rfl) rfl rfl rfl (op_callv (args := [.str ka]) rfl rfl rfl) (fun r hr => by
          obtain rfl := List.mem_singleton.1 hr
          exact ⟨_, _, (op_load_ptr (v := qv) rfl rfl hF.b1 hload).trans (by rw [hqu]), hF.q.same⟩) ((decoded_tells ka (by omega) _ 2 _ hF.b2).mono ?_)
         rintro r1 H2 ⟨rfl, rfl⟩
         have hF2 := hF.flag (parts.all decOk && (qs.take i).all pairOk && decOk ka)
         refine ⟨fun r hr => by
          obtain rfl := List.mem_singleton.1 hr
          exact ⟨_, _, (op_load_ptr (v := qv) rfl rfl hF2.b1 hload).trans (by rw [hqu]), hF.q.same⟩, ?_⟩
         generalize setAt H1 2 (.cells (4, true) [.v (.bool (parts.all decOk && (qs.take i).all pairOk && decOk ka))]) = H2 at *
         refine WdX.norm (by first | (simp only [setAt]; rfl) | rfl) ?_
         (refine WdX.val rfl (.inl rfl) rfl rfl rfl (op_move rfl rfl) rfl ?_; refine WdX.norm (by first | (simp only [setAt]; rfl) | rfl) ?_)
         (refine WdX.val rfl (.inl rfl) rfl rfl rfl (op_move rfl rfl) rfl ?_; refine WdX.norm (by first | (simp only [setAt]; rfl) | rfl) ?_)
         refine WdX.call rfl (.inl rfl) rfl rfl rfl (op_callv (args := [.str va]) rfl rfl rfl) (fun r hr => by
          obtain rfl := List.mem_singleton.1 hr
          exact ⟨_, _, (op_load_ptr (v := qv) rfl rfl hF2.b1 hload).trans (by rw [hqu]), hF.q.same⟩) ((decoded_tells va (by omega) _ 2 _ hF2.b2).mono ?_)
         rintro r1 H3 ⟨rfl, rfl⟩
         have hF3 := hF2.flag (parts.all decOk && (qs.take i).all pairOk && decOk ka && decOk va)
         refine ⟨fun r hr => by
          obtain rfl := List.mem_singleton.1 hr
          exact ⟨_, _, (op_load_ptr (v := qv) rfl rfl hF3.b1 hload).trans (by rw [hqu]), hF.q.same⟩, ?_⟩
         generalize setAt H2 2 (.cells (4, true) [.v (.bool (parts.all decOk && (qs.take i).all pairOk && decOk ka && decOk va))]) = H3 at *
         refine WdX.norm (by first | (simp only [setAt]; rfl) | rfl) ?_
         refine WdX.val rfl (.inl rfl) rfl rfl rfl (op_build (qs := [(0, .str (decD ka)), (1, .str (decD va))]) rfl rfl (bld52 _ _)) rfl ?_
         refine WdX.norm (by first | (simp only [setAt]; rfl) | rfl) ?_
         refine WdX.val rfl (.inl rfl) rfl rfl rfl (op_buildSlice (qs := [(0, .agg [.str (decD ka), .str (decD va)])]) rfl rfl rfl (one52 _ _ (decD ka, decD va))) rfl ?_
         refine WdX.norm (by first | (simp only [setAt]; rfl) | rfl) ?_
         obtain ⟨info2, hi9b, hb9b⟩ := in52 (x := x)
         obtain ⟨H4, hop, hb4, hl4, hk4⟩ := app_els (K := Kq x) (f := 27) (d := 117) (own := own) (y := hdV (decD ka, decD va)) rfl u29 hi9b sz52 z52 rfl rfl hF3.q (fun y hy => by obtain ⟨s, _, rfl⟩ := List.mem_map.1 hy; rfl) rfl (room32 hb9b (by simp only [List.length_map, List.length_take]; omega))
         refine WdX.val rfl (.inl rfl) rfl rfl rfl (op_append rfl rfl rfl (.inl ⟨_, u29⟩) rfl rfl hop) rfl ?_
         refine WdX.norm (by first | (simp only [setAt]; rfl) | rfl) ?_
         refine WdX.val rfl (.inl rfl) rfl rfl rfl (op_fieldAddr rfl rfl (fb31 1).2.1) rfl ?_
         refine WdX.norm (by first | (simp only [setAt]; rfl) | rfl) ?_
         refine WdX.skip0 rfl (.inl rfl) rfl rfl rfl rfl (op_store rfl rfl rfl (st31_2 (hk4 1 _ (fun n e => by have := hF3.qk 1 n e; omega) hF3.b1) ⟨rfl, rfl, rfl⟩)) ?_
         refine WdX.nil ?_
         (repeat (first|(with_reducible first|apply jA|apply jC|apply jD|apply jE|apply jF|apply jG|apply jH|apply jI|apply jJ|apply jK|apply jL|apply jM|apply jN|apply jO)|(with_reducible apply SeqQ.id;refine SeqQ.norm (by first|(simp only [j0];rfl)|rfl) ?_)|with_reducible refine jP (by decide) ?_|(with_reducible apply jQ;first|refine jR rfl rfl rfl ?_|refine jS rfl rfl rfl ?_)|((first|((with_reducible first|apply jm|apply jn|apply jb|apply ju);repeat rfl)|((with_reducible apply jy);iterate 3 rfl)|((with_reducible apply jz);iterate 3 rfl)|((with_reducible apply jp);iterate 5 rfl)|((with_reducible apply jq);iterate 5 rfl)|((with_reducible apply jk);exact u9;rfl)|((with_reducible apply jl);exact u28;rfl));refine jT (by first|(simp only [j0];rfl)|rfl) ?_)))
         rw [wrap1 (by omega)]
         (repeat (first|(with_reducible first|apply jA|apply jC|apply jD|apply jE|apply jF|apply jG|apply jH|apply jI|apply jJ|apply jK|apply jL|apply jM|apply jN|apply jO)|(with_reducible apply SeqQ.id;refine SeqQ.norm (by first|(simp only [j0];rfl)|rfl) ?_)|with_reducible refine jP (by decide) ?_|(with_reducible apply jQ;first|refine jR rfl rfl rfl ?_|refine jS rfl rfl rfl ?_)|((first|((with_reducible first|apply jm|apply jn|apply jb|apply ju);repeat rfl)|((with_reducible apply jy);iterate 3 rfl)|((with_reducible apply jz);iterate 3 rfl)|((with_reducible apply jp);iterate 5 rfl)|((with_reducible apply jq);iterate 5 rfl)|((with_reducible apply jk);exact u9;rfl)|((with_reducible apply jl);exact u28;rfl));refine jT (by first|(simp only [j0];rfl)|rfl) ?_)))
         have hFn := hF3.query (decD ka, decD va) hb4 hk4
         have e : (parts.all decOk && (qs.take i).all pairOk && decOk ka && decOk va) = (parts.all decOk && (qs.take (i + 1)).all pairOk) := by rw [all_take hlt2, hpo]; simp only [Bool.and_assoc]
         rw [e, ← hpd, ← map_take (f := pairD) hlt2] at hFn
         exact LoopQ.normal (qs.length - (i + 1)) (by omega) ⟨i + 1, _, rfl, by omega, hFn, dead_of rfl⟩
        ·obtain rfl : i = qs.length := by omega
         rw [List.take_length] at hF
         rw [show decide (((qs.length : Nat) : Int) < (((qs.map AV.str).length : Nat) : Int)) = false by simp]
         (repeat (first|(with_reducible first|apply jA|apply jC|apply jD|apply jE|apply jF|apply jG|apply jH|apply jI|apply jJ|apply jK|apply jL|apply jM|apply jN|apply jO)|(with_reducible apply SeqQ.id;refine SeqQ.norm (by first|(simp only [j0];rfl)|rfl) ?_)|with_reducible refine jP (by decide) ?_|(with_reducible apply jQ;first|refine jR rfl rfl rfl ?_|refine jS rfl rfl rfl ?_)|((first|((with_reducible first|apply jm|apply jn|apply jb|apply ju);repeat rfl)|((with_reducible apply jy);iterate 3 rfl)|((with_reducible apply jz);iterate 3 rfl)|((with_reducible apply jp);iterate 5 rfl)|((with_reducible apply jq);iterate 5 rfl)|((with_reducible apply jk);exact u9;rfl)|((with_reducible apply jl);exact u28;rfl));refine jT (by first|(simp only [j0];rfl)|rfl) ?_)))
         exact ⟨rfl, _, _, hF, rfl, dead_of rfl⟩
     ·rintro R own2 H2 ⟨qv, g, hF, hg, d, rfl⟩
      have hF : FMem H2 m pv qv (parts.map decD) ((if qu = [] then [] else Lib.split qu [38]).map pairD) g := hF
      (repeat (first|(with_reducible first|apply jA|apply jC|apply jD|apply jE|apply jF|apply jG|apply jH|apply jI|apply jJ|apply jK|apply jL|apply jM|apply jN|apply jO)|(with_reducible apply SeqQ.id;refine SeqQ.norm (by first|(simp only [j0];rfl)|rfl) ?_)|with_reducible refine jP (by decide) ?_|(with_reducible apply jQ;first|refine jR rfl rfl rfl ?_|refine jS rfl rfl rfl ?_)|((first|((with_reducible first|apply jm|apply jn|apply jb|apply ju);repeat rfl)|((with_reducible apply jy);iterate 3 rfl)|((with_reducible apply jz);iterate 3 rfl)|((with_reducible apply jp);iterate 5 rfl)|((with_reducible apply jq);iterate 5 rfl)|((with_reducible apply jk);exact u9;rfl)|((with_reducible apply jl);exact u28;rfl));refine jT (by first|(simp only [j0];rfl)|rfl) ?_)))
      refine Wc.drawnX rfl [1] [2] (by kernel_rfl) ?_
      have hall : allOne [.str m, pv, qv, .sl [] .nil, .str []] = true := by
       have h1 := hF.p.plain.2.1
       have h2 := hF.q.plain.2.1
       simp only [allOne, List.all_cons, h1, h2, List.all_nil]
       rfl
      have hload4 : takeVar (Kq x).P 31 ([AV.str m, pv, qv, .sl [] .nil, .str []].drop 0) = some (.agg [.str m, pv, qv, .sl [] .nil, .str []]) := tv31 _ _ _ _ _
      refine WdX.val rfl (.inl rfl) rfl rfl rfl (op_load_ptr rfl rfl hF.b1 hload4) rfl ?_
      refine WdX.norm (by first | (simp only [setAt]; rfl) | rfl) ?_
      refine WdX.read rfl (.inl rfl) rfl rfl rfl (op_load_ptr (v := .v (.bool g)) rfl rfl hF.b2 (take_one ag4 sz4)) rfl (fun p hp => by cases hp) ?_
      refine WdX.norm (by first | (simp only [setAt]; rfl) | rfl) ?_
      have hb0 := hF.b0
      unfold zero31 at hb0
      have hb2n : nth (setAt H2 0 (.cells (31, true) [.str m, pv, qv, .sl [] .nil, .str []])) 2 = some (.cells (4, true) [.v (.bool g)]) := by rw [nth_set_other (by omega)]; exact hF.b2
      have hsame : Go.Tm.same (.v (.bool g)) (.v (.bool g)) = true := by cases g <;> rfl
      refine WdX.skip rfl (.inl rfl) rfl rfl rfl (op_store rfl rfl rfl (st31 hb0 hall)) (fun r hr => by
       obtain rfl := List.mem_singleton.1 hr
       exact ⟨_, _, op_load_ptr (v := .v (.bool g)) rfl rfl hF.b2 (take_one ag4 sz4), hsame⟩) (fun r hr => by
       obtain rfl := List.mem_singleton.1 hr
       exact ⟨_, _, op_load_ptr (v := .v (.bool g)) rfl rfl hb2n (take_one ag4 sz4), hsame⟩) ?_
      refine WdX.val rfl (.inl rfl) rfl rfl rfl (op_assign rfl rfl) rfl ?_
      refine WdX.nil ?_
      (repeat (first|(with_reducible first|apply jA|apply jC|apply jD|apply jE|apply jF|apply jG|apply jH|apply jI|apply jJ|apply jK|apply jL|apply jM|apply jN|apply jO)|(with_reducible apply SeqQ.id;refine SeqQ.norm (by first|(simp only [j0];rfl)|rfl) ?_)|with_reducible refine jP (by decide) ?_|(with_reducible apply jQ;first|refine jR rfl rfl rfl ?_|refine jS rfl rfl rfl ?_)|((first|((with_reducible first|apply jm|apply jn|apply jb|apply ju);repeat rfl)|((with_reducible apply jy);iterate 3 rfl)|((with_reducible apply jz);iterate 3 rfl)|((with_reducible apply jp);iterate 5 rfl)|((with_reducible apply jq);iterate 5 rfl)|((with_reducible apply jk);exact u9;rfl)|((with_reducible apply jl);exact u28;rfl));refine jT (by first|(simp only [j0];rfl)|rfl) ?_)))
      have hp4 : BufE 9 1 (setAt H2 0 (.cells (31, true) [.str m, pv, qv, .sl [] .nil, .str []])) pv ((parts.map decD).map AV.str) := hF.p.kept fun k A n e q => by rw [nth_set_other (by have := hF.pk k n e; omega)]; exact q
      have hq4 := hF.q.kept (H' := setAt H2 0 (.cells (31, true) [.str m, pv, qv, .sl [] .nil, .str []])) fun k A n e q => by rw [nth_set_other (by have := hF.qk k n e; omega)]; exact q
      refine EndQ.ret (res31 rfl (nth_set_same hb0) rfl) ⟨_, snap_call g hp4 hq4, rfl, rfl, ?_⟩
      unfold FirstSays
      rw [hsay2, decAll_eq, decPairs_eq]
      cases hg1 : parts.all decOk with
      | false =>
       simp only [hg1, Bool.false_and] at hg
       subst hg
       simp only [Bool.false_eq_true, if_false]
       exact ⟨_, _, _, _, _, rfl, rfl⟩
      | true =>
       cases hg2 : (if qu = [] then [] else Lib.split qu [38]).all pairOk with
       | false =>
        simp only [hg1, hg2, Bool.and_false] at hg
        subst hg
        simp only [Bool.false_eq_true, if_true, if_false]
        exact ⟨_, _, _, _, _, rfl, rfl⟩
       | true =>
        simp only [hg1, hg2, Bool.and_self] at hg
        subst hg
        simp only [if_true]
end
end Go.Proofs.Hc
