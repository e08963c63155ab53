/- http.headers. -/
import Derived.Test.YtfihfpgphipglaaGreatDoorHcA
import Derived.Lib.AtoiTie
set_option linter.unusedVariables false
set_option linter.unusedSimpArgs false
set_option linter.unusedSectionVars false
namespace Go.Proofs.Hc
open Go.Tm
set_option maxRecDepth 100000
theorem digits_dec : ∀ (l : Bs) (acc : Nat), allB digit l = true → ∃ n, Lib.decFrom acc l = some n
 | [], acc, _ => ⟨acc, rfl⟩
 | c :: r, acc, h => by
  have h1 : digit c.toNat = true ∧ allB digit r = true := by simpa [allB] using h
  have h2 : 48 ≤ c.toNat ∧ c.toNat ≤ 57 := by simpa [digit] using h1.1
  obtain ⟨n, hn⟩ := digits_dec r (acc * 10 + (c.toNat - 48)) h1.2
  refine ⟨n, ?_⟩
  rw [Lib.decFrom, Lib.digitVal, if_pos h2]
  exact hn
theorem atoi_said {v : Bs} (h1 : v ≠ []) (h2 : v.length ≤ 9) (h3 : allB digit v = true) : toldAtoi [.str v] = some (.tup [.v (.int .i64 (lenOf v : Nat)), .v .nilIface]) := by
 obtain ⟨c, r, rfl⟩ : ∃ c r, v = c :: r := by cases v with
  | nil => exact absurd rfl h1
  | cons c r => exact ⟨c, r, rfl⟩
 have hd : digit c.toNat = true := by
  have : digit c.toNat = true ∧ allB digit r = true := by simpa [allB] using h3
  exact this.1
 have hd2 : 48 ≤ c.toNat ∧ c.toNat ≤ 57 := by simpa [digit] using hd
 obtain ⟨n, hn⟩ := digits_dec (c :: r) 0 h3
 have hdn : Lib.decNat (c :: r) = some n := by unfold Lib.decNat; simpa using hn
 have ha : Lib.atoiAll (c :: r) = .ok ((lenOf (c :: r) : Nat) : Int) := by
  rw [Lib.atoiAll_short _ (by omega), Lib.atoi]
  have e1 : (c == 45) = false := by
   rw [beq_eq_false_iff_ne]; rintro rfl; revert hd2; decide
  have e2 : (c == 43) = false := by
   rw [beq_eq_false_iff_ne]; rintro rfl; revert hd2; decide
  rw [e1, e2]
  simp only [Bool.false_eq_true, if_false, hdn, lenOf, Option.map_some, Option.getD_some]
  rfl
 show (if (c :: r).length ≤ 9223372036854775806 then (match Lib.atoiAll (c :: r) with | .ok v => _ | _ => none) else none) = _
 rw [if_pos (by omega), ha]
section
variable {x : Value}
theorem fb52_0 (b : Nat) : aFieldAddr (Kq x) 52 (.ptr b 0) 0 = some (.ptr b 0) := by kernel_rfl
theorem fb52_1 (b : Nat) : aFieldAddr (Kq x) 52 (.ptr b 0) 1 = some (.ptr b 1) := by kernel_rfl
theorem one52 (own : Nat → Nat) (H : List AB) (h : Hd) : aBuildSlice (Kq x) false own H 29 1 [(0, .agg [.str h.1, .str h.2])] = some (.val (.sl [hdV h] .full) own H) := by kernel_rfl
theorem in52 : ∃ info, (Kq x).P.info? 52 = some info ∧ info.bytes = 32 := by
 have h : ((Kq x).P.info? 52).map (·.bytes) = some 32 := by kernel_rfl
 cases hi : (Kq x).P.info? 52 with
 | none => rw [hi] at h; cases h
 | some i => rw [hi] at h; exact ⟨i, rfl, by simpa using h⟩
theorem hd_ones (l : List Hd) : (l.map hdV).all (fun y => y.cells.length == 1 + 1) = true := by
 rw [List.all_eq_true]
 intro y hy
 obtain ⟨b, _, rfl⟩ := List.mem_map.1 hy
 rfl
def outTl {α : Type} (l : List α) : Tail := if l = [] then .nil else .unk
def OutIs (d : Nat) (sz : Nat) {α : Type} (l : List α) (tl : Tail) (own : Nat → Nat) : Prop := (l = [] ∧ tl = .nil) ∨ (l ≠ [] ∧ tl = .own d (own d) sz ∧ own d ≠ 0)
theorem OutIs.un {d sz : Nat} {α : Type} {l : List α} {tl : Tail} {own : Nat → Nat} (h : OutIs d sz l tl own) : tl.un = outTl l := by
 rcases h with ⟨rfl, rfl⟩ | ⟨h, rfl, _⟩
 ·rfl
 ·rw [outTl, if_neg h]; rfl
theorem OutIs.may {d sz : Nat} {α : Type} {l : List α} {tl : Tail} {own : Nat → Nat} (h : OutIs d sz l tl own) : tl = .nil ∨ ∃ st, tl = .own st (own st) sz ∧ own st ≠ 0 := by
 rcases h with ⟨_, rfl⟩ | ⟨_, rfl, h⟩
 ·exact .inl rfl
 ·exact .inr ⟨d, rfl, h⟩
theorem app_hd {o : Oper} {R : List AV} {own : Nat → Nat} {H : List AB} {a c : Operand} {ts : Array TypeId} {out : List Hd} {h : Hd} {tl : Tail} (ho : o.op = .call { callee := .builtin .append, args := #[a, c], argTypes := ts }) (hd : o.dst = some 71) (ht : ts.toList = [29, 29]) (ha : evalO (Kq x) R a = some (.sl (out.map hdV) tl)) (htl : OutIs 71 2 out tl own) (hx : evalO (Kq x) R c = some (.sl [hdV h] .full)) (hr : out.length < 4294967281) :
  ∃ own', aOp (Kq x) 29 ⟨R, own, H⟩ o [] = some (.val (.sl ((out ++ [h]).map hdV) (.own 71 (own 71 + 1) 2)) own' H, [], []) ∧ OutIs 71 2 (out ++ [h]) (.own 71 (own 71 + 1) 2) own' := by
 obtain ⟨info, hi, hb⟩ := in52 (x := x)
 obtain ⟨own', h1, h2⟩ := op_append_own (K := Kq x) (f := 29) (own := own) (H := H) (n := 1) rfl ho hd ht u29 u29 hi sz52 z52 rfl rfl ha htl.may hx (hd_ones _) rfl (by simp) rfl (by
  rw [hb]
  simp only [roomOk, decide_eq_true_eq, List.length_map, List.length_cons, List.length_nil]; omega)
 refine ⟨own', ?_, .inr ⟨by simp, by rw [h2], by omega⟩⟩
 rw [h1, List.map_append]
 rfl
theorem heads_nil (out : List Hd) (n : Nat) (b : Bool) : headersP [] out n b = .ok out n := by rw [headersP]; simp
theorem heads_step {s : Bs} (hs : s ≠ []) (out : List Hd) (n : Nat) (b : Bool) : headersP s out n b = match headerP (Lib.cut s crlf).1 with
  | none => .bad 400
  | some h => if h.1 = tenc then .bad 400 else if h.1 = clen then if lenBad b h.2 = true then .bad 400 else if lenOf h.2 > 30000 then .bad 413 else headersP (Lib.cut s crlf).2.1 (out ++ [h]) (lenOf h.2) true
   else headersP (Lib.cut s crlf).2.1 (out ++ [h]) n b := by
 rw [headersP, dif_neg hs]
 cases headerP (Lib.cut s crlf).1 <;> rfl
theorem Wo.appHd {ops : Array Oper} {l : List Oper} {Q : AX → St → Prop} {o : Oper} {R : List AV} {own : Nat → Nat} {H : List AB} {a c : Operand} {ts : Array TypeId} {out : List Hd} {h : Hd} {tl : Tail} (hg : o.guard = none) (ho : o.op = .call { callee := .builtin .append, args := #[a, c], argTypes := ts }) (hd : o.dst = some 71) (ht : ts.toList = [29, 29]) (ha : evalO (Kq x) R a = some (.sl (out.map hdV) tl)) (htl : OutIs 71 2 out tl own) (hx : evalO (Kq x) R c = some (.sl [hdV h] .full)) (hr : out.length < 4294967281)
  (hk : ∀ own', OutIs 71 2 (out ++ [h]) (.own 71 (own 71 + 1) 2) own' → Wo (Kq x) 29 ops l (setAt R 71 (.sl ((out ++ [h]).map hdV) (.own 71 (own 71 + 1) 2))) own' H Q) : Wo (Kq x) 29 ops (o :: l) R own H Q := by
 obtain ⟨own', h1, h2⟩ := app_hd (x := x) (H := H) ho hd ht ha htl hx hr
 exact Wo.doVal hg hd h1 (hk own' h2)
theorem tv52 (a b : AV) : takeVar (Kq x).P 52 [a, b] = some (.agg [a, b]) := by kernel_rfl
def HdsSays (s : Bs) (r : AV) : Prop := match headersP s [] 0 false with
 | .bad st => r = .tup [.sl [] .nil, i64v (0 : Nat), i64v (st : Nat)]
 | .ok l n => ∃ tl, tl.un = outTl l ∧ r = .tup [.sl (l.map hdV) tl, i64v (n : Nat), i64v (0 : Nat)]
set_option maxHeartbeats 4000000 in
theorem heads_tells (s : Bs) (hs : s.length < 4294967281) (H : List AB) : Tells (Kq x) 29 [.str s] H fun r H' => H' = H ∧ HdsSays s r := by
 refine Tells.vals (c := _) Tryz.func29 rfl (args' := [.str s]) (m := 73) rfl rfl rfl rfl rfl ?_
 (repeat (first|(with_reducible first|apply jA|apply jC|apply jD|apply jE|apply jF|apply jG|apply jH|apply jI|apply jJ|apply jK|apply jL|apply jM|apply jN|apply jO)|(with_reducible apply SeqQ.id;refine SeqQ.norm (by first|(simp only [j0];rfl)|rfl) ?_)|with_reducible refine jP (by decide) ?_|(with_reducible apply jQ;first|refine jR rfl rfl rfl ?_|refine jS rfl rfl rfl ?_)|((first|((with_reducible first|apply jm|apply jn|apply jb|apply ju);repeat rfl)|((with_reducible apply jy);iterate 3 rfl)|((with_reducible apply jz);iterate 3 rfl)|((with_reducible apply jp);iterate 5 rfl)|((with_reducible apply jq);iterate 5 rfl)|((with_reducible apply jk);exact u9;rfl));refine jT (by first|(simp only [j0];rfl)|rfl) ?_)))
 refine Wc.inv (fun m st => ∃ (t : Bs) (out : List Hd) (n : Nat) (b : Bool) (tl : Tail), m = t.length ∧ out.length + t.length ≤ s.length ∧ headersP s [] 0 false = headersP t out n b ∧ OutIs 71 2 out tl st.own ∧ ∃ d : Nat → AV, st.regs = (.str t :: d 1 :: .sl [] .nil :: i64v (0 : Nat) :: i64v (0 : Nat) :: .sl (out.map hdV) tl :: i64v n :: .v (.bool b) :: d 8 :: d 9 :: d 10 :: d 11 :: d 12 :: d 13 :: d 14 :: d 15 :: d 16 :: d 17 :: d 18 :: d 19 :: d 20 :: d 21 :: d 22 :: d 23 :: d 24 :: d 25 :: d 26 :: d 27 :: d 28 :: d 29 :: d 30 :: d 31 :: d 32 :: d 33 :: d 34 :: d 35 :: d 36 :: d 37 :: d 38 :: d 39 :: d 40 :: d 41 :: d 42 :: d 43 :: d 44 :: d 45 :: d 46 :: d 47 :: d 48 :: d 49 :: d 50 :: d 51 :: d 52 :: d 53 :: d 54 :: d 55 :: d 56 :: d 57 :: d 58 :: d 59 :: d 60 :: d 61 :: d 62 :: d 63 :: d 64 :: d 65 :: d 66 :: d 67 :: d 68 :: d 69 :: d 70 :: d 71 :: d 72 :: d 73 :: [])) s.length ?_ ?_
 ·exact ⟨s, [], 0, false, .nil, rfl, by simp, rfl, .inl ⟨rfl, rfl⟩, dead_of rfl⟩
 ·rintro m regs own H1 ⟨t, out, n, b, tl, rfl, hl, hp, hout, d, rfl⟩
  have hout : OutIs 71 2 out tl own := hout
  (repeat (first|(with_reducible first|apply jA|apply jC|apply jD|apply jE|apply jF|apply jG|apply jH|apply jI|apply jJ|apply jK|apply jL|apply jM|apply jN|apply jO)|(with_reducible apply SeqQ.id;refine SeqQ.norm (by first|(simp only [j0];rfl)|rfl) ?_)|with_reducible refine jP (by decide) ?_|(with_reducible apply jQ;first|refine jR rfl rfl rfl ?_|refine jS rfl rfl rfl ?_)|((first|((with_reducible first|apply jm|apply jn|apply jb|apply ju);repeat rfl)|((with_reducible apply jy);iterate 3 rfl)|((with_reducible apply jz);iterate 3 rfl)|((with_reducible apply jp);iterate 5 rfl)|((with_reducible apply jq);iterate 5 rfl)|((with_reducible apply jk);exact u9;rfl));refine jT (by first|(simp only [j0];rfl)|rfl) ?_)))
  refine Wo.doVal rfl rfl (op_bin_str (r := .v (.bool (!(t == [])))) rfl rfl rfl rfl) ?_
  (repeat (first|(with_reducible first|apply jA|apply jC|apply jD|apply jE|apply jF|apply jG|apply jH|apply jI|apply jJ|apply jK|apply jL|apply jM|apply jN|apply jO)|(with_reducible apply SeqQ.id;refine SeqQ.norm (by first|(simp only [j0];rfl)|rfl) ?_)|with_reducible refine jP (by decide) ?_|(with_reducible apply jQ;first|refine jR rfl rfl rfl ?_|refine jS rfl rfl rfl ?_)|((first|((with_reducible first|apply jm|apply jn|apply jb|apply ju);repeat rfl)|((with_reducible apply jy);iterate 3 rfl)|((with_reducible apply jz);iterate 3 rfl)|((with_reducible apply jp);iterate 5 rfl)|((with_reducible apply jq);iterate 5 rfl)|((with_reducible apply jk);exact u9;rfl));refine jT (by first|(simp only [j0];rfl)|rfl) ?_)))
  by_cases ht : t = []
  ·subst ht
   (repeat (first|(with_reducible first|apply jA|apply jC|apply jD|apply jE|apply jF|apply jG|apply jH|apply jI|apply jJ|apply jK|apply jL|apply jM|apply jN|apply jO)|(with_reducible apply SeqQ.id;refine SeqQ.norm (by first|(simp only [j0];rfl)|rfl) ?_)|with_reducible refine jP (by decide) ?_|(with_reducible apply jQ;first|refine jR rfl rfl rfl ?_|refine jS rfl rfl rfl ?_)|((first|((with_reducible first|apply jm|apply jn|apply jb|apply ju);repeat rfl)|((with_reducible apply jy);iterate 3 rfl)|((with_reducible apply jz);iterate 3 rfl)|((with_reducible apply jp);iterate 5 rfl)|((with_reducible apply jq);iterate 5 rfl)|((with_reducible apply jk);exact u9;rfl));refine jT (by first|(simp only [j0];rfl)|rfl) ?_)))
   refine EndQ.ret rfl ⟨_, rfl, by rfl, rfl, ?_⟩
   unfold HdsSays
   rw [hp, heads_nil]
   exact ⟨tl, hout.un, rfl⟩
  ·rw [show (t == []) = false by simp [ht]]
   rw [heads_step ht] at hp
   obtain ⟨k, v, is, hc⟩ : ∃ k v b, Lib.cut t crlf = (k, v, b) := ⟨_, _, _, rfl⟩
   have hcl := cut_len t crlf
   have hcs : (Lib.cut t crlf).2.1.length < t.length := cut_shorter ht (by decide)
   rw [hc] at hcl hcs hp
   have hlk : k.length < 4294967281 := by have := hcl.1; simp only at this; omega
   simp only at hcs hp
   (repeat (first|(with_reducible first|apply jA|apply jC|apply jD|apply jE|apply jF|apply jG|apply jH|apply jI|apply jJ|apply jK|apply jL|apply jM|apply jN|apply jO)|(with_reducible apply SeqQ.id;refine SeqQ.norm (by first|(simp only [j0];rfl)|rfl) ?_)|with_reducible refine jP (by decide) ?_|(with_reducible apply jQ;first|refine jR rfl rfl rfl ?_|refine jS rfl rfl rfl ?_)|((first|((with_reducible first|apply jm|apply jn|apply jb|apply ju);repeat rfl)|((with_reducible apply jy);iterate 3 rfl)|((with_reducible apply jz);iterate 3 rfl)|((with_reducible apply jp);iterate 5 rfl)|((with_reducible apply jq);iterate 5 rfl)|((with_reducible apply jk);exact u9;rfl));refine jT (by first|(simp only [j0];rfl)|rfl) ?_)))
   refine Wo.doCall rfl rfl (op_call (args := [.str t, .str [13, 10]]) rfl rfl) (Tells.libv (g := toldCut) rfl (cut_said (by omega) hc) ?_)
   (repeat (first|(with_reducible first|apply jA|apply jC|apply jD|apply jE|apply jF|apply jG|apply jH|apply jI|apply jJ|apply jK|apply jL|apply jM|apply jN|apply jO)|(with_reducible apply SeqQ.id;refine SeqQ.norm (by first|(simp only [j0];rfl)|rfl) ?_)|with_reducible refine jP (by decide) ?_|(with_reducible apply jQ;first|refine jR rfl rfl rfl ?_|refine jS rfl rfl rfl ?_)|((first|((with_reducible first|apply jm|apply jn|apply jb|apply ju);repeat rfl)|((with_reducible apply jy);iterate 3 rfl)|((with_reducible apply jz);iterate 3 rfl)|((with_reducible apply jp);iterate 5 rfl)|((with_reducible apply jq);iterate 5 rfl)|((with_reducible apply jk);exact u9;rfl));refine jT (by first|(simp only [j0];rfl)|rfl) ?_)))
   refine Wo.doVal rfl rfl (op_extract rfl rfl rfl) ?_
   refine Wo.doVal rfl rfl (op_extract rfl rfl rfl) ?_
   refine Wo.doVal rfl rfl (op_extract rfl rfl rfl) ?_
   (repeat (first|(with_reducible first|apply jA|apply jC|apply jD|apply jE|apply jF|apply jG|apply jH|apply jI|apply jJ|apply jK|apply jL|apply jM|apply jN|apply jO)|(with_reducible apply SeqQ.id;refine SeqQ.norm (by first|(simp only [j0];rfl)|rfl) ?_)|with_reducible refine jP (by decide) ?_|(with_reducible apply jQ;first|refine jR rfl rfl rfl ?_|refine jS rfl rfl rfl ?_)|((first|((with_reducible first|apply jm|apply jn|apply jb|apply ju);repeat rfl)|((with_reducible apply jy);iterate 3 rfl)|((with_reducible apply jz);iterate 3 rfl)|((with_reducible apply jp);iterate 5 rfl)|((with_reducible apply jq);iterate 5 rfl)|((with_reducible apply jk);exact u9;rfl));refine jT (by first|(simp only [j0];rfl)|rfl) ?_)))
   refine Wo.doCall rfl rfl (op_call (args := [.str k]) rfl rfl) ((header_tells k hlk _).mono ?_)
   rintro r1 H2 ⟨rfl, rfl⟩
   unfold hdrV
   cases hh : headerP k with
   | none =>
    rw [hh] at hp
    simp only at hp
    (repeat (first|(with_reducible first|apply jA|apply jC|apply jD|apply jE|apply jF|apply jG|apply jH|apply jI|apply jJ|apply jK|apply jL|apply jM|apply jN|apply jO)|(with_reducible apply SeqQ.id;refine SeqQ.norm (by first|(simp only [j0];rfl)|rfl) ?_)|with_reducible refine jP (by decide) ?_|(with_reducible apply jQ;first|refine jR rfl rfl rfl ?_|refine jS rfl rfl rfl ?_)|((first|((with_reducible first|apply jm|apply jn|apply jb|apply ju);repeat rfl)|((with_reducible apply jy);iterate 3 rfl)|((with_reducible apply jz);iterate 3 rfl)|((with_reducible apply jp);iterate 5 rfl)|((with_reducible apply jq);iterate 5 rfl)|((with_reducible apply jk);exact u9;rfl));refine jT (by first|(simp only [j0];rfl)|rfl) ?_)))
    refine Wo.doVal rfl rfl (op_extract rfl rfl rfl) ?_
    refine Wo.doVal rfl rfl (op_extract rfl rfl rfl) ?_
    refine Wo.doVal rfl rfl (op_alloc rfl z52 rfl) ?_
    refine Wo.doSkip rfl rfl (op_store rfl rfl rfl (st52 (nth_app_new _ _) (str_plain _) (str_plain _))) ?_
    (repeat (first|(with_reducible first|apply jA|apply jC|apply jD|apply jE|apply jF|apply jG|apply jH|apply jI|apply jJ|apply jK|apply jL|apply jM|apply jN|apply jO)|(with_reducible apply SeqQ.id;refine SeqQ.norm (by first|(simp only [j0];rfl)|rfl) ?_)|with_reducible refine jP (by decide) ?_|(with_reducible apply jQ;first|refine jR rfl rfl rfl ?_|refine jS rfl rfl rfl ?_)|((first|((with_reducible first|apply jm|apply jn|apply jb|apply ju);repeat rfl)|((with_reducible apply jy);iterate 3 rfl)|((with_reducible apply jz);iterate 3 rfl)|((with_reducible apply jp);iterate 5 rfl)|((with_reducible apply jq);iterate 5 rfl)|((with_reducible apply jk);exact u9;rfl));refine jT (by first|(simp only [j0];rfl)|rfl) ?_)))
    refine EndQ.ret rfl ⟨_, rfl, by rfl, rfl, ?_⟩
    unfold HdsSays
    rw [hp]
    rfl
   | some h =>
    rw [hh] at hp
    simp only at hp
    (repeat (first|(with_reducible first|apply jA|apply jC|apply jD|apply jE|apply jF|apply jG|apply jH|apply jI|apply jJ|apply jK|apply jL|apply jM|apply jN|apply jO)|(with_reducible apply SeqQ.id;refine SeqQ.norm (by first|(simp only [j0];rfl)|rfl) ?_)|with_reducible refine jP (by decide) ?_|(with_reducible apply jQ;first|refine jR rfl rfl rfl ?_|refine jS rfl rfl rfl ?_)|((first|((with_reducible first|apply jm|apply jn|apply jb|apply ju);repeat rfl)|((with_reducible apply jy);iterate 3 rfl)|((with_reducible apply jz);iterate 3 rfl)|((with_reducible apply jp);iterate 5 rfl)|((with_reducible apply jq);iterate 5 rfl)|((with_reducible apply jk);exact u9;rfl));refine jT (by first|(simp only [j0];rfl)|rfl) ?_)))
    refine Wo.doVal rfl rfl (op_extract rfl rfl rfl) ?_
    refine Wo.doVal rfl rfl (op_extract rfl rfl rfl) ?_
    refine Wo.doVal rfl rfl (op_alloc rfl z52 rfl) ?_
    refine Wo.doSkip rfl rfl (op_store rfl rfl rfl (st52 (nth_app_new _ _) (str_plain _) (str_plain _))) ?_
    have hn1 := nth_set_same (b := AB.cells (52, true) [.str h.1, .str h.2]) (nth_app_new H2 (AB.cells (52, true) (AV.agg [.str [], .str []]).cells))
    generalize H2.length = bk at *
    generalize setAt (H2 ++ [AB.cells (52, true) (AV.agg [.str [], .str []]).cells]) bk (AB.cells (52, true) [.str h.1, .str h.2]) = H3 at *
    (repeat (first|(with_reducible first|apply jA|apply jC|apply jD|apply jE|apply jF|apply jG|apply jH|apply jI|apply jJ|apply jK|apply jL|apply jM|apply jN|apply jO)|(with_reducible apply SeqQ.id;refine SeqQ.norm (by first|(simp only [j0];rfl)|rfl) ?_)|with_reducible refine jP (by decide) ?_|(with_reducible apply jQ;first|refine jR rfl rfl rfl ?_|refine jS rfl rfl rfl ?_)|((first|((with_reducible first|apply jm|apply jn|apply jb|apply ju);repeat rfl)|((with_reducible apply jy);iterate 3 rfl)|((with_reducible apply jz);iterate 3 rfl)|((with_reducible apply jp);iterate 5 rfl)|((with_reducible apply jq);iterate 5 rfl)|((with_reducible apply jk);exact u9;rfl));refine jT (by first|(simp only [j0];rfl)|rfl) ?_)))
    refine Wo.doVal rfl rfl (op_fieldAddr rfl rfl (fb52_0 _)) ?_
    refine Wo.doVal rfl rfl (op_load_ptr (v := .str h.1) rfl rfl hn1 (take_one ag9 sz9)) ?_
    refine Wo.doVal rfl rfl (op_bin_str (r := .v (.bool (h.1 == tenc))) rfl rfl rfl rfl) ?_
    (repeat (first|(with_reducible first|apply jA|apply jC|apply jD|apply jE|apply jF|apply jG|apply jH|apply jI|apply jJ|apply jK|apply jL|apply jM|apply jN|apply jO)|(with_reducible apply SeqQ.id;refine SeqQ.norm (by first|(simp only [j0];rfl)|rfl) ?_)|with_reducible refine jP (by decide) ?_|(with_reducible apply jQ;first|refine jR rfl rfl rfl ?_|refine jS rfl rfl rfl ?_)|((first|((with_reducible first|apply jm|apply jn|apply jb|apply ju);repeat rfl)|((with_reducible apply jy);iterate 3 rfl)|((with_reducible apply jz);iterate 3 rfl)|((with_reducible apply jp);iterate 5 rfl)|((with_reducible apply jq);iterate 5 rfl)|((with_reducible apply jk);exact u9;rfl));refine jT (by first|(simp only [j0];rfl)|rfl) ?_)))
    by_cases hte : h.1 = tenc
    ·rw [if_pos hte] at hp
     rw [beq_iff_eq.2 hte]
     (repeat (first|(with_reducible first|apply jA|apply jC|apply jD|apply jE|apply jF|apply jG|apply jH|apply jI|apply jJ|apply jK|apply jL|apply jM|apply jN|apply jO)|(with_reducible apply SeqQ.id;refine SeqQ.norm (by first|(simp only [j0];rfl)|rfl) ?_)|with_reducible refine jP (by decide) ?_|(with_reducible apply jQ;first|refine jR rfl rfl rfl ?_|refine jS rfl rfl rfl ?_)|((first|((with_reducible first|apply jm|apply jn|apply jb|apply ju);repeat rfl)|((with_reducible apply jy);iterate 3 rfl)|((with_reducible apply jz);iterate 3 rfl)|((with_reducible apply jp);iterate 5 rfl)|((with_reducible apply jq);iterate 5 rfl)|((with_reducible apply jk);exact u9;rfl));refine jT (by first|(simp only [j0];rfl)|rfl) ?_)))
     refine EndQ.ret rfl ⟨_, rfl, by rfl, rfl, (by unfold HdsSays; rw [hp]; rfl)⟩
    ·rw [if_neg hte] at hp
     rw [beq_eq_false_iff_ne.2 hte]
     (repeat (first|(with_reducible first|apply jA|apply jC|apply jD|apply jE|apply jF|apply jG|apply jH|apply jI|apply jJ|apply jK|apply jL|apply jM|apply jN|apply jO)|(with_reducible apply SeqQ.id;refine SeqQ.norm (by first|(simp only [j0];rfl)|rfl) ?_)|with_reducible refine jP (by decide) ?_|(with_reducible apply jQ;first|refine jR rfl rfl rfl ?_|refine jS rfl rfl rfl ?_)|((first|((with_reducible first|apply jm|apply jn|apply jb|apply ju);repeat rfl)|((with_reducible apply jy);iterate 3 rfl)|((with_reducible apply jz);iterate 3 rfl)|((with_reducible apply jp);iterate 5 rfl)|((with_reducible apply jq);iterate 5 rfl)|((with_reducible apply jk);exact u9;rfl));refine jT (by first|(simp only [j0];rfl)|rfl) ?_)))
     refine Wo.doVal rfl rfl (op_fieldAddr rfl rfl (fb52_0 _)) ?_
     refine Wo.doVal rfl rfl (op_load_ptr (v := .str h.1) rfl rfl hn1 (take_one ag9 sz9)) ?_
     refine Wo.doVal rfl rfl (op_bin_str (r := .v (.bool (h.1 == clen))) rfl rfl rfl rfl) ?_
     by_cases hcl2 : h.1 = clen
     ·rw [if_pos hcl2] at hp
      rw [beq_iff_eq.2 hcl2]
      (repeat (first|(with_reducible first|apply jA|apply jC|apply jD|apply jE|apply jF|apply jG|apply jH|apply jI|apply jJ|apply jK|apply jL|apply jM|apply jN|apply jO)|(with_reducible apply SeqQ.id;refine SeqQ.norm (by first|(simp only [j0];rfl)|rfl) ?_)|with_reducible refine jP (by decide) ?_|(with_reducible apply jQ;first|refine jR rfl rfl rfl ?_|refine jS rfl rfl rfl ?_)|((first|((with_reducible first|apply jm|apply jn|apply jb|apply ju);repeat rfl)|((with_reducible apply jy);iterate 3 rfl)|((with_reducible apply jz);iterate 3 rfl)|((with_reducible apply jp);iterate 5 rfl)|((with_reducible apply jq);iterate 5 rfl)|((with_reducible apply jk);exact u9;rfl));refine jT (by first|(simp only [j0];rfl)|rfl) ?_)))
      refine Wo.mid (fun st => st.H = H3 ∧ st.own = own ∧ ∃ d : Nat → AV, st.regs = (.str v :: d 1 :: .sl [] .nil :: i64v (0 : Nat) :: i64v (0 : Nat) :: .sl (out.map hdV) tl :: i64v n :: .v (.bool b) :: .str k :: d 9 :: d 10 :: .ptr bk 0 :: .v (.bool true) :: d 13 :: d 14 :: d 15 :: d 16 :: d 17 :: d 18 :: d 19 :: d 20 :: d 21 :: d 22 :: d 23 :: d 24 :: d 25 :: d 26 :: .v (.bool (lenBad b h.2)) :: d 28 :: d 29 :: d 30 :: d 31 :: d 32 :: d 33 :: d 34 :: d 35 :: d 36 :: d 37 :: d 38 :: d 39 :: d 40 :: d 41 :: d 42 :: d 43 :: d 44 :: d 45 :: d 46 :: d 47 :: d 48 :: d 49 :: d 50 :: d 51 :: d 52 :: d 53 :: d 54 :: d 55 :: d 56 :: d 57 :: d 58 :: d 59 :: d 60 :: d 61 :: d 62 :: d 63 :: d 64 :: d 65 :: d 66 :: d 67 :: d 68 :: d 69 :: d 70 :: d 71 :: d 72 :: d 73 :: [])) ?_ ?_
      ·unfold lenBad
       cases b with
       | true =>
        (repeat (first|(with_reducible first|apply jA|apply jC|apply jD|apply jE|apply jF|apply jG|apply jH|apply jI|apply jJ|apply jK|apply jL|apply jM|apply jN|apply jO)|(with_reducible apply SeqQ.id;refine SeqQ.norm (by first|(simp only [j0];rfl)|rfl) ?_)|with_reducible refine jP (by decide) ?_|(with_reducible apply jQ;first|refine jR rfl rfl rfl ?_|refine jS rfl rfl rfl ?_)|((first|((with_reducible first|apply jm|apply jn|apply jb|apply ju);repeat rfl)|((with_reducible apply jy);iterate 3 rfl)|((with_reducible apply jz);iterate 3 rfl)|((with_reducible apply jv);rfl)|((with_reducible apply jp);iterate 5 rfl)|((with_reducible apply jq);iterate 5 rfl)|((with_reducible apply jk);exact u9;rfl));refine jT (by first|(simp only [j0];rfl)|rfl) ?_)))
        exact ⟨rfl, rfl, rfl, dead_of rfl⟩
       | false =>
        (repeat (first|(with_reducible first|apply jA|apply jC|apply jD|apply jE|apply jF|apply jG|apply jH|apply jI|apply jJ|apply jK|apply jL|apply jM|apply jN|apply jO)|(with_reducible apply SeqQ.id;refine SeqQ.norm (by first|(simp only [j0];rfl)|rfl) ?_)|with_reducible refine jP (by decide) ?_|(with_reducible apply jQ;first|refine jR rfl rfl rfl ?_|refine jS rfl rfl rfl ?_)|((first|((with_reducible first|apply jm|apply jn|apply jb|apply ju);repeat rfl)|((with_reducible apply jy);iterate 3 rfl)|((with_reducible apply jz);iterate 3 rfl)|((with_reducible apply jv);rfl)|((with_reducible apply jp);iterate 5 rfl)|((with_reducible apply jq);iterate 5 rfl)|((with_reducible apply jk);exact u9;rfl));refine jT (by first|(simp only [j0];rfl)|rfl) ?_)))
        refine Wo.doVal rfl rfl (op_fieldAddr rfl rfl (fb52_1 _)) ?_
        refine Wo.yes rfl rfl rfl rfl ?_
        refine Wo.doVal rfl rfl (op_load_ptr (v := .str h.2) rfl rfl hn1 (take_one ag9 sz9)) ?_
        refine Wo.yes rfl rfl rfl rfl ?_
        refine Wo.doVal rfl rfl (op_bin_str (r := .v (.bool (h.2 == []))) rfl rfl rfl rfl) ?_
        (repeat (first|(with_reducible first|apply jA|apply jC|apply jD|apply jE|apply jF|apply jG|apply jH|apply jI|apply jJ|apply jK|apply jL|apply jM|apply jN|apply jO)|(with_reducible apply SeqQ.id;refine SeqQ.norm (by first|(simp only [j0];rfl)|rfl) ?_)|with_reducible refine jP (by decide) ?_|(with_reducible apply jQ;first|refine jR rfl rfl rfl ?_|refine jS rfl rfl rfl ?_)|((first|((with_reducible first|apply jm|apply jn|apply jb|apply ju);repeat rfl)|((with_reducible apply jy);iterate 3 rfl)|((with_reducible apply jz);iterate 3 rfl)|((with_reducible apply jv);rfl)|((with_reducible apply jp);iterate 5 rfl)|((with_reducible apply jq);iterate 5 rfl)|((with_reducible apply jk);exact u9;rfl));refine jT (by first|(simp only [j0];rfl)|rfl) ?_)))
        cases hv0 : (h.2 == ([] : Bs)) with
        | true =>
         (repeat (first|(with_reducible first|apply jA|apply jC|apply jD|apply jE|apply jF|apply jG|apply jH|apply jI|apply jJ|apply jK|apply jL|apply jM|apply jN|apply jO)|(with_reducible apply SeqQ.id;refine SeqQ.norm (by first|(simp only [j0];rfl)|rfl) ?_)|with_reducible refine jP (by decide) ?_|(with_reducible apply jQ;first|refine jR rfl rfl rfl ?_|refine jS rfl rfl rfl ?_)|((first|((with_reducible first|apply jm|apply jn|apply jb|apply ju);repeat rfl)|((with_reducible apply jy);iterate 3 rfl)|((with_reducible apply jz);iterate 3 rfl)|((with_reducible apply jv);rfl)|((with_reducible apply jp);iterate 5 rfl)|((with_reducible apply jq);iterate 5 rfl)|((with_reducible apply jk);exact u9;rfl));refine jT (by first|(simp only [j0];rfl)|rfl) ?_)))
         exact ⟨rfl, rfl, rfl, dead_of rfl⟩
        | false =>
         (repeat (first|(with_reducible first|apply jA|apply jC|apply jD|apply jE|apply jF|apply jG|apply jH|apply jI|apply jJ|apply jK|apply jL|apply jM|apply jN|apply jO)|(with_reducible apply SeqQ.id;refine SeqQ.norm (by first|(simp only [j0];rfl)|rfl) ?_)|with_reducible refine jP (by decide) ?_|(with_reducible apply jQ;first|refine jR rfl rfl rfl ?_|refine jS rfl rfl rfl ?_)|((first|((with_reducible first|apply jm|apply jn|apply jb|apply ju);repeat rfl)|((with_reducible apply jy);iterate 3 rfl)|((with_reducible apply jz);iterate 3 rfl)|((with_reducible apply jv);rfl)|((with_reducible apply jp);iterate 5 rfl)|((with_reducible apply jq);iterate 5 rfl)|((with_reducible apply jk);exact u9;rfl));refine jT (by first|(simp only [j0];rfl)|rfl) ?_)))
         refine Wo.doVal rfl rfl (op_fieldAddr rfl rfl (fb52_1 _)) ?_
         refine Wo.yes rfl rfl rfl rfl ?_
         refine Wo.doVal rfl rfl (op_load_ptr (v := .str h.2) rfl rfl hn1 (take_one ag9 sz9)) ?_
         (repeat (first|(with_reducible first|apply jA|apply jC|apply jD|apply jE|apply jF|apply jG|apply jH|apply jI|apply jJ|apply jK|apply jL|apply jM|apply jN|apply jO)|(with_reducible apply SeqQ.id;refine SeqQ.norm (by first|(simp only [j0];rfl)|rfl) ?_)|with_reducible refine jP (by decide) ?_|(with_reducible apply jQ;first|refine jR rfl rfl rfl ?_|refine jS rfl rfl rfl ?_)|((first|((with_reducible first|apply jm|apply jn|apply jb|apply ju);repeat rfl)|((with_reducible apply jy);iterate 3 rfl)|((with_reducible apply jz);iterate 3 rfl)|((with_reducible apply jv);rfl)|((with_reducible apply jp);iterate 5 rfl)|((with_reducible apply jq);iterate 5 rfl)|((with_reducible apply jk);exact u9;rfl));refine jT (by first|(simp only [j0];rfl)|rfl) ?_)))
         by_cases h9 : h.2.length > 9
         ·rw [decide_eq_true h9, show decide ((h.2.length : Int) > 9) = true by simp; omega]
          (repeat (first|(with_reducible first|apply jA|apply jC|apply jD|apply jE|apply jF|apply jG|apply jH|apply jI|apply jJ|apply jK|apply jL|apply jM|apply jN|apply jO)|(with_reducible apply SeqQ.id;refine SeqQ.norm (by first|(simp only [j0];rfl)|rfl) ?_)|with_reducible refine jP (by decide) ?_|(with_reducible apply jQ;first|refine jR rfl rfl rfl ?_|refine jS rfl rfl rfl ?_)|((first|((with_reducible first|apply jm|apply jn|apply jb|apply ju);repeat rfl)|((with_reducible apply jy);iterate 3 rfl)|((with_reducible apply jz);iterate 3 rfl)|((with_reducible apply jv);rfl)|((with_reducible apply jp);iterate 5 rfl)|((with_reducible apply jq);iterate 5 rfl)|((with_reducible apply jk);exact u9;rfl));refine jT (by first|(simp only [j0];rfl)|rfl) ?_)))
          exact ⟨rfl, rfl, rfl, dead_of rfl⟩
         ·rw [decide_eq_false h9, show decide ((h.2.length : Int) > 9) = false by simp; omega]
          (repeat (first|(with_reducible first|apply jA|apply jC|apply jD|apply jE|apply jF|apply jG|apply jH|apply jI|apply jJ|apply jK|apply jL|apply jM|apply jN|apply jO)|(with_reducible apply SeqQ.id;refine SeqQ.norm (by first|(simp only [j0];rfl)|rfl) ?_)|with_reducible refine jP (by decide) ?_|(with_reducible apply jQ;first|refine jR rfl rfl rfl ?_|refine jS rfl rfl rfl ?_)|((first|((with_reducible first|apply jm|apply jn|apply jb|apply ju);repeat rfl)|((with_reducible apply jy);iterate 3 rfl)|((with_reducible apply jz);iterate 3 rfl)|((with_reducible apply jv);rfl)|((with_reducible apply jp);iterate 5 rfl)|((with_reducible apply jq);iterate 5 rfl)|((with_reducible apply jk);exact u9;rfl));refine jT (by first|(simp only [j0];rfl)|rfl) ?_)))
          refine Wo.doVal rfl rfl (op_fieldAddr rfl rfl (fb52_1 _)) ?_
          refine Wo.yes rfl rfl rfl rfl ?_
          refine Wo.doVal rfl rfl (op_load_ptr (v := .str h.2) rfl rfl hn1 (take_one ag9 sz9)) ?_
          refine Wo.yes rfl rfl rfl rfl ?_
          refine Wo.doCall rfl rfl (op_call (args := [.str h.2, .func (.func 38) [] []]) rfl rfl) ((all_tells dig_fn h.2 (by omega) _).mono ?_)
          rintro r1 H4 ⟨rfl, rfl⟩
          (repeat (first|(with_reducible first|apply jA|apply jC|apply jD|apply jE|apply jF|apply jG|apply jH|apply jI|apply jJ|apply jK|apply jL|apply jM|apply jN|apply jO)|(with_reducible apply SeqQ.id;refine SeqQ.norm (by first|(simp only [j0];rfl)|rfl) ?_)|with_reducible refine jP (by decide) ?_|(with_reducible apply jQ;first|refine jR rfl rfl rfl ?_|refine jS rfl rfl rfl ?_)|((first|((with_reducible first|apply jm|apply jn|apply jb|apply ju);repeat rfl)|((with_reducible apply jy);iterate 3 rfl)|((with_reducible apply jz);iterate 3 rfl)|((with_reducible apply jv);rfl)|((with_reducible apply jp);iterate 5 rfl)|((with_reducible apply jq);iterate 5 rfl)|((with_reducible apply jk);exact u9;rfl));refine jT (by first|(simp only [j0];rfl)|rfl) ?_)))
          exact ⟨rfl, rfl, rfl, dead_of rfl⟩
      ·rintro R own' H4 ⟨rfl, rfl, d, rfl⟩
       cases hlb : lenBad b h.2 with
       | true =>
        rw [if_pos hlb] at hp
        (repeat (first|(with_reducible first|apply jA|apply jC|apply jD|apply jE|apply jF|apply jG|apply jH|apply jI|apply jJ|apply jK|apply jL|apply jM|apply jN|apply jO)|(with_reducible apply SeqQ.id;refine SeqQ.norm (by first|(simp only [j0];rfl)|rfl) ?_)|with_reducible refine jP (by decide) ?_|(with_reducible apply jQ;first|refine jR rfl rfl rfl ?_|refine jS rfl rfl rfl ?_)|((first|((with_reducible first|apply jm|apply jn|apply jb|apply ju);repeat rfl)|((with_reducible apply jy);iterate 3 rfl)|((with_reducible apply jz);iterate 3 rfl)|((with_reducible apply jp);iterate 5 rfl)|((with_reducible apply jq);iterate 5 rfl)|((with_reducible apply jk);exact u9;rfl));refine jT (by first|(simp only [j0];rfl)|rfl) ?_)))
        refine EndQ.ret rfl ⟨_, rfl, by rfl, rfl, (by unfold HdsSays; rw [hp]; rfl)⟩
       | false =>
        rw [if_neg (by rw [hlb]; simp)] at hp
        have hv3 : h.2 ≠ [] ∧ h.2.length ≤ 9 ∧ allB digit h.2 = true := by
         unfold lenBad at hlb
         simp only [Bool.or_eq_false_iff, beq_eq_false_iff_ne, decide_eq_false_iff_not, Bool.not_eq_false'] at hlb
         exact ⟨hlb.2.1, by omega, hlb.2.2.2⟩
        (repeat (first|(with_reducible first|apply jA|apply jC|apply jD|apply jE|apply jF|apply jG|apply jH|apply jI|apply jJ|apply jK|apply jL|apply jM|apply jN|apply jO)|(with_reducible apply SeqQ.id;refine SeqQ.norm (by first|(simp only [j0];rfl)|rfl) ?_)|with_reducible refine jP (by decide) ?_|(with_reducible apply jQ;first|refine jR rfl rfl rfl ?_|refine jS rfl rfl rfl ?_)|((first|((with_reducible first|apply jm|apply jn|apply jb|apply ju);repeat rfl)|((with_reducible apply jy);iterate 3 rfl)|((with_reducible apply jz);iterate 3 rfl)|((with_reducible apply jp);iterate 5 rfl)|((with_reducible apply jq);iterate 5 rfl)|((with_reducible apply jk);exact u9;rfl));refine jT (by first|(simp only [j0];rfl)|rfl) ?_)))
        refine Wo.doVal rfl rfl (op_fieldAddr rfl rfl (fb52_0 _)) ?_
        refine Wo.doVal rfl rfl (op_load_ptr (v := .str h.1) rfl rfl hn1 (take_one ag9 sz9)) ?_
        refine Wo.doVal rfl rfl (op_bin_str (r := .v (.bool (h.1 == clen))) rfl rfl rfl rfl) ?_
        rw [beq_iff_eq.2 hcl2]
        (repeat (first|(with_reducible first|apply jA|apply jC|apply jD|apply jE|apply jF|apply jG|apply jH|apply jI|apply jJ|apply jK|apply jL|apply jM|apply jN|apply jO)|(with_reducible apply SeqQ.id;refine SeqQ.norm (by first|(simp only [j0];rfl)|rfl) ?_)|with_reducible refine jP (by decide) ?_|(with_reducible apply jQ;first|refine jR rfl rfl rfl ?_|refine jS rfl rfl rfl ?_)|((first|((with_reducible first|apply jm|apply jn|apply jb|apply ju);repeat rfl)|((with_reducible apply jy);iterate 3 rfl)|((with_reducible apply jz);iterate 3 rfl)|((with_reducible apply jp);iterate 5 rfl)|((with_reducible apply jq);iterate 5 rfl)|((with_reducible apply jk);exact u9;rfl));refine jT (by first|(simp only [j0];rfl)|rfl) ?_)))
        refine Wo.doVal rfl rfl (op_fieldAddr rfl rfl (fb52_1 _)) ?_
        refine Wo.doVal rfl rfl (op_load_ptr (v := .str h.2) rfl rfl hn1 (take_one ag9 sz9)) ?_
        refine Wo.doCall rfl rfl (op_call (args := [.str h.2]) rfl rfl) (Tells.libv (g := toldAtoi) rfl (atoi_said hv3.1 hv3.2.1 hv3.2.2) ?_)
        (repeat (first|(with_reducible first|apply jA|apply jC|apply jD|apply jE|apply jF|apply jG|apply jH|apply jI|apply jJ|apply jK|apply jL|apply jM|apply jN|apply jO)|(with_reducible apply SeqQ.id;refine SeqQ.norm (by first|(simp only [j0];rfl)|rfl) ?_)|with_reducible refine jP (by decide) ?_|(with_reducible apply jQ;first|refine jR rfl rfl rfl ?_|refine jS rfl rfl rfl ?_)|((first|((with_reducible first|apply jm|apply jn|apply jb|apply ju);repeat rfl)|((with_reducible apply jy);iterate 3 rfl)|((with_reducible apply jz);iterate 3 rfl)|((with_reducible apply jp);iterate 5 rfl)|((with_reducible apply jq);iterate 5 rfl)|((with_reducible apply jk);exact u9;rfl));refine jT (by first|(simp only [j0];rfl)|rfl) ?_)))
        refine Wo.doVal rfl rfl (op_extract rfl rfl rfl) ?_
        refine Wo.doVal rfl rfl (op_extract rfl rfl rfl) ?_
        (repeat (first|(with_reducible first|apply jA|apply jC|apply jD|apply jE|apply jF|apply jG|apply jH|apply jI|apply jJ|apply jK|apply jL|apply jM|apply jN|apply jO)|(with_reducible apply SeqQ.id;refine SeqQ.norm (by first|(simp only [j0];rfl)|rfl) ?_)|with_reducible refine jP (by decide) ?_|(with_reducible apply jQ;first|refine jR rfl rfl rfl ?_|refine jS rfl rfl rfl ?_)|((first|((with_reducible first|apply jm|apply jn|apply jb|apply ju);repeat rfl)|((with_reducible apply jy);iterate 3 rfl)|((with_reducible apply jz);iterate 3 rfl)|((with_reducible apply jp);iterate 5 rfl)|((with_reducible apply jq);iterate 5 rfl)|((with_reducible apply jk);exact u9;rfl));refine jT (by first|(simp only [j0];rfl)|rfl) ?_)))
        by_cases h3 : lenOf h.2 > 30000
        ·rw [if_pos h3] at hp
         rw [show decide (((lenOf h.2 : Nat) : Int) > 30000) = true by simp; omega]
         (repeat (first|(with_reducible first|apply jA|apply jC|apply jD|apply jE|apply jF|apply jG|apply jH|apply jI|apply jJ|apply jK|apply jL|apply jM|apply jN|apply jO)|(with_reducible apply SeqQ.id;refine SeqQ.norm (by first|(simp only [j0];rfl)|rfl) ?_)|with_reducible refine jP (by decide) ?_|(with_reducible apply jQ;first|refine jR rfl rfl rfl ?_|refine jS rfl rfl rfl ?_)|((first|((with_reducible first|apply jm|apply jn|apply jb|apply ju);repeat rfl)|((with_reducible apply jy);iterate 3 rfl)|((with_reducible apply jz);iterate 3 rfl)|((with_reducible apply jp);iterate 5 rfl)|((with_reducible apply jq);iterate 5 rfl)|((with_reducible apply jk);exact u9;rfl));refine jT (by first|(simp only [j0];rfl)|rfl) ?_)))
         refine EndQ.ret rfl ⟨_, rfl, by rfl, rfl, (by unfold HdsSays; rw [hp]; rfl)⟩
        ·rw [if_neg h3] at hp
         rw [show decide (((lenOf h.2 : Nat) : Int) > 30000) = false by simp; omega]
         (repeat (first|(with_reducible first|apply jA|apply jC|apply jD|apply jE|apply jF|apply jG|apply jH|apply jI|apply jJ|apply jK|apply jL|apply jM|apply jN|apply jO)|(with_reducible apply SeqQ.id;refine SeqQ.norm (by first|(simp only [j0];rfl)|rfl) ?_)|with_reducible refine jP (by decide) ?_|(with_reducible apply jQ;first|refine jR rfl rfl rfl ?_|refine jS rfl rfl rfl ?_)|((first|((with_reducible first|apply jm|apply jn|apply jb|apply ju);repeat rfl)|((with_reducible apply jy);iterate 3 rfl)|((with_reducible apply jz);iterate 3 rfl)|((with_reducible apply jp);iterate 5 rfl)|((with_reducible apply jq);iterate 5 rfl)|((with_reducible apply jk);exact u9;rfl));refine jT (by first|(simp only [j0];rfl)|rfl) ?_)))
         (refine Wo.doVal rfl rfl (op_load_ptr (v := .agg [.str h.1, .str h.2]) rfl rfl hn1 (tv52 _ _)) ?_; refine Wo.doVal rfl rfl (op_buildSlice (qs := [(0, .agg [.str h.1, .str h.2])]) rfl rfl rfl (one52 _ _ h)) ?_; refine Wo.appHd rfl rfl rfl rfl rfl hout rfl (by omega) fun own2 ho' => ?_; (repeat (first|(with_reducible first|apply jA|apply jC|apply jD|apply jE|apply jF|apply jG|apply jH|apply jI|apply jJ|apply jK|apply jL|apply jM|apply jN|apply jO)|(with_reducible apply SeqQ.id;refine SeqQ.norm (by first|(simp only [j0];rfl)|rfl) ?_)|with_reducible refine jP (by decide) ?_|(with_reducible apply jQ;first|refine jR rfl rfl rfl ?_|refine jS rfl rfl rfl ?_)|((first|((with_reducible first|apply jm|apply jn|apply jb|apply ju);repeat rfl)|((with_reducible apply jy);iterate 3 rfl)|((with_reducible apply jz);iterate 3 rfl)|((with_reducible apply jp);iterate 5 rfl)|((with_reducible apply jq);iterate 5 rfl)|((with_reducible apply jk);exact u9;rfl));refine jT (by first|(simp only [j0];rfl)|rfl) ?_))))
         refine LoopQ.normal v.length hcs ⟨v, out ++ [h], lenOf h.2, true, _, rfl, by simp; omega, hp, ho', dead_of rfl⟩
     ·rw [if_neg hcl2] at hp
      rw [beq_eq_false_iff_ne.2 hcl2]
      (repeat (first|(with_reducible first|apply jA|apply jC|apply jD|apply jE|apply jF|apply jG|apply jH|apply jI|apply jJ|apply jK|apply jL|apply jM|apply jN|apply jO)|(with_reducible apply SeqQ.id;refine SeqQ.norm (by first|(simp only [j0];rfl)|rfl) ?_)|with_reducible refine jP (by decide) ?_|(with_reducible apply jQ;first|refine jR rfl rfl rfl ?_|refine jS rfl rfl rfl ?_)|((first|((with_reducible first|apply jm|apply jn|apply jb|apply ju);repeat rfl)|((with_reducible apply jy);iterate 3 rfl)|((with_reducible apply jz);iterate 3 rfl)|((with_reducible apply jv);rfl)|((with_reducible apply jp);iterate 5 rfl)|((with_reducible apply jq);iterate 5 rfl)|((with_reducible apply jk);exact u9;rfl));refine jT (by first|(simp only [j0];rfl)|rfl) ?_)))
      refine Wo.doVal rfl rfl (op_fieldAddr rfl rfl (fb52_0 _)) ?_
      refine Wo.doVal rfl rfl (op_load_ptr (v := .str h.1) rfl rfl hn1 (take_one ag9 sz9)) ?_
      refine Wo.doVal rfl rfl (op_bin_str (r := .v (.bool (h.1 == clen))) rfl rfl rfl rfl) ?_
      rw [beq_eq_false_iff_ne.2 hcl2]
      (repeat (first|(with_reducible first|apply jA|apply jC|apply jD|apply jE|apply jF|apply jG|apply jH|apply jI|apply jJ|apply jK|apply jL|apply jM|apply jN|apply jO)|(with_reducible apply SeqQ.id;refine SeqQ.norm (by first|(simp only [j0];rfl)|rfl) ?_)|with_reducible refine jP (by decide) ?_|(with_reducible apply jQ;first|refine jR rfl rfl rfl ?_|refine jS rfl rfl rfl ?_)|((first|((with_reducible first|apply jm|apply jn|apply jb|apply ju);repeat rfl)|((with_reducible apply jy);iterate 3 rfl)|((with_reducible apply jz);iterate 3 rfl)|((with_reducible apply jp);iterate 5 rfl)|((with_reducible apply jq);iterate 5 rfl)|((with_reducible apply jk);exact u9;rfl));refine jT (by first|(simp only [j0];rfl)|rfl) ?_)))
      (refine Wo.doVal rfl rfl (op_load_ptr (v := .agg [.str h.1, .str h.2]) rfl rfl hn1 (tv52 _ _)) ?_; refine Wo.doVal rfl rfl (op_buildSlice (qs := [(0, .agg [.str h.1, .str h.2])]) rfl rfl rfl (one52 _ _ h)) ?_; refine Wo.appHd rfl rfl rfl rfl rfl hout rfl (by omega) fun own2 ho' => ?_; (repeat (first|(with_reducible first|apply jA|apply jC|apply jD|apply jE|apply jF|apply jG|apply jH|apply jI|apply jJ|apply jK|apply jL|apply jM|apply jN|apply jO)|(with_reducible apply SeqQ.id;refine SeqQ.norm (by first|(simp only [j0];rfl)|rfl) ?_)|with_reducible refine jP (by decide) ?_|(with_reducible apply jQ;first|refine jR rfl rfl rfl ?_|refine jS rfl rfl rfl ?_)|((first|((with_reducible first|apply jm|apply jn|apply jb|apply ju);repeat rfl)|((with_reducible apply jy);iterate 3 rfl)|((with_reducible apply jz);iterate 3 rfl)|((with_reducible apply jp);iterate 5 rfl)|((with_reducible apply jq);iterate 5 rfl)|((with_reducible apply jk);exact u9;rfl));refine jT (by first|(simp only [j0];rfl)|rfl) ?_))))
      refine LoopQ.normal v.length hcs ⟨v, out ++ [h], n, b, _, rfl, by simp; omega, hp, ho', dead_of rfl⟩
end
end Go.Proofs.Hc
