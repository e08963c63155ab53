/- The cask's records read: the code's Parse. -/
import Derived.Test.YtaefgigfoifjaaaGreatDoorCkRead2
set_option linter.unusedVariables false
set_option linter.unusedSimpArgs false
set_option linter.unusedSectionVars false
namespace Go.Proofs.Ck
open Go.Tm
set_option maxRecDepth 100000
theorem unframeP_pos {s : Bs} (h : (unframeP s).2.2 = 0) : 0 < (unframeP s).2.1 ∧ (unframeP s).2.1 ≤ s.length := by
 have hln := numR_len ⟨s, 0⟩
 unfold unframeP at h ⊢
 rcases hq : numR ⟨s, 0⟩ with ⟨n, r⟩
 rw [hq] at hln h
 simp only at hln h ⊢
 by_cases h1 : r.err = 0
 ·rw [if_neg (by simpa using h1)] at h ⊢
  by_cases h2 : 65536 < n
  ·rw [if_pos h2] at h; simp at h
  ·rw [if_neg h2] at h ⊢
   have hl1 := rawR_len r n
   rcases hq1 : rawR r n with ⟨body, ra⟩
   rw [hq1] at hl1 h
   simp only at hl1 h ⊢
   have h4 : (rawR ra 4).2.err = 0 → (rawR ra 4).2.s.length + 4 = ra.s.length := by
    unfold rawR
    split
    ·intro q; rename_i p; exact absurd q p
    ·split
     ·intro q; simp at q
     ·intro _; simp; omega
   rcases hq2 : rawR ra 4 with ⟨ck, rb⟩
   rw [hq2] at h4 h
   simp only at h4 h ⊢
   by_cases h5 : rb.err = 0
   ·rw [if_neg (by simpa using h5)] at h ⊢
    have := h4 h5
    by_cases h6 : ck = fourB (checkP body)
    ·rw [if_neg (by simpa using h6)] at h ⊢
     simp only
     omega
    ·rw [if_pos h6] at h; simp at h
   ·rw [if_pos h5] at h; exact absurd h h5
 ·rw [if_pos h1] at h; exact absurd h h1
def badC (x : Chg) (r : Rd) : Prop := doneR r ≠ 0 ∨ x.key = [] ∨ 255 < x.key.length ∨ 60000 < x.value.length
instance (x : Chg) (r : Rd) : Decidable (badC x r) := by unfold badC; exact inferInstance
def parseGo (s : Bs) (at' : Nat) (out : List Chg) : List Chg × Nat × Nat :=
 if s = [] then (out, at', 0)
 else if h : (unframeP s).2.2 = 0 then
  if badC (changeR (unframeP s).1).1 (changeR (unframeP s).1).2 then (out, at', 11)
  else parseGo (s.drop (unframeP s).2.1) (at' + (unframeP s).2.1) (out ++ [(changeR (unframeP s).1).1])
 else (out, at', (unframeP s).2.2)
termination_by s.length
decreasing_by
 have := unframeP_pos h
 rw [List.length_drop]; omega
def parseP (s : Bs) : List Chg × Nat × Nat := parseGo s 0 []
abbrev chgV (x : Chg) : AV := .agg [.str x.key, .str x.value, .v (.bool x.dead)]
theorem ones_chg {l : List Chg} : ∀ v ∈ l.map chgV, v.cells.length = 2 + 1 := fun v hv => by obtain ⟨b, _, rfl⟩ := List.mem_map.1 hv; rfl
theorem closed_chg : ∀ l : List Chg, AV.closedL (l.map chgV) = true
 | [] => rfl
 | x :: r => by simp only [List.map_cons, AV.closedL, closed_chg r]; rfl
theorem flat_closed : ∀ l : List Chg, AV.closedL ((l.map chgV).flatMap AV.cells) = true
 | [] => rfl
 | x :: r => by simp only [List.map_cons, List.flatMap_cons, AV.cells, List.cons_append, List.nil_append, AV.closedL, flat_closed r]; rfl
theorem i23 : (Kk.P.info? 23).map (·.bytes) = some 40 := by kernel_rfl
theorem unframeP_len (s : Bs) : (unframeP s).1.length ≤ s.length := by
 have hln := numR_len ⟨s, 0⟩
 unfold unframeP
 rcases hq : numR ⟨s, 0⟩ with ⟨n, r⟩
 rw [hq] at hln
 simp only at hln ⊢
 split
 ·simp
 ·split
  ·simp
  ·have hl1 := rawR_len r n
   rcases hq1 : rawR r n with ⟨body, ra⟩
   rw [hq1] at hl1
   simp only at hl1 ⊢
   split
   ·simp
   ·split
    ·simp
    ·simp only; omega
theorem textR_len (r : Rd) : (textR r).2.s.length ≤ r.s.length := by
 unfold textR manyR
 have := numR_len r
 rcases hq : numR r with ⟨n, r'⟩
 rw [hq] at this
 simp only at this ⊢
 split
 ·have := (rawR_len r' 0).2; simp only; omega
 ·split
  ·simp [rawR]
  ·have := (rawR_len r' n).2; simp only; omega
theorem flagR_len (r : Rd) : (flagR r).2.s.length ≤ r.s.length := by
 unfold flagR
 have := (rawR_len r 1).2
 rcases rawR_one r with ⟨r', hr⟩ | ⟨c, r', hr⟩
 ·rw [hr] at this ⊢; exact this
 ·rw [hr] at this ⊢
  simp only at this ⊢
  split
  ·unfold Rd.fail; split <;> simp <;> omega
  ·exact this
theorem chg_build (H : List AB) (own : Nat → Nat) (f : FuncId) (a : Nat) (x : Chg) (hg : Kk.chg f a = false) : aBuildSlice Kk (Kk.chg f a) own H 29 1 [(0, chgV x)] = some (.val (.sl [chgV x] .full) own H) := by
 rw [hg]
 simp only [aBuildSlice, Tryz.underlying29, uOf_ok (K := Kk) (t := 29) rfl, szOf_ok (K := Kk) (t := 23) rfl, zOf_ok (K := Kk) (t := 23) rfl]
 rfl
theorem endP {out : List Chg} {tl : Tail} (p e : Nat) (H H' : List AB) : ∃ r', snap H' 6 (.tup [.sl (out.map chgV) tl, i64v p, i64v e]) = some r' ∧ r'.closed = true ∧ H = H ∧ ∃ tl : Tail, r' = .tup [.sl (out.map chgV) tl, i64v p, i64v e] := ⟨_, rfl, rfl, rfl, tl, rfl⟩
theorem parse_tells (s : Bs) (hl : s.length < 1099511627776) (hl2 : s.length < 4294967281) (H : List AB) : Tells Kk 15 [.str s] H fun r H' => H' = H ∧ ∃ tl : Tail, r = .tup [.sl ((parseP s).1.map chgV) tl, i64v (parseP s).2.1, i64v (parseP s).2.2] := by
 refine Tells.vals (c := _) Tryz.func15 rfl (args' := [.str s]) (m := 72) rfl rfl rfl rfl rfl ?_
 (repeat(first|with_reducible refine jZ ?_|(with_reducible apply jW;refine jX (by first|(simp only [j0,jU];rfl)|rfl) ?_)|with_reducible refine jP (by decide) ?_|(with_reducible apply jQ;first|refine kR rfl rfl ?_|refine kT rfl rfl ?_)|((first|((with_reducible apply kv);rfl)|((with_reducible apply ky);rfl;rfl)|((with_reducible apply kz);rfl;rfl)|((with_reducible apply kl);rfl;assumption;rfl;(first|assumption|rfl)));refine jT (by first|(simp only [j0,jU];rfl)|rfl) ?_)))
 refine Wc.block ?_
 refine Wc.inv (fun m st => ∃ (p : Nat) (out : List Chg) (tl : Tail), m = s.length - p ∧ p ≤ s.length ∧ out.length ≤ p ∧ parseGo (s.drop p) p out = parseP s ∧ Own 3 tl st.own ∧ ∃ d : Nat → AV, st.regs = (.str s :: d 1 :: d 2 :: d 3 :: d 4 :: .sl (out.map chgV) tl :: i64v p :: d 7 :: d 8 :: d 9 :: d 10 :: d 11 :: d 12 :: d 13 :: d 14 :: d 15 :: d 16 :: d 17 :: d 18 :: d 19 :: d 20 :: d 21 :: d 22 :: d 23 :: d 24 :: d 25 :: d 26 :: d 27 :: d 28 :: d 29 :: d 30 :: d 31 :: d 32 :: d 33 :: d 34 :: d 35 :: d 36 :: d 37 :: d 38 :: d 39 :: d 40 :: d 41 :: d 42 :: d 43 :: d 44 :: d 45 :: d 46 :: d 47 :: d 48 :: d 49 :: d 50 :: d 51 :: d 52 :: d 53 :: d 54 :: d 55 :: d 56 :: d 57 :: d 58 :: d 59 :: d 60 :: d 61 :: d 62 :: d 63 :: d 64 :: d 65 :: d 66 :: d 67 :: d 68 :: d 69 :: d 70 :: d 71 :: d 72 :: [])) s.length ⟨0, [], .nil, rfl, Nat.zero_le _, Nat.zero_le _, rfl, .inl rfl, dead_of rfl⟩ ?_
 rintro m regs own H1 ⟨p, out, tl, rfl, hp, hout, hgo, htl, d, rfl⟩
 (repeat(first|with_reducible refine jZ ?_|(with_reducible apply jW;refine jX (by first|(simp only [j0,jU];rfl)|rfl) ?_)|with_reducible refine jP (by decide) ?_|(with_reducible apply jQ;first|refine kR rfl rfl ?_|refine kT rfl rfl ?_)|((first|((with_reducible apply kv);rfl)|((with_reducible apply ky);rfl;rfl)|((with_reducible apply kz);rfl;rfl)|((with_reducible apply kl);rfl;assumption;rfl;(first|assumption|rfl)));refine jT (by first|(simp only [j0,jU];rfl)|rfl) ?_)))
 by_cases hlt : p < s.length
 ·rw [show decide ((p : Int) < (s.length : Int)) = true from decide_eq_true (by omega)]
  have hne : s.drop p ≠ [] := by intro q; have := congrArg List.length q; simp at this; omega
  rw [parseGo, if_neg hne] at hgo
  (repeat(first|with_reducible refine jZ ?_|(with_reducible apply jW;refine jX (by first|(simp only [j0,jU];rfl)|rfl) ?_)|with_reducible apply jE|with_reducible refine jP (by decide) ?_|(with_reducible apply jQ;first|refine kR rfl rfl ?_|refine kT rfl rfl ?_)|((first|((with_reducible apply kv);rfl)|((with_reducible apply ky);rfl;rfl)|((with_reducible apply kz);rfl;rfl)|((with_reducible apply kl);rfl;assumption;rfl;(first|assumption|rfl)));refine jT (by first|(simp only [j0,jU];rfl)|rfl) ?_)))
  refine kd (b := p) rfl rfl rfl rfl hp ?_
  (repeat(first|with_reducible refine jZ ?_|(with_reducible apply jW;refine jX (by first|(simp only [j0,jU];rfl)|rfl) ?_)|with_reducible apply jE|with_reducible refine jP (by decide) ?_|(with_reducible apply jQ;first|refine kR rfl rfl ?_|refine kT rfl rfl ?_)|((first|((with_reducible apply kv);rfl)|((with_reducible apply ky);rfl;rfl)|((with_reducible apply kz);rfl;rfl)|((with_reducible apply kl);rfl;assumption;rfl;(first|assumption|rfl)));refine jT (by first|(simp only [j0,jU];rfl)|rfl) ?_)))
  have hub := unframeP_len (s.drop p)
  rw [List.length_drop] at hub
  refine kC rfl rfl ((unframe_tells (s.drop p) (by rw [List.length_drop]; omega) _).mono ?_)
  rintro r1 H2 ⟨rfl, rfl⟩
  (repeat(first|with_reducible refine jZ ?_|(with_reducible apply jW;refine jX (by first|(simp only [j0,jU];rfl)|rfl) ?_)|with_reducible apply jE|with_reducible refine jP (by decide) ?_|(with_reducible apply jQ;first|refine kR rfl rfl ?_|refine kT rfl rfl ?_)|((first|((with_reducible apply kv);rfl)|((with_reducible apply ky);rfl;rfl)|((with_reducible apply kz);rfl;rfl)|((with_reducible apply kl);rfl;assumption;rfl;(first|assumption|rfl)));refine jT (by first|(simp only [j0,jU];rfl)|rfl) ?_)))
  by_cases he : (unframeP (s.drop p)).2.2 = 0
  ·rw [bnqI (x := ((unframeP (s.drop p)).2.2 : Int)) (y := 0) (by omega)]
   rw [dif_pos he] at hgo
   have hpos := unframeP_pos he
   rw [List.length_drop] at hpos
   generalize hbd : (unframeP (s.drop p)).1 = body at *
   generalize hn : (unframeP (s.drop p)).2.1 = n at *
   (repeat(first|with_reducible refine jZ ?_|(with_reducible apply jW;refine jX (by first|(simp only [j0,jU];rfl)|rfl) ?_)|with_reducible apply jE|with_reducible refine jP (by decide) ?_|(with_reducible apply jQ;first|refine kR rfl rfl ?_|refine kT rfl rfl ?_)|((first|((with_reducible apply kv);rfl)|((with_reducible apply ky);rfl;rfl)|((with_reducible apply kz);rfl;rfl)|((with_reducible apply kl);rfl;assumption;rfl;(first|assumption|rfl)));refine jT (by first|(simp only [j0,jU];rfl)|rfl) ?_)))
   refine kC rfl rfl ((read_tells body H2).mono ?_)
   rintro r3 H3 ⟨rfl, hH3⟩
   have hb3 : RdAt H3 H2.length ⟨body, 0⟩ := by unfold RdAt; rw [hH3]; exact nth_app_new _ _
   clear hH3
   generalize H2.length = b at *
   (repeat(first|with_reducible refine jZ ?_|(with_reducible apply jW;refine jX (by first|(simp only [j0,jU];rfl)|rfl) ?_)|with_reducible apply jE|with_reducible refine jP (by decide) ?_|(with_reducible apply jQ;first|refine kR rfl rfl ?_|refine kT rfl rfl ?_)|((first|((with_reducible apply kv);rfl)|((with_reducible apply ky);rfl;rfl)|((with_reducible apply kz);rfl;rfl)|((with_reducible apply kl);rfl;assumption;rfl;(first|assumption|rfl)));refine jT (by first|(simp only [j0,jU];rfl)|rfl) ?_)))
   refine kC rfl rfl ((text_tellsR H3 b _ (by simp only; omega) hb3).mono ?_)
   have hlt1 := textR_len ⟨body, 0⟩
   rcases hq1 : textR ⟨body, 0⟩ with ⟨key, ra⟩
   rw [hq1] at hlt1
   simp only at hlt1
   rintro r4 H4 ⟨rfl, hb4, ho4⟩
   simp only at hb4
   (repeat(first|with_reducible refine jZ ?_|(with_reducible apply jW;refine jX (by first|(simp only [j0,jU];rfl)|rfl) ?_)|with_reducible apply jE|with_reducible refine jP (by decide) ?_|(with_reducible apply jQ;first|refine kR rfl rfl ?_|refine kT rfl rfl ?_)|((first|((with_reducible apply kv);rfl)|((with_reducible apply ky);rfl;rfl)|((with_reducible apply kz);rfl;rfl)|((with_reducible apply kl);rfl;assumption;rfl;(first|assumption|rfl)));refine jT (by first|(simp only [j0,jU];rfl)|rfl) ?_)))
   refine kC rfl rfl ((flag_tellsR H4 b _ hb4).mono ?_)
   have hlt2 := flagR_len ra
   rcases hq2 : flagR ra with ⟨dead, rb⟩
   rw [hq2] at hlt2
   simp only at hlt2
   rintro r5 H5 ⟨rfl, hb5, ho5⟩
   simp only at hb5
   (repeat(first|with_reducible refine jZ ?_|(with_reducible apply jW;refine jX (by first|(simp only [j0,jU];rfl)|rfl) ?_)|with_reducible apply jE|with_reducible refine jP (by decide) ?_|(with_reducible apply jQ;first|refine kR rfl rfl ?_|refine kT rfl rfl ?_)|((first|((with_reducible apply kv);rfl)|((with_reducible apply ky);rfl;rfl)|((with_reducible apply kz);rfl;rfl)|((with_reducible apply kl);rfl;assumption;rfl;(first|assumption|rfl)));refine jT (by first|(simp only [j0,jU];rfl)|rfl) ?_)))
   refine kZ (r := .agg [.str key, .str [], .v (.bool dead)]) rfl rfl ?_
   refine kA rfl rfl ?_
   rintro v H6 hv hH6 hn6
   have hvb : v ≠ b := by have := nth_lt' hb5; omega
   have hb6 : RdAt H6 b rb := by unfold RdAt; rw [hH6]; exact nth_app_left hb5
   clear hH6 hv
   refine kS (cs' := [.str key, .str [], .v (.bool dead)]) rfl rfl rfl hn6 rfl rfl rfl rfl rfl ?_
   rintro H7 _ hn7 ho7 hl7
   have hb7 : RdAt H7 b rb := (ho7 b (Ne.symm hvb)).trans hb6
   (repeat(first|with_reducible refine jZ ?_|(with_reducible apply jW;refine jX (by first|(simp only [j0,jU];rfl)|rfl) ?_)|with_reducible apply jE|with_reducible refine jP (by decide) ?_|(with_reducible apply jQ;first|refine kR rfl rfl ?_|refine kT rfl rfl ?_)|((first|((with_reducible apply kv);rfl)|((with_reducible apply ky);rfl;rfl)|((with_reducible apply kz);rfl;rfl)|((with_reducible apply kl);rfl;assumption;rfl;(first|assumption|rfl)));refine jT (by first|(simp only [j0,jU];rfl)|rfl) ?_)))
   refine Wc.midQ (fun st => st.own = own ∧ ∃ (val : Bs) (rc : Rd), changeR body = (⟨key, val, dead⟩, rc) ∧ nth st.H v = some (.cells (23, true) [.str key, .str val, .v (.bool dead)]) ∧ RdAt st.H b rc ∧ ∃ d : Nat → AV, st.regs = (.str s :: d 1 :: d 2 :: d 3 :: d 4 :: .sl (out.map chgV) tl :: i64v p :: d 7 :: i64v n :: d 9 :: .ptr b 0 :: .ptr v 0 :: d 12 :: d 13 :: d 14 :: d 15 :: d 16 :: d 17 :: d 18 :: d 19 :: d 20 :: d 21 :: d 22 :: d 23 :: d 24 :: d 25 :: d 26 :: d 27 :: d 28 :: d 29 :: d 30 :: d 31 :: d 32 :: d 33 :: d 34 :: d 35 :: d 36 :: d 37 :: d 38 :: d 39 :: d 40 :: d 41 :: d 42 :: d 43 :: d 44 :: d 45 :: d 46 :: d 47 :: d 48 :: d 49 :: d 50 :: d 51 :: d 52 :: d 53 :: d 54 :: d 55 :: d 56 :: d 57 :: d 58 :: d 59 :: d 60 :: d 61 :: d 62 :: d 63 :: d 64 :: d 65 :: d 66 :: d 67 :: d 68 :: d 69 :: d 70 :: d 71 :: d 72 :: [])) ?_ ?_
   ·cases dead with
    | true =>
     (repeat(first|with_reducible refine jZ ?_|(with_reducible apply jW;refine jX (by first|(simp only [j0,jU];rfl)|rfl) ?_)|with_reducible apply jE|with_reducible refine jP (by decide) ?_|(with_reducible apply jQ;first|refine kR rfl rfl ?_|refine kT rfl rfl ?_)|((first|((with_reducible apply kv);rfl)|((with_reducible apply ky);rfl;rfl)|((with_reducible apply kz);rfl;rfl)|((with_reducible apply kl);rfl;assumption;rfl;(first|assumption|rfl)));refine jT (by first|(simp only [j0,jU];rfl)|rfl) ?_)))
     refine ⟨rfl, rfl, [], rb, ?_, hn7, hb7, dead_of rfl⟩
     unfold changeR; rw [hq1]; simp only; rw [hq2]; rfl
    | false =>
     (repeat(first|with_reducible refine jZ ?_|(with_reducible apply jW;refine jX (by first|(simp only [j0,jU];rfl)|rfl) ?_)|with_reducible apply jE|with_reducible refine jP (by decide) ?_|(with_reducible apply jQ;first|refine kR rfl rfl ?_|refine kT rfl rfl ?_)|((first|((with_reducible apply kv);rfl)|((with_reducible apply ky);rfl;rfl)|((with_reducible apply kz);rfl;rfl)|((with_reducible apply kl);rfl;assumption;rfl;(first|assumption|rfl)));refine jT (by first|(simp only [j0,jU];rfl)|rfl) ?_)))
     refine kC rfl rfl ((text_tellsR H7 b rb (by omega) hb7).mono ?_)
     rcases hq3 : textR rb with ⟨val, rc⟩
     rintro r8 H8 ⟨rfl, hb8, ho8⟩
     simp only at hb8
     have hn8 := (ho8.2 v hvb).trans hn7
     (repeat(first|with_reducible refine jZ ?_|(with_reducible apply jW;refine jX (by first|(simp only [j0,jU];rfl)|rfl) ?_)|with_reducible apply jE|with_reducible refine jP (by decide) ?_|(with_reducible apply jQ;first|refine kR rfl rfl ?_|refine kT rfl rfl ?_)|((first|((with_reducible apply kv);rfl)|((with_reducible apply ky);rfl;rfl)|((with_reducible apply kz);rfl;rfl)|((with_reducible apply kl);rfl;assumption;rfl;(first|assumption|rfl)));refine jT (by first|(simp only [j0,jU];rfl)|rfl) ?_)))
     refine kS (cs' := [.str key, .str val, .v (.bool false)]) rfl rfl rfl hn8 rfl rfl rfl rfl rfl ?_
     rintro H9 _ hn9 ho9 hl9
     have hb9 : RdAt H9 b rc := (ho9 b (Ne.symm hvb)).trans hb8
     (repeat(first|with_reducible refine jZ ?_|(with_reducible apply jW;refine jX (by first|(simp only [j0,jU];rfl)|rfl) ?_)|with_reducible apply jE|with_reducible refine jP (by decide) ?_|(with_reducible apply jQ;first|refine kR rfl rfl ?_|refine kT rfl rfl ?_)|((first|((with_reducible apply kv);rfl)|((with_reducible apply ky);rfl;rfl)|((with_reducible apply kz);rfl;rfl)|((with_reducible apply kl);rfl;assumption;rfl;(first|assumption|rfl)));refine jT (by first|(simp only [j0,jU];rfl)|rfl) ?_)))
     refine ⟨rfl, rfl, val, rc, ?_, hn9, hb9, dead_of rfl⟩
     unfold changeR; rw [hq1]; simp only; rw [hq2]; simp only [Bool.false_eq_true, if_false]; rw [hq3]
   ·rintro regs own2 H8 ⟨rfl, val, rc, hch, hn8, hb8, d, rfl⟩
    rw [hch] at hgo
    simp only at hn8 hb8
    (repeat(first|with_reducible refine jZ ?_|(with_reducible apply jW;refine jX (by first|(simp only [j0,jU];rfl)|rfl) ?_)|with_reducible apply jE|with_reducible refine jP (by decide) ?_|(with_reducible apply jQ;first|refine kR rfl rfl ?_|refine kT rfl rfl ?_)|((first|((with_reducible apply kv);rfl)|((with_reducible apply ky);rfl;rfl)|((with_reducible apply kz);rfl;rfl)|((with_reducible apply kl);rfl;assumption;rfl;(first|assumption|rfl)));refine jT (by first|(simp only [j0,jU];rfl)|rfl) ?_)))
    refine kC rfl rfl ((done_tells H8 b rc hb8).mono ?_)
    rintro r9 H9 ⟨rfl, rfl⟩
    (repeat(first|with_reducible refine jZ ?_|(with_reducible apply jW;refine jX (by first|(simp only [j0,jU];rfl)|rfl) ?_)|with_reducible apply jE|with_reducible refine jP (by decide) ?_|(with_reducible apply jQ;first|refine kR rfl rfl ?_|refine kT rfl rfl ?_)|((first|((with_reducible apply kv);rfl)|((with_reducible apply ky);rfl;rfl)|((with_reducible apply kz);rfl;rfl)|((with_reducible apply kl);rfl;assumption;rfl;(first|assumption|rfl)));refine jT (by first|(simp only [j0,jU];rfl)|rfl) ?_)))
    by_cases c1 : doneR rc = 0
    ·rw [bnqI (x := (doneR rc : Int)) (y := 0) (by omega)]
     (repeat(first|with_reducible refine jZ ?_|(with_reducible apply jW;refine jX (by first|(simp only [j0,jU];rfl)|rfl) ?_)|with_reducible apply jE|with_reducible refine jP (by decide) ?_|(with_reducible apply jQ;first|refine kR rfl rfl ?_|refine kT rfl rfl ?_)|((first|((with_reducible apply kv);rfl)|((with_reducible apply ky);rfl;rfl)|((with_reducible apply kz);rfl;rfl)|((with_reducible apply kl);rfl;assumption;rfl;(first|assumption|rfl)));refine jT (by first|(simp only [j0,jU];rfl)|rfl) ?_)))
     by_cases c2 : key = []
     ·subst c2
      rw [if_pos (.inr (.inl rfl))] at hgo
      ((repeat(first|with_reducible refine jZ ?_|(with_reducible apply jW;refine jX (by first|(simp only [j0,jU];rfl)|rfl) ?_)|with_reducible apply jE|with_reducible refine jP (by decide) ?_|(with_reducible apply jQ;first|refine kR rfl rfl ?_|refine kT rfl rfl ?_)|((first|((with_reducible apply kv);rfl)|((with_reducible apply ky);rfl;rfl)|((with_reducible apply kz);rfl;rfl)|((with_reducible apply jv);rfl)|((with_reducible apply kl);rfl;assumption;rfl;(first|assumption|rfl)));refine jT (by first|(simp only [j0,jU];rfl)|rfl) ?_))); rw [← hgo]; exact EndQ.ret rfl (endP _ _ _ _))
     ·rw [keyB c2]
      (repeat(first|with_reducible refine jZ ?_|(with_reducible apply jW;refine jX (by first|(simp only [j0,jU];rfl)|rfl) ?_)|with_reducible apply jE|with_reducible refine jP (by decide) ?_|(with_reducible apply jQ;first|refine kR rfl rfl ?_|refine kT rfl rfl ?_)|((first|((with_reducible apply kv);rfl)|((with_reducible apply ky);rfl;rfl)|((with_reducible apply kz);rfl;rfl)|((with_reducible apply kl);rfl;assumption;rfl;(first|assumption|rfl)));refine jT (by first|(simp only [j0,jU];rfl)|rfl) ?_)))
      by_cases c3 : 255 < key.length
      ·rw [show decide ((key.length : Int) > 255) = true from decide_eq_true (by omega)]
       rw [if_pos (.inr (.inr (.inl c3)))] at hgo
       ((repeat(first|with_reducible refine jZ ?_|(with_reducible apply jW;refine jX (by first|(simp only [j0,jU];rfl)|rfl) ?_)|with_reducible apply jE|with_reducible refine jP (by decide) ?_|(with_reducible apply jQ;first|refine kR rfl rfl ?_|refine kT rfl rfl ?_)|((first|((with_reducible apply kv);rfl)|((with_reducible apply ky);rfl;rfl)|((with_reducible apply kz);rfl;rfl)|((with_reducible apply jv);rfl)|((with_reducible apply kl);rfl;assumption;rfl;(first|assumption|rfl)));refine jT (by first|(simp only [j0,jU];rfl)|rfl) ?_))); rw [← hgo]; exact EndQ.ret rfl (endP _ _ _ _))
      ·rw [show decide ((key.length : Int) > 255) = false from decide_eq_false (by omega)]
       (repeat(first|with_reducible refine jZ ?_|(with_reducible apply jW;refine jX (by first|(simp only [j0,jU];rfl)|rfl) ?_)|with_reducible apply jE|with_reducible refine jP (by decide) ?_|(with_reducible apply jQ;first|refine kR rfl rfl ?_|refine kT rfl rfl ?_)|((first|((with_reducible apply kv);rfl)|((with_reducible apply ky);rfl;rfl)|((with_reducible apply kz);rfl;rfl)|((with_reducible apply kl);rfl;assumption;rfl;(first|assumption|rfl)));refine jT (by first|(simp only [j0,jU];rfl)|rfl) ?_)))
       by_cases c4 : 60000 < val.length
       ·rw [show decide ((val.length : Int) > 60000) = true from decide_eq_true (by omega)]
        rw [if_pos (.inr (.inr (.inr c4)))] at hgo
        ((repeat(first|with_reducible refine jZ ?_|(with_reducible apply jW;refine jX (by first|(simp only [j0,jU];rfl)|rfl) ?_)|with_reducible apply jE|with_reducible refine jP (by decide) ?_|(with_reducible apply jQ;first|refine kR rfl rfl ?_|refine kT rfl rfl ?_)|((first|((with_reducible apply kv);rfl)|((with_reducible apply ky);rfl;rfl)|((with_reducible apply kz);rfl;rfl)|((with_reducible apply jv);rfl)|((with_reducible apply kl);rfl;assumption;rfl;(first|assumption|rfl)));refine jT (by first|(simp only [j0,jU];rfl)|rfl) ?_))); rw [← hgo]; exact EndQ.ret rfl (endP _ _ _ _))
       ·rw [show decide ((val.length : Int) > 60000) = false from decide_eq_false (by omega)]
        rw [if_neg (by rintro (q | q | q | q); exact q c1; exact c2 q; exact c3 q; exact c4 q)] at hgo
        (repeat(first|with_reducible refine jZ ?_|(with_reducible apply jW;refine jX (by first|(simp only [j0,jU];rfl)|rfl) ?_)|with_reducible apply jE|with_reducible refine jP (by decide) ?_|(with_reducible apply jQ;first|refine kR rfl rfl ?_|refine kT rfl rfl ?_)|((first|((with_reducible apply kv);rfl)|((with_reducible apply ky);rfl;rfl)|((with_reducible apply kz);rfl;rfl)|((with_reducible apply kl);rfl;assumption;rfl;(first|assumption|rfl)));refine jT (by first|(simp only [j0,jU];rfl)|rfl) ?_)))
        refine kbs (qs := [(0, chgV ⟨key, val, dead⟩)]) rfl (chg_build _ _ _ _ _ rfl) ?_
        (repeat(first|with_reducible refine jZ ?_|(with_reducible apply jW;refine jX (by first|(simp only [j0,jU];rfl)|rfl) ?_)|with_reducible apply jE|with_reducible refine jP (by decide) ?_|(with_reducible apply jQ;first|refine kR rfl rfl ?_|refine kT rfl rfl ?_)|((first|((with_reducible apply kv);rfl)|((with_reducible apply ky);rfl;rfl)|((with_reducible apply kz);rfl;rfl)|((with_reducible apply kl);rfl;assumption;rfl;(first|assumption|rfl)));refine jT (by first|(simp only [j0,jU];rfl)|rfl) ?_)))
        refine kO (ys := [chgV ⟨key, val, dead⟩]) (n := 2) rfl rfl rfl rfl rfl rfl rfl i23 htl ones_chg (by intro v hv; simp at hv; subst hv; rfl) (by simp) rfl (by simp; omega) ?_
        intro own3 tl3 htl3
        (repeat(first|with_reducible refine jZ ?_|(with_reducible apply jW;refine jX (by first|(simp only [j0,jU];rfl)|rfl) ?_)|with_reducible apply jE|with_reducible refine jP (by decide) ?_|(with_reducible apply jQ;first|refine kR rfl rfl ?_|refine kT rfl rfl ?_)|((first|((with_reducible apply kv);rfl)|((with_reducible apply ky);rfl;rfl)|((with_reducible apply kz);rfl;rfl)|((with_reducible apply kl);rfl;assumption;rfl;(first|assumption|rfl)));refine jT (by first|(simp only [j0,jU];rfl)|rfl) ?_)))
        rw [show IntKind.i64.wrap ((p : Int) + (n : Int)) = ((p + n : Nat) : Int) by rw [IntKind.wrap_i64]; omega]
        refine LoopQ.normal (s.length - (p + n)) (by omega) ⟨p + n, out ++ [⟨key, val, dead⟩], tl3, rfl, by omega, by simp; omega, ?_, htl3, ?_⟩
        ·rw [← hgo, List.drop_drop]
        ·rw [List.map_append]; exact dead_of rfl
    ·rw [bneI (x := (doneR rc : Int)) (y := 0) (by omega)]
     rw [if_pos (.inl c1)] at hgo
     ((repeat(first|with_reducible refine jZ ?_|(with_reducible apply jW;refine jX (by first|(simp only [j0,jU];rfl)|rfl) ?_)|with_reducible apply jE|with_reducible refine jP (by decide) ?_|(with_reducible apply jQ;first|refine kR rfl rfl ?_|refine kT rfl rfl ?_)|((first|((with_reducible apply kv);rfl)|((with_reducible apply ky);rfl;rfl)|((with_reducible apply kz);rfl;rfl)|((with_reducible apply jv);rfl)|((with_reducible apply kl);rfl;assumption;rfl;(first|assumption|rfl)));refine jT (by first|(simp only [j0,jU];rfl)|rfl) ?_))); rw [← hgo]; exact EndQ.ret rfl (endP _ _ _ _))
  ·rw [bneI (x := ((unframeP (s.drop p)).2.2 : Int)) (y := 0) (by omega)]
   rw [dif_neg he] at hgo
   (repeat(first|with_reducible refine jZ ?_|(with_reducible apply jW;refine jX (by first|(simp only [j0,jU];rfl)|rfl) ?_)|with_reducible apply jE|with_reducible refine jP (by decide) ?_|(with_reducible apply jQ;first|refine kR rfl rfl ?_|refine kT rfl rfl ?_)|((first|((with_reducible apply kv);rfl)|((with_reducible apply ky);rfl;rfl)|((with_reducible apply kz);rfl;rfl)|((with_reducible apply kl);rfl;assumption;rfl;(first|assumption|rfl)));refine jT (by first|(simp only [j0,jU];rfl)|rfl) ?_)))
   rw [← hgo]
   exact EndQ.ret rfl (endP _ _ _ _)
 ·obtain rfl : p = s.length := by omega
  rw [show decide ((s.length : Int) < (s.length : Int)) = false by simp]
  (repeat(first|with_reducible refine jZ ?_|(with_reducible apply jW;refine jX (by first|(simp only [j0,jU];rfl)|rfl) ?_)|with_reducible apply jE|with_reducible refine jP (by decide) ?_|(with_reducible apply jQ;first|refine kR rfl rfl ?_|refine kT rfl rfl ?_)|((first|((with_reducible apply kv);rfl)|((with_reducible apply ky);rfl;rfl)|((with_reducible apply kz);rfl;rfl)|((with_reducible apply kl);rfl;assumption;rfl;(first|assumption|rfl)));refine jT (by first|(simp only [j0,jU];rfl)|rfl) ?_)))
  rw [parseGo, List.drop_length, if_pos rfl] at hgo
  rw [← hgo]
  exact EndQ.ret rfl (endP _ _ _ _)
end Go.Proofs.Ck
