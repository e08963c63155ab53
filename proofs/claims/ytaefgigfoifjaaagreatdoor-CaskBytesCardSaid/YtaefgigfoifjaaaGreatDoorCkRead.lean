/- pack's reader: what it takes up; a frame's body. -/
import Derived.Test.YtaefgigfoifjaaaGreatDoorCkRec
set_option linter.unusedVariables false
set_option linter.unusedSimpArgs false
set_option linter.unusedSectionVars false
namespace Go.Proofs.Ck
open Go.Tm
set_option maxRecDepth 100000
def Only (b : Nat) (H H' : List AB) : Prop := H'.length = H.length ∧ ∀ j, j ≠ b → nth H' j = nth H j
theorem Only.refl (b : Nat) (H : List AB) : Only b H H := ⟨rfl, fun _ _ => rfl⟩
theorem Only.trans {b : Nat} {H H1 H2 : List AB} (h : Only b H H1) (h' : Only b H1 H2) : Only b H H2 := ⟨h'.1.trans h.1, fun j hj => (h'.2 j hj).trans (h.2 j hj)⟩
def RdAt (H : List AB) (b : Nat) (r : Rd) : Prop := nth H b = some (.cells (147, true) [.str r.s, i64v r.err])
theorem read_tells (s : Bs) (H : List AB) : Tells Kk 48 [.str s] H fun r H' => r = .ptr H.length 0 ∧ H' = H ++ [.cells (147, true) [.str s, i64v 0]] := by
 refine Tells.mem (c := _) Tryz.func48 rfl (args' := [.str s]) (m := 5) rfl rfl rfl rfl rfl ?_
 (repeat(first|with_reducible refine jZ ?_|(with_reducible apply jW;refine jX (by first|(simp only [j0,jU];rfl)|rfl) ?_)|with_reducible apply jE|with_reducible refine jP (by decide) ?_|(with_reducible apply jQ;first|refine kR rfl rfl ?_|refine kT rfl rfl ?_)|((first|((with_reducible apply kv);rfl)|((with_reducible apply ky);rfl;rfl)|((with_reducible apply kz);rfl;rfl)|((with_reducible apply kl);rfl;assumption;rfl;(first|assumption|rfl)));refine jT (by first|(simp only [j0,jU];rfl)|rfl) ?_)))
 refine kZ (r := .agg [.str s, i64v 0]) rfl rfl ?_
 refine kB rfl rfl rfl ?_
 rintro b H1 rfl rfl _
 (repeat(first|with_reducible refine jZ ?_|(with_reducible apply jW;refine jX (by first|(simp only [j0,jU];rfl)|rfl) ?_)|with_reducible apply jE|with_reducible refine jP (by decide) ?_|(with_reducible apply jQ;first|refine kR rfl rfl ?_|refine kT rfl rfl ?_)|((first|((with_reducible apply kv);rfl)|((with_reducible apply ky);rfl;rfl)|((with_reducible apply kz);rfl;rfl)|((with_reducible apply kl);rfl;assumption;rfl;(first|assumption|rfl)));refine jT (by first|(simp only [j0,jU];rfl)|rfl) ?_)))
 exact EndQ.ret rfl ⟨rfl, rfl⟩
theorem good_tells (H : List AB) (b : Nat) (r : Rd) (hb : RdAt H b r) : Tells Kk 109 [.ptr b 0] H fun x H' => H' = H ∧ x = .v (.bool (decide (r.err = 0))) := by
 refine Tells.mem (c := _) Tryz.func109 rfl (args' := [.ptr b 0]) (m := 11) rfl rfl rfl rfl rfl ?_
 unfold RdAt at hb
 (repeat(first|with_reducible refine jZ ?_|(with_reducible apply jW;refine jX (by first|(simp only [j0,jU];rfl)|rfl) ?_)|with_reducible apply jE|with_reducible refine jP (by decide) ?_|(with_reducible apply jQ;first|refine kR rfl rfl ?_|refine kT rfl rfl ?_)|((first|((with_reducible apply kv);rfl)|((with_reducible apply ky);rfl;rfl)|((with_reducible apply kz);rfl;rfl)|((with_reducible apply kl);rfl;assumption;rfl;(first|assumption|rfl)));refine jT (by first|(simp only [j0,jU];rfl)|rfl) ?_)))
 refine EndQ.ret rfl ⟨rfl, ?_⟩
 by_cases h : r.err = 0
 ·rw [eqI (x := (r.err : Int)) (y := 0) (by omega), decide_eq_true h]
 ·rw [neI (x := (r.err : Int)) (y := 0) (by omega), decide_eq_false h]
theorem fail_tells (H : List AB) (b : Nat) (r : Rd) (e : Nat) (hb : RdAt H b r) : Tells Kk 113 [.ptr b 0, i64v e] H fun _ H' => RdAt H' b (r.fail e) ∧ Only b H H' := by
 refine Tells.mem (c := _) Tryz.func113 rfl (args' := [.ptr b 0, i64v e]) (m := 15) rfl rfl rfl rfl rfl ?_
 (repeat(first|with_reducible refine jZ ?_|(with_reducible apply jW;refine jX (by first|(simp only [j0,jU];rfl)|rfl) ?_)|with_reducible apply jE|with_reducible refine jP (by decide) ?_|(with_reducible apply jQ;first|refine kR rfl rfl ?_|refine kT rfl rfl ?_)|((first|((with_reducible apply kv);rfl)|((with_reducible apply ky);rfl;rfl)|((with_reducible apply kz);rfl;rfl)|((with_reducible apply kl);rfl;assumption;rfl;(first|assumption|rfl)));refine jT (by first|(simp only [j0,jU];rfl)|rfl) ?_)))
 refine kC rfl rfl ((good_tells H b r hb).mono ?_)
 rintro r1 H1 ⟨rfl, rfl⟩
 unfold Rd.fail
 unfold RdAt at hb
 by_cases h1 : r.err = 0
 ·rw [decide_eq_true h1]
  (repeat(first|with_reducible refine jZ ?_|(with_reducible apply jW;refine jX (by first|(simp only [j0,jU];rfl)|rfl) ?_)|with_reducible apply jE|with_reducible refine jP (by decide) ?_|(with_reducible apply jQ;first|refine kR rfl rfl ?_|refine kT rfl rfl ?_)|((first|((with_reducible apply kv);rfl)|((with_reducible apply ky);rfl;rfl)|((with_reducible apply kz);rfl;rfl)|((with_reducible apply kl);rfl;assumption;rfl;(first|assumption|rfl)));refine jT (by first|(simp only [j0,jU];rfl)|rfl) ?_)))
  by_cases h2 : e = 0
  ·rw [bnqI (x := (e : Int)) (y := 0) (by omega), if_neg (by rintro ⟨_, q⟩; exact q h2)]
   (repeat(first|with_reducible refine jZ ?_|(with_reducible apply jW;refine jX (by first|(simp only [j0,jU];rfl)|rfl) ?_)|with_reducible apply jE|with_reducible refine jP (by decide) ?_|(with_reducible apply jQ;first|refine kR rfl rfl ?_|refine kT rfl rfl ?_)|((first|((with_reducible apply kv);rfl)|((with_reducible apply ky);rfl;rfl)|((with_reducible apply kz);rfl;rfl)|((with_reducible apply kl);rfl;assumption;rfl;(first|assumption|rfl)));refine jT (by first|(simp only [j0,jU];rfl)|rfl) ?_)))
   exact EndQ.normal rfl ⟨hb, Only.refl _ _⟩
  ·rw [bneI (x := (e : Int)) (y := 0) (by omega), if_pos ⟨h1, h2⟩]
   (repeat(first|with_reducible refine jZ ?_|(with_reducible apply jW;refine jX (by first|(simp only [j0,jU];rfl)|rfl) ?_)|with_reducible apply jE|with_reducible refine jP (by decide) ?_|(with_reducible apply jQ;first|refine kR rfl rfl ?_|refine kT rfl rfl ?_)|((first|((with_reducible apply kv);rfl)|((with_reducible apply ky);rfl;rfl)|((with_reducible apply kz);rfl;rfl)|((with_reducible apply kl);rfl;assumption;rfl;(first|assumption|rfl)));refine jT (by first|(simp only [j0,jU];rfl)|rfl) ?_)))
   refine kS rfl rfl rfl hb rfl rfl rfl rfl rfl ?_
   intro H2 _ hn2 ho2 hl2
   (repeat(first|with_reducible refine jZ ?_|(with_reducible apply jW;refine jX (by first|(simp only [j0,jU];rfl)|rfl) ?_)|with_reducible apply jE|with_reducible refine jP (by decide) ?_|(with_reducible apply jQ;first|refine kR rfl rfl ?_|refine kT rfl rfl ?_)|((first|((with_reducible apply kv);rfl)|((with_reducible apply ky);rfl;rfl)|((with_reducible apply kz);rfl;rfl)|((with_reducible apply kl);rfl;assumption;rfl;(first|assumption|rfl)));refine jT (by first|(simp only [j0,jU];rfl)|rfl) ?_)))
   refine kS rfl rfl rfl hn2 rfl rfl rfl rfl rfl ?_
   intro H3 _ hn3 ho3 hl3
   (repeat(first|with_reducible refine jZ ?_|(with_reducible apply jW;refine jX (by first|(simp only [j0,jU];rfl)|rfl) ?_)|with_reducible apply jE|with_reducible refine jP (by decide) ?_|(with_reducible apply jQ;first|refine kR rfl rfl ?_|refine kT rfl rfl ?_)|((first|((with_reducible apply kv);rfl)|((with_reducible apply ky);rfl;rfl)|((with_reducible apply kz);rfl;rfl)|((with_reducible apply kl);rfl;assumption;rfl;(first|assumption|rfl)));refine jT (by first|(simp only [j0,jU];rfl)|rfl) ?_)))
   exact EndQ.normal rfl ⟨hn3, hl3.trans hl2, fun j hj => (ho3 j hj).trans (ho2 j hj)⟩
 ·rw [decide_eq_false h1, if_neg (by rintro ⟨q, _⟩; exact h1 q)]
  (repeat(first|with_reducible refine jZ ?_|(with_reducible apply jW;refine jX (by first|(simp only [j0,jU];rfl)|rfl) ?_)|with_reducible apply jE|with_reducible refine jP (by decide) ?_|(with_reducible apply jQ;first|refine kR rfl rfl ?_|refine kT rfl rfl ?_)|((first|((with_reducible apply kv);rfl)|((with_reducible apply ky);rfl;rfl)|((with_reducible apply kz);rfl;rfl)|((with_reducible apply jv);rfl)|((with_reducible apply kl);rfl;assumption;rfl;(first|assumption|rfl)));refine jT (by first|(simp only [j0,jU];rfl)|rfl) ?_)))
  exact EndQ.normal rfl ⟨hb, Only.refl _ _⟩
theorem raw_tellsR (H : List AB) (b : Nat) (r : Rd) (n : Nat) (hb : RdAt H b r) : Tells Kk 110 [.ptr b 0, i64v n] H fun x H' => x = .str (rawR r n).1 ∧ RdAt H' b (rawR r n).2 ∧ Only b H H' := by
 refine Tells.mem (c := _) Tryz.func110 rfl (args' := [.ptr b 0, i64v n]) (m := 38) rfl rfl rfl rfl rfl ?_
 (repeat(first|with_reducible refine jZ ?_|(with_reducible apply jW;refine jX (by first|(simp only [j0,jU];rfl)|rfl) ?_)|with_reducible apply jE|with_reducible refine jP (by decide) ?_|(with_reducible apply jQ;first|refine kR rfl rfl ?_|refine kT rfl rfl ?_)|((first|((with_reducible apply kv);rfl)|((with_reducible apply ky);rfl;rfl)|((with_reducible apply kz);rfl;rfl)|((with_reducible apply kl);rfl;assumption;rfl;(first|assumption|rfl)));refine jT (by first|(simp only [j0,jU];rfl)|rfl) ?_)))
 refine Wo.doVal rfl rfl (op_max2 rfl rfl rfl rfl) ?_
 rw [show (if (0 : Int) > (n : Int) then (0 : Int) else (n : Int)) = (n : Int) from if_neg (by omega)]
 (repeat(first|with_reducible refine jZ ?_|(with_reducible apply jW;refine jX (by first|(simp only [j0,jU];rfl)|rfl) ?_)|with_reducible apply jE|with_reducible refine jP (by decide) ?_|(with_reducible apply jQ;first|refine kR rfl rfl ?_|refine kT rfl rfl ?_)|((first|((with_reducible apply kv);rfl)|((with_reducible apply ky);rfl;rfl)|((with_reducible apply kz);rfl;rfl)|((with_reducible apply kl);rfl;assumption;rfl;(first|assumption|rfl)));refine jT (by first|(simp only [j0,jU];rfl)|rfl) ?_)))
 refine kC rfl rfl ((good_tells H b r hb).mono ?_)
 rintro r1 H1 ⟨rfl, rfl⟩
 have hb0 := hb
 unfold RdAt at hb
 by_cases h1 : r.err = 0
 ·rw [decide_eq_true h1]
  (repeat(first|with_reducible refine jZ ?_|(with_reducible apply jW;refine jX (by first|(simp only [j0,jU];rfl)|rfl) ?_)|with_reducible apply jE|with_reducible refine jP (by decide) ?_|(with_reducible apply jQ;first|refine kR rfl rfl ?_|refine kT rfl rfl ?_)|((first|((with_reducible apply kv);rfl)|((with_reducible apply ky);rfl;rfl)|((with_reducible apply kz);rfl;rfl)|((with_reducible apply kl);rfl;assumption;rfl;(first|assumption|rfl)));refine jT (by first|(simp only [j0,jU];rfl)|rfl) ?_)))
  by_cases h2 : r.s.length < n
  ·rw [show decide ((r.s.length : Int) < (n : Int)) = true from decide_eq_true (by omega)]
   (repeat(first|with_reducible refine jZ ?_|(with_reducible apply jW;refine jX (by first|(simp only [j0,jU];rfl)|rfl) ?_)|with_reducible apply jE|with_reducible refine jP (by decide) ?_|(with_reducible apply jQ;first|refine kR rfl rfl ?_|refine kT rfl rfl ?_)|((first|((with_reducible apply kv);rfl)|((with_reducible apply ky);rfl;rfl)|((with_reducible apply kz);rfl;rfl)|((with_reducible apply kl);rfl;assumption;rfl;(first|assumption|rfl)));refine jT (by first|(simp only [j0,jU];rfl)|rfl) ?_)))
   refine kC rfl rfl ((fail_tells H1 b r 10 hb0).mono ?_)
   rintro r2 H2 ⟨hb2, ho2⟩
   (repeat(first|with_reducible refine jZ ?_|(with_reducible apply jW;refine jX (by first|(simp only [j0,jU];rfl)|rfl) ?_)|with_reducible apply jE|with_reducible refine jP (by decide) ?_|(with_reducible apply jQ;first|refine kR rfl rfl ?_|refine kT rfl rfl ?_)|((first|((with_reducible apply kv);rfl)|((with_reducible apply ky);rfl;rfl)|((with_reducible apply kz);rfl;rfl)|((with_reducible apply kl);rfl;assumption;rfl;(first|assumption|rfl)));refine jT (by first|(simp only [j0,jU];rfl)|rfl) ?_)))
   refine kC rfl rfl ((good_tells H2 b _ hb2).mono ?_)
   rintro r3 H3 ⟨rfl, rfl⟩
   have hf : r.fail 10 = ⟨[], 10⟩ := by unfold Rd.fail; rw [if_pos ⟨h1, by decide⟩]
   rw [hf] at hb2 ⊢
   have hr : rawR r n = ([], ⟨[], 10⟩) := by unfold rawR; rw [if_neg (by simpa using h1), if_pos h2]
   rw [hr]
   (repeat(first|with_reducible refine jZ ?_|(with_reducible apply jW;refine jX (by first|(simp only [j0,jU];rfl)|rfl) ?_)|with_reducible apply jE|with_reducible refine jP (by decide) ?_|(with_reducible apply jQ;first|refine kR rfl rfl ?_|refine kT rfl rfl ?_)|((first|((with_reducible apply kv);rfl)|((with_reducible apply ky);rfl;rfl)|((with_reducible apply kz);rfl;rfl)|((with_reducible apply kl);rfl;assumption;rfl;(first|assumption|rfl)));refine jT (by first|(simp only [j0,jU];rfl)|rfl) ?_)))
   exact EndQ.ret rfl ⟨rfl, hb2, ho2⟩
  ·rw [show decide ((r.s.length : Int) < (n : Int)) = false from decide_eq_false (by omega)]
   (repeat(first|with_reducible refine jZ ?_|(with_reducible apply jW;refine jX (by first|(simp only [j0,jU];rfl)|rfl) ?_)|with_reducible apply jE|with_reducible refine jP (by decide) ?_|(with_reducible apply jQ;first|refine kR rfl rfl ?_|refine kT rfl rfl ?_)|((first|((with_reducible apply kv);rfl)|((with_reducible apply ky);rfl;rfl)|((with_reducible apply kz);rfl;rfl)|((with_reducible apply kl);rfl;assumption;rfl;(first|assumption|rfl)));refine jT (by first|(simp only [j0,jU];rfl)|rfl) ?_)))
   refine kC rfl rfl ((good_tells H1 b _ hb0).mono ?_)
   rintro r3 H3 ⟨rfl, rfl⟩
   rw [decide_eq_true h1]
   have hr : rawR r n = (r.s.take n, ⟨r.s.drop n, 0⟩) := by unfold rawR; rw [if_neg (by simpa using h1), if_neg h2]
   rw [hr]
   (repeat(first|with_reducible refine jZ ?_|(with_reducible apply jW;refine jX (by first|(simp only [j0,jU];rfl)|rfl) ?_)|with_reducible apply jE|with_reducible refine jP (by decide) ?_|(with_reducible apply jQ;first|refine kR rfl rfl ?_|refine kT rfl rfl ?_)|((first|((with_reducible apply kv);rfl)|((with_reducible apply ky);rfl;rfl)|((with_reducible apply kz);rfl;rfl)|((with_reducible apply kl);rfl;assumption;rfl;(first|assumption|rfl)));refine jT (by first|(simp only [j0,jU];rfl)|rfl) ?_)))
   refine kt (b := n) rfl rfl rfl rfl (by omega) ?_
   (repeat(first|with_reducible refine jZ ?_|(with_reducible apply jW;refine jX (by first|(simp only [j0,jU];rfl)|rfl) ?_)|with_reducible apply jE|with_reducible refine jP (by decide) ?_|(with_reducible apply jQ;first|refine kR rfl rfl ?_|refine kT rfl rfl ?_)|((first|((with_reducible apply kv);rfl)|((with_reducible apply ky);rfl;rfl)|((with_reducible apply kz);rfl;rfl)|((with_reducible apply kl);rfl;assumption;rfl;(first|assumption|rfl)));refine jT (by first|(simp only [j0,jU];rfl)|rfl) ?_)))
   refine kd (b := n) rfl rfl rfl rfl (by omega) ?_
   (repeat(first|with_reducible refine jZ ?_|(with_reducible apply jW;refine jX (by first|(simp only [j0,jU];rfl)|rfl) ?_)|with_reducible apply jE|with_reducible refine jP (by decide) ?_|(with_reducible apply jQ;first|refine kR rfl rfl ?_|refine kT rfl rfl ?_)|((first|((with_reducible apply kv);rfl)|((with_reducible apply ky);rfl;rfl)|((with_reducible apply kz);rfl;rfl)|((with_reducible apply kl);rfl;assumption;rfl;(first|assumption|rfl)));refine jT (by first|(simp only [j0,jU];rfl)|rfl) ?_)))
   refine kS rfl rfl rfl hb rfl rfl rfl rfl rfl ?_
   intro H2 _ hn2 ho2 hl2
   (repeat(first|with_reducible refine jZ ?_|(with_reducible apply jW;refine jX (by first|(simp only [j0,jU];rfl)|rfl) ?_)|with_reducible apply jE|with_reducible refine jP (by decide) ?_|(with_reducible apply jQ;first|refine kR rfl rfl ?_|refine kT rfl rfl ?_)|((first|((with_reducible apply kv);rfl)|((with_reducible apply ky);rfl;rfl)|((with_reducible apply kz);rfl;rfl)|((with_reducible apply kl);rfl;assumption;rfl;(first|assumption|rfl)));refine jT (by first|(simp only [j0,jU];rfl)|rfl) ?_)))
   refine EndQ.ret rfl ⟨rfl, ?_, hl2, ho2⟩
   unfold RdAt
   rw [hn2, h1]; rfl
 ·rw [decide_eq_false h1]
  (repeat(first|with_reducible refine jZ ?_|(with_reducible apply jW;refine jX (by first|(simp only [j0,jU];rfl)|rfl) ?_)|with_reducible apply jE|with_reducible refine jP (by decide) ?_|(with_reducible apply jQ;first|refine kR rfl rfl ?_|refine kT rfl rfl ?_)|((first|((with_reducible apply kv);rfl)|((with_reducible apply ky);rfl;rfl)|((with_reducible apply kz);rfl;rfl)|((with_reducible apply jv);rfl)|((with_reducible apply kl);rfl;assumption;rfl;(first|assumption|rfl)));refine jT (by first|(simp only [j0,jU];rfl)|rfl) ?_)))
  refine kC rfl rfl ((good_tells H1 b _ hb0).mono ?_)
  rintro r3 H3 ⟨rfl, rfl⟩
  rw [decide_eq_false h1]
  have hr : rawR r n = ([], r) := by unfold rawR; rw [if_pos (by simpa using h1)]
  rw [hr]
  (repeat(first|with_reducible refine jZ ?_|(with_reducible apply jW;refine jX (by first|(simp only [j0,jU];rfl)|rfl) ?_)|with_reducible apply jE|with_reducible refine jP (by decide) ?_|(with_reducible apply jQ;first|refine kR rfl rfl ?_|refine kT rfl rfl ?_)|((first|((with_reducible apply kv);rfl)|((with_reducible apply ky);rfl;rfl)|((with_reducible apply kz);rfl;rfl)|((with_reducible apply jv);rfl)|((with_reducible apply kl);rfl;assumption;rfl;(first|assumption|rfl)));refine jT (by first|(simp only [j0,jU];rfl)|rfl) ?_)))
  exact EndQ.ret rfl ⟨rfl, hb0, Only.refl _ _⟩
theorem numR_err {r : Rd} (h : r.err ≠ 0) : numR r = (0, r) := by unfold numR; rw [if_pos h]
theorem raw1_cons {c : UInt8} {t : Bs} : rawR ⟨c :: t, 0⟩ 1 = ([c], ⟨t, 0⟩) := by simp [rawR]
theorem raw1_nil : rawR ⟨[], 0⟩ 1 = ([], ⟨[], 10⟩) := by simp [rawR]
theorem and127 (c : UInt8) (h : ¬ c.toNat < 128) : c.toNat &&& 127 = c.toNat - 128 := by
 have e : c.toNat &&& 127 = c.toNat % 2 ^ 7 := Nat.and_two_pow_sub_one_eq_mod c.toNat 7
 have := c.toNat_lt
 rw [e]; omega
theorem num_tellsR (H : List AB) (b : Nat) (r : Rd) (hb : RdAt H b r) : Tells Kk 108 [.ptr b 0] H fun x H' => x = u64v (numR r).1 ∧ (numR r).1 < 18446744073709551616 ∧ RdAt H' b (numR r).2 ∧ Only b H H' := by
 refine Tells.mem (c := _) Tryz.func108 rfl (args' := [.ptr b 0]) (m := 53) rfl rfl rfl rfl rfl ?_
 (repeat(first|with_reducible refine jZ ?_|(with_reducible apply jW;refine jX (by first|(simp only [j0,jU];rfl)|rfl) ?_)|with_reducible refine jP (by decide) ?_|(with_reducible apply jQ;first|refine kR rfl rfl ?_|refine kT rfl rfl ?_)|((first|((with_reducible apply kv);rfl)|((with_reducible apply ky);rfl;rfl)|((with_reducible apply kz);rfl;rfl)|((with_reducible apply kl);rfl;assumption;rfl;(first|assumption|rfl)));refine jT (by first|(simp only [j0,jU];rfl)|rfl) ?_)))
 refine Wc.block ?_
 refine Wc.inv (fun m st => ∃ (r' : Rd) (i a : Nat), m = r'.s.length + (if r'.err = 0 then 1 else 0) ∧ RdAt st.H b r' ∧ Only b H st.H ∧ ((r'.err = 0 ∧ numGo i a r'.s = numR r ∧ i ≤ 9 ∧ a < 2 ^ (7 * i)) ∨ (r'.err ≠ 0 ∧ numR r = (0, r'))) ∧ ∃ d : Nat → AV, st.regs = (.ptr b 0 :: d 1 :: u64v 0 :: u64v a :: i64v i :: d 5 :: d 6 :: d 7 :: d 8 :: d 9 :: d 10 :: d 11 :: d 12 :: d 13 :: d 14 :: d 15 :: d 16 :: d 17 :: d 18 :: d 19 :: d 20 :: d 21 :: d 22 :: d 23 :: d 24 :: d 25 :: d 26 :: d 27 :: d 28 :: d 29 :: d 30 :: d 31 :: d 32 :: d 33 :: d 34 :: d 35 :: d 36 :: d 37 :: d 38 :: d 39 :: d 40 :: d 41 :: d 42 :: d 43 :: d 44 :: d 45 :: d 46 :: d 47 :: d 48 :: d 49 :: d 50 :: d 51 :: d 52 :: d 53 :: [])) _ ⟨r, 0, 0, rfl, hb, Only.refl _ _, ?_, dead_of rfl⟩ ?_
 ·by_cases h : r.err = 0
  ·refine .inl ⟨h, ?_, by omega, by simp⟩
   unfold numR; rw [if_neg (by simpa using h)]
  ·exact .inr ⟨h, numR_err h⟩
 ·rintro m regs own H1 ⟨r', i, a, rfl, hb1, ho1, hcase, d, rfl⟩
  (repeat(first|with_reducible refine jZ ?_|(with_reducible apply jW;refine jX (by first|(simp only [j0,jU];rfl)|rfl) ?_)|with_reducible apply jE|with_reducible refine jP (by decide) ?_|(with_reducible apply jQ;first|refine kR rfl rfl ?_|refine kT rfl rfl ?_)|((first|((with_reducible apply kv);rfl)|((with_reducible apply ky);rfl;rfl)|((with_reducible apply kz);rfl;rfl)|((with_reducible apply kl);rfl;assumption;rfl;(first|assumption|rfl)));refine jT (by first|(simp only [j0,jU];rfl)|rfl) ?_)))
  refine kC rfl rfl ((good_tells H1 b _ hb1).mono ?_)
  rintro x2 H2 ⟨rfl, rfl⟩
  rcases hcase with ⟨h, hgo, hi, ha⟩ | ⟨h, hres⟩
  ·rw [decide_eq_true h]
   (repeat(first|with_reducible refine jZ ?_|(with_reducible apply jW;refine jX (by first|(simp only [j0,jU];rfl)|rfl) ?_)|with_reducible apply jE|with_reducible refine jP (by decide) ?_|(with_reducible apply jQ;first|refine kR rfl rfl ?_|refine kT rfl rfl ?_)|((first|((with_reducible apply kv);rfl)|((with_reducible apply ky);rfl;rfl)|((with_reducible apply kz);rfl;rfl)|((with_reducible apply kl);rfl;assumption;rfl;(first|assumption|rfl)));refine jT (by first|(simp only [j0,jU];rfl)|rfl) ?_)))
   refine kC rfl rfl ((raw_tellsR H2 b r' 1 hb1).mono ?_)
   rintro x3 H3 ⟨rfl, hb3, ho3⟩
   obtain ⟨rs, re⟩ := r'
   obtain rfl : re = 0 := h
   cases rs with
   | nil =>
    rw [raw1_nil] at hb3 ⊢
    (repeat(first|with_reducible refine jZ ?_|(with_reducible apply jW;refine jX (by first|(simp only [j0,jU];rfl)|rfl) ?_)|with_reducible apply jE|with_reducible refine jP (by decide) ?_|(with_reducible apply jQ;first|refine kR rfl rfl ?_|refine kT rfl rfl ?_)|((first|((with_reducible apply kv);rfl)|((with_reducible apply ky);rfl;rfl)|((with_reducible apply kz);rfl;rfl)|((with_reducible apply kl);rfl;assumption;rfl;(first|assumption|rfl)));refine jT (by first|(simp only [j0,jU];rfl)|rfl) ?_)))
    have hn : numR r = (0, ⟨[], 10⟩) := hgo.symm
    rw [hn]
    exact EndQ.ret rfl ⟨rfl, by decide, hb3, ho1.trans ho3⟩
   | cons c t =>
    rw [raw1_cons] at hb3 ⊢
    (repeat(first|with_reducible refine jZ ?_|(with_reducible apply jW;refine jX (by first|(simp only [j0,jU];rfl)|rfl) ?_)|with_reducible apply jE|with_reducible refine jP (by decide) ?_|(with_reducible apply jQ;first|refine kR rfl rfl ?_|refine kT rfl rfl ?_)|((first|((with_reducible apply kv);rfl)|((with_reducible apply ky);rfl;rfl)|((with_reducible apply kz);rfl;rfl)|((with_reducible apply kl);rfl;assumption;rfl;(first|assumption|rfl)));refine jT (by first|(simp only [j0,jU];rfl)|rfl) ?_)))
    rw [show (([c] : Bs) == []) = false from rfl]
    (repeat(first|with_reducible refine jZ ?_|(with_reducible apply jW;refine jX (by first|(simp only [j0,jU];rfl)|rfl) ?_)|with_reducible refine jP (by decide) ?_|(with_reducible apply jQ;first|refine kR rfl rfl ?_|refine kT rfl rfl ?_)|((first|((with_reducible apply kv);rfl)|((with_reducible apply ky);rfl;rfl)|((with_reducible apply kz);rfl;rfl)|((with_reducible apply kl);rfl;assumption;rfl;(first|assumption|rfl)));refine jT (by first|(simp only [j0,jU];rfl)|rfl) ?_)))
    have hc := c.toNat_lt
    rw [numGo] at hgo
    have hp : ∀ k, 2 ^ (7 * (k + 1)) = 128 * 2 ^ (7 * k) := fun k => by rw [show 7 * (k + 1) = 7 * k + 7 by omega, Nat.pow_add, Nat.mul_comm]
    have hp9 : i ≤ 8 → 2 ^ (7 * (i + 1)) ≤ 2 ^ (7 * 9) := fun q => Nat.pow_le_pow_right (by omega) (by omega)
    have hsh : ∀ {x : Nat}, x < 128 ∧ i ≤ 8 ∨ x ≤ 1 ∧ i = 9 → x * 2 ^ (7 * i) < 2 ^ IntKind.u64.bits := by
     intro x hx
     show x * 2 ^ (7 * i) < 2 ^ 64
     rcases hx with ⟨h1, h2⟩ | ⟨h1, rfl⟩
     ·have := hp9 h2
      have := Nat.mul_le_mul_right (2 ^ (7 * i)) (show x ≤ 127 by omega)
      rw [hp] at hp9
      have h3 := hp9 h2
      have h4 : (2 : Nat) ^ (7 * 9) < 2 ^ 64 := by decide
      omega
     ·have := Nat.mul_le_mul_right (2 ^ (7 * 9)) h1
      exact Nat.lt_of_le_of_lt this (by decide)
    have hal : i ≤ 9 → a < 2 ^ IntKind.u64.bits := fun q => Nat.lt_of_lt_of_le ha (Nat.pow_le_pow_right (by omega) (by show 7 * i ≤ 64; omega))
    have hsum : ∀ {x : Nat}, x < 128 ∧ i ≤ 8 ∨ x ≤ 1 ∧ i = 9 → a + x * 2 ^ (7 * i) < 18446744073709551616 := by
     intro x hx
     rcases hx with ⟨h1, h2⟩ | ⟨h1, rfl⟩
     ·have := hp9 h2
      rw [hp] at hp9
      have h3 := hp9 h2
      have := Nat.mul_le_mul_right (2 ^ (7 * i)) (show x ≤ 127 by omega)
      have h4 : (2 : Nat) ^ (7 * 9) < 18446744073709551616 := by decide
      omega
     ·have := Nat.mul_le_mul_right (2 ^ (7 * 9)) h1
      have h4 : (2 : Nat) ^ (7 * 9) + 1 * 2 ^ (7 * 9) ≤ 18446744073709551616 := by decide
      exact Nat.lt_of_lt_of_le (Nat.add_lt_add_of_lt_of_le ha this) h4
    have hnext : ∀ {x : Nat}, x < 128 → a + x * 2 ^ (7 * i) < 2 ^ (7 * (i + 1)) := by
     intro x hx
     rw [hp]
     have := Nat.mul_le_mul_right (2 ^ (7 * i)) (show x ≤ 127 by omega)
     omega
    by_cases h9 : i = 9
    ·(repeat(first|with_reducible refine jZ ?_|(with_reducible apply jW;refine jX (by first|(simp only [j0,jU];rfl)|rfl) ?_)|with_reducible apply jE|with_reducible refine jP (by decide) ?_|(with_reducible apply jQ;first|refine kR rfl rfl ?_|refine kT rfl rfl ?_)|((first|((with_reducible apply kv);rfl)|((with_reducible apply ky);rfl;rfl)|((with_reducible apply kz);rfl;rfl)|((with_reducible apply kl);rfl;assumption;rfl;(first|assumption|rfl)));refine jT (by first|(simp only [j0,jU];rfl)|rfl) ?_)))
     rw [eqI (x := (i : Int)) (y := 9) (by omega)]
     (repeat(first|with_reducible refine jZ ?_|(with_reducible apply jW;refine jX (by first|(simp only [j0,jU];rfl)|rfl) ?_)|with_reducible apply jE|with_reducible refine jP (by decide) ?_|(with_reducible apply jQ;first|refine kR rfl rfl ?_|refine kT rfl rfl ?_)|((first|((with_reducible apply kv);rfl)|((with_reducible apply ky);rfl;rfl)|((with_reducible apply kz);rfl;rfl)|((with_reducible apply kl);rfl;assumption;rfl;(first|assumption|rfl)));refine jT (by first|(simp only [j0,jU];rfl)|rfl) ?_)))
     by_cases hc1 : 1 < c.toNat
     ·rw [if_pos (.inl ⟨h9, hc1⟩)] at hgo
      rw [show decide ((c.toNat : Int) > 1) = true from decide_eq_true (by omega)]
      ((repeat(first|with_reducible refine jZ ?_|(with_reducible apply jW;refine jX (by first|(simp only [j0,jU];rfl)|rfl) ?_)|with_reducible apply jE|with_reducible refine jP (by decide) ?_|(with_reducible apply jQ;first|refine kR rfl rfl ?_|refine kT rfl rfl ?_)|((first|((with_reducible apply kv);rfl)|((with_reducible apply ky);rfl;rfl)|((with_reducible apply kz);rfl;rfl)|((with_reducible apply jv);rfl)|((with_reducible apply kl);rfl;assumption;rfl;(first|assumption|rfl)));refine jT (by first|(simp only [j0,jU];rfl)|rfl) ?_))); refine kC rfl rfl ((fail_tells _ b _ 11 hb3).mono ?_); rintro x4 H4 ⟨hb4, ho4⟩; (repeat(first|with_reducible refine jZ ?_|(with_reducible apply jW;refine jX (by first|(simp only [j0,jU];rfl)|rfl) ?_)|with_reducible apply jE|with_reducible refine jP (by decide) ?_|(with_reducible apply jQ;first|refine kR rfl rfl ?_|refine kT rfl rfl ?_)|((first|((with_reducible apply kv);rfl)|((with_reducible apply ky);rfl;rfl)|((with_reducible apply kz);rfl;rfl)|((with_reducible apply jv);rfl)|((with_reducible apply kl);rfl;assumption;rfl;(first|assumption|rfl)));refine jT (by first|(simp only [j0,jU];rfl)|rfl) ?_))); exact LoopQ.normal 0 (by simp) ⟨⟨[], 11⟩, _, a, rfl, hb4, (ho1.trans ho3).trans ho4, .inr ⟨by decide, hgo.symm⟩, by first | rw [wrapS (by omega)]; exact dead_of rfl | exact dead_of (F := fun d => (.ptr b 0 :: d 1 :: u64v 0 :: u64v a :: i64v 10 :: d 5 :: d 6 :: d 7 :: d 8 :: d 9 :: d 10 :: d 11 :: d 12 :: d 13 :: d 14 :: d 15 :: d 16 :: d 17 :: d 18 :: d 19 :: d 20 :: d 21 :: d 22 :: d 23 :: d 24 :: d 25 :: d 26 :: d 27 :: d 28 :: d 29 :: d 30 :: d 31 :: d 32 :: d 33 :: d 34 :: d 35 :: d 36 :: d 37 :: d 38 :: d 39 :: d 40 :: d 41 :: d 42 :: d 43 :: d 44 :: d 45 :: d 46 :: d 47 :: d 48 :: d 49 :: d 50 :: d 51 :: d 52 :: d 53 :: [])) rfl⟩)
     ·rw [show decide ((c.toNat : Int) > 1) = false from decide_eq_false (by omega)]
      (repeat(first|with_reducible refine jZ ?_|(with_reducible apply jW;refine jX (by first|(simp only [j0,jU];rfl)|rfl) ?_)|with_reducible apply jE|with_reducible refine jP (by decide) ?_|(with_reducible apply jQ;first|refine kR rfl rfl ?_|refine kT rfl rfl ?_)|((first|((with_reducible apply kv);rfl)|((with_reducible apply ky);rfl;rfl)|((with_reducible apply kz);rfl;rfl)|((with_reducible apply kl);rfl;assumption;rfl;(first|assumption|rfl)));refine jT (by first|(simp only [j0,jU];rfl)|rfl) ?_)))
      rw [show decide ((i : Int) > 0) = true from decide_eq_true (by omega)]
      (repeat(first|with_reducible refine jZ ?_|(with_reducible apply jW;refine jX (by first|(simp only [j0,jU];rfl)|rfl) ?_)|with_reducible apply jE|with_reducible refine jP (by decide) ?_|(with_reducible apply jQ;first|refine kR rfl rfl ?_|refine kT rfl rfl ?_)|((first|((with_reducible apply kv);rfl)|((with_reducible apply ky);rfl;rfl)|((with_reducible apply kz);rfl;rfl)|((with_reducible apply kl);rfl;assumption;rfl;(first|assumption|rfl)));refine jT (by first|(simp only [j0,jU];rfl)|rfl) ?_)))
      by_cases hc0 : c.toNat = 0
      ·rw [if_pos (.inr ⟨by omega, hc0⟩)] at hgo
       rw [eqI (x := (c.toNat : Int)) (y := 0) (by omega)]
       ((repeat(first|with_reducible refine jZ ?_|(with_reducible apply jW;refine jX (by first|(simp only [j0,jU];rfl)|rfl) ?_)|with_reducible apply jE|with_reducible refine jP (by decide) ?_|(with_reducible apply jQ;first|refine kR rfl rfl ?_|refine kT rfl rfl ?_)|((first|((with_reducible apply kv);rfl)|((with_reducible apply ky);rfl;rfl)|((with_reducible apply kz);rfl;rfl)|((with_reducible apply jv);rfl)|((with_reducible apply kl);rfl;assumption;rfl;(first|assumption|rfl)));refine jT (by first|(simp only [j0,jU];rfl)|rfl) ?_))); refine kC rfl rfl ((fail_tells _ b _ 11 hb3).mono ?_); rintro x4 H4 ⟨hb4, ho4⟩; (repeat(first|with_reducible refine jZ ?_|(with_reducible apply jW;refine jX (by first|(simp only [j0,jU];rfl)|rfl) ?_)|with_reducible apply jE|with_reducible refine jP (by decide) ?_|(with_reducible apply jQ;first|refine kR rfl rfl ?_|refine kT rfl rfl ?_)|((first|((with_reducible apply kv);rfl)|((with_reducible apply ky);rfl;rfl)|((with_reducible apply kz);rfl;rfl)|((with_reducible apply jv);rfl)|((with_reducible apply kl);rfl;assumption;rfl;(first|assumption|rfl)));refine jT (by first|(simp only [j0,jU];rfl)|rfl) ?_))); exact LoopQ.normal 0 (by simp) ⟨⟨[], 11⟩, _, a, rfl, hb4, (ho1.trans ho3).trans ho4, .inr ⟨by decide, hgo.symm⟩, by first | rw [wrapS (by omega)]; exact dead_of rfl | exact dead_of (F := fun d => (.ptr b 0 :: d 1 :: u64v 0 :: u64v a :: i64v 10 :: d 5 :: d 6 :: d 7 :: d 8 :: d 9 :: d 10 :: d 11 :: d 12 :: d 13 :: d 14 :: d 15 :: d 16 :: d 17 :: d 18 :: d 19 :: d 20 :: d 21 :: d 22 :: d 23 :: d 24 :: d 25 :: d 26 :: d 27 :: d 28 :: d 29 :: d 30 :: d 31 :: d 32 :: d 33 :: d 34 :: d 35 :: d 36 :: d 37 :: d 38 :: d 39 :: d 40 :: d 41 :: d 42 :: d 43 :: d 44 :: d 45 :: d 46 :: d 47 :: d 48 :: d 49 :: d 50 :: d 51 :: d 52 :: d 53 :: [])) rfl⟩)
      ·rw [if_neg (by rintro (q | q) <;> omega), if_pos (by omega)] at hgo
       rw [neI (x := (c.toNat : Int)) (y := 0) (by omega)]
       (repeat(first|with_reducible refine jZ ?_|(with_reducible apply jW;refine jX (by first|(simp only [j0,jU];rfl)|rfl) ?_)|with_reducible apply jE|with_reducible refine jP (by decide) ?_|(with_reducible apply jQ;first|refine kR rfl rfl ?_|refine kT rfl rfl ?_)|((first|((with_reducible apply kv);rfl)|((with_reducible apply ky);rfl;rfl)|((with_reducible apply kz);rfl;rfl)|((with_reducible apply kl);rfl;assumption;rfl;(first|assumption|rfl)));refine jT (by first|(simp only [j0,jU];rfl)|rfl) ?_)))
       rw [show decide ((c.toNat : Int) < 128) = true from decide_eq_true (by omega)]
       ((repeat(first|with_reducible refine jZ ?_|(with_reducible apply jW;refine jX (by first|(simp only [j0,jU];rfl)|rfl) ?_)|with_reducible apply jE|with_reducible refine jP (by decide) ?_|(with_reducible apply jQ;first|refine kR rfl rfl ?_|refine kT rfl rfl ?_)|((first|((with_reducible apply kv);rfl)|((with_reducible apply ky);rfl;rfl)|((with_reducible apply kz);rfl;rfl)|((with_reducible apply jv);rfl)|((with_reducible apply kl);rfl;assumption;rfl;(first|assumption|rfl)));refine jT (by first|(simp only [j0,jU];rfl)|rfl) ?_))); (repeat(first|with_reducible refine jZ ?_|(with_reducible apply jW;refine jX (by first|(simp only [j0,jU];rfl)|rfl) ?_)|with_reducible apply jE|with_reducible refine jP (by decide) ?_|(with_reducible apply jQ;first|refine kR rfl rfl ?_|refine kT rfl rfl ?_)|((first|((with_reducible apply kv);rfl)|((with_reducible apply ky);rfl;rfl)|((with_reducible apply kz);rfl;rfl)|((with_reducible apply jv);rfl)|((with_reducible apply kl);rfl;assumption;rfl;(first|assumption|rfl)));refine jT (by first|(simp only [j0,jU];rfl)|rfl) ?_))); rw [wrap64 (by omega), show IntKind.i64.wrap (7 * (i : Int)) = ((7 * i : Nat) : Int) by rw [IntKind.wrap_i64]; omega]; refine jb rfl rfl (shlN_run _ _ _ .u64 rfl .i64 (a := c.toNat) (n := 7 * i) (by show 7 * i ≤ 64; omega) (hsh (by omega))) rfl ?_; refine jb rfl rfl (or_run _ _ _ .u64 rfl (a := a) (b := c.toNat * 2 ^ (7 * i)) (hal (by omega)) (hsh (by omega))) rfl ?_; rw [or_add ha]; (repeat(first|with_reducible refine jZ ?_|(with_reducible apply jW;refine jX (by first|(simp only [j0,jU];rfl)|rfl) ?_)|with_reducible apply jE|with_reducible refine jP (by decide) ?_|(with_reducible apply jQ;first|refine kR rfl rfl ?_|refine kT rfl rfl ?_)|((first|((with_reducible apply kv);rfl)|((with_reducible apply ky);rfl;rfl)|((with_reducible apply kz);rfl;rfl)|((with_reducible apply jv);rfl)|((with_reducible apply kl);rfl;assumption;rfl;(first|assumption|rfl)));refine jT (by first|(simp only [j0,jU];rfl)|rfl) ?_))); rw [← hgo]; exact EndQ.ret rfl ⟨rfl, hsum (by omega), hb3, ho1.trans ho3⟩)
    ·(repeat(first|with_reducible refine jZ ?_|(with_reducible apply jW;refine jX (by first|(simp only [j0,jU];rfl)|rfl) ?_)|with_reducible apply jE|with_reducible refine jP (by decide) ?_|(with_reducible apply jQ;first|refine kR rfl rfl ?_|refine kT rfl rfl ?_)|((first|((with_reducible apply kv);rfl)|((with_reducible apply ky);rfl;rfl)|((with_reducible apply kz);rfl;rfl)|((with_reducible apply kl);rfl;assumption;rfl;(first|assumption|rfl)));refine jT (by first|(simp only [j0,jU];rfl)|rfl) ?_)))
     rw [neI (x := (i : Int)) (y := 9) (by omega)]
     (repeat(first|with_reducible refine jZ ?_|(with_reducible apply jW;refine jX (by first|(simp only [j0,jU];rfl)|rfl) ?_)|with_reducible apply jE|with_reducible refine jP (by decide) ?_|(with_reducible apply jQ;first|refine kR rfl rfl ?_|refine kT rfl rfl ?_)|((first|((with_reducible apply kv);rfl)|((with_reducible apply ky);rfl;rfl)|((with_reducible apply kz);rfl;rfl)|((with_reducible apply jv);rfl)|((with_reducible apply kl);rfl;assumption;rfl;(first|assumption|rfl)));refine jT (by first|(simp only [j0,jU];rfl)|rfl) ?_)))
     by_cases hi0 : 0 < i
     ·rw [show decide ((i : Int) > 0) = true from decide_eq_true (by omega)]
      (repeat(first|with_reducible refine jZ ?_|(with_reducible apply jW;refine jX (by first|(simp only [j0,jU];rfl)|rfl) ?_)|with_reducible apply jE|with_reducible refine jP (by decide) ?_|(with_reducible apply jQ;first|refine kR rfl rfl ?_|refine kT rfl rfl ?_)|((first|((with_reducible apply kv);rfl)|((with_reducible apply ky);rfl;rfl)|((with_reducible apply kz);rfl;rfl)|((with_reducible apply jv);rfl)|((with_reducible apply kl);rfl;assumption;rfl;(first|assumption|rfl)));refine jT (by first|(simp only [j0,jU];rfl)|rfl) ?_)))
      by_cases hc0 : c.toNat = 0
      ·rw [if_pos (.inr ⟨hi0, hc0⟩)] at hgo
       rw [eqI (x := (c.toNat : Int)) (y := 0) (by omega)]
       ((repeat(first|with_reducible refine jZ ?_|(with_reducible apply jW;refine jX (by first|(simp only [j0,jU];rfl)|rfl) ?_)|with_reducible apply jE|with_reducible refine jP (by decide) ?_|(with_reducible apply jQ;first|refine kR rfl rfl ?_|refine kT rfl rfl ?_)|((first|((with_reducible apply kv);rfl)|((with_reducible apply ky);rfl;rfl)|((with_reducible apply kz);rfl;rfl)|((with_reducible apply jv);rfl)|((with_reducible apply kl);rfl;assumption;rfl;(first|assumption|rfl)));refine jT (by first|(simp only [j0,jU];rfl)|rfl) ?_))); refine kC rfl rfl ((fail_tells _ b _ 11 hb3).mono ?_); rintro x4 H4 ⟨hb4, ho4⟩; (repeat(first|with_reducible refine jZ ?_|(with_reducible apply jW;refine jX (by first|(simp only [j0,jU];rfl)|rfl) ?_)|with_reducible apply jE|with_reducible refine jP (by decide) ?_|(with_reducible apply jQ;first|refine kR rfl rfl ?_|refine kT rfl rfl ?_)|((first|((with_reducible apply kv);rfl)|((with_reducible apply ky);rfl;rfl)|((with_reducible apply kz);rfl;rfl)|((with_reducible apply jv);rfl)|((with_reducible apply kl);rfl;assumption;rfl;(first|assumption|rfl)));refine jT (by first|(simp only [j0,jU];rfl)|rfl) ?_))); exact LoopQ.normal 0 (by simp) ⟨⟨[], 11⟩, _, a, rfl, hb4, (ho1.trans ho3).trans ho4, .inr ⟨by decide, hgo.symm⟩, by first | rw [wrapS (by omega)]; exact dead_of rfl | exact dead_of (F := fun d => (.ptr b 0 :: d 1 :: u64v 0 :: u64v a :: i64v 10 :: d 5 :: d 6 :: d 7 :: d 8 :: d 9 :: d 10 :: d 11 :: d 12 :: d 13 :: d 14 :: d 15 :: d 16 :: d 17 :: d 18 :: d 19 :: d 20 :: d 21 :: d 22 :: d 23 :: d 24 :: d 25 :: d 26 :: d 27 :: d 28 :: d 29 :: d 30 :: d 31 :: d 32 :: d 33 :: d 34 :: d 35 :: d 36 :: d 37 :: d 38 :: d 39 :: d 40 :: d 41 :: d 42 :: d 43 :: d 44 :: d 45 :: d 46 :: d 47 :: d 48 :: d 49 :: d 50 :: d 51 :: d 52 :: d 53 :: [])) rfl⟩)
      ·rw [neI (x := (c.toNat : Int)) (y := 0) (by omega)]
       rw [if_neg (by rintro (q | q) <;> omega)] at hgo
       (repeat(first|with_reducible refine jZ ?_|(with_reducible apply jW;refine jX (by first|(simp only [j0,jU];rfl)|rfl) ?_)|with_reducible apply jE|with_reducible refine jP (by decide) ?_|(with_reducible apply jQ;first|refine kR rfl rfl ?_|refine kT rfl rfl ?_)|((first|((with_reducible apply kv);rfl)|((with_reducible apply ky);rfl;rfl)|((with_reducible apply kz);rfl;rfl)|((with_reducible apply jv);rfl)|((with_reducible apply kl);rfl;assumption;rfl;(first|assumption|rfl)));refine jT (by first|(simp only [j0,jU];rfl)|rfl) ?_)))
       by_cases hlast : c.toNat < 128
       ·rw [if_pos hlast] at hgo
        rw [show decide ((c.toNat : Int) < 128) = true from decide_eq_true (by omega)]
        ((repeat(first|with_reducible refine jZ ?_|(with_reducible apply jW;refine jX (by first|(simp only [j0,jU];rfl)|rfl) ?_)|with_reducible apply jE|with_reducible refine jP (by decide) ?_|(with_reducible apply jQ;first|refine kR rfl rfl ?_|refine kT rfl rfl ?_)|((first|((with_reducible apply kv);rfl)|((with_reducible apply ky);rfl;rfl)|((with_reducible apply kz);rfl;rfl)|((with_reducible apply jv);rfl)|((with_reducible apply kl);rfl;assumption;rfl;(first|assumption|rfl)));refine jT (by first|(simp only [j0,jU];rfl)|rfl) ?_))); (repeat(first|with_reducible refine jZ ?_|(with_reducible apply jW;refine jX (by first|(simp only [j0,jU];rfl)|rfl) ?_)|with_reducible apply jE|with_reducible refine jP (by decide) ?_|(with_reducible apply jQ;first|refine kR rfl rfl ?_|refine kT rfl rfl ?_)|((first|((with_reducible apply kv);rfl)|((with_reducible apply ky);rfl;rfl)|((with_reducible apply kz);rfl;rfl)|((with_reducible apply jv);rfl)|((with_reducible apply kl);rfl;assumption;rfl;(first|assumption|rfl)));refine jT (by first|(simp only [j0,jU];rfl)|rfl) ?_))); rw [wrap64 (by omega), show IntKind.i64.wrap (7 * (i : Int)) = ((7 * i : Nat) : Int) by rw [IntKind.wrap_i64]; omega]; refine jb rfl rfl (shlN_run _ _ _ .u64 rfl .i64 (a := c.toNat) (n := 7 * i) (by show 7 * i ≤ 64; omega) (hsh (by omega))) rfl ?_; refine jb rfl rfl (or_run _ _ _ .u64 rfl (a := a) (b := c.toNat * 2 ^ (7 * i)) (hal (by omega)) (hsh (by omega))) rfl ?_; rw [or_add ha]; (repeat(first|with_reducible refine jZ ?_|(with_reducible apply jW;refine jX (by first|(simp only [j0,jU];rfl)|rfl) ?_)|with_reducible apply jE|with_reducible refine jP (by decide) ?_|(with_reducible apply jQ;first|refine kR rfl rfl ?_|refine kT rfl rfl ?_)|((first|((with_reducible apply kv);rfl)|((with_reducible apply ky);rfl;rfl)|((with_reducible apply kz);rfl;rfl)|((with_reducible apply jv);rfl)|((with_reducible apply kl);rfl;assumption;rfl;(first|assumption|rfl)));refine jT (by first|(simp only [j0,jU];rfl)|rfl) ?_))); rw [← hgo]; exact EndQ.ret rfl ⟨rfl, hsum (by omega), hb3, ho1.trans ho3⟩)
       ·rw [if_neg hlast] at hgo
        rw [show decide ((c.toNat : Int) < 128) = false from decide_eq_false (by omega)]
        ((repeat(first|with_reducible refine jZ ?_|(with_reducible apply jW;refine jX (by first|(simp only [j0,jU];rfl)|rfl) ?_)|with_reducible apply jE|with_reducible refine jP (by decide) ?_|(with_reducible apply jQ;first|refine kR rfl rfl ?_|refine kT rfl rfl ?_)|((first|((with_reducible apply kv);rfl)|((with_reducible apply ky);rfl;rfl)|((with_reducible apply kz);rfl;rfl)|((with_reducible apply jv);rfl)|((with_reducible apply kl);rfl;assumption;rfl;(first|assumption|rfl)));refine jT (by first|(simp only [j0,jU];rfl)|rfl) ?_))); refine jb rfl rfl (and_run _ _ _ .u8 rfl (a := c.toNat) (b := 127) (by show _ < 2 ^ 8; omega) (by decide)) rfl ?_; rw [and127 c hlast]; (repeat(first|with_reducible refine jZ ?_|(with_reducible apply jW;refine jX (by first|(simp only [j0,jU];rfl)|rfl) ?_)|with_reducible apply jE|with_reducible refine jP (by decide) ?_|(with_reducible apply jQ;first|refine kR rfl rfl ?_|refine kT rfl rfl ?_)|((first|((with_reducible apply kv);rfl)|((with_reducible apply ky);rfl;rfl)|((with_reducible apply kz);rfl;rfl)|((with_reducible apply jv);rfl)|((with_reducible apply kl);rfl;assumption;rfl;(first|assumption|rfl)));refine jT (by first|(simp only [j0,jU];rfl)|rfl) ?_))); rw [wrap64 (by omega), show IntKind.i64.wrap (7 * (i : Int)) = ((7 * i : Nat) : Int) by rw [IntKind.wrap_i64]; omega]; refine jb rfl rfl (shlN_run _ _ _ .u64 rfl .i64 (a := c.toNat - 128) (n := 7 * i) (by show 7 * i ≤ 64; omega) (hsh (by omega))) rfl ?_; refine jb rfl rfl (or_run _ _ _ .u64 rfl (a := a) (b := (c.toNat - 128) * 2 ^ (7 * i)) (hal (by omega)) (hsh (by omega))) rfl ?_; rw [or_add ha]; (repeat(first|with_reducible refine jZ ?_|(with_reducible apply jW;refine jX (by first|(simp only [j0,jU];rfl)|rfl) ?_)|with_reducible apply jE|with_reducible refine jP (by decide) ?_|(with_reducible apply jQ;first|refine kR rfl rfl ?_|refine kT rfl rfl ?_)|((first|((with_reducible apply kv);rfl)|((with_reducible apply ky);rfl;rfl)|((with_reducible apply kz);rfl;rfl)|((with_reducible apply jv);rfl)|((with_reducible apply kl);rfl;assumption;rfl;(first|assumption|rfl)));refine jT (by first|(simp only [j0,jU];rfl)|rfl) ?_))); rw [wrapS (n := i) (by omega)]; exact LoopQ.normal (t.length + 1) (by simp) ⟨⟨t, 0⟩, i + 1, _, by simp, hb3, ho1.trans ho3, .inl ⟨rfl, hgo, by omega, hnext (by omega)⟩, dead_of rfl⟩)
     ·rw [show decide ((i : Int) > 0) = false from decide_eq_false (by omega)]
      rw [if_neg (by rintro (q | q) <;> omega)] at hgo
      (repeat(first|with_reducible refine jZ ?_|(with_reducible apply jW;refine jX (by first|(simp only [j0,jU];rfl)|rfl) ?_)|with_reducible apply jE|with_reducible refine jP (by decide) ?_|(with_reducible apply jQ;first|refine kR rfl rfl ?_|refine kT rfl rfl ?_)|((first|((with_reducible apply kv);rfl)|((with_reducible apply ky);rfl;rfl)|((with_reducible apply kz);rfl;rfl)|((with_reducible apply jv);rfl)|((with_reducible apply kl);rfl;assumption;rfl;(first|assumption|rfl)));refine jT (by first|(simp only [j0,jU];rfl)|rfl) ?_)))
      by_cases hlast : c.toNat < 128
      ·rw [if_pos hlast] at hgo
       rw [show decide ((c.toNat : Int) < 128) = true from decide_eq_true (by omega)]
       ((repeat(first|with_reducible refine jZ ?_|(with_reducible apply jW;refine jX (by first|(simp only [j0,jU];rfl)|rfl) ?_)|with_reducible apply jE|with_reducible refine jP (by decide) ?_|(with_reducible apply jQ;first|refine kR rfl rfl ?_|refine kT rfl rfl ?_)|((first|((with_reducible apply kv);rfl)|((with_reducible apply ky);rfl;rfl)|((with_reducible apply kz);rfl;rfl)|((with_reducible apply jv);rfl)|((with_reducible apply kl);rfl;assumption;rfl;(first|assumption|rfl)));refine jT (by first|(simp only [j0,jU];rfl)|rfl) ?_))); (repeat(first|with_reducible refine jZ ?_|(with_reducible apply jW;refine jX (by first|(simp only [j0,jU];rfl)|rfl) ?_)|with_reducible apply jE|with_reducible refine jP (by decide) ?_|(with_reducible apply jQ;first|refine kR rfl rfl ?_|refine kT rfl rfl ?_)|((first|((with_reducible apply kv);rfl)|((with_reducible apply ky);rfl;rfl)|((with_reducible apply kz);rfl;rfl)|((with_reducible apply jv);rfl)|((with_reducible apply kl);rfl;assumption;rfl;(first|assumption|rfl)));refine jT (by first|(simp only [j0,jU];rfl)|rfl) ?_))); rw [wrap64 (by omega), show IntKind.i64.wrap (7 * (i : Int)) = ((7 * i : Nat) : Int) by rw [IntKind.wrap_i64]; omega]; refine jb rfl rfl (shlN_run _ _ _ .u64 rfl .i64 (a := c.toNat) (n := 7 * i) (by show 7 * i ≤ 64; omega) (hsh (by omega))) rfl ?_; refine jb rfl rfl (or_run _ _ _ .u64 rfl (a := a) (b := c.toNat * 2 ^ (7 * i)) (hal (by omega)) (hsh (by omega))) rfl ?_; rw [or_add ha]; (repeat(first|with_reducible refine jZ ?_|(with_reducible apply jW;refine jX (by first|(simp only [j0,jU];rfl)|rfl) ?_)|with_reducible apply jE|with_reducible refine jP (by decide) ?_|(with_reducible apply jQ;first|refine kR rfl rfl ?_|refine kT rfl rfl ?_)|((first|((with_reducible apply kv);rfl)|((with_reducible apply ky);rfl;rfl)|((with_reducible apply kz);rfl;rfl)|((with_reducible apply jv);rfl)|((with_reducible apply kl);rfl;assumption;rfl;(first|assumption|rfl)));refine jT (by first|(simp only [j0,jU];rfl)|rfl) ?_))); rw [← hgo]; exact EndQ.ret rfl ⟨rfl, hsum (by omega), hb3, ho1.trans ho3⟩)
      ·rw [if_neg hlast] at hgo
       rw [show decide ((c.toNat : Int) < 128) = false from decide_eq_false (by omega)]
       ((repeat(first|with_reducible refine jZ ?_|(with_reducible apply jW;refine jX (by first|(simp only [j0,jU];rfl)|rfl) ?_)|with_reducible apply jE|with_reducible refine jP (by decide) ?_|(with_reducible apply jQ;first|refine kR rfl rfl ?_|refine kT rfl rfl ?_)|((first|((with_reducible apply kv);rfl)|((with_reducible apply ky);rfl;rfl)|((with_reducible apply kz);rfl;rfl)|((with_reducible apply jv);rfl)|((with_reducible apply kl);rfl;assumption;rfl;(first|assumption|rfl)));refine jT (by first|(simp only [j0,jU];rfl)|rfl) ?_))); refine jb rfl rfl (and_run _ _ _ .u8 rfl (a := c.toNat) (b := 127) (by show _ < 2 ^ 8; omega) (by decide)) rfl ?_; rw [and127 c hlast]; (repeat(first|with_reducible refine jZ ?_|(with_reducible apply jW;refine jX (by first|(simp only [j0,jU];rfl)|rfl) ?_)|with_reducible apply jE|with_reducible refine jP (by decide) ?_|(with_reducible apply jQ;first|refine kR rfl rfl ?_|refine kT rfl rfl ?_)|((first|((with_reducible apply kv);rfl)|((with_reducible apply ky);rfl;rfl)|((with_reducible apply kz);rfl;rfl)|((with_reducible apply jv);rfl)|((with_reducible apply kl);rfl;assumption;rfl;(first|assumption|rfl)));refine jT (by first|(simp only [j0,jU];rfl)|rfl) ?_))); rw [wrap64 (by omega), show IntKind.i64.wrap (7 * (i : Int)) = ((7 * i : Nat) : Int) by rw [IntKind.wrap_i64]; omega]; refine jb rfl rfl (shlN_run _ _ _ .u64 rfl .i64 (a := c.toNat - 128) (n := 7 * i) (by show 7 * i ≤ 64; omega) (hsh (by omega))) rfl ?_; refine jb rfl rfl (or_run _ _ _ .u64 rfl (a := a) (b := (c.toNat - 128) * 2 ^ (7 * i)) (hal (by omega)) (hsh (by omega))) rfl ?_; rw [or_add ha]; (repeat(first|with_reducible refine jZ ?_|(with_reducible apply jW;refine jX (by first|(simp only [j0,jU];rfl)|rfl) ?_)|with_reducible apply jE|with_reducible refine jP (by decide) ?_|(with_reducible apply jQ;first|refine kR rfl rfl ?_|refine kT rfl rfl ?_)|((first|((with_reducible apply kv);rfl)|((with_reducible apply ky);rfl;rfl)|((with_reducible apply kz);rfl;rfl)|((with_reducible apply jv);rfl)|((with_reducible apply kl);rfl;assumption;rfl;(first|assumption|rfl)));refine jT (by first|(simp only [j0,jU];rfl)|rfl) ?_))); rw [wrapS (n := i) (by omega)]; exact LoopQ.normal (t.length + 1) (by simp) ⟨⟨t, 0⟩, i + 1, _, by simp, hb3, ho1.trans ho3, .inl ⟨rfl, hgo, by omega, hnext (by omega)⟩, dead_of rfl⟩)
  ·rw [decide_eq_false h]
   (repeat(first|with_reducible refine jZ ?_|(with_reducible apply jW;refine jX (by first|(simp only [j0,jU];rfl)|rfl) ?_)|with_reducible apply jE|with_reducible refine jP (by decide) ?_|(with_reducible apply jQ;first|refine kR rfl rfl ?_|refine kT rfl rfl ?_)|((first|((with_reducible apply kv);rfl)|((with_reducible apply ky);rfl;rfl)|((with_reducible apply kz);rfl;rfl)|((with_reducible apply kl);rfl;assumption;rfl;(first|assumption|rfl)));refine jT (by first|(simp only [j0,jU];rfl)|rfl) ?_)))
   rw [hres]
   exact EndQ.ret rfl ⟨rfl, by show 0 < _; omega, hb1, ho1⟩
end Go.Proofs.Ck
