/- pack's reader: texts, flags, a frame's body. -/
import Derived.Test.YtaefgigfoifjaaaGreatDoorCkRead
set_option linter.unusedVariables false
set_option linter.unusedSimpArgs false
set_option linter.unusedSectionVars false
namespace Go.Proofs.Ck
open Go.Tm
set_option maxRecDepth 100000
theorem numGo_len : ∀ (s : Bs) (i a : Nat), (numGo i a s).2.s.length ≤ s.length
 | [], _, _ => Nat.le_refl _
 | c :: t, i, a => by
  unfold numGo
  split
  ·simp
  ·split
   ·simp
   ·exact Nat.le_trans (numGo_len t _ _) (by simp)
theorem numR_len (r : Rd) : (numR r).2.s.length ≤ r.s.length := by
 unfold numR
 split
 ·exact Nat.le_refl _
 ·exact numGo_len _ _ _
theorem many_tells (H : List AB) (b : Nat) (r : Rd) (hl : r.s.length < 4294967281) (hb : RdAt H b r) : Tells Kk 112 [.ptr b 0, i64v 1] H fun x H' => x = i64v (manyR r).1 ∧ (manyR r).1 ≤ r.s.length ∧ RdAt H' b (manyR r).2 ∧ Only b H H' := by
 refine Tells.mem (c := _) Tryz.func112 rfl (args' := [.ptr b 0, i64v 1]) (m := 28) rfl rfl rfl rfl rfl ?_
 (repeat(first|with_reducible refine jZ ?_|(with_reducible apply jW;refine jX (by first|(simp only [j0,jU];rfl)|rfl) ?_)|with_reducible apply jE|with_reducible refine jP (by decide) ?_|(with_reducible apply jQ;first|refine kR rfl rfl ?_|refine kT rfl rfl ?_)|((first|((with_reducible apply kv);rfl)|((with_reducible apply ky);rfl;rfl)|((with_reducible apply kz);rfl;rfl)|((with_reducible apply kl);rfl;assumption;rfl;(first|assumption|rfl)));refine jT (by first|(simp only [j0,jU];rfl)|rfl) ?_)))
 refine kC rfl rfl ((num_tellsR H b r hb).mono ?_)
 have hln := numR_len r
 rcases hnr : numR r with ⟨n, r'⟩
 have hm : manyR r = if r'.err ≠ 0 then (0, r') else if r'.s.length < n then (0, ⟨[], 10⟩) else (n, r') := by unfold manyR; rw [hnr]
 rw [hnr] at hln
 simp only at hln
 rw [hm]
 clear hm
 rintro r1 H1 ⟨rfl, hn, hb1, ho1⟩
 (repeat(first|with_reducible refine jZ ?_|(with_reducible apply jW;refine jX (by first|(simp only [j0,jU];rfl)|rfl) ?_)|with_reducible apply jE|with_reducible refine jP (by decide) ?_|(with_reducible apply jQ;first|refine kR rfl rfl ?_|refine kT rfl rfl ?_)|((first|((with_reducible apply kv);rfl)|((with_reducible apply ky);rfl;rfl)|((with_reducible apply kz);rfl;rfl)|((with_reducible apply kl);rfl;assumption;rfl;(first|assumption|rfl)));refine jT (by first|(simp only [j0,jU];rfl)|rfl) ?_)))
 refine kC rfl rfl ((good_tells H1 b r' hb1).mono ?_)
 rintro r2 H2 ⟨rfl, rfl⟩
 have hb0 := hb1
 unfold RdAt at hb1
 by_cases h1 : r'.err = 0
 ·rw [decide_eq_true h1, if_neg (by simpa using h1)]
  (repeat(first|with_reducible refine jZ ?_|(with_reducible apply jW;refine jX (by first|(simp only [j0,jU];rfl)|rfl) ?_)|with_reducible apply jE|with_reducible refine jP (by decide) ?_|(with_reducible apply jQ;first|refine kR rfl rfl ?_|refine kT rfl rfl ?_)|((first|((with_reducible apply kv);rfl)|((with_reducible apply ky);rfl;rfl)|((with_reducible apply kz);rfl;rfl)|((with_reducible apply kl);rfl;assumption;rfl;(first|assumption|rfl)));refine jT (by first|(simp only [j0,jU];rfl)|rfl) ?_)))
  refine Wo.doVal rfl rfl (op_max2 rfl rfl rfl rfl) ?_
  rw [show (if (1 : Int) > 1 then (1 : Int) else 1) = 1 from rfl]
  (repeat(first|with_reducible refine jZ ?_|(with_reducible apply jW;refine jX (by first|(simp only [j0,jU];rfl)|rfl) ?_)|with_reducible apply jE|with_reducible refine jP (by decide) ?_|(with_reducible apply jQ;first|refine kR rfl rfl ?_|refine kT rfl rfl ?_)|((first|((with_reducible apply kv);rfl)|((with_reducible apply ky);rfl;rfl)|((with_reducible apply kz);rfl;rfl)|((with_reducible apply kl);rfl;assumption;rfl;(first|assumption|rfl)));refine jT (by first|(simp only [j0,jU];rfl)|rfl) ?_)))
  refine jb rfl rfl (quo_run _ _ _ .i64 (a := r'.s.length) (b := 1) (by decide) (wrapi (by rw [Nat.div_one]; omega))) rfl ?_
  rw [Nat.div_one]
  (repeat(first|with_reducible refine jZ ?_|(with_reducible apply jW;refine jX (by first|(simp only [j0,jU];rfl)|rfl) ?_)|with_reducible apply jE|with_reducible refine jP (by decide) ?_|(with_reducible apply jQ;first|refine kR rfl rfl ?_|refine kT rfl rfl ?_)|((first|((with_reducible apply kv);rfl)|((with_reducible apply ky);rfl;rfl)|((with_reducible apply kz);rfl;rfl)|((with_reducible apply kl);rfl;assumption;rfl;(first|assumption|rfl)));refine jT (by first|(simp only [j0,jU];rfl)|rfl) ?_)))
  rw [wrap64 (n := r'.s.length) (by omega)]
  (repeat(first|with_reducible refine jZ ?_|(with_reducible apply jW;refine jX (by first|(simp only [j0,jU];rfl)|rfl) ?_)|with_reducible apply jE|with_reducible refine jP (by decide) ?_|(with_reducible apply jQ;first|refine kR rfl rfl ?_|refine kT rfl rfl ?_)|((first|((with_reducible apply kv);rfl)|((with_reducible apply ky);rfl;rfl)|((with_reducible apply kz);rfl;rfl)|((with_reducible apply kl);rfl;assumption;rfl;(first|assumption|rfl)));refine jT (by first|(simp only [j0,jU];rfl)|rfl) ?_)))
  by_cases h2 : r'.s.length < n
  ·rw [show decide ((n : Int) > (r'.s.length : Int)) = true from decide_eq_true (by omega), if_pos h2]
   (repeat(first|with_reducible refine jZ ?_|(with_reducible apply jW;refine jX (by first|(simp only [j0,jU];rfl)|rfl) ?_)|with_reducible apply jE|with_reducible refine jP (by decide) ?_|(with_reducible apply jQ;first|refine kR rfl rfl ?_|refine kT rfl rfl ?_)|((first|((with_reducible apply kv);rfl)|((with_reducible apply ky);rfl;rfl)|((with_reducible apply kz);rfl;rfl)|((with_reducible apply kl);rfl;assumption;rfl;(first|assumption|rfl)));refine jT (by first|(simp only [j0,jU];rfl)|rfl) ?_)))
   refine kC rfl rfl ((fail_tells H2 b r' 10 hb0).mono ?_)
   rintro r3 H3 ⟨hb3, ho3⟩
   have hf : r'.fail 10 = ⟨[], 10⟩ := by unfold Rd.fail; rw [if_pos ⟨h1, by decide⟩]
   rw [hf] at hb3
   (repeat(first|with_reducible refine jZ ?_|(with_reducible apply jW;refine jX (by first|(simp only [j0,jU];rfl)|rfl) ?_)|with_reducible apply jE|with_reducible refine jP (by decide) ?_|(with_reducible apply jQ;first|refine kR rfl rfl ?_|refine kT rfl rfl ?_)|((first|((with_reducible apply kv);rfl)|((with_reducible apply ky);rfl;rfl)|((with_reducible apply kz);rfl;rfl)|((with_reducible apply kl);rfl;assumption;rfl;(first|assumption|rfl)));refine jT (by first|(simp only [j0,jU];rfl)|rfl) ?_)))
   refine kC rfl rfl ((good_tells H3 b _ hb3).mono ?_)
   rintro r4 H4 ⟨rfl, rfl⟩
   (repeat(first|with_reducible refine jZ ?_|(with_reducible apply jW;refine jX (by first|(simp only [j0,jU];rfl)|rfl) ?_)|with_reducible apply jE|with_reducible refine jP (by decide) ?_|(with_reducible apply jQ;first|refine kR rfl rfl ?_|refine kT rfl rfl ?_)|((first|((with_reducible apply kv);rfl)|((with_reducible apply ky);rfl;rfl)|((with_reducible apply kz);rfl;rfl)|((with_reducible apply kl);rfl;assumption;rfl;(first|assumption|rfl)));refine jT (by first|(simp only [j0,jU];rfl)|rfl) ?_)))
   exact EndQ.ret rfl ⟨rfl, Nat.zero_le _, hb3, ho1.trans ho3⟩
  ·rw [show decide ((n : Int) > (r'.s.length : Int)) = false from decide_eq_false (by omega), if_neg h2]
   (repeat(first|with_reducible refine jZ ?_|(with_reducible apply jW;refine jX (by first|(simp only [j0,jU];rfl)|rfl) ?_)|with_reducible apply jE|with_reducible refine jP (by decide) ?_|(with_reducible apply jQ;first|refine kR rfl rfl ?_|refine kT rfl rfl ?_)|((first|((with_reducible apply kv);rfl)|((with_reducible apply ky);rfl;rfl)|((with_reducible apply kz);rfl;rfl)|((with_reducible apply kl);rfl;assumption;rfl;(first|assumption|rfl)));refine jT (by first|(simp only [j0,jU];rfl)|rfl) ?_)))
   refine kC rfl rfl ((good_tells H2 b _ hb0).mono ?_)
   rintro r4 H4 ⟨rfl, rfl⟩
   rw [decide_eq_true h1]
   (repeat(first|with_reducible refine jZ ?_|(with_reducible apply jW;refine jX (by first|(simp only [j0,jU];rfl)|rfl) ?_)|with_reducible apply jE|with_reducible refine jP (by decide) ?_|(with_reducible apply jQ;first|refine kR rfl rfl ?_|refine kT rfl rfl ?_)|((first|((with_reducible apply kv);rfl)|((with_reducible apply ky);rfl;rfl)|((with_reducible apply kz);rfl;rfl)|((with_reducible apply kl);rfl;assumption;rfl;(first|assumption|rfl)));refine jT (by first|(simp only [j0,jU];rfl)|rfl) ?_)))
   rw [wrapi (n := n) (by omega)]
   exact EndQ.ret rfl ⟨rfl, by show n ≤ _; omega, hb0, ho1⟩
 ·rw [decide_eq_false h1, if_pos (by simpa using h1)]
  (repeat(first|with_reducible refine jZ ?_|(with_reducible apply jW;refine jX (by first|(simp only [j0,jU];rfl)|rfl) ?_)|with_reducible apply jE|with_reducible refine jP (by decide) ?_|(with_reducible apply jQ;first|refine kR rfl rfl ?_|refine kT rfl rfl ?_)|((first|((with_reducible apply kv);rfl)|((with_reducible apply ky);rfl;rfl)|((with_reducible apply kz);rfl;rfl)|((with_reducible apply jv);rfl)|((with_reducible apply kl);rfl;assumption;rfl;(first|assumption|rfl)));refine jT (by first|(simp only [j0,jU];rfl)|rfl) ?_)))
  refine kC rfl rfl ((good_tells H2 b _ hb0).mono ?_)
  rintro r4 H4 ⟨rfl, rfl⟩
  rw [decide_eq_false h1]
  (repeat(first|with_reducible refine jZ ?_|(with_reducible apply jW;refine jX (by first|(simp only [j0,jU];rfl)|rfl) ?_)|with_reducible apply jE|with_reducible refine jP (by decide) ?_|(with_reducible apply jQ;first|refine kR rfl rfl ?_|refine kT rfl rfl ?_)|((first|((with_reducible apply kv);rfl)|((with_reducible apply ky);rfl;rfl)|((with_reducible apply kz);rfl;rfl)|((with_reducible apply jv);rfl)|((with_reducible apply kl);rfl;assumption;rfl;(first|assumption|rfl)));refine jT (by first|(simp only [j0,jU];rfl)|rfl) ?_)))
  exact EndQ.ret rfl ⟨rfl, Nat.zero_le _, hb0, ho1⟩
theorem text_tellsR (H : List AB) (b : Nat) (r : Rd) (hl : r.s.length < 4294967281) (hb : RdAt H b r) : Tells Kk 49 [.ptr b 0] H fun x H' => x = .str (textR r).1 ∧ RdAt H' b (textR r).2 ∧ Only b H H' := by
 refine Tells.mem (c := _) Tryz.func49 rfl (args' := [.ptr b 0]) (m := 6) rfl rfl rfl rfl rfl ?_
 (repeat(first|with_reducible refine jZ ?_|(with_reducible apply jW;refine jX (by first|(simp only [j0,jU];rfl)|rfl) ?_)|with_reducible apply jE|with_reducible refine jP (by decide) ?_|(with_reducible apply jQ;first|refine kR rfl rfl ?_|refine kT rfl rfl ?_)|((first|((with_reducible apply kv);rfl)|((with_reducible apply ky);rfl;rfl)|((with_reducible apply kz);rfl;rfl)|((with_reducible apply kl);rfl;assumption;rfl;(first|assumption|rfl)));refine jT (by first|(simp only [j0,jU];rfl)|rfl) ?_)))
 refine kC rfl rfl ((many_tells H b r hl hb).mono ?_)
 unfold textR
 rcases manyR r with ⟨n, r'⟩
 rintro r1 H1 ⟨rfl, hn, hb1, ho1⟩
 (repeat(first|with_reducible refine jZ ?_|(with_reducible apply jW;refine jX (by first|(simp only [j0,jU];rfl)|rfl) ?_)|with_reducible apply jE|with_reducible refine jP (by decide) ?_|(with_reducible apply jQ;first|refine kR rfl rfl ?_|refine kT rfl rfl ?_)|((first|((with_reducible apply kv);rfl)|((with_reducible apply ky);rfl;rfl)|((with_reducible apply kz);rfl;rfl)|((with_reducible apply kl);rfl;assumption;rfl;(first|assumption|rfl)));refine jT (by first|(simp only [j0,jU];rfl)|rfl) ?_)))
 refine kC rfl rfl ((raw_tellsR H1 b r' n hb1).mono ?_)
 rintro r2 H2 ⟨rfl, hb2, ho2⟩
 (repeat(first|with_reducible refine jZ ?_|(with_reducible apply jW;refine jX (by first|(simp only [j0,jU];rfl)|rfl) ?_)|with_reducible apply jE|with_reducible refine jP (by decide) ?_|(with_reducible apply jQ;first|refine kR rfl rfl ?_|refine kT rfl rfl ?_)|((first|((with_reducible apply kv);rfl)|((with_reducible apply ky);rfl;rfl)|((with_reducible apply kz);rfl;rfl)|((with_reducible apply kl);rfl;assumption;rfl;(first|assumption|rfl)));refine jT (by first|(simp only [j0,jU];rfl)|rfl) ?_)))
 exact EndQ.ret rfl ⟨rfl, hb2, ho1.trans ho2⟩
theorem gt1 (c : UInt8) : (!(Op.bytesLess [c] [1] || ([c] : Bs) == [1])) = decide (1 < c.toNat) := by
 have h := (show ((List.range 256).all fun n => (!(Op.bytesLess [UInt8.ofNat n] [1] || ([UInt8.ofNat n] : Bs) == [1])) == decide (1 < n)) = true by decide +kernel)
 have := List.all_eq_true.1 h c.toNat (List.mem_range.2 c.toNat_lt)
 rw [UInt8.ofNat_toNat] at this
 exact eq_of_beq this
theorem is1 (c : UInt8) : (([c] : Bs) == [1]) = (c.toNat == 1) := by
 have h := (show ((List.range 256).all fun n => (([UInt8.ofNat n] : Bs) == [1]) == (n == 1)) = true by decide +kernel)
 have := List.all_eq_true.1 h c.toNat (List.mem_range.2 c.toNat_lt)
 rw [UInt8.ofNat_toNat] at this
 exact eq_of_beq this
theorem rawR_one (r : Rd) : (∃ r', rawR r 1 = ([], r')) ∨ ∃ c r', rawR r 1 = ([c], r') := by
 unfold rawR
 split
 ·exact .inl ⟨_, rfl⟩
 ·split
  ·exact .inl ⟨_, rfl⟩
  ·rcases r with ⟨s, e⟩
   cases s with
   | nil => simp at *
   | cons c t => exact .inr ⟨c, _, rfl⟩
theorem flag_tellsR (H : List AB) (b : Nat) (r : Rd) (hb : RdAt H b r) : Tells Kk 50 [.ptr b 0] H fun x H' => x = .v (.bool (flagR r).1) ∧ RdAt H' b (flagR r).2 ∧ Only b H H' := by
 refine Tells.mem (c := _) Tryz.func50 rfl (args' := [.ptr b 0]) (m := 11) rfl rfl rfl rfl rfl ?_
 (repeat(first|with_reducible refine jZ ?_|(with_reducible apply jW;refine jX (by first|(simp only [j0,jU];rfl)|rfl) ?_)|with_reducible apply jE|with_reducible refine jP (by decide) ?_|(with_reducible apply jQ;first|refine kR rfl rfl ?_|refine kT rfl rfl ?_)|((first|((with_reducible apply kv);rfl)|((with_reducible apply ky);rfl;rfl)|((with_reducible apply kz);rfl;rfl)|((with_reducible apply kl);rfl;assumption;rfl;(first|assumption|rfl)));refine jT (by first|(simp only [j0,jU];rfl)|rfl) ?_)))
 refine kC rfl rfl ((raw_tellsR H b r 1 hb).mono ?_)
 unfold flagR
 rcases rawR_one r with ⟨r', hr⟩ | ⟨c, r', hr⟩
 ·rw [hr]
  rintro r1 H1 ⟨rfl, hb1, ho1⟩
  (repeat(first|with_reducible refine jZ ?_|(with_reducible apply jW;refine jX (by first|(simp only [j0,jU];rfl)|rfl) ?_)|with_reducible apply jE|with_reducible refine jP (by decide) ?_|(with_reducible apply jQ;first|refine kR rfl rfl ?_|refine kT rfl rfl ?_)|((first|((with_reducible apply kv);rfl)|((with_reducible apply ky);rfl;rfl)|((with_reducible apply kz);rfl;rfl)|((with_reducible apply kl);rfl;assumption;rfl;(first|assumption|rfl)));refine jT (by first|(simp only [j0,jU];rfl)|rfl) ?_)))
  rw [show (!(Op.bytesLess [] [1] || ([] : Bs) == [1])) = false from rfl]
  (repeat(first|with_reducible refine jZ ?_|(with_reducible apply jW;refine jX (by first|(simp only [j0,jU];rfl)|rfl) ?_)|with_reducible apply jE|with_reducible refine jP (by decide) ?_|(with_reducible apply jQ;first|refine kR rfl rfl ?_|refine kT rfl rfl ?_)|((first|((with_reducible apply kv);rfl)|((with_reducible apply ky);rfl;rfl)|((with_reducible apply kz);rfl;rfl)|((with_reducible apply kl);rfl;assumption;rfl;(first|assumption|rfl)));refine jT (by first|(simp only [j0,jU];rfl)|rfl) ?_)))
  exact EndQ.ret rfl ⟨rfl, hb1, ho1⟩
 ·rw [hr]
  rintro r1 H1 ⟨rfl, hb1, ho1⟩
  simp only at hb1 ⊢
  (repeat(first|with_reducible refine jZ ?_|(with_reducible apply jW;refine jX (by first|(simp only [j0,jU];rfl)|rfl) ?_)|with_reducible apply jE|with_reducible refine jP (by decide) ?_|(with_reducible apply jQ;first|refine kR rfl rfl ?_|refine kT rfl rfl ?_)|((first|((with_reducible apply kv);rfl)|((with_reducible apply ky);rfl;rfl)|((with_reducible apply kz);rfl;rfl)|((with_reducible apply kl);rfl;assumption;rfl;(first|assumption|rfl)));refine jT (by first|(simp only [j0,jU];rfl)|rfl) ?_)))
  rw [gt1]
  by_cases h : 1 < c.toNat
  ·rw [decide_eq_true h, if_pos h]
   (repeat(first|with_reducible refine jZ ?_|(with_reducible apply jW;refine jX (by first|(simp only [j0,jU];rfl)|rfl) ?_)|with_reducible apply jE|with_reducible refine jP (by decide) ?_|(with_reducible apply jQ;first|refine kR rfl rfl ?_|refine kT rfl rfl ?_)|((first|((with_reducible apply kv);rfl)|((with_reducible apply ky);rfl;rfl)|((with_reducible apply kz);rfl;rfl)|((with_reducible apply kl);rfl;assumption;rfl;(first|assumption|rfl)));refine jT (by first|(simp only [j0,jU];rfl)|rfl) ?_)))
   refine kC rfl rfl ((fail_tells H1 b r' 11 hb1).mono ?_)
   rintro r3 H3 ⟨hb3, ho3⟩
   (repeat(first|with_reducible refine jZ ?_|(with_reducible apply jW;refine jX (by first|(simp only [j0,jU];rfl)|rfl) ?_)|with_reducible apply jE|with_reducible refine jP (by decide) ?_|(with_reducible apply jQ;first|refine kR rfl rfl ?_|refine kT rfl rfl ?_)|((first|((with_reducible apply kv);rfl)|((with_reducible apply ky);rfl;rfl)|((with_reducible apply kz);rfl;rfl)|((with_reducible apply kl);rfl;assumption;rfl;(first|assumption|rfl)));refine jT (by first|(simp only [j0,jU];rfl)|rfl) ?_)))
   rw [is1, show (c.toNat == 1) = false by simp; omega]
   exact EndQ.ret rfl ⟨rfl, hb3, ho1.trans ho3⟩
  ·rw [decide_eq_false h, if_neg h]
   (repeat(first|with_reducible refine jZ ?_|(with_reducible apply jW;refine jX (by first|(simp only [j0,jU];rfl)|rfl) ?_)|with_reducible apply jE|with_reducible refine jP (by decide) ?_|(with_reducible apply jQ;first|refine kR rfl rfl ?_|refine kT rfl rfl ?_)|((first|((with_reducible apply kv);rfl)|((with_reducible apply ky);rfl;rfl)|((with_reducible apply kz);rfl;rfl)|((with_reducible apply kl);rfl;assumption;rfl;(first|assumption|rfl)));refine jT (by first|(simp only [j0,jU];rfl)|rfl) ?_)))
   rw [is1]
   exact EndQ.ret rfl ⟨rfl, hb1, ho1⟩
theorem neB (s : Bs) : (!(s == [])) = decide (s ≠ []) := by cases s <;> simp
theorem done_tells (H : List AB) (b : Nat) (r : Rd) (hb : RdAt H b r) : Tells Kk 51 [.ptr b 0] H fun x H' => x = i64v (doneR r) ∧ H' = H := by
 refine Tells.mem (c := _) Tryz.func51 rfl (args' := [.ptr b 0]) (m := 22) rfl rfl rfl rfl rfl ?_
 unfold RdAt at hb
 unfold doneR
 (repeat(first|with_reducible refine jZ ?_|(with_reducible apply jW;refine jX (by first|(simp only [j0,jU];rfl)|rfl) ?_)|with_reducible apply jE|with_reducible refine jP (by decide) ?_|(with_reducible apply jQ;first|refine kR rfl rfl ?_|refine kT rfl rfl ?_)|((first|((with_reducible apply kv);rfl)|((with_reducible apply ky);rfl;rfl)|((with_reducible apply kz);rfl;rfl)|((with_reducible apply kl);rfl;assumption;rfl;(first|assumption|rfl)));refine jT (by first|(simp only [j0,jU];rfl)|rfl) ?_)))
 by_cases h1 : r.err = 0
 ·rw [eqI (x := (r.err : Int)) (y := 0) (by omega)]
  (repeat(first|with_reducible refine jZ ?_|(with_reducible apply jW;refine jX (by first|(simp only [j0,jU];rfl)|rfl) ?_)|with_reducible apply jE|with_reducible refine jP (by decide) ?_|(with_reducible apply jQ;first|refine kR rfl rfl ?_|refine kT rfl rfl ?_)|((first|((with_reducible apply kv);rfl)|((with_reducible apply ky);rfl;rfl)|((with_reducible apply kz);rfl;rfl)|((with_reducible apply kl);rfl;assumption;rfl;(first|assumption|rfl)));refine jT (by first|(simp only [j0,jU];rfl)|rfl) ?_)))
  rw [neB]
  by_cases h2 : r.s = []
  ·rw [show decide (r.s ≠ []) = false from decide_eq_false (by simpa using h2), if_neg (by rintro ⟨_, q⟩; exact q h2)]
   (repeat(first|with_reducible refine jZ ?_|(with_reducible apply jW;refine jX (by first|(simp only [j0,jU];rfl)|rfl) ?_)|with_reducible apply jE|with_reducible refine jP (by decide) ?_|(with_reducible apply jQ;first|refine kR rfl rfl ?_|refine kT rfl rfl ?_)|((first|((with_reducible apply kv);rfl)|((with_reducible apply ky);rfl;rfl)|((with_reducible apply kz);rfl;rfl)|((with_reducible apply kl);rfl;assumption;rfl;(first|assumption|rfl)));refine jT (by first|(simp only [j0,jU];rfl)|rfl) ?_)))
   exact EndQ.ret rfl ⟨rfl, rfl⟩
  ·rw [show decide (r.s ≠ []) = true from decide_eq_true h2, if_pos ⟨h1, h2⟩]
   (repeat(first|with_reducible refine jZ ?_|(with_reducible apply jW;refine jX (by first|(simp only [j0,jU];rfl)|rfl) ?_)|with_reducible apply jE|with_reducible refine jP (by decide) ?_|(with_reducible apply jQ;first|refine kR rfl rfl ?_|refine kT rfl rfl ?_)|((first|((with_reducible apply kv);rfl)|((with_reducible apply ky);rfl;rfl)|((with_reducible apply kz);rfl;rfl)|((with_reducible apply kl);rfl;assumption;rfl;(first|assumption|rfl)));refine jT (by first|(simp only [j0,jU];rfl)|rfl) ?_)))
   exact EndQ.ret rfl ⟨rfl, rfl⟩
 ·rw [neI (x := (r.err : Int)) (y := 0) (by omega), if_neg (by rintro ⟨q, _⟩; exact h1 q)]
  (repeat(first|with_reducible refine jZ ?_|(with_reducible apply jW;refine jX (by first|(simp only [j0,jU];rfl)|rfl) ?_)|with_reducible apply jE|with_reducible refine jP (by decide) ?_|(with_reducible apply jQ;first|refine kR rfl rfl ?_|refine kT rfl rfl ?_)|((first|((with_reducible apply kv);rfl)|((with_reducible apply ky);rfl;rfl)|((with_reducible apply kz);rfl;rfl)|((with_reducible apply jv);rfl)|((with_reducible apply kl);rfl;assumption;rfl;(first|assumption|rfl)));refine jT (by first|(simp only [j0,jU];rfl)|rfl) ?_)))
  exact EndQ.ret rfl ⟨rfl, rfl⟩
theorem left_tells (H : List AB) (b : Nat) (r : Rd) (hb : RdAt H b r) : Tells Kk 111 [.ptr b 0] H fun x H' => x = i64v r.s.length ∧ H' = H := by
 refine Tells.mem (c := _) Tryz.func111 rfl (args' := [.ptr b 0]) (m := 9) rfl rfl rfl rfl rfl ?_
 unfold RdAt at hb
 (repeat(first|with_reducible refine jZ ?_|(with_reducible apply jW;refine jX (by first|(simp only [j0,jU];rfl)|rfl) ?_)|with_reducible apply jE|with_reducible refine jP (by decide) ?_|(with_reducible apply jQ;first|refine kR rfl rfl ?_|refine kT rfl rfl ?_)|((first|((with_reducible apply kv);rfl)|((with_reducible apply ky);rfl;rfl)|((with_reducible apply kz);rfl;rfl)|((with_reducible apply kl);rfl;assumption;rfl;(first|assumption|rfl)));refine jT (by first|(simp only [j0,jU];rfl)|rfl) ?_)))
 exact EndQ.ret rfl ⟨rfl, rfl⟩
abbrev unfV (x : Bs × Nat × Nat) : AV := .tup [.str x.1, i64v x.2.1, i64v x.2.2]
theorem sz25 : tSize Kk.P 25 = some 1 := by kernel_rfl
theorem ag25 : tAgg Kk.P 25 = some false := by kernel_rfl
theorem fe1 (b : Nat) : aFieldAddr Kk 147 (.ptr b 0) 1 = some (.ptr b 1) := by kernel_rfl
theorem rawR_len (r : Rd) (n : Nat) : (rawR r n).1.length ≤ r.s.length ∧ (rawR r n).2.s.length ≤ r.s.length := by
 unfold rawR
 split
 ·simp
 ·split
  ·simp
  ·simp [List.length_take]; omega
theorem unframe_tells (s : Bs) (hl : s.length < 4294967281) (H : List AB) : Tells Kk 47 [.str s] H fun r H' => H' = H ∧ r = unfV (unframeP s) := by
 refine Tells.vals (c := _) Tryz.func47 rfl (args' := [.str s]) (m := 49) rfl rfl rfl rfl rfl ?_
 (repeat(first|with_reducible refine jZ ?_|(with_reducible apply jW;refine jX (by first|(simp only [j0,jU];rfl)|rfl) ?_)|with_reducible apply jE|with_reducible refine jP (by decide) ?_|(with_reducible apply jQ;first|refine kR rfl rfl ?_|refine kT rfl rfl ?_)|((first|((with_reducible apply kv);rfl)|((with_reducible apply ky);rfl;rfl)|((with_reducible apply kz);rfl;rfl)|((with_reducible apply kl);rfl;assumption;rfl;(first|assumption|rfl)));refine jT (by first|(simp only [j0,jU];rfl)|rfl) ?_)))
 refine kC rfl rfl ((read_tells s []).mono ?_)
 rintro r1 H1 ⟨rfl, rfl⟩
 have hb1 : RdAt ([] ++ [AB.cells (147, true) [.str s, i64v 0]]) 0 ⟨s, 0⟩ := rfl
 generalize ([] ++ [AB.cells (147, true) [.str s, i64v 0]] : List AB) = H1 at *
 (repeat(first|with_reducible refine jZ ?_|(with_reducible apply jW;refine jX (by first|(simp only [j0,jU];rfl)|rfl) ?_)|with_reducible apply jE|with_reducible refine jP (by decide) ?_|(with_reducible apply jQ;first|refine kR rfl rfl ?_|refine kT rfl rfl ?_)|((first|((with_reducible apply kv);rfl)|((with_reducible apply ky);rfl;rfl)|((with_reducible apply kz);rfl;rfl)|((with_reducible apply kl);rfl;assumption;rfl;(first|assumption|rfl)));refine jT (by first|(simp only [j0,jU];rfl)|rfl) ?_)))
 refine kC rfl rfl ((num_tellsR H1 0 _ hb1).mono ?_)
 have hln := numR_len ⟨s, 0⟩
 unfold unframeP
 rcases hq : numR ⟨s, 0⟩ with ⟨n, r'⟩
 rw [hq] at hln
 simp only at hln
 rintro r2 H2 ⟨rfl, hn, hb2, _⟩
 simp only at hn hb2 ⊢
 (repeat(first|with_reducible refine jZ ?_|(with_reducible apply jW;refine jX (by first|(simp only [j0,jU];rfl)|rfl) ?_)|with_reducible apply jE|with_reducible refine jP (by decide) ?_|(with_reducible apply jQ;first|refine kR rfl rfl ?_|refine kT rfl rfl ?_)|((first|((with_reducible apply kv);rfl)|((with_reducible apply ky);rfl;rfl)|((with_reducible apply kz);rfl;rfl)|((with_reducible apply kl);rfl;assumption;rfl;(first|assumption|rfl)));refine jT (by first|(simp only [j0,jU];rfl)|rfl) ?_)))
 refine kC rfl rfl ((good_tells H2 0 r' hb2).mono ?_)
 rintro r3 H3 ⟨rfl, rfl⟩
 have hb0 := hb2
 unfold RdAt at hb2
 by_cases h1 : r'.err = 0
 ·rw [decide_eq_true h1, if_neg (by simpa using h1)]
  (repeat(first|with_reducible refine jZ ?_|(with_reducible apply jW;refine jX (by first|(simp only [j0,jU];rfl)|rfl) ?_)|with_reducible apply jE|with_reducible refine jP (by decide) ?_|(with_reducible apply jQ;first|refine kR rfl rfl ?_|refine kT rfl rfl ?_)|((first|((with_reducible apply kv);rfl)|((with_reducible apply ky);rfl;rfl)|((with_reducible apply kz);rfl;rfl)|((with_reducible apply kl);rfl;assumption;rfl;(first|assumption|rfl)));refine jT (by first|(simp only [j0,jU];rfl)|rfl) ?_)))
  by_cases h2 : 65536 < n
  ·rw [show decide ((n : Int) > 65536) = true from decide_eq_true (by omega), if_pos h2]
   (repeat(first|with_reducible refine jZ ?_|(with_reducible apply jW;refine jX (by first|(simp only [j0,jU];rfl)|rfl) ?_)|with_reducible apply jE|with_reducible refine jP (by decide) ?_|(with_reducible apply jQ;first|refine kR rfl rfl ?_|refine kT rfl rfl ?_)|((first|((with_reducible apply kv);rfl)|((with_reducible apply ky);rfl;rfl)|((with_reducible apply kz);rfl;rfl)|((with_reducible apply kl);rfl;assumption;rfl;(first|assumption|rfl)));refine jT (by first|(simp only [j0,jU];rfl)|rfl) ?_)))
   exact EndQ.ret rfl ⟨_, rfl, rfl, by trivial, rfl⟩
  ·rw [show decide ((n : Int) > 65536) = false from decide_eq_false (by omega), if_neg h2]
   (repeat(first|with_reducible refine jZ ?_|(with_reducible apply jW;refine jX (by first|(simp only [j0,jU];rfl)|rfl) ?_)|with_reducible apply jE|with_reducible refine jP (by decide) ?_|(with_reducible apply jQ;first|refine kR rfl rfl ?_|refine kT rfl rfl ?_)|((first|((with_reducible apply kv);rfl)|((with_reducible apply ky);rfl;rfl)|((with_reducible apply kz);rfl;rfl)|((with_reducible apply kl);rfl;assumption;rfl;(first|assumption|rfl)));refine jT (by first|(simp only [j0,jU];rfl)|rfl) ?_)))
   rw [wrapi (n := n) (by omega)]
   refine kC rfl rfl ((raw_tellsR H3 0 r' n hb0).mono ?_)
   have hl1 := rawR_len r' n
   rcases hq1 : rawR r' n with ⟨body, ra⟩
   rw [hq1] at hl1
   rintro r4 H4 ⟨rfl, hb4, _⟩
   simp only at hb4 hl1 ⊢
   (repeat(first|with_reducible refine jZ ?_|(with_reducible apply jW;refine jX (by first|(simp only [j0,jU];rfl)|rfl) ?_)|with_reducible apply jE|with_reducible refine jP (by decide) ?_|(with_reducible apply jQ;first|refine kR rfl rfl ?_|refine kT rfl rfl ?_)|((first|((with_reducible apply kv);rfl)|((with_reducible apply ky);rfl;rfl)|((with_reducible apply kz);rfl;rfl)|((with_reducible apply kl);rfl;assumption;rfl;(first|assumption|rfl)));refine jT (by first|(simp only [j0,jU];rfl)|rfl) ?_)))
   refine kC rfl rfl ((raw_tellsR H4 0 ra 4 hb4).mono ?_)
   have hl2 := rawR_len ra 4
   rcases hq2 : rawR ra 4 with ⟨ck, rb⟩
   rw [hq2] at hl2
   rintro r5 H5 ⟨rfl, hb5, _⟩
   simp only at hb5 hl2 ⊢
   (repeat(first|with_reducible refine jZ ?_|(with_reducible apply jW;refine jX (by first|(simp only [j0,jU];rfl)|rfl) ?_)|with_reducible apply jE|with_reducible refine jP (by decide) ?_|(with_reducible apply jQ;first|refine kR rfl rfl ?_|refine kT rfl rfl ?_)|((first|((with_reducible apply kv);rfl)|((with_reducible apply ky);rfl;rfl)|((with_reducible apply kz);rfl;rfl)|((with_reducible apply kl);rfl;assumption;rfl;(first|assumption|rfl)));refine jT (by first|(simp only [j0,jU];rfl)|rfl) ?_)))
   refine kC rfl rfl ((good_tells H5 0 rb hb5).mono ?_)
   rintro r6 H6 ⟨rfl, rfl⟩
   have hb50 := hb5
   unfold RdAt at hb5
   by_cases h3 : rb.err = 0
   ·rw [decide_eq_true h3, if_neg (by simpa using h3)]
    (repeat(first|with_reducible refine jZ ?_|(with_reducible apply jW;refine jX (by first|(simp only [j0,jU];rfl)|rfl) ?_)|with_reducible apply jE|with_reducible refine jP (by decide) ?_|(with_reducible apply jQ;first|refine kR rfl rfl ?_|refine kT rfl rfl ?_)|((first|((with_reducible apply kv);rfl)|((with_reducible apply ky);rfl;rfl)|((with_reducible apply kz);rfl;rfl)|((with_reducible apply kl);rfl;assumption;rfl;(first|assumption|rfl)));refine jT (by first|(simp only [j0,jU];rfl)|rfl) ?_)))
    refine kC rfl rfl ((check_tells' body (by omega) _).mono ?_)
    rintro r7 H7 ⟨rfl, rfl⟩
    (repeat(first|with_reducible refine jZ ?_|(with_reducible apply jW;refine jX (by first|(simp only [j0,jU];rfl)|rfl) ?_)|with_reducible apply jE|with_reducible refine jP (by decide) ?_|(with_reducible apply jQ;first|refine kR rfl rfl ?_|refine kT rfl rfl ?_)|((first|((with_reducible apply kv);rfl)|((with_reducible apply ky);rfl;rfl)|((with_reducible apply kz);rfl;rfl)|((with_reducible apply kl);rfl;assumption;rfl;(first|assumption|rfl)));refine jT (by first|(simp only [j0,jU];rfl)|rfl) ?_)))
    refine kC rfl rfl ((four_tells (checkP body) _).mono ?_)
    rintro r8 H8 ⟨rfl, rfl⟩
    (repeat(first|with_reducible refine jZ ?_|(with_reducible apply jW;refine jX (by first|(simp only [j0,jU];rfl)|rfl) ?_)|with_reducible apply jE|with_reducible refine jP (by decide) ?_|(with_reducible apply jQ;first|refine kR rfl rfl ?_|refine kT rfl rfl ?_)|((first|((with_reducible apply kv);rfl)|((with_reducible apply ky);rfl;rfl)|((with_reducible apply kz);rfl;rfl)|((with_reducible apply kl);rfl;assumption;rfl;(first|assumption|rfl)));refine jT (by first|(simp only [j0,jU];rfl)|rfl) ?_)))
    by_cases h4 : ck = fourB (checkP body)
    ·rw [show (ck == fourB (checkP body)) = true from beq_iff_eq.2 h4, if_neg (by simpa using h4)]
     (repeat(first|with_reducible refine jZ ?_|(with_reducible apply jW;refine jX (by first|(simp only [j0,jU];rfl)|rfl) ?_)|with_reducible apply jE|with_reducible refine jP (by decide) ?_|(with_reducible apply jQ;first|refine kR rfl rfl ?_|refine kT rfl rfl ?_)|((first|((with_reducible apply kv);rfl)|((with_reducible apply ky);rfl;rfl)|((with_reducible apply kz);rfl;rfl)|((with_reducible apply kl);rfl;assumption;rfl;(first|assumption|rfl)));refine jT (by first|(simp only [j0,jU];rfl)|rfl) ?_)))
     refine kC rfl rfl ((left_tells _ 0 rb hb50).mono ?_)
     rintro r9 H9 ⟨rfl, rfl⟩
     (repeat(first|with_reducible refine jZ ?_|(with_reducible apply jW;refine jX (by first|(simp only [j0,jU];rfl)|rfl) ?_)|with_reducible apply jE|with_reducible refine jP (by decide) ?_|(with_reducible apply jQ;first|refine kR rfl rfl ?_|refine kT rfl rfl ?_)|((first|((with_reducible apply kv);rfl)|((with_reducible apply ky);rfl;rfl)|((with_reducible apply kz);rfl;rfl)|((with_reducible apply kl);rfl;assumption;rfl;(first|assumption|rfl)));refine jT (by first|(simp only [j0,jU];rfl)|rfl) ?_)))
     rw [show IntKind.i64.wrap ((s.length : Int) - (rb.s.length : Int)) = ((s.length - rb.s.length : Nat) : Int) by rw [IntKind.wrap_i64]; omega]
     exact EndQ.ret rfl ⟨_, rfl, rfl, by trivial, rfl⟩
    ·rw [show (ck == fourB (checkP body)) = false from beq_eq_false_iff_ne.2 h4, if_pos h4]
     (repeat(first|with_reducible refine jZ ?_|(with_reducible apply jW;refine jX (by first|(simp only [j0,jU];rfl)|rfl) ?_)|with_reducible apply jE|with_reducible refine jP (by decide) ?_|(with_reducible apply jQ;first|refine kR rfl rfl ?_|refine kT rfl rfl ?_)|((first|((with_reducible apply kv);rfl)|((with_reducible apply ky);rfl;rfl)|((with_reducible apply kz);rfl;rfl)|((with_reducible apply kl);rfl;assumption;rfl;(first|assumption|rfl)));refine jT (by first|(simp only [j0,jU];rfl)|rfl) ?_)))
     exact EndQ.ret rfl ⟨_, rfl, rfl, by trivial, rfl⟩
   ·rw [decide_eq_false h3, if_pos (by simpa using h3)]
    (repeat(first|with_reducible refine jZ ?_|(with_reducible apply jW;refine jX (by first|(simp only [j0,jU];rfl)|rfl) ?_)|with_reducible apply jE|with_reducible refine jP (by decide) ?_|(with_reducible apply jQ;first|refine kR rfl rfl ?_|refine kT rfl rfl ?_)|((first|((with_reducible apply kv);rfl)|((with_reducible apply ky);rfl;rfl)|((with_reducible apply kz);rfl;rfl)|((with_reducible apply kl);rfl;assumption;rfl;(first|assumption|rfl)));refine jT (by first|(simp only [j0,jU];rfl)|rfl) ?_)))
    refine Wc.drawn rfl (by kernel_rfl) ?_
    (repeat (with_reducible refine Wd.id ?_; first | refine Wd.nil ?_ | (refine Wd.not rfl rfl rfl rfl rfl ?_; refine Wd.norm (by first | (simp only [setAt]; rfl) | rfl) ?_) | ((first | refine Wd.go0 rfl rfl ?_ | refine Wd.go1 rfl rfl rfl rfl ?_); (first | refine Wy.val rfl (op_move rfl rfl) rfl ?_ | refine Wy.val rfl (op_assign rfl rfl) rfl ?_ | refine Wy.val rfl (op_bin rfl rfl rfl rfl rfl) rfl ?_ | refine Wy.val rfl (op_un rfl rfl rfl rfl) rfl ?_ | refine Wy.val rfl (op_pick_t rfl rfl rfl rfl rfl rfl) rfl ?_ | refine Wy.val rfl (op_pick_f rfl rfl rfl rfl rfl rfl) rfl ?_ | refine Wy.val rfl (op_len_sl rfl rfl (by first | with_reducible exact u37) rfl) rfl ?_ | refine Wy.val rfl (op_len_str rfl rfl (by first | with_reducible exact u37) rfl) rfl ?_); refine Wd.norm (by first | (simp only [setAt]; rfl) | rfl) ?_)))
    ((first | refine Wd.go0 rfl rfl ?_ | refine Wd.go1 rfl rfl rfl rfl ?_); refine Wy.val rfl (op_nilCheck rfl rfl) rfl ?_; refine Wd.norm (by first | (simp only [setAt]; rfl) | rfl) ?_)
    ((first | refine Wd.go0 rfl rfl ?_ | refine Wd.go1 rfl rfl rfl rfl ?_); refine Wy.val rfl (op_fieldAddr rfl rfl (fe1 _)) rfl ?_; refine Wd.norm (by first | (simp only [setAt]; rfl) | rfl) ?_)
    ((first | refine Wd.go0 rfl rfl ?_ | refine Wd.go1 rfl rfl rfl rfl ?_); refine Wy.val rfl (op_load_ptr (v := i64v rb.err) rfl rfl hb5 (take_one ag25 sz25)) rfl ?_; refine Wd.norm (by first | (simp only [setAt]; rfl) | rfl) ?_)
    (repeat (with_reducible refine Wd.id ?_; first | refine Wd.nil ?_ | (refine Wd.not rfl rfl rfl rfl rfl ?_; refine Wd.norm (by first | (simp only [setAt]; rfl) | rfl) ?_) | ((first | refine Wd.go0 rfl rfl ?_ | refine Wd.go1 rfl rfl rfl rfl ?_); (first | refine Wy.val rfl (op_move rfl rfl) rfl ?_ | refine Wy.val rfl (op_assign rfl rfl) rfl ?_ | refine Wy.val rfl (op_bin rfl rfl rfl rfl rfl) rfl ?_ | refine Wy.val rfl (op_un rfl rfl rfl rfl) rfl ?_ | refine Wy.val rfl (op_pick_t rfl rfl rfl rfl rfl rfl) rfl ?_ | refine Wy.val rfl (op_pick_f rfl rfl rfl rfl rfl rfl) rfl ?_ | refine Wy.val rfl (op_len_sl rfl rfl (by first | with_reducible exact u37) rfl) rfl ?_ | refine Wy.val rfl (op_len_str rfl rfl (by first | with_reducible exact u37) rfl) rfl ?_); refine Wd.norm (by first | (simp only [setAt]; rfl) | rfl) ?_)))
    (repeat(first|with_reducible refine jZ ?_|(with_reducible apply jW;refine jX (by first|(simp only [j0,jU];rfl)|rfl) ?_)|with_reducible apply jE|with_reducible refine jP (by decide) ?_|(with_reducible apply jQ;first|refine kR rfl rfl ?_|refine kT rfl rfl ?_)|((first|((with_reducible apply kv);rfl)|((with_reducible apply ky);rfl;rfl)|((with_reducible apply kz);rfl;rfl)|((with_reducible apply kl);rfl;assumption;rfl;(first|assumption|rfl)));refine jT (by first|(simp only [j0,jU];rfl)|rfl) ?_)))
    exact EndQ.ret rfl ⟨_, rfl, rfl, by trivial, rfl⟩
 ·rw [decide_eq_false h1, if_pos (by simpa using h1)]
  (repeat(first|with_reducible refine jZ ?_|(with_reducible apply jW;refine jX (by first|(simp only [j0,jU];rfl)|rfl) ?_)|with_reducible apply jE|with_reducible refine jP (by decide) ?_|(with_reducible apply jQ;first|refine kR rfl rfl ?_|refine kT rfl rfl ?_)|((first|((with_reducible apply kv);rfl)|((with_reducible apply ky);rfl;rfl)|((with_reducible apply kz);rfl;rfl)|((with_reducible apply kl);rfl;assumption;rfl;(first|assumption|rfl)));refine jT (by first|(simp only [j0,jU];rfl)|rfl) ?_)))
  refine Wc.drawn rfl (by kernel_rfl) ?_
  (repeat (with_reducible refine Wd.id ?_; first | refine Wd.nil ?_ | (refine Wd.not rfl rfl rfl rfl rfl ?_; refine Wd.norm (by first | (simp only [setAt]; rfl) | rfl) ?_) | ((first | refine Wd.go0 rfl rfl ?_ | refine Wd.go1 rfl rfl rfl rfl ?_); (first | refine Wy.val rfl (op_move rfl rfl) rfl ?_ | refine Wy.val rfl (op_assign rfl rfl) rfl ?_ | refine Wy.val rfl (op_bin rfl rfl rfl rfl rfl) rfl ?_ | refine Wy.val rfl (op_un rfl rfl rfl rfl) rfl ?_ | refine Wy.val rfl (op_pick_t rfl rfl rfl rfl rfl rfl) rfl ?_ | refine Wy.val rfl (op_pick_f rfl rfl rfl rfl rfl rfl) rfl ?_ | refine Wy.val rfl (op_len_sl rfl rfl (by first | with_reducible exact u37) rfl) rfl ?_ | refine Wy.val rfl (op_len_str rfl rfl (by first | with_reducible exact u37) rfl) rfl ?_); refine Wd.norm (by first | (simp only [setAt]; rfl) | rfl) ?_)))
  ((first | refine Wd.go0 rfl rfl ?_ | refine Wd.go1 rfl rfl rfl rfl ?_); refine Wy.val rfl (op_nilCheck rfl rfl) rfl ?_; refine Wd.norm (by first | (simp only [setAt]; rfl) | rfl) ?_)
  ((first | refine Wd.go0 rfl rfl ?_ | refine Wd.go1 rfl rfl rfl rfl ?_); refine Wy.val rfl (op_fieldAddr rfl rfl (fe1 _)) rfl ?_; refine Wd.norm (by first | (simp only [setAt]; rfl) | rfl) ?_)
  ((first | refine Wd.go0 rfl rfl ?_ | refine Wd.go1 rfl rfl rfl rfl ?_); refine Wy.val rfl (op_load_ptr (v := i64v r'.err) rfl rfl hb2 (take_one ag25 sz25)) rfl ?_; refine Wd.norm (by first | (simp only [setAt]; rfl) | rfl) ?_)
  (repeat (with_reducible refine Wd.id ?_; first | refine Wd.nil ?_ | (refine Wd.not rfl rfl rfl rfl rfl ?_; refine Wd.norm (by first | (simp only [setAt]; rfl) | rfl) ?_) | ((first | refine Wd.go0 rfl rfl ?_ | refine Wd.go1 rfl rfl rfl rfl ?_); (first | refine Wy.val rfl (op_move rfl rfl) rfl ?_ | refine Wy.val rfl (op_assign rfl rfl) rfl ?_ | refine Wy.val rfl (op_bin rfl rfl rfl rfl rfl) rfl ?_ | refine Wy.val rfl (op_un rfl rfl rfl rfl) rfl ?_ | refine Wy.val rfl (op_pick_t rfl rfl rfl rfl rfl rfl) rfl ?_ | refine Wy.val rfl (op_pick_f rfl rfl rfl rfl rfl rfl) rfl ?_ | refine Wy.val rfl (op_len_sl rfl rfl (by first | with_reducible exact u37) rfl) rfl ?_ | refine Wy.val rfl (op_len_str rfl rfl (by first | with_reducible exact u37) rfl) rfl ?_); refine Wd.norm (by first | (simp only [setAt]; rfl) | rfl) ?_)))
  (repeat(first|with_reducible refine jZ ?_|(with_reducible apply jW;refine jX (by first|(simp only [j0,jU];rfl)|rfl) ?_)|with_reducible apply jE|with_reducible refine jP (by decide) ?_|(with_reducible apply jQ;first|refine kR rfl rfl ?_|refine kT rfl rfl ?_)|((first|((with_reducible apply kv);rfl)|((with_reducible apply ky);rfl;rfl)|((with_reducible apply kz);rfl;rfl)|((with_reducible apply kl);rfl;assumption;rfl;(first|assumption|rfl)));refine jT (by first|(simp only [j0,jU];rfl)|rfl) ?_)))
  exact EndQ.ret rfl ⟨_, rfl, rfl, by trivial, rfl⟩
end Go.Proofs.Ck
