/- Names of segments' files: the code's and the reference's. -/
import Derived.Test.YtaefgigfoifjaaaGreatDoorCkItoa
import Derived.Test.YtaefgigfoifjaaaGreatDoorCkParse
set_option linter.unusedVariables false
set_option linter.unusedSimpArgs false
set_option linter.unusedSectionVars false
namespace Go.Proofs.Ck
open Go.Tm
set_option maxRecDepth 100000
def nameCh (c : UInt8) : Bool := decide (97 ≤ c.toNat) && decide (c.toNat ≤ 122) || decide (48 ≤ c.toNat) && decide (c.toNat ≤ 57) || c.toNat == 45
def pad6 (ds : Bs) : Bs := List.replicate (6 - ds.length) 48 ++ ds
def okName (s : Bs) : Bool := decide (1 ≤ s.length) && decide (s.length ≤ 20) && s.all nameCh
def fileP (name : Bs) (n : Int) : Bs := if okName name = true ∧ 1 ≤ n ∧ n ≤ 999999 then name ++ [46] ++ pad6 (Lib.decDigits n.toNat) else []
theorem ix_run (c : UInt8) : decide (Lib.indexByte [97, 98, 99, 100, 101, 102, 103, 104, 105, 106, 107, 108, 109, 110, 111, 112, 113, 114, 115, 116, 117, 118, 119, 120, 121, 122, 48, 49, 50, 51, 52, 53, 54, 55, 56, 57, 45] c ≥ 0) = nameCh c := by
 have h := (show ((List.range 256).all fun n => decide (Lib.indexByte [97, 98, 99, 100, 101, 102, 103, 104, 105, 106, 107, 108, 109, 110, 111, 112, 113, 114, 115, 116, 117, 118, 119, 120, 121, 122, 48, 49, 50, 51, 52, 53, 54, 55, 56, 57, 45] (UInt8.ofNat n) ≥ 0) == nameCh (UInt8.ofNat n)) = true by decide +kernel)
 have := List.all_eq_true.1 h c.toNat (List.mem_range.2 c.toNat_lt)
 rw [UInt8.ofNat_toNat] at this
 exact eq_of_beq this
theorem told_ix (s : Bs) (c : UInt8) (h : s.length < 4294967281) : ∃ r, toldIndexByte [.str s, u8v c] = some r ∧ r = i64v (Lib.indexByte s c) := ⟨_, rfl, by rw [Int.toNat_natCast, show c.toNat.toUInt8 = c from UInt8.ofNat_toNat]⟩
theorem ixb_tells (s : Bs) (c : UInt8) (hl : s.length < 4294967281) (H : List AB) : Tells Kk 44 [.str s, u8v c] H fun r H' => H' = H ∧ r = i64v (Lib.indexByte s c) := by
 obtain ⟨r0, h0, hr0⟩ := told_ix s c hl
 refine Tells.vals (c := _) Tryz.func44 rfl (args' := [.str s, u8v c]) (m := 6) rfl rfl rfl rfl rfl ?_
 (repeat(first|with_reducible refine jZ ?_|(with_reducible apply jW;refine jX (by first|(simp only [j0,jU];rfl)|rfl) ?_)|with_reducible apply jE|with_reducible refine jP (by decide) ?_|(with_reducible apply jQ;first|refine kR rfl rfl ?_|refine kT rfl rfl ?_)|((first|((with_reducible apply kv);rfl)|((with_reducible apply ky);rfl;rfl)|((with_reducible apply kz);rfl;rfl)|((with_reducible apply kl);rfl;assumption;rfl;(first|assumption|rfl)));refine jT (by first|(simp only [j0,jU];rfl)|rfl) ?_)))
 refine kC rfl rfl ((show Tells Kk 101 [.str s, u8v c] [] fun r H' => H' = [] ∧ r = i64v (Lib.indexByte s c) from ?_).mono ?_)
 ·refine Tells.vals (c := _) Tryz.func101 rfl (args' := [.str s, u8v c]) (m := 6) rfl rfl rfl rfl rfl ?_
  (repeat(first|with_reducible refine jZ ?_|(with_reducible apply jW;refine jX (by first|(simp only [j0,jU];rfl)|rfl) ?_)|with_reducible apply jE|with_reducible refine jP (by decide) ?_|(with_reducible apply jQ;first|refine kR rfl rfl ?_|refine kT rfl rfl ?_)|((first|((with_reducible apply kv);rfl)|((with_reducible apply ky);rfl;rfl)|((with_reducible apply kz);rfl;rfl)|((with_reducible apply kl);rfl;assumption;rfl;(first|assumption|rfl)));refine jT (by first|(simp only [j0,jU];rfl)|rfl) ?_)))
  refine kC rfl rfl (Tells.libv (g := toldIndexByte) (r := r0) rfl h0 ?_)
  subst hr0
  (repeat(first|with_reducible refine jZ ?_|(with_reducible apply jW;refine jX (by first|(simp only [j0,jU];rfl)|rfl) ?_)|with_reducible apply jE|with_reducible refine jP (by decide) ?_|(with_reducible apply jQ;first|refine kR rfl rfl ?_|refine kT rfl rfl ?_)|((first|((with_reducible apply kv);rfl)|((with_reducible apply ky);rfl;rfl)|((with_reducible apply kz);rfl;rfl)|((with_reducible apply kl);rfl;assumption;rfl;(first|assumption|rfl)));refine jT (by first|(simp only [j0,jU];rfl)|rfl) ?_)))
  exact EndQ.ret rfl ⟨_, rfl, rfl, rfl, rfl⟩
 ·rintro r1 H1 ⟨rfl, rfl⟩
  (repeat(first|with_reducible refine jZ ?_|(with_reducible apply jW;refine jX (by first|(simp only [j0,jU];rfl)|rfl) ?_)|with_reducible apply jE|with_reducible refine jP (by decide) ?_|(with_reducible apply jQ;first|refine kR rfl rfl ?_|refine kT rfl rfl ?_)|((first|((with_reducible apply kv);rfl)|((with_reducible apply ky);rfl;rfl)|((with_reducible apply kz);rfl;rfl)|((with_reducible apply kl);rfl;assumption;rfl;(first|assumption|rfl)));refine jT (by first|(simp only [j0,jU];rfl)|rfl) ?_)))
  exact EndQ.ret rfl ⟨_, rfl, rfl, rfl, rfl⟩
theorem rep_run0 : callF Kk 61 46 [.str [48], i64v 0] [] = some (.str (List.replicate 0 48), []) := by kernel_rfl
theorem rep_run1 : callF Kk 61 46 [.str [48], i64v 1] [] = some (.str (List.replicate 1 48), []) := by kernel_rfl
theorem rep_run2 : callF Kk 61 46 [.str [48], i64v 2] [] = some (.str (List.replicate 2 48), []) := by kernel_rfl
theorem rep_run3 : callF Kk 61 46 [.str [48], i64v 3] [] = some (.str (List.replicate 3 48), []) := by kernel_rfl
theorem rep_run4 : callF Kk 61 46 [.str [48], i64v 4] [] = some (.str (List.replicate 4 48), []) := by kernel_rfl
theorem rep_run5 : callF Kk 61 46 [.str [48], i64v 5] [] = some (.str (List.replicate 5 48), []) := by kernel_rfl
theorem rep_tells (k : Nat) (hk : k < 6) (H : List AB) : Tells Kk 46 [.str [48], i64v k] H fun r H' => r = .str (List.replicate k 48) ∧ H' = H := by
 match k, hk with
 | 0, _ => exact Tells.runv (n := 60) rfl rfl rfl rfl rfl rep_run0
 | 1, _ => exact Tells.runv (n := 60) rfl rfl rfl rfl rfl rep_run1
 | 2, _ => exact Tells.runv (n := 60) rfl rfl rfl rfl rfl rep_run2
 | 3, _ => exact Tells.runv (n := 60) rfl rfl rfl rfl rfl rep_run3
 | 4, _ => exact Tells.runv (n := 60) rfl rfl rfl rfl rfl rep_run4
 | 5, _ => exact Tells.runv (n := 60) rfl rfl rfl rfl rfl rep_run5
theorem dec_len {n : Nat} (h : n ≤ 999999) : 1 ≤ (Lib.decDigits n).length ∧ (Lib.decDigits n).length ≤ 6 := by
 rw [Lib.decDigits_length]
 refine ⟨Lib.nDigits_pos n, ?_⟩
 rcases Nat.lt_or_ge n 10 with h1 | h1
 ·rw [Lib.nDigits_small h1]; omega
 ·rcases Nat.lt_or_ge n 100 with h2 | h2
  ·rw [Lib.nDigits_unique 1 n (by omega) (by omega)]; omega
  ·rcases Nat.lt_or_ge n 1000 with h3 | h3
   ·rw [Lib.nDigits_unique 2 n (by omega) (by omega)]; omega
   ·rcases Nat.lt_or_ge n 10000 with h4 | h4
    ·rw [Lib.nDigits_unique 3 n (by omega) (by omega)]; omega
    ·rcases Nat.lt_or_ge n 100000 with h5 | h5
     ·rw [Lib.nDigits_unique 4 n (by omega) (by omega)]; omega
     ·rw [Lib.nDigits_unique 5 n (by omega) (by omega)]; omega
theorem all_take {s : Bs} {i : Nat} (h : i < s.length) : (s.take (i + 1)).all nameCh = ((s.take i).all nameCh && nameCh s[i]) := by
 rw [List.take_succ_eq_append_getElem h, List.all_append]; simp
theorem file_tells (name : Bs) (n : Int) (hl : name.length < 281474976710656) (H : List AB) : Tells Kk 13 [.str name, i64v n] H fun r H' => H' = H ∧ r = .str (fileP name n) := by
 refine Tells.vals (c := _) Tryz.func13 rfl (args' := [.str name, i64v n]) (m := 48) rfl rfl rfl rfl rfl ?_
 obtain ⟨ok0, hok⟩ : ∃ ok0 : Bool, ok0 = (decide (1 ≤ name.length) && decide (name.length ≤ 20) && decide (1 ≤ n) && decide (n ≤ 999999)) := ⟨_, rfl⟩
 (repeat(first|with_reducible refine jZ ?_|(with_reducible apply jW;refine jX (by first|(simp only [j0,jU];rfl)|rfl) ?_)|with_reducible refine jP (by decide) ?_|(with_reducible apply jQ;first|refine kR rfl rfl ?_|refine kT rfl rfl ?_)|((first|((with_reducible apply kv);rfl)|((with_reducible apply ky);rfl;rfl)|((with_reducible apply kz);rfl;rfl)|((with_reducible apply kl);rfl;assumption;rfl;(first|assumption|rfl)));refine jT (by first|(simp only [j0,jU];rfl)|rfl) ?_)))
 refine Wo.mid (fun st => st.H = [] ∧ ∃ d : Nat → AV, st.regs = (.str name :: i64v n :: d 2 :: d 3 :: .str [] :: .v (.bool ok0) :: d 6 :: d 7 :: d 8 :: d 9 :: d 10 :: d 11 :: d 12 :: d 13 :: d 14 :: d 15 :: d 16 :: d 17 :: d 18 :: d 19 :: d 20 :: d 21 :: d 22 :: d 23 :: d 24 :: d 25 :: d 26 :: d 27 :: d 28 :: d 29 :: d 30 :: d 31 :: d 32 :: d 33 :: d 34 :: d 35 :: d 36 :: d 37 :: d 38 :: d 39 :: d 40 :: d 41 :: d 42 :: d 43 :: d 44 :: d 45 :: d 46 :: d 47 :: d 48 :: d 49 :: [])) ?_ ?_
 ·by_cases h1 : name = []
  ·subst h1
   obtain rfl : ok0 = false := by rw [hok]; rfl
   (repeat(first|with_reducible refine jZ ?_|(with_reducible apply jW;refine jX (by first|(simp only [j0,jU];rfl)|rfl) ?_)|with_reducible apply jE|with_reducible refine jP (by decide) ?_|(with_reducible apply jQ;first|refine kR rfl rfl ?_|refine kT rfl rfl ?_)|((first|((with_reducible apply kv);rfl)|((with_reducible apply ky);rfl;rfl)|((with_reducible apply kz);rfl;rfl)|((with_reducible apply jv);rfl)|((with_reducible apply kl);rfl;assumption;rfl;(first|assumption|rfl)));refine jT (by first|(simp only [j0,jU];rfl)|rfl) ?_)))
   exact ⟨rfl, rfl, dead_of rfl⟩
  ·(repeat(first|with_reducible refine jZ ?_|(with_reducible apply jW;refine jX (by first|(simp only [j0,jU];rfl)|rfl) ?_)|with_reducible apply jE|with_reducible refine jP (by decide) ?_|(with_reducible apply jQ;first|refine kR rfl rfl ?_|refine kT rfl rfl ?_)|((first|((with_reducible apply kv);rfl)|((with_reducible apply ky);rfl;rfl)|((with_reducible apply kz);rfl;rfl)|((with_reducible apply kl);rfl;assumption;rfl;(first|assumption|rfl)));refine jT (by first|(simp only [j0,jU];rfl)|rfl) ?_)))
   rw [keyB h1]
   have hp : 1 ≤ name.length := List.length_pos_iff.2 h1
   by_cases h2 : name.length ≤ 20
   ·(repeat(first|with_reducible refine jZ ?_|(with_reducible apply jW;refine jX (by first|(simp only [j0,jU];rfl)|rfl) ?_)|with_reducible apply jE|with_reducible refine jP (by decide) ?_|(with_reducible apply jQ;first|refine kR rfl rfl ?_|refine kT rfl rfl ?_)|((first|((with_reducible apply kv);rfl)|((with_reducible apply ky);rfl;rfl)|((with_reducible apply kz);rfl;rfl)|((with_reducible apply kl);rfl;assumption;rfl;(first|assumption|rfl)));refine jT (by first|(simp only [j0,jU];rfl)|rfl) ?_)))
    rw [show decide ((name.length : Int) ≤ 20) = true from decide_eq_true (by omega)]
    by_cases h3 : 1 ≤ n
    ·(repeat(first|with_reducible refine jZ ?_|(with_reducible apply jW;refine jX (by first|(simp only [j0,jU];rfl)|rfl) ?_)|with_reducible apply jE|with_reducible refine jP (by decide) ?_|(with_reducible apply jQ;first|refine kR rfl rfl ?_|refine kT rfl rfl ?_)|((first|((with_reducible apply kv);rfl)|((with_reducible apply ky);rfl;rfl)|((with_reducible apply kz);rfl;rfl)|((with_reducible apply kl);rfl;assumption;rfl;(first|assumption|rfl)));refine jT (by first|(simp only [j0,jU];rfl)|rfl) ?_)))
     rw [show decide (n > 0) = true from decide_eq_true (by omega)]
     obtain rfl : ok0 = decide (n ≤ 999999) := by rw [hok, decide_eq_true hp, decide_eq_true h2, decide_eq_true h3]; rfl
     (repeat(first|with_reducible refine jZ ?_|(with_reducible apply jW;refine jX (by first|(simp only [j0,jU];rfl)|rfl) ?_)|with_reducible apply jE|with_reducible refine jP (by decide) ?_|(with_reducible apply jQ;first|refine kR rfl rfl ?_|refine kT rfl rfl ?_)|((first|((with_reducible apply kv);rfl)|((with_reducible apply ky);rfl;rfl)|((with_reducible apply kz);rfl;rfl)|((with_reducible apply jv);rfl)|((with_reducible apply kl);rfl;assumption;rfl;(first|assumption|rfl)));refine jT (by first|(simp only [j0,jU];rfl)|rfl) ?_)))
     exact ⟨rfl, rfl, dead_of rfl⟩
    ·(repeat(first|with_reducible refine jZ ?_|(with_reducible apply jW;refine jX (by first|(simp only [j0,jU];rfl)|rfl) ?_)|with_reducible apply jE|with_reducible refine jP (by decide) ?_|(with_reducible apply jQ;first|refine kR rfl rfl ?_|refine kT rfl rfl ?_)|((first|((with_reducible apply kv);rfl)|((with_reducible apply ky);rfl;rfl)|((with_reducible apply kz);rfl;rfl)|((with_reducible apply kl);rfl;assumption;rfl;(first|assumption|rfl)));refine jT (by first|(simp only [j0,jU];rfl)|rfl) ?_)))
     rw [show decide (n > 0) = false from decide_eq_false (by omega)]
     obtain rfl : ok0 = false := by rw [hok, decide_eq_false h3]; simp
     (repeat(first|with_reducible refine jZ ?_|(with_reducible apply jW;refine jX (by first|(simp only [j0,jU];rfl)|rfl) ?_)|with_reducible apply jE|with_reducible refine jP (by decide) ?_|(with_reducible apply jQ;first|refine kR rfl rfl ?_|refine kT rfl rfl ?_)|((first|((with_reducible apply kv);rfl)|((with_reducible apply ky);rfl;rfl)|((with_reducible apply kz);rfl;rfl)|((with_reducible apply jv);rfl)|((with_reducible apply kl);rfl;assumption;rfl;(first|assumption|rfl)));refine jT (by first|(simp only [j0,jU];rfl)|rfl) ?_)))
     exact ⟨rfl, rfl, dead_of rfl⟩
   ·(repeat(first|with_reducible refine jZ ?_|(with_reducible apply jW;refine jX (by first|(simp only [j0,jU];rfl)|rfl) ?_)|with_reducible apply jE|with_reducible refine jP (by decide) ?_|(with_reducible apply jQ;first|refine kR rfl rfl ?_|refine kT rfl rfl ?_)|((first|((with_reducible apply kv);rfl)|((with_reducible apply ky);rfl;rfl)|((with_reducible apply kz);rfl;rfl)|((with_reducible apply kl);rfl;assumption;rfl;(first|assumption|rfl)));refine jT (by first|(simp only [j0,jU];rfl)|rfl) ?_)))
    rw [show decide ((name.length : Int) ≤ 20) = false from decide_eq_false (by omega)]
    obtain rfl : ok0 = false := by rw [hok, decide_eq_false h2]; simp
    (repeat(first|with_reducible refine jZ ?_|(with_reducible apply jW;refine jX (by first|(simp only [j0,jU];rfl)|rfl) ?_)|with_reducible apply jE|with_reducible refine jP (by decide) ?_|(with_reducible apply jQ;first|refine kR rfl rfl ?_|refine kT rfl rfl ?_)|((first|((with_reducible apply kv);rfl)|((with_reducible apply ky);rfl;rfl)|((with_reducible apply kz);rfl;rfl)|((with_reducible apply jv);rfl)|((with_reducible apply kl);rfl;assumption;rfl;(first|assumption|rfl)));refine jT (by first|(simp only [j0,jU];rfl)|rfl) ?_)))
    exact ⟨rfl, rfl, dead_of rfl⟩
 ·rintro regs own H1 ⟨rfl, d, rfl⟩
  (repeat(first|with_reducible refine jZ ?_|(with_reducible apply jW;refine jX (by first|(simp only [j0,jU];rfl)|rfl) ?_)|with_reducible refine jP (by decide) ?_|(with_reducible apply jQ;first|refine kR rfl rfl ?_|refine kT rfl rfl ?_)|((first|((with_reducible apply kv);rfl)|((with_reducible apply ky);rfl;rfl)|((with_reducible apply kz);rfl;rfl)|((with_reducible apply kl);rfl;assumption;rfl;(first|assumption|rfl)));refine jT (by first|(simp only [j0,jU];rfl)|rfl) ?_)))
  refine Wc.mid (fun st => st.H = [] ∧ ∃ d : Nat → AV, st.regs = (.str name :: i64v n :: d 2 :: d 3 :: .str [] :: .v (.bool (ok0 && name.all nameCh)) :: d 6 :: d 7 :: d 8 :: d 9 :: d 10 :: d 11 :: d 12 :: d 13 :: d 14 :: d 15 :: d 16 :: d 17 :: d 18 :: d 19 :: d 20 :: d 21 :: d 22 :: d 23 :: d 24 :: d 25 :: d 26 :: d 27 :: d 28 :: d 29 :: d 30 :: d 31 :: d 32 :: d 33 :: d 34 :: d 35 :: d 36 :: d 37 :: d 38 :: d 39 :: d 40 :: d 41 :: d 42 :: d 43 :: d 44 :: d 45 :: d 46 :: d 47 :: d 48 :: d 49 :: [])) ?_ ?_
  ·refine Wc.block ?_
   refine Wc.inv (fun m st => st.H = [] ∧ ∃ (i : Nat), m = name.length - i ∧ i ≤ name.length ∧ ∃ d : Nat → AV, st.regs = (.str name :: i64v n :: d 2 :: d 3 :: .str [] :: .v (.bool (ok0 && (name.take i).all nameCh)) :: d 6 :: d 7 :: d 8 :: d 9 :: d 10 :: d 11 :: d 12 :: d 13 :: d 14 :: d 15 :: d 16 :: d 17 :: d 18 :: d 19 :: d 20 :: d 21 :: d 22 :: d 23 :: i64v name.length :: i64v i :: d 26 :: d 27 :: d 28 :: d 29 :: d 30 :: d 31 :: d 32 :: d 33 :: d 34 :: d 35 :: d 36 :: d 37 :: d 38 :: d 39 :: d 40 :: d 41 :: d 42 :: d 43 :: d 44 :: d 45 :: d 46 :: d 47 :: d 48 :: d 49 :: [])) name.length ⟨rfl, 0, rfl, Nat.zero_le _, ?_⟩ ?_
   ·rw [show (ok0 && (name.take 0).all nameCh) = ok0 by simp]; exact dead_of rfl
   ·rintro m regs own H1 ⟨rfl, i, rfl, hi, d, rfl⟩
    (repeat(first|with_reducible refine jZ ?_|(with_reducible apply jW;refine jX (by first|(simp only [j0,jU];rfl)|rfl) ?_)|with_reducible apply jE|with_reducible refine jP (by decide) ?_|(with_reducible apply jQ;first|refine kR rfl rfl ?_|refine kT rfl rfl ?_)|((first|((with_reducible apply kv);rfl)|((with_reducible apply ky);rfl;rfl)|((with_reducible apply kz);rfl;rfl)|((with_reducible apply kl);rfl;assumption;rfl;(first|assumption|rfl)));refine jT (by first|(simp only [j0,jU];rfl)|rfl) ?_)))
    by_cases hlt : i < name.length
    ·rw [show decide ((i : Int) < (name.length : Int)) = true from decide_eq_true (by omega)]
     (repeat(first|with_reducible refine jZ ?_|(with_reducible apply jW;refine jX (by first|(simp only [j0,jU];rfl)|rfl) ?_)|with_reducible apply jE|with_reducible refine jP (by decide) ?_|(with_reducible apply jQ;first|refine kR rfl rfl ?_|refine kT rfl rfl ?_)|((first|((with_reducible apply kv);rfl)|((with_reducible apply ky);rfl;rfl)|((with_reducible apply kz);rfl;rfl)|((with_reducible apply kl);rfl;assumption;rfl;(first|assumption|rfl)));refine jT (by first|(simp only [j0,jU];rfl)|rfl) ?_)))
     rcases hc : (ok0 && (name.take i).all nameCh) with _ | _
     ·(repeat(first|with_reducible refine jZ ?_|(with_reducible apply jW;refine jX (by first|(simp only [j0,jU];rfl)|rfl) ?_)|with_reducible apply jE|with_reducible refine jP (by decide) ?_|(with_reducible apply jQ;first|refine kR rfl rfl ?_|refine kT rfl rfl ?_)|((first|((with_reducible apply kv);rfl)|((with_reducible apply ky);rfl;rfl)|((with_reducible apply kz);rfl;rfl)|((with_reducible apply jv);rfl)|((with_reducible apply kl);rfl;assumption;rfl;(first|assumption|rfl)));refine jT (by first|(simp only [j0,jU];rfl)|rfl) ?_)))
      rw [wrapS (by omega)]
      refine LoopQ.normal (name.length - (i + 1)) (by omega) ⟨rfl, i + 1, rfl, by omega, ?_⟩
      rw [show (ok0 && (name.take (i + 1)).all nameCh) = false by rw [all_take hlt, ← Bool.and_assoc, hc]; rfl]
      exact dead_of rfl
     ·(repeat(first|with_reducible refine jZ ?_|(with_reducible apply jW;refine jX (by first|(simp only [j0,jU];rfl)|rfl) ?_)|with_reducible apply jE|with_reducible refine jP (by decide) ?_|(with_reducible apply jQ;first|refine kR rfl rfl ?_|refine kT rfl rfl ?_)|((first|((with_reducible apply kv);rfl)|((with_reducible apply ky);rfl;rfl)|((with_reducible apply kz);rfl;rfl)|((with_reducible apply kl);rfl;assumption;rfl;(first|assumption|rfl)));refine jT (by first|(simp only [j0,jU];rfl)|rfl) ?_)))
      refine ki (j := i) rfl rfl rfl rfl hlt ?_
      (repeat(first|with_reducible refine jZ ?_|(with_reducible apply jW;refine jX (by first|(simp only [j0,jU];rfl)|rfl) ?_)|with_reducible apply jE|with_reducible refine jP (by decide) ?_|(with_reducible apply jQ;first|refine kR rfl rfl ?_|refine kT rfl rfl ?_)|((first|((with_reducible apply kv);rfl)|((with_reducible apply ky);rfl;rfl)|((with_reducible apply kz);rfl;rfl)|((with_reducible apply kl);rfl;assumption;rfl;(first|assumption|rfl)));refine jT (by first|(simp only [j0,jU];rfl)|rfl) ?_)))
      refine kC rfl rfl ((ixb_tells [97, 98, 99, 100, 101, 102, 103, 104, 105, 106, 107, 108, 109, 110, 111, 112, 113, 114, 115, 116, 117, 118, 119, 120, 121, 122, 48, 49, 50, 51, 52, 53, 54, 55, 56, 57, 45] name[i] (by decide) _).mono ?_)
      rintro r2 H2 ⟨rfl, rfl⟩
      (repeat(first|with_reducible refine jZ ?_|(with_reducible apply jW;refine jX (by first|(simp only [j0,jU];rfl)|rfl) ?_)|with_reducible apply jE|with_reducible refine jP (by decide) ?_|(with_reducible apply jQ;first|refine kR rfl rfl ?_|refine kT rfl rfl ?_)|((first|((with_reducible apply kv);rfl)|((with_reducible apply ky);rfl;rfl)|((with_reducible apply kz);rfl;rfl)|((with_reducible apply kl);rfl;assumption;rfl;(first|assumption|rfl)));refine jT (by first|(simp only [j0,jU];rfl)|rfl) ?_)))
      rw [ix_run, wrapS (by omega)]
      refine LoopQ.normal (name.length - (i + 1)) (by omega) ⟨rfl, i + 1, rfl, by omega, ?_⟩
      rw [show (ok0 && (name.take (i + 1)).all nameCh) = nameCh name[i] by rw [all_take hlt, ← Bool.and_assoc, hc]; rfl]
      exact dead_of rfl
    ·obtain rfl : i = name.length := by omega
     rw [show decide ((name.length : Int) < (name.length : Int)) = false by simp, List.take_length]
     (repeat(first|with_reducible refine jZ ?_|(with_reducible apply jW;refine jX (by first|(simp only [j0,jU];rfl)|rfl) ?_)|with_reducible apply jE|with_reducible refine jP (by decide) ?_|(with_reducible apply jQ;first|refine kR rfl rfl ?_|refine kT rfl rfl ?_)|((first|((with_reducible apply kv);rfl)|((with_reducible apply ky);rfl;rfl)|((with_reducible apply kz);rfl;rfl)|((with_reducible apply kl);rfl;assumption;rfl;(first|assumption|rfl)));refine jT (by first|(simp only [j0,jU];rfl)|rfl) ?_)))
     exact ⟨rfl, rfl, dead_of rfl⟩
  ·rintro regs own H1 ⟨rfl, d, rfl⟩
   (repeat(first|with_reducible refine jZ ?_|(with_reducible apply jW;refine jX (by first|(simp only [j0,jU];rfl)|rfl) ?_)|with_reducible apply jE|with_reducible refine jP (by decide) ?_|(with_reducible apply jQ;first|refine kR rfl rfl ?_|refine kT rfl rfl ?_)|((first|((with_reducible apply kv);rfl)|((with_reducible apply ky);rfl;rfl)|((with_reducible apply kz);rfl;rfl)|((with_reducible apply kl);rfl;assumption;rfl;(first|assumption|rfl)));refine jT (by first|(simp only [j0,jU];rfl)|rfl) ?_)))
   by_cases hall : (ok0 && name.all nameCh) = true
   ·rw [hall]
    obtain ⟨hok1, hn1, hn2⟩ : okName name = true ∧ 1 ≤ n ∧ n ≤ 999999 := by
     rw [hok] at hall
     simp only [Bool.and_eq_true, decide_eq_true_eq] at hall
     refine ⟨?_, hall.1.1.2, hall.1.2⟩
     unfold okName
     simp only [Bool.and_eq_true, decide_eq_true_eq]
     exact ⟨⟨hall.1.1.1.1, hall.1.1.1.2⟩, hall.2⟩
    have hlen : name.length ≤ 20 := by
     unfold okName at hok1
     simp only [Bool.and_eq_true, decide_eq_true_eq] at hok1
     exact hok1.1.2
    obtain ⟨m, rfl⟩ : ∃ m : Nat, n = m := ⟨n.toNat, by omega⟩
    have hfp : fileP name (m : Int) = name ++ [46] ++ pad6 (Lib.decDigits m) := by
     unfold fileP; rw [if_pos ⟨hok1, hn1, hn2⟩, Int.toNat_natCast]
    rw [hfp]
    obtain ⟨hd1, hd2⟩ := dec_len (n := m) (by omega)
    (repeat(first|with_reducible refine jZ ?_|(with_reducible apply jW;refine jX (by first|(simp only [j0,jU];rfl)|rfl) ?_)|with_reducible apply jE|with_reducible refine jP (by decide) ?_|(with_reducible apply jQ;first|refine kR rfl rfl ?_|refine kT rfl rfl ?_)|((first|((with_reducible apply kv);rfl)|((with_reducible apply ky);rfl;rfl)|((with_reducible apply kz);rfl;rfl)|((with_reducible apply kl);rfl;assumption;rfl;(first|assumption|rfl)));refine jT (by first|(simp only [j0,jU];rfl)|rfl) ?_)))
    refine kC rfl rfl ((itoa_tells m (by omega) _).mono ?_)
    rintro r2 H2 ⟨rfl, rfl⟩
    unfold pad6
    generalize Lib.decDigits m = ds at *
    (repeat(first|with_reducible refine jZ ?_|(with_reducible apply jW;refine jX (by first|(simp only [j0,jU];rfl)|rfl) ?_)|with_reducible apply jE|with_reducible refine jP (by decide) ?_|(with_reducible apply jQ;first|refine kR rfl rfl ?_|refine kT rfl rfl ?_)|((first|((with_reducible apply kv);rfl)|((with_reducible apply ky);rfl;rfl)|((with_reducible apply kz);rfl;rfl)|((with_reducible apply kl);rfl;assumption;rfl;(first|assumption|rfl)));refine jT (by first|(simp only [j0,jU];rfl)|rfl) ?_)))
    refine ka rfl rfl (by simp; omega) ?_
    (repeat(first|with_reducible refine jZ ?_|(with_reducible apply jW;refine jX (by first|(simp only [j0,jU];rfl)|rfl) ?_)|with_reducible apply jE|with_reducible refine jP (by decide) ?_|(with_reducible apply jQ;first|refine kR rfl rfl ?_|refine kT rfl rfl ?_)|((first|((with_reducible apply kv);rfl)|((with_reducible apply ky);rfl;rfl)|((with_reducible apply kz);rfl;rfl)|((with_reducible apply kl);rfl;assumption;rfl;(first|assumption|rfl)));refine jT (by first|(simp only [j0,jU];rfl)|rfl) ?_)))
    rw [show IntKind.i64.wrap (6 - (ds.length : Int)) = ((6 - ds.length : Nat) : Int) by rw [IntKind.wrap_i64]; omega]
    refine kC rfl rfl ((rep_tells (6 - ds.length) (by omega) _).mono ?_)
    rintro r3 H3 ⟨rfl, rfl⟩
    (repeat(first|with_reducible refine jZ ?_|(with_reducible apply jW;refine jX (by first|(simp only [j0,jU];rfl)|rfl) ?_)|with_reducible apply jE|with_reducible refine jP (by decide) ?_|(with_reducible apply jQ;first|refine kR rfl rfl ?_|refine kT rfl rfl ?_)|((first|((with_reducible apply kv);rfl)|((with_reducible apply ky);rfl;rfl)|((with_reducible apply kz);rfl;rfl)|((with_reducible apply kl);rfl;assumption;rfl;(first|assumption|rfl)));refine jT (by first|(simp only [j0,jU];rfl)|rfl) ?_)))
    refine ka rfl rfl (by simp; omega) ?_
    (repeat(first|with_reducible refine jZ ?_|(with_reducible apply jW;refine jX (by first|(simp only [j0,jU];rfl)|rfl) ?_)|with_reducible apply jE|with_reducible refine jP (by decide) ?_|(with_reducible apply jQ;first|refine kR rfl rfl ?_|refine kT rfl rfl ?_)|((first|((with_reducible apply kv);rfl)|((with_reducible apply ky);rfl;rfl)|((with_reducible apply kz);rfl;rfl)|((with_reducible apply kl);rfl;assumption;rfl;(first|assumption|rfl)));refine jT (by first|(simp only [j0,jU];rfl)|rfl) ?_)))
    refine ka rfl rfl (by simp; omega) ?_
    (repeat(first|with_reducible refine jZ ?_|(with_reducible apply jW;refine jX (by first|(simp only [j0,jU];rfl)|rfl) ?_)|with_reducible apply jE|with_reducible refine jP (by decide) ?_|(with_reducible apply jQ;first|refine kR rfl rfl ?_|refine kT rfl rfl ?_)|((first|((with_reducible apply kv);rfl)|((with_reducible apply ky);rfl;rfl)|((with_reducible apply kz);rfl;rfl)|((with_reducible apply kl);rfl;assumption;rfl;(first|assumption|rfl)));refine jT (by first|(simp only [j0,jU];rfl)|rfl) ?_)))
    refine EndQ.ret rfl ⟨_, rfl, rfl, rfl, ?_⟩
    rw [List.append_assoc (name ++ [46])]
   ·rw [Bool.not_eq_true] at hall
    rw [hall]
    have hfp : fileP name n = [] := by
     unfold fileP
     rw [if_neg]
     rintro ⟨h1, h2, h3⟩
     unfold okName at h1
     simp only [Bool.and_eq_true, decide_eq_true_eq] at h1
     rw [hok, decide_eq_true h1.1.1, decide_eq_true h1.1.2, decide_eq_true h2, decide_eq_true h3, h1.2] at hall
     cases hall
    rw [hfp]
    (repeat(first|with_reducible refine jZ ?_|(with_reducible apply jW;refine jX (by first|(simp only [j0,jU];rfl)|rfl) ?_)|with_reducible apply jE|with_reducible refine jP (by decide) ?_|(with_reducible apply jQ;first|refine kR rfl rfl ?_|refine kT rfl rfl ?_)|((first|((with_reducible apply kv);rfl)|((with_reducible apply ky);rfl;rfl)|((with_reducible apply kz);rfl;rfl)|((with_reducible apply kl);rfl;assumption;rfl;(first|assumption|rfl)));refine jT (by first|(simp only [j0,jU];rfl)|rfl) ?_)))
    exact EndQ.ret rfl ⟨_, rfl, rfl, rfl, rfl⟩
theorem file2_tells (name : Bs) (n : Int) (hl : name.length < 281474976710656) (H : List AB) : Tells Kk 14 [.str name, i64v n] H fun r H' => H' = H ∧ r = .str (fileP name n) := by
 refine Tells.vals (c := _) Tryz.func14 rfl (args' := [.str name, i64v n]) (m := 60) rfl rfl rfl rfl rfl ?_
 obtain ⟨bad, hbad⟩ : ∃ bad : Bool, bad = !(decide (1 ≤ name.length) && decide (name.length ≤ 20) && decide (1 ≤ n) && decide (n ≤ 999999)) := ⟨_, rfl⟩
 (repeat(first|with_reducible refine jZ ?_|(with_reducible apply jW;refine jX (by first|(simp only [j0,jU];rfl)|rfl) ?_)|with_reducible refine jP (by decide) ?_|(with_reducible apply jQ;first|refine kR rfl rfl ?_|refine kT rfl rfl ?_)|((first|((with_reducible apply kv);rfl)|((with_reducible apply ky);rfl;rfl)|((with_reducible apply kz);rfl;rfl)|((with_reducible apply kl);rfl;assumption;rfl;(first|assumption|rfl)));refine jT (by first|(simp only [j0,jU];rfl)|rfl) ?_)))
 refine Wo.mid (fun st => st.H = [] ∧ ∃ d : Nat → AV, st.regs = (.str name :: i64v n :: d 2 :: d 3 :: d 4 :: d 5 :: d 6 :: d 7 :: d 8 :: d 9 :: d 10 :: d 11 :: d 12 :: d 13 :: d 14 :: d 15 :: d 16 :: d 17 :: d 18 :: d 19 :: d 20 :: d 21 :: d 22 :: .v (.bool bad) :: d 24 :: d 25 :: d 26 :: d 27 :: d 28 :: d 29 :: d 30 :: d 31 :: d 32 :: d 33 :: d 34 :: d 35 :: d 36 :: d 37 :: d 38 :: d 39 :: d 40 :: d 41 :: d 42 :: d 43 :: d 44 :: d 45 :: d 46 :: d 47 :: d 48 :: d 49 :: d 50 :: d 51 :: d 52 :: d 53 :: d 54 :: d 55 :: d 56 :: d 57 :: d 58 :: d 59 :: d 60 :: d 61 :: [])) ?_ ?_
 ·by_cases h1 : 1 ≤ name.length
  ·rw [show decide ((name.length : Int) < 1) = false from decide_eq_false (by omega)]
   (repeat(first|with_reducible refine jZ ?_|(with_reducible apply jW;refine jX (by first|(simp only [j0,jU];rfl)|rfl) ?_)|with_reducible apply jE|with_reducible refine jP (by decide) ?_|(with_reducible apply jQ;first|refine kR rfl rfl ?_|refine kT rfl rfl ?_)|((first|((with_reducible apply kv);rfl)|((with_reducible apply ky);rfl;rfl)|((with_reducible apply kz);rfl;rfl)|((with_reducible apply jv);rfl)|((with_reducible apply kl);rfl;assumption;rfl;(first|assumption|rfl)));refine jT (by first|(simp only [j0,jU];rfl)|rfl) ?_)))
   by_cases h2 : name.length ≤ 20
   ·rw [show decide ((name.length : Int) > 20) = false from decide_eq_false (by omega)]
    (repeat(first|with_reducible refine jZ ?_|(with_reducible apply jW;refine jX (by first|(simp only [j0,jU];rfl)|rfl) ?_)|with_reducible apply jE|with_reducible refine jP (by decide) ?_|(with_reducible apply jQ;first|refine kR rfl rfl ?_|refine kT rfl rfl ?_)|((first|((with_reducible apply kv);rfl)|((with_reducible apply ky);rfl;rfl)|((with_reducible apply kz);rfl;rfl)|((with_reducible apply jv);rfl)|((with_reducible apply kl);rfl;assumption;rfl;(first|assumption|rfl)));refine jT (by first|(simp only [j0,jU];rfl)|rfl) ?_)))
    by_cases h3 : 1 ≤ n
    ·rw [show decide (n < 1) = false from decide_eq_false (by omega)]
     obtain rfl : bad = decide (n > 999999) := by rw [hbad, decide_eq_true h1, decide_eq_true h2, decide_eq_true h3]; by_cases h4 : n ≤ 999999 <;> simp [h4]; omega
     (repeat(first|with_reducible refine jZ ?_|(with_reducible apply jW;refine jX (by first|(simp only [j0,jU];rfl)|rfl) ?_)|with_reducible apply jE|with_reducible refine jP (by decide) ?_|(with_reducible apply jQ;first|refine kR rfl rfl ?_|refine kT rfl rfl ?_)|((first|((with_reducible apply kv);rfl)|((with_reducible apply ky);rfl;rfl)|((with_reducible apply kz);rfl;rfl)|((with_reducible apply jv);rfl)|((with_reducible apply kl);rfl;assumption;rfl;(first|assumption|rfl)));refine jT (by first|(simp only [j0,jU];rfl)|rfl) ?_)))
     exact ⟨rfl, rfl, dead_of rfl⟩
    ·rw [show decide (n < 1) = true from decide_eq_true (by omega)]
     obtain rfl : bad = true := by rw [hbad, decide_eq_false h3]; simp
     (repeat(first|with_reducible refine jZ ?_|(with_reducible apply jW;refine jX (by first|(simp only [j0,jU];rfl)|rfl) ?_)|with_reducible apply jE|with_reducible refine jP (by decide) ?_|(with_reducible apply jQ;first|refine kR rfl rfl ?_|refine kT rfl rfl ?_)|((first|((with_reducible apply kv);rfl)|((with_reducible apply ky);rfl;rfl)|((with_reducible apply kz);rfl;rfl)|((with_reducible apply jv);rfl)|((with_reducible apply kl);rfl;assumption;rfl;(first|assumption|rfl)));refine jT (by first|(simp only [j0,jU];rfl)|rfl) ?_)))
     exact ⟨rfl, rfl, dead_of rfl⟩
   ·rw [show decide ((name.length : Int) > 20) = true from decide_eq_true (by omega)]
    obtain rfl : bad = true := by rw [hbad, decide_eq_false h2]; simp
    (repeat(first|with_reducible refine jZ ?_|(with_reducible apply jW;refine jX (by first|(simp only [j0,jU];rfl)|rfl) ?_)|with_reducible apply jE|with_reducible refine jP (by decide) ?_|(with_reducible apply jQ;first|refine kR rfl rfl ?_|refine kT rfl rfl ?_)|((first|((with_reducible apply kv);rfl)|((with_reducible apply ky);rfl;rfl)|((with_reducible apply kz);rfl;rfl)|((with_reducible apply jv);rfl)|((with_reducible apply kl);rfl;assumption;rfl;(first|assumption|rfl)));refine jT (by first|(simp only [j0,jU];rfl)|rfl) ?_)))
    exact ⟨rfl, rfl, dead_of rfl⟩
  ·rw [show decide ((name.length : Int) < 1) = true from decide_eq_true (by omega)]
   obtain rfl : bad = true := by rw [hbad, decide_eq_false h1]; simp
   (repeat(first|with_reducible refine jZ ?_|(with_reducible apply jW;refine jX (by first|(simp only [j0,jU];rfl)|rfl) ?_)|with_reducible apply jE|with_reducible refine jP (by decide) ?_|(with_reducible apply jQ;first|refine kR rfl rfl ?_|refine kT rfl rfl ?_)|((first|((with_reducible apply kv);rfl)|((with_reducible apply ky);rfl;rfl)|((with_reducible apply kz);rfl;rfl)|((with_reducible apply jv);rfl)|((with_reducible apply kl);rfl;assumption;rfl;(first|assumption|rfl)));refine jT (by first|(simp only [j0,jU];rfl)|rfl) ?_)))
   exact ⟨rfl, rfl, dead_of rfl⟩
 ·rintro regs own H1 ⟨rfl, d, rfl⟩
  have hfp0 : (bad = true ∨ name.all nameCh = false) → fileP name n = [] := by
   intro hq
   unfold fileP
   rw [if_neg]
   rintro ⟨h1, h2, h3⟩
   unfold okName at h1
   simp only [Bool.and_eq_true, decide_eq_true_eq] at h1
   rw [decide_eq_true h1.1.1, decide_eq_true h1.1.2, decide_eq_true h2, decide_eq_true h3] at hbad
   rcases hq with hq | hq
   ·rw [hq] at hbad; cases hbad
   ·rw [hq] at h1; cases h1.2
  cases bad with
  | true =>
   (repeat(first|with_reducible refine jZ ?_|(with_reducible apply jW;refine jX (by first|(simp only [j0,jU];rfl)|rfl) ?_)|with_reducible apply jE|with_reducible refine jP (by decide) ?_|(with_reducible apply jQ;first|refine kR rfl rfl ?_|refine kT rfl rfl ?_)|((first|((with_reducible apply kv);rfl)|((with_reducible apply ky);rfl;rfl)|((with_reducible apply kz);rfl;rfl)|((with_reducible apply kl);rfl;assumption;rfl;(first|assumption|rfl)));refine jT (by first|(simp only [j0,jU];rfl)|rfl) ?_)))
   rw [hfp0 (.inl rfl)]
   exact EndQ.ret rfl ⟨_, rfl, rfl, rfl, rfl⟩
  | false =>
   (repeat(first|with_reducible refine jZ ?_|(with_reducible apply jW;refine jX (by first|(simp only [j0,jU];rfl)|rfl) ?_)|with_reducible refine jP (by decide) ?_|(with_reducible apply jQ;first|refine kR rfl rfl ?_|refine kT rfl rfl ?_)|((first|((with_reducible apply kv);rfl)|((with_reducible apply ky);rfl;rfl)|((with_reducible apply kz);rfl;rfl)|((with_reducible apply kl);rfl;assumption;rfl;(first|assumption|rfl)));refine jT (by first|(simp only [j0,jU];rfl)|rfl) ?_)))
   refine Wc.block ?_
   refine Wc.inv (fun m st => st.H = [] ∧ ∃ (i : Nat), m = name.length - i ∧ i ≤ name.length ∧ (name.take i).all nameCh = true ∧ ∃ d : Nat → AV, st.regs = (.str name :: i64v n :: d 2 :: d 3 :: d 4 :: i64v i :: d 6 :: d 7 :: d 8 :: d 9 :: d 10 :: d 11 :: d 12 :: d 13 :: d 14 :: d 15 :: d 16 :: d 17 :: d 18 :: d 19 :: d 20 :: d 21 :: d 22 :: d 23 :: d 24 :: d 25 :: d 26 :: d 27 :: d 28 :: d 29 :: d 30 :: d 31 :: d 32 :: d 33 :: d 34 :: d 35 :: d 36 :: d 37 :: d 38 :: d 39 :: d 40 :: d 41 :: d 42 :: d 43 :: d 44 :: d 45 :: d 46 :: d 47 :: d 48 :: d 49 :: d 50 :: d 51 :: d 52 :: d 53 :: d 54 :: d 55 :: d 56 :: d 57 :: d 58 :: d 59 :: d 60 :: d 61 :: [])) name.length ⟨rfl, 0, rfl, Nat.zero_le _, by simp, dead_of rfl⟩ ?_
   rintro m regs own H1 ⟨rfl, i, rfl, hi, hal, d, rfl⟩
   (repeat(first|with_reducible refine jZ ?_|(with_reducible apply jW;refine jX (by first|(simp only [j0,jU];rfl)|rfl) ?_)|with_reducible apply jE|with_reducible refine jP (by decide) ?_|(with_reducible apply jQ;first|refine kR rfl rfl ?_|refine kT rfl rfl ?_)|((first|((with_reducible apply kv);rfl)|((with_reducible apply ky);rfl;rfl)|((with_reducible apply kz);rfl;rfl)|((with_reducible apply kl);rfl;assumption;rfl;(first|assumption|rfl)));refine jT (by first|(simp only [j0,jU];rfl)|rfl) ?_)))
   by_cases hlt : i < name.length
   ·rw [show decide ((i : Int) < (name.length : Int)) = true from decide_eq_true (by omega)]
    (repeat(first|with_reducible refine jZ ?_|(with_reducible apply jW;refine jX (by first|(simp only [j0,jU];rfl)|rfl) ?_)|with_reducible apply jE|with_reducible refine jP (by decide) ?_|(with_reducible apply jQ;first|refine kR rfl rfl ?_|refine kT rfl rfl ?_)|((first|((with_reducible apply kv);rfl)|((with_reducible apply ky);rfl;rfl)|((with_reducible apply kz);rfl;rfl)|((with_reducible apply kl);rfl;assumption;rfl;(first|assumption|rfl)));refine jT (by first|(simp only [j0,jU];rfl)|rfl) ?_)))
    refine ki (j := i) rfl rfl rfl rfl hlt ?_
    (repeat(first|with_reducible refine jZ ?_|(with_reducible apply jW;refine jX (by first|(simp only [j0,jU];rfl)|rfl) ?_)|with_reducible refine jP (by decide) ?_|(with_reducible apply jQ;first|refine kR rfl rfl ?_|refine kT rfl rfl ?_)|((first|((with_reducible apply kv);rfl)|((with_reducible apply ky);rfl;rfl)|((with_reducible apply kz);rfl;rfl)|((with_reducible apply kl);rfl;assumption;rfl;(first|assumption|rfl)));refine jT (by first|(simp only [j0,jU];rfl)|rfl) ?_)))
    refine Wo.mid (fun st => st.H = [] ∧ ∃ d : Nat → AV, st.regs = (.str name :: i64v n :: d 2 :: d 3 :: d 4 :: i64v i :: d 6 :: d 7 :: d 8 :: d 9 :: d 10 :: d 11 :: d 12 :: d 13 :: d 14 :: d 15 :: d 16 :: d 17 :: d 18 :: d 19 :: d 20 :: d 21 :: d 22 :: d 23 :: d 24 :: d 25 :: d 26 :: d 27 :: d 28 :: d 29 :: d 30 :: d 31 :: d 32 :: d 33 :: d 34 :: d 35 :: d 36 :: d 37 :: d 38 :: d 39 :: d 40 :: d 41 :: d 42 :: d 43 :: d 44 :: d 45 :: d 46 :: d 47 :: d 48 :: d 49 :: .v (.bool (!nameCh name[i])) :: d 51 :: d 52 :: d 53 :: d 54 :: d 55 :: d 56 :: d 57 :: d 58 :: d 59 :: d 60 :: d 61 :: [])) ?_ ?_
    ·generalize name[i] = c
     unfold nameCh
     by_cases c1 : 97 ≤ c.toNat
     ·rw [show decide ((c.toNat : Int) < 97) = false from decide_eq_false (by omega), decide_eq_true c1]
      (repeat(first|with_reducible refine jZ ?_|(with_reducible apply jW;refine jX (by first|(simp only [j0,jU];rfl)|rfl) ?_)|with_reducible apply jE|with_reducible refine jP (by decide) ?_|(with_reducible apply jQ;first|refine kR rfl rfl ?_|refine kT rfl rfl ?_)|((first|((with_reducible apply kv);rfl)|((with_reducible apply ky);rfl;rfl)|((with_reducible apply kz);rfl;rfl)|((with_reducible apply jv);rfl)|((with_reducible apply kl);rfl;assumption;rfl;(first|assumption|rfl)));refine jT (by first|(simp only [j0,jU];rfl)|rfl) ?_)))
      by_cases c2 : c.toNat ≤ 122
      ·rw [show decide ((c.toNat : Int) > 122) = false from decide_eq_false (by omega), decide_eq_true c2]
       (repeat(first|with_reducible refine jZ ?_|(with_reducible apply jW;refine jX (by first|(simp only [j0,jU];rfl)|rfl) ?_)|with_reducible apply jE|with_reducible refine jP (by decide) ?_|(with_reducible apply jQ;first|refine kR rfl rfl ?_|refine kT rfl rfl ?_)|((first|((with_reducible apply kv);rfl)|((with_reducible apply ky);rfl;rfl)|((with_reducible apply kz);rfl;rfl)|((with_reducible apply jv);rfl)|((with_reducible apply kl);rfl;assumption;rfl;(first|assumption|rfl)));refine jT (by first|(simp only [j0,jU];rfl)|rfl) ?_)))
       exact ⟨rfl, rfl, dead_of rfl⟩
      ·rw [show decide ((c.toNat : Int) > 122) = true from decide_eq_true (by omega), decide_eq_false c2]
       (repeat(first|with_reducible refine jZ ?_|(with_reducible apply jW;refine jX (by first|(simp only [j0,jU];rfl)|rfl) ?_)|with_reducible apply jE|with_reducible refine jP (by decide) ?_|(with_reducible apply jQ;first|refine kR rfl rfl ?_|refine kT rfl rfl ?_)|((first|((with_reducible apply kv);rfl)|((with_reducible apply ky);rfl;rfl)|((with_reducible apply kz);rfl;rfl)|((with_reducible apply jv);rfl)|((with_reducible apply kl);rfl;assumption;rfl;(first|assumption|rfl)));refine jT (by first|(simp only [j0,jU];rfl)|rfl) ?_)))
       rw [show decide ((c.toNat : Int) < 48) = false from decide_eq_false (by omega), show decide (48 ≤ c.toNat) = true from decide_eq_true (by omega)]
       (repeat(first|with_reducible refine jZ ?_|(with_reducible apply jW;refine jX (by first|(simp only [j0,jU];rfl)|rfl) ?_)|with_reducible apply jE|with_reducible refine jP (by decide) ?_|(with_reducible apply jQ;first|refine kR rfl rfl ?_|refine kT rfl rfl ?_)|((first|((with_reducible apply kv);rfl)|((with_reducible apply ky);rfl;rfl)|((with_reducible apply kz);rfl;rfl)|((with_reducible apply jv);rfl)|((with_reducible apply kl);rfl;assumption;rfl;(first|assumption|rfl)));refine jT (by first|(simp only [j0,jU];rfl)|rfl) ?_)))
       rw [show decide ((c.toNat : Int) > 57) = true from decide_eq_true (by omega), show decide (c.toNat ≤ 57) = false from decide_eq_false (by omega)]
       (repeat(first|with_reducible refine jZ ?_|(with_reducible apply jW;refine jX (by first|(simp only [j0,jU];rfl)|rfl) ?_)|with_reducible apply jE|with_reducible refine jP (by decide) ?_|(with_reducible apply jQ;first|refine kR rfl rfl ?_|refine kT rfl rfl ?_)|((first|((with_reducible apply kv);rfl)|((with_reducible apply ky);rfl;rfl)|((with_reducible apply kz);rfl;rfl)|((with_reducible apply jv);rfl)|((with_reducible apply kl);rfl;assumption;rfl;(first|assumption|rfl)));refine jT (by first|(simp only [j0,jU];rfl)|rfl) ?_)))
       rw [bneI (x := (c.toNat : Int)) (y := 45) (by omega), show (c.toNat == 45) = false by simp; omega]
       (repeat(first|with_reducible refine jZ ?_|(with_reducible apply jW;refine jX (by first|(simp only [j0,jU];rfl)|rfl) ?_)|with_reducible apply jE|with_reducible refine jP (by decide) ?_|(with_reducible apply jQ;first|refine kR rfl rfl ?_|refine kT rfl rfl ?_)|((first|((with_reducible apply kv);rfl)|((with_reducible apply ky);rfl;rfl)|((with_reducible apply kz);rfl;rfl)|((with_reducible apply jv);rfl)|((with_reducible apply kl);rfl;assumption;rfl;(first|assumption|rfl)));refine jT (by first|(simp only [j0,jU];rfl)|rfl) ?_)))
       exact ⟨rfl, rfl, dead_of rfl⟩
     ·rw [show decide ((c.toNat : Int) < 97) = true from decide_eq_true (by omega), decide_eq_false c1]
      (repeat(first|with_reducible refine jZ ?_|(with_reducible apply jW;refine jX (by first|(simp only [j0,jU];rfl)|rfl) ?_)|with_reducible apply jE|with_reducible refine jP (by decide) ?_|(with_reducible apply jQ;first|refine kR rfl rfl ?_|refine kT rfl rfl ?_)|((first|((with_reducible apply kv);rfl)|((with_reducible apply ky);rfl;rfl)|((with_reducible apply kz);rfl;rfl)|((with_reducible apply jv);rfl)|((with_reducible apply kl);rfl;assumption;rfl;(first|assumption|rfl)));refine jT (by first|(simp only [j0,jU];rfl)|rfl) ?_)))
      by_cases c3 : 48 ≤ c.toNat
      ·rw [show decide ((c.toNat : Int) < 48) = false from decide_eq_false (by omega), decide_eq_true c3]
       (repeat(first|with_reducible refine jZ ?_|(with_reducible apply jW;refine jX (by first|(simp only [j0,jU];rfl)|rfl) ?_)|with_reducible apply jE|with_reducible refine jP (by decide) ?_|(with_reducible apply jQ;first|refine kR rfl rfl ?_|refine kT rfl rfl ?_)|((first|((with_reducible apply kv);rfl)|((with_reducible apply ky);rfl;rfl)|((with_reducible apply kz);rfl;rfl)|((with_reducible apply jv);rfl)|((with_reducible apply kl);rfl;assumption;rfl;(first|assumption|rfl)));refine jT (by first|(simp only [j0,jU];rfl)|rfl) ?_)))
       by_cases c4 : c.toNat ≤ 57
       ·rw [show decide ((c.toNat : Int) > 57) = false from decide_eq_false (by omega), decide_eq_true c4]
        (repeat(first|with_reducible refine jZ ?_|(with_reducible apply jW;refine jX (by first|(simp only [j0,jU];rfl)|rfl) ?_)|with_reducible apply jE|with_reducible refine jP (by decide) ?_|(with_reducible apply jQ;first|refine kR rfl rfl ?_|refine kT rfl rfl ?_)|((first|((with_reducible apply kv);rfl)|((with_reducible apply ky);rfl;rfl)|((with_reducible apply kz);rfl;rfl)|((with_reducible apply jv);rfl)|((with_reducible apply kl);rfl;assumption;rfl;(first|assumption|rfl)));refine jT (by first|(simp only [j0,jU];rfl)|rfl) ?_)))
        exact ⟨rfl, rfl, dead_of rfl⟩
       ·rw [show decide ((c.toNat : Int) > 57) = true from decide_eq_true (by omega), decide_eq_false c4]
        (repeat(first|with_reducible refine jZ ?_|(with_reducible apply jW;refine jX (by first|(simp only [j0,jU];rfl)|rfl) ?_)|with_reducible apply jE|with_reducible refine jP (by decide) ?_|(with_reducible apply jQ;first|refine kR rfl rfl ?_|refine kT rfl rfl ?_)|((first|((with_reducible apply kv);rfl)|((with_reducible apply ky);rfl;rfl)|((with_reducible apply kz);rfl;rfl)|((with_reducible apply jv);rfl)|((with_reducible apply kl);rfl;assumption;rfl;(first|assumption|rfl)));refine jT (by first|(simp only [j0,jU];rfl)|rfl) ?_)))
        rw [bneI (x := (c.toNat : Int)) (y := 45) (by omega), show (c.toNat == 45) = false by simp; omega]
        (repeat(first|with_reducible refine jZ ?_|(with_reducible apply jW;refine jX (by first|(simp only [j0,jU];rfl)|rfl) ?_)|with_reducible apply jE|with_reducible refine jP (by decide) ?_|(with_reducible apply jQ;first|refine kR rfl rfl ?_|refine kT rfl rfl ?_)|((first|((with_reducible apply kv);rfl)|((with_reducible apply ky);rfl;rfl)|((with_reducible apply kz);rfl;rfl)|((with_reducible apply jv);rfl)|((with_reducible apply kl);rfl;assumption;rfl;(first|assumption|rfl)));refine jT (by first|(simp only [j0,jU];rfl)|rfl) ?_)))
        exact ⟨rfl, rfl, dead_of rfl⟩
      ·rw [show decide ((c.toNat : Int) < 48) = true from decide_eq_true (by omega), decide_eq_false c3]
       (repeat(first|with_reducible refine jZ ?_|(with_reducible apply jW;refine jX (by first|(simp only [j0,jU];rfl)|rfl) ?_)|with_reducible apply jE|with_reducible refine jP (by decide) ?_|(with_reducible apply jQ;first|refine kR rfl rfl ?_|refine kT rfl rfl ?_)|((first|((with_reducible apply kv);rfl)|((with_reducible apply ky);rfl;rfl)|((with_reducible apply kz);rfl;rfl)|((with_reducible apply jv);rfl)|((with_reducible apply kl);rfl;assumption;rfl;(first|assumption|rfl)));refine jT (by first|(simp only [j0,jU];rfl)|rfl) ?_)))
       by_cases c5 : c.toNat = 45
       ·rw [bnqI (x := (c.toNat : Int)) (y := 45) (by omega), show (c.toNat == 45) = true by simp; omega]
        (repeat(first|with_reducible refine jZ ?_|(with_reducible apply jW;refine jX (by first|(simp only [j0,jU];rfl)|rfl) ?_)|with_reducible apply jE|with_reducible refine jP (by decide) ?_|(with_reducible apply jQ;first|refine kR rfl rfl ?_|refine kT rfl rfl ?_)|((first|((with_reducible apply kv);rfl)|((with_reducible apply ky);rfl;rfl)|((with_reducible apply kz);rfl;rfl)|((with_reducible apply jv);rfl)|((with_reducible apply kl);rfl;assumption;rfl;(first|assumption|rfl)));refine jT (by first|(simp only [j0,jU];rfl)|rfl) ?_)))
        exact ⟨rfl, rfl, dead_of rfl⟩
       ·rw [bneI (x := (c.toNat : Int)) (y := 45) (by omega), show (c.toNat == 45) = false by simp; omega]
        (repeat(first|with_reducible refine jZ ?_|(with_reducible apply jW;refine jX (by first|(simp only [j0,jU];rfl)|rfl) ?_)|with_reducible apply jE|with_reducible refine jP (by decide) ?_|(with_reducible apply jQ;first|refine kR rfl rfl ?_|refine kT rfl rfl ?_)|((first|((with_reducible apply kv);rfl)|((with_reducible apply ky);rfl;rfl)|((with_reducible apply kz);rfl;rfl)|((with_reducible apply jv);rfl)|((with_reducible apply kl);rfl;assumption;rfl;(first|assumption|rfl)));refine jT (by first|(simp only [j0,jU];rfl)|rfl) ?_)))
        exact ⟨rfl, rfl, dead_of rfl⟩
    ·rintro regs own H1 ⟨rfl, d, rfl⟩
     rcases hch : nameCh name[i] with _ | _
     ·(repeat(first|with_reducible refine jZ ?_|(with_reducible apply jW;refine jX (by first|(simp only [j0,jU];rfl)|rfl) ?_)|with_reducible apply jE|with_reducible refine jP (by decide) ?_|(with_reducible apply jQ;first|refine kR rfl rfl ?_|refine kT rfl rfl ?_)|((first|((with_reducible apply kv);rfl)|((with_reducible apply ky);rfl;rfl)|((with_reducible apply kz);rfl;rfl)|((with_reducible apply kl);rfl;assumption;rfl;(first|assumption|rfl)));refine jT (by first|(simp only [j0,jU];rfl)|rfl) ?_)))
      rw [hfp0 (.inr ?_)]
      exact EndQ.ret rfl ⟨_, rfl, rfl, rfl, rfl⟩
      rw [List.all_eq_false]
      exact ⟨name[i], List.getElem_mem _, by rw [hch]; simp⟩
     ·(repeat(first|with_reducible refine jZ ?_|(with_reducible apply jW;refine jX (by first|(simp only [j0,jU];rfl)|rfl) ?_)|with_reducible apply jE|with_reducible refine jP (by decide) ?_|(with_reducible apply jQ;first|refine kR rfl rfl ?_|refine kT rfl rfl ?_)|((first|((with_reducible apply kv);rfl)|((with_reducible apply ky);rfl;rfl)|((with_reducible apply kz);rfl;rfl)|((with_reducible apply kl);rfl;assumption;rfl;(first|assumption|rfl)));refine jT (by first|(simp only [j0,jU];rfl)|rfl) ?_)))
      rw [wrapS (by omega)]
      exact LoopQ.normal (name.length - (i + 1)) (by omega) ⟨rfl, i + 1, rfl, by omega, by rw [all_take hlt, hal, hch]; rfl, dead_of rfl⟩
   ·obtain rfl : i = name.length := by omega
    rw [show decide ((name.length : Int) < (name.length : Int)) = false by simp]
    rw [List.take_length] at hal
    obtain ⟨h1, h2, hn1, hn2⟩ : 1 ≤ name.length ∧ name.length ≤ 20 ∧ 1 ≤ n ∧ n ≤ 999999 := by
     have := hbad.symm
     rw [Bool.not_eq_false'] at this
     simp only [Bool.and_eq_true, decide_eq_true_eq] at this
     exact ⟨this.1.1.1, this.1.1.2, this.1.2, this.2⟩
    obtain ⟨m, rfl⟩ : ∃ m : Nat, n = m := ⟨n.toNat, by omega⟩
    have hfp : fileP name (m : Int) = name ++ [46] ++ pad6 (Lib.decDigits m) := by
     unfold fileP
     rw [if_pos ⟨by unfold okName; rw [decide_eq_true h1, decide_eq_true h2, hal]; rfl, hn1, hn2⟩, Int.toNat_natCast]
    rw [hfp]
    obtain ⟨hd1, hd2⟩ := dec_len (n := m) (by omega)
    (repeat(first|with_reducible refine jZ ?_|(with_reducible apply jW;refine jX (by first|(simp only [j0,jU];rfl)|rfl) ?_)|with_reducible apply jE|with_reducible refine jP (by decide) ?_|(with_reducible apply jQ;first|refine kR rfl rfl ?_|refine kT rfl rfl ?_)|((first|((with_reducible apply kv);rfl)|((with_reducible apply ky);rfl;rfl)|((with_reducible apply kz);rfl;rfl)|((with_reducible apply kl);rfl;assumption;rfl;(first|assumption|rfl)));refine jT (by first|(simp only [j0,jU];rfl)|rfl) ?_)))
    refine kC rfl rfl ((itoa_tells m (by omega) _).mono ?_)
    rintro r2 H2 ⟨rfl, rfl⟩
    generalize Lib.decDigits m = ds at *
    (repeat(first|with_reducible refine jZ ?_|(with_reducible apply jW;refine jX (by first|(simp only [j0,jU];rfl)|rfl) ?_)|with_reducible refine jP (by decide) ?_|(with_reducible apply jQ;first|refine kR rfl rfl ?_|refine kT rfl rfl ?_)|((first|((with_reducible apply kv);rfl)|((with_reducible apply ky);rfl;rfl)|((with_reducible apply kz);rfl;rfl)|((with_reducible apply kl);rfl;assumption;rfl;(first|assumption|rfl)));refine jT (by first|(simp only [j0,jU];rfl)|rfl) ?_)))
    refine Wc.block ?_
    refine Wc.inv (fun mm st => st.H = [] ∧ ∃ (j : Nat), mm = 6 - j ∧ ds.length ≤ j ∧ j ≤ 6 ∧ ∃ d : Nat → AV, st.regs = (.str name :: d 1 :: d 2 :: d 3 :: d 4 :: d 5 :: d 6 :: .str (List.replicate (j - ds.length) 48 ++ ds) :: d 8 :: d 9 :: d 10 :: d 11 :: d 12 :: d 13 :: d 14 :: d 15 :: d 16 :: d 17 :: d 18 :: d 19 :: d 20 :: d 21 :: d 22 :: d 23 :: d 24 :: d 25 :: d 26 :: d 27 :: d 28 :: d 29 :: d 30 :: d 31 :: d 32 :: d 33 :: d 34 :: d 35 :: d 36 :: d 37 :: d 38 :: d 39 :: d 40 :: d 41 :: d 42 :: d 43 :: d 44 :: d 45 :: d 46 :: d 47 :: d 48 :: d 49 :: d 50 :: d 51 :: d 52 :: d 53 :: d 54 :: d 55 :: d 56 :: d 57 :: d 58 :: d 59 :: d 60 :: d 61 :: [])) (6 - ds.length) ⟨rfl, ds.length, rfl, Nat.le_refl _, hd2, by rw [Nat.sub_self]; exact dead_of rfl⟩ ?_
    rintro mm regs own H1 ⟨rfl, j, rfl, hj1, hj2, d, rfl⟩
    (repeat(first|with_reducible refine jZ ?_|(with_reducible apply jW;refine jX (by first|(simp only [j0,jU];rfl)|rfl) ?_)|with_reducible apply jE|with_reducible refine jP (by decide) ?_|(with_reducible apply jQ;first|refine kR rfl rfl ?_|refine kT rfl rfl ?_)|((first|((with_reducible apply kv);rfl)|((with_reducible apply ky);rfl;rfl)|((with_reducible apply kz);rfl;rfl)|((with_reducible apply kl);rfl;assumption;rfl;(first|assumption|rfl)));refine jT (by first|(simp only [j0,jU];rfl)|rfl) ?_)))
    have hlen : (List.replicate (j - ds.length) 48 ++ ds).length = j := by simp; omega
    rw [hlen]
    by_cases h6 : j < 6
    ·rw [show decide ((j : Int) < 6) = true from decide_eq_true (by omega)]
     (repeat(first|with_reducible refine jZ ?_|(with_reducible apply jW;refine jX (by first|(simp only [j0,jU];rfl)|rfl) ?_)|with_reducible apply jE|with_reducible refine jP (by decide) ?_|(with_reducible apply jQ;first|refine kR rfl rfl ?_|refine kT rfl rfl ?_)|((first|((with_reducible apply kv);rfl)|((with_reducible apply ky);rfl;rfl)|((with_reducible apply kz);rfl;rfl)|((with_reducible apply kl);rfl;assumption;rfl;(first|assumption|rfl)));refine jT (by first|(simp only [j0,jU];rfl)|rfl) ?_)))
     refine ka rfl rfl (by rw [hlen]; show 1 + j ≤ _; omega) ?_
     (repeat(first|with_reducible refine jZ ?_|(with_reducible apply jW;refine jX (by first|(simp only [j0,jU];rfl)|rfl) ?_)|with_reducible apply jE|with_reducible refine jP (by decide) ?_|(with_reducible apply jQ;first|refine kR rfl rfl ?_|refine kT rfl rfl ?_)|((first|((with_reducible apply kv);rfl)|((with_reducible apply ky);rfl;rfl)|((with_reducible apply kz);rfl;rfl)|((with_reducible apply kl);rfl;assumption;rfl;(first|assumption|rfl)));refine jT (by first|(simp only [j0,jU];rfl)|rfl) ?_)))
     refine LoopQ.normal (6 - (j + 1)) (by omega) ⟨rfl, j + 1, rfl, by omega, by omega, ?_⟩
     rw [show j + 1 - ds.length = (j - ds.length) + 1 by omega, List.replicate_succ]
     exact dead_of rfl
    ·obtain rfl : j = 6 := by omega
     rw [show decide (((6 : Nat) : Int) < 6) = false from rfl]
     (repeat(first|with_reducible refine jZ ?_|(with_reducible apply jW;refine jX (by first|(simp only [j0,jU];rfl)|rfl) ?_)|with_reducible apply jE|with_reducible refine jP (by decide) ?_|(with_reducible apply jQ;first|refine kR rfl rfl ?_|refine kT rfl rfl ?_)|((first|((with_reducible apply kv);rfl)|((with_reducible apply ky);rfl;rfl)|((with_reducible apply kz);rfl;rfl)|((with_reducible apply kl);rfl;assumption;rfl;(first|assumption|rfl)));refine jT (by first|(simp only [j0,jU];rfl)|rfl) ?_)))
     refine ka rfl rfl (by simp; omega) ?_
     (repeat(first|with_reducible refine jZ ?_|(with_reducible apply jW;refine jX (by first|(simp only [j0,jU];rfl)|rfl) ?_)|with_reducible apply jE|with_reducible refine jP (by decide) ?_|(with_reducible apply jQ;first|refine kR rfl rfl ?_|refine kT rfl rfl ?_)|((first|((with_reducible apply kv);rfl)|((with_reducible apply ky);rfl;rfl)|((with_reducible apply kz);rfl;rfl)|((with_reducible apply kl);rfl;assumption;rfl;(first|assumption|rfl)));refine jT (by first|(simp only [j0,jU];rfl)|rfl) ?_)))
     refine ka rfl rfl (by simp; omega) ?_
     (repeat(first|with_reducible refine jZ ?_|(with_reducible apply jW;refine jX (by first|(simp only [j0,jU];rfl)|rfl) ?_)|with_reducible apply jE|with_reducible refine jP (by decide) ?_|(with_reducible apply jQ;first|refine kR rfl rfl ?_|refine kT rfl rfl ?_)|((first|((with_reducible apply kv);rfl)|((with_reducible apply ky);rfl;rfl)|((with_reducible apply kz);rfl;rfl)|((with_reducible apply kl);rfl;assumption;rfl;(first|assumption|rfl)));refine jT (by first|(simp only [j0,jU];rfl)|rfl) ?_)))
     exact EndQ.ret rfl ⟨_, rfl, rfl, rfl, rfl⟩
end Go.Proofs.Ck
