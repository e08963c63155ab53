/- pack's frames and the cask's records: the code's and the reference's. -/
import Derived.Test.YtaefgigfoifjaaaGreatDoorCkWrite
import Derived.Test.YtaefgigfoifjaaaGreatDoorTmQj
set_option linter.unusedVariables false
set_option linter.unusedSimpArgs false
set_option linter.unusedSectionVars false
namespace Go.Proofs.Ck
open Go.Tm
set_option maxRecDepth 100000
abbrev u32v (n : Nat) : AV := .v (.int .u32 (n : Nat))
abbrev i64v (n : Int) : AV := .v (.int .i64 n)
abbrev ptrNil : AV := .v (.pointer none)
theorem each_tells {g : FuncId} {fs : List AV} (hfs : fs.map AV.unown = fs) (s : List UInt8) (H : List AB) (b : Nat) (P : List AB → Prop) (hv : AV.closedL [.func (.func g) fs []] = false) (hone : Tells Kk g (fs ++ [.str s] ++ []) H fun _ H' => P H') : Tells Kk 90 [.ptr b 0, .sl [.str s] .full, .func (.func g) fs []] H fun r H' => r = .ptr b 0 ∧ P H' := by
 refine Tells.mem (c := _) Tryz.func90 rfl (args' := [.ptr b 0, .sl [.str s] .full, .func (.func g) fs []]) (m := 19) (by simp [AV.unown]) rfl rfl rfl (by simp [AV.closedL, AV.closed]) ?_
 (repeat(first|with_reducible refine jZ ?_|(with_reducible apply jW;refine jX (by first|(simp only [j0,jU];rfl)|rfl) ?_)|with_reducible refine jP (by decide) ?_|(with_reducible apply jQ;first|refine kR rfl rfl ?_|refine kT rfl rfl ?_)|((first|((with_reducible apply kv);rfl)|((with_reducible apply ky);rfl;rfl)|((with_reducible apply kz);rfl;rfl)|((with_reducible apply kl);rfl;assumption;rfl;(first|assumption|rfl)));refine jT (by first|(simp only [j0,jU];rfl)|rfl) ?_)))
 refine Wc.mid (fun st => P st.H ∧ ∃ d : Nat → AV, st.regs = (.ptr b 0 :: d 1 :: d 2 :: d 3 :: d 4 :: d 5 :: d 6 :: d 7 :: d 8 :: d 9 :: d 10 :: d 11 :: d 12 :: d 13 :: d 14 :: d 15 :: d 16 :: d 17 :: d 18 :: d 19 :: d 20 :: d 21 :: [])) ?_ ?_
 ·refine Wc.block ?_
  refine Wc.inv (fun m st => ∃ i, m = 1 - i ∧ i ≤ 1 ∧ (i = 0 → st.H = H) ∧ (i = 1 → P st.H) ∧ ∃ d : Nat → AV, st.regs = (.ptr b 0 :: .sl [.str s] .full :: .func (.func g) fs [] :: d 3 :: d 4 :: d 5 :: d 6 :: d 7 :: d 8 :: d 9 :: d 10 :: .sl [.str s] .full :: i64v 1 :: i64v i :: d 14 :: d 15 :: d 16 :: d 17 :: d 18 :: d 19 :: d 20 :: d 21 :: [])) 1 ?_ ?_
  ·exact ⟨0, rfl, by omega, fun _ => rfl, fun q => by omega, dead_of rfl⟩
  ·rintro m regs own H1 ⟨i, rfl, hi, h0, h1, d, rfl⟩
   (repeat(first|with_reducible refine jZ ?_|(with_reducible apply jW;refine jX (by first|(simp only [j0,jU];rfl)|rfl) ?_)|with_reducible apply jE|with_reducible refine jP (by decide) ?_|(with_reducible apply jQ;first|refine kR rfl rfl ?_|refine kT rfl rfl ?_)|((first|((with_reducible apply kv);rfl)|((with_reducible apply ky);rfl;rfl)|((with_reducible apply kz);rfl;rfl)|((with_reducible apply kl);rfl;assumption;rfl;(first|assumption|rfl)));refine jT (by first|(simp only [j0,jU];rfl)|rfl) ?_)))
   rcases Nat.lt_or_ge i 1 with h | h
   ·obtain rfl : i = 0 := by omega
    obtain rfl : H1 = H := h0 rfl
    (repeat(first|with_reducible refine jZ ?_|(with_reducible apply jW;refine jX (by first|(simp only [j0,jU];rfl)|rfl) ?_)|with_reducible apply jE|with_reducible refine jP (by decide) ?_|(with_reducible apply jQ;first|refine kR rfl rfl ?_|refine kT rfl rfl ?_)|((first|((with_reducible apply kv);rfl)|((with_reducible apply ky);rfl;rfl)|((with_reducible apply kz);rfl;rfl)|((with_reducible apply kl);rfl;assumption;rfl;(first|assumption|rfl)));refine jT (by first|(simp only [j0,jU];rfl)|rfl) ?_)))
    refine kx (j := 0) (sz := 0) rfl rfl rfl rfl rfl rfl rfl rfl ?_
    (repeat(first|with_reducible refine jZ ?_|(with_reducible apply jW;refine jX (by first|(simp only [j0,jU];rfl)|rfl) ?_)|with_reducible apply jE|with_reducible refine jP (by decide) ?_|(with_reducible apply jQ;first|refine kR rfl rfl ?_|refine kT rfl rfl ?_)|((first|((with_reducible apply kv);rfl)|((with_reducible apply ky);rfl;rfl)|((with_reducible apply kz);rfl;rfl)|((with_reducible apply kl);rfl;assumption;rfl;(first|assumption|rfl)));refine jT (by first|(simp only [j0,jU];rfl)|rfl) ?_)))
    refine kV rfl rfl (us := fs ++ [.str s] ++ []) (by simp [hfs, AV.unown]) (hone.mono ?_)
    intro r1 H2 hp
    (repeat(first|with_reducible refine jZ ?_|(with_reducible apply jW;refine jX (by first|(simp only [j0,jU];rfl)|rfl) ?_)|with_reducible apply jE|with_reducible refine jP (by decide) ?_|(with_reducible apply jQ;first|refine kR rfl rfl ?_|refine kT rfl rfl ?_)|((first|((with_reducible apply kv);rfl)|((with_reducible apply ky);rfl;rfl)|((with_reducible apply kz);rfl;rfl)|((with_reducible apply kl);rfl;assumption;rfl;(first|assumption|rfl)));refine jT (by first|(simp only [j0,jU];rfl)|rfl) ?_)))
    exact LoopQ.normal 0 (by omega) ⟨1, rfl, by omega, fun q => by omega, fun _ => hp, dead_of rfl⟩
   ·obtain rfl : i = 1 := by omega
    (repeat(first|with_reducible refine jZ ?_|(with_reducible apply jW;refine jX (by first|(simp only [j0,jU];rfl)|rfl) ?_)|with_reducible apply jE|with_reducible refine jP (by decide) ?_|(with_reducible apply jQ;first|refine kR rfl rfl ?_|refine kT rfl rfl ?_)|((first|((with_reducible apply kv);rfl)|((with_reducible apply ky);rfl;rfl)|((with_reducible apply kz);rfl;rfl)|((with_reducible apply kl);rfl;assumption;rfl;(first|assumption|rfl)));refine jT (by first|(simp only [j0,jU];rfl)|rfl) ?_)))
    exact ⟨rfl, h1 rfl, dead_of rfl⟩
 ·rintro regs own H1 ⟨hp, d, rfl⟩
  (repeat(first|with_reducible refine jZ ?_|(with_reducible apply jW;refine jX (by first|(simp only [j0,jU];rfl)|rfl) ?_)|with_reducible apply jE|with_reducible refine jP (by decide) ?_|(with_reducible apply jQ;first|refine kR rfl rfl ?_|refine kT rfl rfl ?_)|((first|((with_reducible apply kv);rfl)|((with_reducible apply ky);rfl;rfl)|((with_reducible apply kz);rfl;rfl)|((with_reducible apply kl);rfl;assumption;rfl;(first|assumption|rfl)));refine jT (by first|(simp only [j0,jU];rfl)|rfl) ?_)))
  exact EndQ.ret rfl ⟨rfl, hp⟩
theorem eachB_tells {g : FuncId} {fs : List AV} (hfs : fs.map AV.unown = fs) (x : Bool) (H : List AB) (b : Nat) (P : List AB → Prop) (hone : Tells Kk g (fs ++ [.v (.bool x)] ++ []) H fun _ H' => P H') : Tells Kk 92 [.ptr b 0, .sl [.v (.bool x)] .full, .func (.func g) fs []] H fun r H' => r = .ptr b 0 ∧ P H' := by
 refine Tells.mem (c := _) Tryz.func92 rfl (args' := [.ptr b 0, .sl [.v (.bool x)] .full, .func (.func g) fs []]) (m := 19) (by simp [AV.unown]) rfl rfl rfl (by simp [AV.closedL, AV.closed]) ?_
 (repeat(first|with_reducible refine jZ ?_|(with_reducible apply jW;refine jX (by first|(simp only [j0,jU];rfl)|rfl) ?_)|with_reducible refine jP (by decide) ?_|(with_reducible apply jQ;first|refine kR rfl rfl ?_|refine kT rfl rfl ?_)|((first|((with_reducible apply kv);rfl)|((with_reducible apply ky);rfl;rfl)|((with_reducible apply kz);rfl;rfl)|((with_reducible apply kl);rfl;assumption;rfl;(first|assumption|rfl)));refine jT (by first|(simp only [j0,jU];rfl)|rfl) ?_)))
 refine Wc.mid (fun st => P st.H ∧ ∃ d : Nat → AV, st.regs = (.ptr b 0 :: d 1 :: d 2 :: d 3 :: d 4 :: d 5 :: d 6 :: d 7 :: d 8 :: d 9 :: d 10 :: d 11 :: d 12 :: d 13 :: d 14 :: d 15 :: d 16 :: d 17 :: d 18 :: d 19 :: d 20 :: d 21 :: [])) ?_ ?_
 ·refine Wc.block ?_
  refine Wc.inv (fun m st => ∃ i, m = 1 - i ∧ i ≤ 1 ∧ (i = 0 → st.H = H) ∧ (i = 1 → P st.H) ∧ ∃ d : Nat → AV, st.regs = (.ptr b 0 :: .sl [.v (.bool x)] .full :: .func (.func g) fs [] :: d 3 :: d 4 :: d 5 :: d 6 :: d 7 :: d 8 :: d 9 :: d 10 :: .sl [.v (.bool x)] .full :: i64v 1 :: i64v i :: d 14 :: d 15 :: d 16 :: d 17 :: d 18 :: d 19 :: d 20 :: d 21 :: [])) 1 ?_ ?_
  ·exact ⟨0, rfl, by omega, fun _ => rfl, fun q => by omega, dead_of rfl⟩
  ·rintro m regs own H1 ⟨i, rfl, hi, h0, h1, d, rfl⟩
   (repeat(first|with_reducible refine jZ ?_|(with_reducible apply jW;refine jX (by first|(simp only [j0,jU];rfl)|rfl) ?_)|with_reducible apply jE|with_reducible refine jP (by decide) ?_|(with_reducible apply jQ;first|refine kR rfl rfl ?_|refine kT rfl rfl ?_)|((first|((with_reducible apply kv);rfl)|((with_reducible apply ky);rfl;rfl)|((with_reducible apply kz);rfl;rfl)|((with_reducible apply kl);rfl;assumption;rfl;(first|assumption|rfl)));refine jT (by first|(simp only [j0,jU];rfl)|rfl) ?_)))
   rcases Nat.lt_or_ge i 1 with h | h
   ·obtain rfl : i = 0 := by omega
    obtain rfl : H1 = H := h0 rfl
    (repeat(first|with_reducible refine jZ ?_|(with_reducible apply jW;refine jX (by first|(simp only [j0,jU];rfl)|rfl) ?_)|with_reducible apply jE|with_reducible refine jP (by decide) ?_|(with_reducible apply jQ;first|refine kR rfl rfl ?_|refine kT rfl rfl ?_)|((first|((with_reducible apply kv);rfl)|((with_reducible apply ky);rfl;rfl)|((with_reducible apply kz);rfl;rfl)|((with_reducible apply kl);rfl;assumption;rfl;(first|assumption|rfl)));refine jT (by first|(simp only [j0,jU];rfl)|rfl) ?_)))
    refine kx (j := 0) (sz := 0) rfl rfl rfl rfl rfl rfl rfl rfl ?_
    (repeat(first|with_reducible refine jZ ?_|(with_reducible apply jW;refine jX (by first|(simp only [j0,jU];rfl)|rfl) ?_)|with_reducible apply jE|with_reducible refine jP (by decide) ?_|(with_reducible apply jQ;first|refine kR rfl rfl ?_|refine kT rfl rfl ?_)|((first|((with_reducible apply kv);rfl)|((with_reducible apply ky);rfl;rfl)|((with_reducible apply kz);rfl;rfl)|((with_reducible apply kl);rfl;assumption;rfl;(first|assumption|rfl)));refine jT (by first|(simp only [j0,jU];rfl)|rfl) ?_)))
    refine kV rfl rfl (us := fs ++ [.v (.bool x)] ++ []) (by simp [hfs, AV.unown]) (hone.mono ?_)
    intro r1 H2 hp
    (repeat(first|with_reducible refine jZ ?_|(with_reducible apply jW;refine jX (by first|(simp only [j0,jU];rfl)|rfl) ?_)|with_reducible apply jE|with_reducible refine jP (by decide) ?_|(with_reducible apply jQ;first|refine kR rfl rfl ?_|refine kT rfl rfl ?_)|((first|((with_reducible apply kv);rfl)|((with_reducible apply ky);rfl;rfl)|((with_reducible apply kz);rfl;rfl)|((with_reducible apply kl);rfl;assumption;rfl;(first|assumption|rfl)));refine jT (by first|(simp only [j0,jU];rfl)|rfl) ?_)))
    exact LoopQ.normal 0 (by omega) ⟨1, rfl, by omega, fun q => by omega, fun _ => hp, dead_of rfl⟩
   ·obtain rfl : i = 1 := by omega
    (repeat(first|with_reducible refine jZ ?_|(with_reducible apply jW;refine jX (by first|(simp only [j0,jU];rfl)|rfl) ?_)|with_reducible apply jE|with_reducible refine jP (by decide) ?_|(with_reducible apply jQ;first|refine kR rfl rfl ?_|refine kT rfl rfl ?_)|((first|((with_reducible apply kv);rfl)|((with_reducible apply ky);rfl;rfl)|((with_reducible apply kz);rfl;rfl)|((with_reducible apply kl);rfl;assumption;rfl;(first|assumption|rfl)));refine jT (by first|(simp only [j0,jU];rfl)|rfl) ?_)))
    exact ⟨rfl, h1 rfl, dead_of rfl⟩
 ·rintro regs own H1 ⟨hp, d, rfl⟩
  (repeat(first|with_reducible refine jZ ?_|(with_reducible apply jW;refine jX (by first|(simp only [j0,jU];rfl)|rfl) ?_)|with_reducible apply jE|with_reducible refine jP (by decide) ?_|(with_reducible apply jQ;first|refine kR rfl rfl ?_|refine kT rfl rfl ?_)|((first|((with_reducible apply kv);rfl)|((with_reducible apply ky);rfl;rfl)|((with_reducible apply kz);rfl;rfl)|((with_reducible apply kl);rfl;assumption;rfl;(first|assumption|rfl)));refine jT (by first|(simp only [j0,jU];rfl)|rfl) ?_)))
  exact EndQ.ret rfl ⟨rfl, hp⟩
theorem wText {n : Nat} (s : List UInt8) (H : List AB) (b : Nat) (bs : List UInt8) (hb : Bld n H b bs) (hl : bs.length + s.length ≤ 1099511627776) : Tells Kk 37 [.ptr b 0, .sl [.str s] .full] H fun r H' => r = .ptr b 0 ∧ Bld n H' b (bs ++ textB s) ∧ Old n H H' := by
 refine Tells.mem (c := _) Tryz.func37 rfl (args' := [.ptr b 0, .sl [.str s] .full]) (m := 8) rfl rfl rfl rfl rfl ?_
 (repeat(first|with_reducible refine jZ ?_|(with_reducible apply jW;refine jX (by first|(simp only [j0,jU];rfl)|rfl) ?_)|with_reducible apply jE|with_reducible refine jP (by decide) ?_|(with_reducible apply jQ;first|refine kR rfl rfl ?_|refine kT rfl rfl ?_)|((first|((with_reducible apply kv);rfl)|((with_reducible apply ky);rfl;rfl)|((with_reducible apply kz);rfl;rfl)|((with_reducible apply kl);rfl;assumption;rfl;(first|assumption|rfl)));refine jT (by first|(simp only [j0,jU];rfl)|rfl) ?_)))
 refine kC rfl rfl ((each_tells (g := 91) (fs := [.ptr b 0]) rfl s H b (fun H' => Bld n H' b (bs ++ textB s) ∧ Old n H H') rfl (text_tells s H b bs hb hl)).mono ?_)
 rintro r1 H1 ⟨rfl, h1⟩
 (repeat(first|with_reducible refine jZ ?_|(with_reducible apply jW;refine jX (by first|(simp only [j0,jU];rfl)|rfl) ?_)|with_reducible apply jE|with_reducible refine jP (by decide) ?_|(with_reducible apply jQ;first|refine kR rfl rfl ?_|refine kT rfl rfl ?_)|((first|((with_reducible apply kv);rfl)|((with_reducible apply ky);rfl;rfl)|((with_reducible apply kz);rfl;rfl)|((with_reducible apply kl);rfl;assumption;rfl;(first|assumption|rfl)));refine jT (by first|(simp only [j0,jU];rfl)|rfl) ?_)))
 exact EndQ.ret rfl ⟨rfl, h1⟩
theorem wRaw {n : Nat} (s : List UInt8) (H : List AB) (b : Nat) (bs : List UInt8) (hb : Bld n H b bs) (hl : bs.length + s.length ≤ 1099511627776) : Tells Kk 94 [.ptr b 0, .sl [.str s] .full] H fun r H' => r = .ptr b 0 ∧ Bld n H' b (bs ++ s) ∧ Old n H H' := by
 refine Tells.mem (c := _) Tryz.func94 rfl (args' := [.ptr b 0, .sl [.str s] .full]) (m := 8) rfl rfl rfl rfl rfl ?_
 (repeat(first|with_reducible refine jZ ?_|(with_reducible apply jW;refine jX (by first|(simp only [j0,jU];rfl)|rfl) ?_)|with_reducible apply jE|with_reducible refine jP (by decide) ?_|(with_reducible apply jQ;first|refine kR rfl rfl ?_|refine kT rfl rfl ?_)|((first|((with_reducible apply kv);rfl)|((with_reducible apply ky);rfl;rfl)|((with_reducible apply kz);rfl;rfl)|((with_reducible apply kl);rfl;assumption;rfl;(first|assumption|rfl)));refine jT (by first|(simp only [j0,jU];rfl)|rfl) ?_)))
 refine kC rfl rfl ((each_tells (g := 144) (fs := [.ptr b 0]) rfl s H b (fun H' => Bld n H' b (bs ++ s) ∧ Old n H H') rfl (raw_tells s H b bs hb (by omega))).mono ?_)
 rintro r1 H1 ⟨rfl, h1⟩
 (repeat(first|with_reducible refine jZ ?_|(with_reducible apply jW;refine jX (by first|(simp only [j0,jU];rfl)|rfl) ?_)|with_reducible apply jE|with_reducible refine jP (by decide) ?_|(with_reducible apply jQ;first|refine kR rfl rfl ?_|refine kT rfl rfl ?_)|((first|((with_reducible apply kv);rfl)|((with_reducible apply ky);rfl;rfl)|((with_reducible apply kz);rfl;rfl)|((with_reducible apply kl);rfl;assumption;rfl;(first|assumption|rfl)));refine jT (by first|(simp only [j0,jU];rfl)|rfl) ?_)))
 exact EndQ.ret rfl ⟨rfl, h1⟩
theorem wFlag {n : Nat} (x : Bool) (H : List AB) (b : Nat) (bs : List UInt8) (hb : Bld n H b bs) (hl : bs.length ≤ 1099511627776) : Tells Kk 38 [.ptr b 0, .sl [.v (.bool x)] .full] H fun r H' => r = .ptr b 0 ∧ Bld n H' b (bs ++ flagB x) ∧ Old n H H' := by
 refine Tells.mem (c := _) Tryz.func38 rfl (args' := [.ptr b 0, .sl [.v (.bool x)] .full]) (m := 8) rfl rfl rfl rfl rfl ?_
 (repeat(first|with_reducible refine jZ ?_|(with_reducible apply jW;refine jX (by first|(simp only [j0,jU];rfl)|rfl) ?_)|with_reducible apply jE|with_reducible refine jP (by decide) ?_|(with_reducible apply jQ;first|refine kR rfl rfl ?_|refine kT rfl rfl ?_)|((first|((with_reducible apply kv);rfl)|((with_reducible apply ky);rfl;rfl)|((with_reducible apply kz);rfl;rfl)|((with_reducible apply kl);rfl;assumption;rfl;(first|assumption|rfl)));refine jT (by first|(simp only [j0,jU];rfl)|rfl) ?_)))
 refine kC rfl rfl ((eachB_tells (g := 93) (fs := [.ptr b 0]) rfl x H b (fun H' => Bld n H' b (bs ++ flagB x) ∧ Old n H H') (flag_tells x H b bs hb (by omega))).mono ?_)
 rintro r1 H1 ⟨rfl, h1⟩
 (repeat(first|with_reducible refine jZ ?_|(with_reducible apply jW;refine jX (by first|(simp only [j0,jU];rfl)|rfl) ?_)|with_reducible apply jE|with_reducible refine jP (by decide) ?_|(with_reducible apply jQ;first|refine kR rfl rfl ?_|refine kT rfl rfl ?_)|((first|((with_reducible apply kv);rfl)|((with_reducible apply ky);rfl;rfl)|((with_reducible apply kz);rfl;rfl)|((with_reducible apply kl);rfl;assumption;rfl;(first|assumption|rfl)));refine jT (by first|(simp only [j0,jU];rfl)|rfl) ?_)))
 exact EndQ.ret rfl ⟨rfl, h1⟩
theorem wBytes {n : Nat} (H : List AB) (b : Nat) (bs : List UInt8) (hb : Bld n H b bs) (hl : bs.length ≤ 140737488355328) : Tells Kk 40 [.ptr b 0] H fun r H' => r = .str bs ∧ Old n H H' := by
 refine Tells.mem (c := _) Tryz.func40 rfl (args' := [.ptr b 0]) (m := 8) rfl rfl rfl rfl rfl ?_
 (repeat(first|with_reducible refine jZ ?_|(with_reducible apply jW;refine jX (by first|(simp only [j0,jU];rfl)|rfl) ?_)|with_reducible apply jE|with_reducible refine jP (by decide) ?_|(with_reducible apply jQ;first|refine kR rfl rfl ?_|refine kT rfl rfl ?_)|((first|((with_reducible apply kv);rfl)|((with_reducible apply ky);rfl;rfl)|((with_reducible apply kz);rfl;rfl)|((with_reducible apply kl);rfl;assumption;rfl;(first|assumption|rfl)));refine jT (by first|(simp only [j0,jU];rfl)|rfl) ?_)))
 refine kC rfl rfl ((str_tells H b bs hb hl).mono ?_)
 rintro r1 H1 ⟨rfl, h1⟩
 (repeat(first|with_reducible refine jZ ?_|(with_reducible apply jW;refine jX (by first|(simp only [j0,jU];rfl)|rfl) ?_)|with_reducible apply jE|with_reducible refine jP (by decide) ?_|(with_reducible apply jQ;first|refine kR rfl rfl ?_|refine kT rfl rfl ?_)|((first|((with_reducible apply kv);rfl)|((with_reducible apply ky);rfl;rfl)|((with_reducible apply kz);rfl;rfl)|((with_reducible apply kl);rfl;assumption;rfl;(first|assumption|rfl)));refine jT (by first|(simp only [j0,jU];rfl)|rfl) ?_)))
 exact EndQ.ret rfl ⟨rfl, h1⟩
theorem bld_new {n : Nat} {H : List AB} (hn : n ≤ H.length) : Bld n (H ++ [.cells (74, true) [.v (.pointer none), .sl [] .nil]]) H.length [] := ⟨hn, 74, .inl rfl, .inl ⟨rfl, _, .inl rfl, nth_app_new _ _⟩⟩
theorem u8v_mod (n : Nat) : AV.v (.int .u8 ((n % 256 : Nat) : Int)) = u8v (UInt8.ofNat n) := by
 show AV.v _ = AV.v _
 rw [UInt8.toNat_ofNat']
theorem four_build (H : List AB) (own : Nat → Nat) (f : FuncId) (a : Nat) (x y z w : UInt8) (hg : Kk.chg f a = false) : aBuildSlice Kk (Kk.chg f a) own H 37 4 [(0, u8v x), (1, u8v y), (2, u8v z), (3, u8v w)] = some (.val (.sl ([x, y, z, w].map u8v) .full) own H) := by
 rw [hg]
 simp only [aBuildSlice, u37, sz5, z5]
 rfl
theorem four_tells (c : Nat) (H : List AB) : Tells Kk 95 [u32v c] H fun r H' => H' = H ∧ r = .str (fourB c) := by
 refine Tells.vals (c := _) Tryz.func95 rfl (args' := [u32v c]) (m := 15) rfl rfl rfl rfl rfl ?_
 (repeat(first|with_reducible refine jZ ?_|(with_reducible apply jW;refine jX (by first|(simp only [j0,jU];rfl)|rfl) ?_)|with_reducible apply jE|with_reducible refine jP (by decide) ?_|(with_reducible apply jQ;first|refine kR rfl rfl ?_|refine kT rfl rfl ?_)|((first|((with_reducible apply kv);rfl)|((with_reducible apply ky);rfl;rfl)|((with_reducible apply kz);rfl;rfl)|((with_reducible apply kl);rfl;assumption;rfl;(first|assumption|rfl)));refine jT (by first|(simp only [j0,jU];rfl)|rfl) ?_)))
 refine jb rfl rfl (shrN_run _ _ _ .u32 _ (n := 24) (by decide)) rfl ?_
 (repeat(first|with_reducible refine jZ ?_|(with_reducible apply jW;refine jX (by first|(simp only [j0,jU];rfl)|rfl) ?_)|with_reducible apply jE|with_reducible refine jP (by decide) ?_|(with_reducible apply jQ;first|refine kR rfl rfl ?_|refine kT rfl rfl ?_)|((first|((with_reducible apply kv);rfl)|((with_reducible apply ky);rfl;rfl)|((with_reducible apply kz);rfl;rfl)|((with_reducible apply kl);rfl;assumption;rfl;(first|assumption|rfl)));refine jT (by first|(simp only [j0,jU];rfl)|rfl) ?_)))
 rw [wrap8]
 (repeat(first|with_reducible refine jZ ?_|(with_reducible apply jW;refine jX (by first|(simp only [j0,jU];rfl)|rfl) ?_)|with_reducible apply jE|with_reducible refine jP (by decide) ?_|(with_reducible apply jQ;first|refine kR rfl rfl ?_|refine kT rfl rfl ?_)|((first|((with_reducible apply kv);rfl)|((with_reducible apply ky);rfl;rfl)|((with_reducible apply kz);rfl;rfl)|((with_reducible apply kl);rfl;assumption;rfl;(first|assumption|rfl)));refine jT (by first|(simp only [j0,jU];rfl)|rfl) ?_)))
 refine jb rfl rfl (shrN_run _ _ _ .u32 _ (n := 16) (by decide)) rfl ?_
 (repeat(first|with_reducible refine jZ ?_|(with_reducible apply jW;refine jX (by first|(simp only [j0,jU];rfl)|rfl) ?_)|with_reducible apply jE|with_reducible refine jP (by decide) ?_|(with_reducible apply jQ;first|refine kR rfl rfl ?_|refine kT rfl rfl ?_)|((first|((with_reducible apply kv);rfl)|((with_reducible apply ky);rfl;rfl)|((with_reducible apply kz);rfl;rfl)|((with_reducible apply kl);rfl;assumption;rfl;(first|assumption|rfl)));refine jT (by first|(simp only [j0,jU];rfl)|rfl) ?_)))
 rw [wrap8 (c / 2 ^ 16)]
 (repeat(first|with_reducible refine jZ ?_|(with_reducible apply jW;refine jX (by first|(simp only [j0,jU];rfl)|rfl) ?_)|with_reducible apply jE|with_reducible refine jP (by decide) ?_|(with_reducible apply jQ;first|refine kR rfl rfl ?_|refine kT rfl rfl ?_)|((first|((with_reducible apply kv);rfl)|((with_reducible apply ky);rfl;rfl)|((with_reducible apply kz);rfl;rfl)|((with_reducible apply kl);rfl;assumption;rfl;(first|assumption|rfl)));refine jT (by first|(simp only [j0,jU];rfl)|rfl) ?_)))
 refine jb rfl rfl (shrN_run _ _ _ .u32 _ (n := 8) (by decide)) rfl ?_
 (repeat(first|with_reducible refine jZ ?_|(with_reducible apply jW;refine jX (by first|(simp only [j0,jU];rfl)|rfl) ?_)|with_reducible apply jE|with_reducible refine jP (by decide) ?_|(with_reducible apply jQ;first|refine kR rfl rfl ?_|refine kT rfl rfl ?_)|((first|((with_reducible apply kv);rfl)|((with_reducible apply ky);rfl;rfl)|((with_reducible apply kz);rfl;rfl)|((with_reducible apply kl);rfl;assumption;rfl;(first|assumption|rfl)));refine jT (by first|(simp only [j0,jU];rfl)|rfl) ?_)))
 rw [wrap8 (c / 2 ^ 8), wrap8 c, u8v_mod, u8v_mod, u8v_mod, u8v_mod]
 refine kbs rfl (four_build _ _ _ _ _ _ _ _ rfl) ?_
 refine kcs rfl rfl rfl rfl ?_
 (repeat(first|with_reducible refine jZ ?_|(with_reducible apply jW;refine jX (by first|(simp only [j0,jU];rfl)|rfl) ?_)|with_reducible apply jE|with_reducible refine jP (by decide) ?_|(with_reducible apply jQ;first|refine kR rfl rfl ?_|refine kT rfl rfl ?_)|((first|((with_reducible apply kv);rfl)|((with_reducible apply ky);rfl;rfl)|((with_reducible apply kz);rfl;rfl)|((with_reducible apply kl);rfl;assumption;rfl;(first|assumption|rfl)));refine jT (by first|(simp only [j0,jU];rfl)|rfl) ?_)))
 exact EndQ.ret rfl ⟨_, rfl, rfl, rfl, rfl⟩
theorem four2_tells (c : Nat) (H : List AB) : Tells Kk 99 [u32v c] H fun r H' => H' = H ∧ r = .str (fourB c) := by
 refine Tells.vals (c := _) Tryz.func99 rfl (args' := [u32v c]) (m := 15) rfl rfl rfl rfl rfl ?_
 (repeat(first|with_reducible refine jZ ?_|(with_reducible apply jW;refine jX (by first|(simp only [j0,jU];rfl)|rfl) ?_)|with_reducible apply jE|with_reducible refine jP (by decide) ?_|(with_reducible apply jQ;first|refine kR rfl rfl ?_|refine kT rfl rfl ?_)|((first|((with_reducible apply kv);rfl)|((with_reducible apply ky);rfl;rfl)|((with_reducible apply kz);rfl;rfl)|((with_reducible apply kl);rfl;assumption;rfl;(first|assumption|rfl)));refine jT (by first|(simp only [j0,jU];rfl)|rfl) ?_)))
 refine jb rfl rfl (shrN_run _ _ _ .u32 _ (n := 24) (by decide)) rfl ?_
 (repeat(first|with_reducible refine jZ ?_|(with_reducible apply jW;refine jX (by first|(simp only [j0,jU];rfl)|rfl) ?_)|with_reducible apply jE|with_reducible refine jP (by decide) ?_|(with_reducible apply jQ;first|refine kR rfl rfl ?_|refine kT rfl rfl ?_)|((first|((with_reducible apply kv);rfl)|((with_reducible apply ky);rfl;rfl)|((with_reducible apply kz);rfl;rfl)|((with_reducible apply kl);rfl;assumption;rfl;(first|assumption|rfl)));refine jT (by first|(simp only [j0,jU];rfl)|rfl) ?_)))
 rw [wrap8]
 (repeat(first|with_reducible refine jZ ?_|(with_reducible apply jW;refine jX (by first|(simp only [j0,jU];rfl)|rfl) ?_)|with_reducible apply jE|with_reducible refine jP (by decide) ?_|(with_reducible apply jQ;first|refine kR rfl rfl ?_|refine kT rfl rfl ?_)|((first|((with_reducible apply kv);rfl)|((with_reducible apply ky);rfl;rfl)|((with_reducible apply kz);rfl;rfl)|((with_reducible apply kl);rfl;assumption;rfl;(first|assumption|rfl)));refine jT (by first|(simp only [j0,jU];rfl)|rfl) ?_)))
 refine jb rfl rfl (shrN_run _ _ _ .u32 _ (n := 16) (by decide)) rfl ?_
 (repeat(first|with_reducible refine jZ ?_|(with_reducible apply jW;refine jX (by first|(simp only [j0,jU];rfl)|rfl) ?_)|with_reducible apply jE|with_reducible refine jP (by decide) ?_|(with_reducible apply jQ;first|refine kR rfl rfl ?_|refine kT rfl rfl ?_)|((first|((with_reducible apply kv);rfl)|((with_reducible apply ky);rfl;rfl)|((with_reducible apply kz);rfl;rfl)|((with_reducible apply kl);rfl;assumption;rfl;(first|assumption|rfl)));refine jT (by first|(simp only [j0,jU];rfl)|rfl) ?_)))
 rw [wrap8 (c / 2 ^ 16)]
 (repeat(first|with_reducible refine jZ ?_|(with_reducible apply jW;refine jX (by first|(simp only [j0,jU];rfl)|rfl) ?_)|with_reducible apply jE|with_reducible refine jP (by decide) ?_|(with_reducible apply jQ;first|refine kR rfl rfl ?_|refine kT rfl rfl ?_)|((first|((with_reducible apply kv);rfl)|((with_reducible apply ky);rfl;rfl)|((with_reducible apply kz);rfl;rfl)|((with_reducible apply kl);rfl;assumption;rfl;(first|assumption|rfl)));refine jT (by first|(simp only [j0,jU];rfl)|rfl) ?_)))
 refine jb rfl rfl (shrN_run _ _ _ .u32 _ (n := 8) (by decide)) rfl ?_
 (repeat(first|with_reducible refine jZ ?_|(with_reducible apply jW;refine jX (by first|(simp only [j0,jU];rfl)|rfl) ?_)|with_reducible apply jE|with_reducible refine jP (by decide) ?_|(with_reducible apply jQ;first|refine kR rfl rfl ?_|refine kT rfl rfl ?_)|((first|((with_reducible apply kv);rfl)|((with_reducible apply ky);rfl;rfl)|((with_reducible apply kz);rfl;rfl)|((with_reducible apply kl);rfl;assumption;rfl;(first|assumption|rfl)));refine jT (by first|(simp only [j0,jU];rfl)|rfl) ?_)))
 rw [wrap8 (c / 2 ^ 8), wrap8 c, u8v_mod, u8v_mod, u8v_mod, u8v_mod]
 refine kbs rfl (four_build _ _ _ _ _ _ _ _ rfl) ?_
 refine kcs rfl rfl rfl rfl ?_
 (repeat(first|with_reducible refine jZ ?_|(with_reducible apply jW;refine jX (by first|(simp only [j0,jU];rfl)|rfl) ?_)|with_reducible apply jE|with_reducible refine jP (by decide) ?_|(with_reducible apply jQ;first|refine kR rfl rfl ?_|refine kT rfl rfl ?_)|((first|((with_reducible apply kv);rfl)|((with_reducible apply ky);rfl;rfl)|((with_reducible apply kz);rfl;rfl)|((with_reducible apply kl);rfl;assumption;rfl;(first|assumption|rfl)));refine jT (by first|(simp only [j0,jU];rfl)|rfl) ?_)))
 exact EndQ.ret rfl ⟨_, rfl, rfl, rfl, rfl⟩
theorem wrapS {n : Nat} (h : n < 9223372036854775807) : IntKind.i64.wrap ((n : Int) + 1) = ((n + 1 : Nat) : Int) := by rw [IntKind.wrap_i64]; omega
/-! The check. -/
theorem crcGo_drop {s : Bs} {i c : Nat} (h : i < s.length) : crcGo c (s.drop i) = crcGo (crcBits 8 (c ^^^ s[i].toNat)) (s.drop (i + 1)) := by
 rw [List.drop_eq_getElem_cons h]; rfl
theorem crc0 {b : Nat} (h : b % 2 = 0) : (b / 2 ^ 1) ^^^ (3988292384 &&& 0) = crcBit b := by unfold crcBit; rw [h]; rfl
theorem crc1 {b : Nat} (h : b % 2 = 1) : (b / 2 ^ 1) ^^^ (3988292384 &&& 4294967295) = crcBit b := by unfold crcBit; rw [h]; rfl
theorem not32 {c : Nat} (h : c < 2 ^ 32) : pureRun Kk.P (Op.unary .xor (.int .u32 (c : Nat))) = some (.int .u32 ((c ^^^ 4294967295 : Nat) : Int)) := by
 show some (Value.int .u32 (IntKind.u32.wrap ((BitVec.ofInt IntKind.u32.bits ((4294967295 : Nat) : Int) ^^^ BitVec.ofInt IntKind.u32.bits (c : Int)).toNat : Nat))) = _
 rw [BitVec.toNat_xor, ofIntW_nat (w := IntKind.u32.bits) (by decide), ofIntW_nat (w := IntKind.u32.bits) h, Nat.xor_comm, wrap_u .u32 rfl (Nat.xor_lt_two_pow h (by decide))]
theorem check_tells' (s : Bs) (hl : s.length < 4294967281) (H : List AB) : Tells Kk 96 [.str s] H fun r H' => H' = H ∧ r = u32v (checkP s) := by
 refine Tells.vals (c := _) Tryz.func96 rfl (args' := [.str s]) (m := 28) rfl rfl rfl rfl rfl ?_
 (repeat(first|with_reducible refine jZ ?_|(with_reducible apply jW;refine jX (by first|(simp only [j0,jU];rfl)|rfl) ?_)|with_reducible refine jP (by decide) ?_|(with_reducible apply jQ;first|refine kR rfl rfl ?_|refine kT rfl rfl ?_)|((first|((with_reducible apply kv);rfl)|((with_reducible apply ky);rfl;rfl)|((with_reducible apply kz);rfl;rfl)|((with_reducible apply kl);rfl;assumption;rfl;(first|assumption|rfl)));refine jT (by first|(simp only [j0,jU];rfl)|rfl) ?_)))
 refine Wc.mid (fun st => ∃ d : Nat → AV, st.regs = (d 0 :: d 1 :: d 2 :: u32v (crcGo 4294967295 s) :: d 4 :: d 5 :: d 6 :: d 7 :: d 8 :: d 9 :: d 10 :: d 11 :: d 12 :: d 13 :: d 14 :: d 15 :: d 16 :: d 17 :: d 18 :: d 19 :: d 20 :: d 21 :: d 22 :: d 23 :: d 24 :: d 25 :: d 26 :: d 27 :: d 28 :: [])) ?_ ?_
 ·refine Wc.block ?_
  refine Wc.inv (fun m st => ∃ (i c : Nat), m = s.length - i ∧ i ≤ s.length ∧ c < 2 ^ 32 ∧ crcGo c (s.drop i) = crcGo 4294967295 s ∧ ∃ d : Nat → AV, st.regs = (.str s :: d 1 :: d 2 :: u32v c :: d 4 :: d 5 :: i64v s.length :: i64v i :: d 8 :: d 9 :: d 10 :: d 11 :: d 12 :: d 13 :: d 14 :: d 15 :: d 16 :: d 17 :: d 18 :: d 19 :: d 20 :: d 21 :: d 22 :: d 23 :: d 24 :: d 25 :: d 26 :: d 27 :: d 28 :: [])) s.length ?_ ?_
  ·exact ⟨0, 4294967295, by omega, by omega, by decide, rfl, dead_of rfl⟩
  ·rintro m regs own H1 ⟨i, c, rfl, hi, hc, hcr, d, rfl⟩
   (repeat(first|with_reducible refine jZ ?_|(with_reducible apply jW;refine jX (by first|(simp only [j0,jU];rfl)|rfl) ?_)|with_reducible apply jE|with_reducible refine jP (by decide) ?_|(with_reducible apply jQ;first|refine kR rfl rfl ?_|refine kT rfl rfl ?_)|((first|((with_reducible apply kv);rfl)|((with_reducible apply ky);rfl;rfl)|((with_reducible apply kz);rfl;rfl)|((with_reducible apply kl);rfl;assumption;rfl;(first|assumption|rfl)));refine jT (by first|(simp only [j0,jU];rfl)|rfl) ?_)))
   by_cases hlt : i < s.length
   ·rw [show decide ((i : Int) < (s.length : Int)) = true from decide_eq_true (by omega)]
    rw [crcGo_drop hlt] at hcr
    (repeat(first|with_reducible refine jZ ?_|(with_reducible apply jW;refine jX (by first|(simp only [j0,jU];rfl)|rfl) ?_)|with_reducible apply jE|with_reducible refine jP (by decide) ?_|(with_reducible apply jQ;first|refine kR rfl rfl ?_|refine kT rfl rfl ?_)|((first|((with_reducible apply kv);rfl)|((with_reducible apply ky);rfl;rfl)|((with_reducible apply kz);rfl;rfl)|((with_reducible apply kl);rfl;assumption;rfl;(first|assumption|rfl)));refine jT (by first|(simp only [j0,jU];rfl)|rfl) ?_)))
    refine ki (j := i) rfl rfl rfl rfl hlt ?_
    (repeat(first|with_reducible refine jZ ?_|(with_reducible apply jW;refine jX (by first|(simp only [j0,jU];rfl)|rfl) ?_)|with_reducible apply jE|with_reducible refine jP (by decide) ?_|(with_reducible apply jQ;first|refine kR rfl rfl ?_|refine kT rfl rfl ?_)|((first|((with_reducible apply kv);rfl)|((with_reducible apply ky);rfl;rfl)|((with_reducible apply kz);rfl;rfl)|((with_reducible apply kl);rfl;assumption;rfl;(first|assumption|rfl)));refine jT (by first|(simp only [j0,jU];rfl)|rfl) ?_)))
    rw [wrap_u .u32 rfl (by have := s[i].toNat_lt; show _ < 2 ^ 32; omega)]
    refine jb rfl rfl (xor_run _ _ _ .u32 rfl hc (u8_lt32 _)) rfl ?_
    (repeat(first|with_reducible refine jZ ?_|(with_reducible apply jW;refine jX (by first|(simp only [j0,jU];rfl)|rfl) ?_)|with_reducible refine jP (by decide) ?_|(with_reducible apply jQ;first|refine kR rfl rfl ?_|refine kT rfl rfl ?_)|((first|((with_reducible apply kv);rfl)|((with_reducible apply ky);rfl;rfl)|((with_reducible apply kz);rfl;rfl)|((with_reducible apply kl);rfl;assumption;rfl;(first|assumption|rfl)));refine jT (by first|(simp only [j0,jU];rfl)|rfl) ?_)))
    refine Wc.midQ (fun st => ∃ d : Nat → AV, st.regs = (.str s :: d 1 :: d 2 :: u32v (crcBits 8 (c ^^^ s[i].toNat)) :: d 4 :: d 5 :: i64v s.length :: i64v i :: d 8 :: d 9 :: d 10 :: d 11 :: d 12 :: d 13 :: d 14 :: d 15 :: d 16 :: d 17 :: d 18 :: d 19 :: d 20 :: d 21 :: d 22 :: d 23 :: d 24 :: d 25 :: d 26 :: d 27 :: d 28 :: [])) ?_ ?_
    ·refine Wc.block ?_
     refine Wc.inv (fun m st => ∃ (j b : Nat), m = 8 - j ∧ j ≤ 8 ∧ b < 2 ^ 32 ∧ crcBits (8 - j) b = crcBits 8 (c ^^^ s[i].toNat) ∧ ∃ d : Nat → AV, st.regs = (.str s :: d 1 :: d 2 :: u32v b :: d 4 :: d 5 :: i64v s.length :: i64v i :: d 8 :: d 9 :: d 10 :: d 11 :: d 12 :: d 13 :: d 14 :: d 15 :: i64v j :: d 17 :: d 18 :: d 19 :: d 20 :: d 21 :: d 22 :: d 23 :: d 24 :: d 25 :: d 26 :: d 27 :: d 28 :: [])) 8 ?_ ?_
     ·exact ⟨0, _, by omega, by omega, Nat.xor_lt_two_pow hc (u8_lt32 _), rfl, dead_of rfl⟩
     ·rintro m regs own2 H2 ⟨j, b, rfl, hj, hb, hbr, d, rfl⟩
      (repeat(first|with_reducible refine jZ ?_|(with_reducible apply jW;refine jX (by first|(simp only [j0,jU];rfl)|rfl) ?_)|with_reducible apply jE|with_reducible refine jP (by decide) ?_|(with_reducible apply jQ;first|refine kR rfl rfl ?_|refine kT rfl rfl ?_)|((first|((with_reducible apply kv);rfl)|((with_reducible apply ky);rfl;rfl)|((with_reducible apply kz);rfl;rfl)|((with_reducible apply kl);rfl;assumption;rfl;(first|assumption|rfl)));refine jT (by first|(simp only [j0,jU];rfl)|rfl) ?_)))
      by_cases hj8 : j < 8
      ·rw [show decide ((j : Int) < 8) = true from decide_eq_true (by omega)]
       rw [show 8 - j = (7 - j) + 1 by omega] at hbr
       (repeat(first|with_reducible refine jZ ?_|(with_reducible apply jW;refine jX (by first|(simp only [j0,jU];rfl)|rfl) ?_)|with_reducible apply jE|with_reducible refine jP (by decide) ?_|(with_reducible apply jQ;first|refine kR rfl rfl ?_|refine kT rfl rfl ?_)|((first|((with_reducible apply kv);rfl)|((with_reducible apply ky);rfl;rfl)|((with_reducible apply kz);rfl;rfl)|((with_reducible apply kl);rfl;assumption;rfl;(first|assumption|rfl)));refine jT (by first|(simp only [j0,jU];rfl)|rfl) ?_)))
       refine jb rfl rfl (shrN_run _ _ _ .u32 _ (n := 1) (by decide)) rfl ?_
       (repeat(first|with_reducible refine jZ ?_|(with_reducible apply jW;refine jX (by first|(simp only [j0,jU];rfl)|rfl) ?_)|with_reducible apply jE|with_reducible refine jP (by decide) ?_|(with_reducible apply jQ;first|refine kR rfl rfl ?_|refine kT rfl rfl ?_)|((first|((with_reducible apply kv);rfl)|((with_reducible apply ky);rfl;rfl)|((with_reducible apply kz);rfl;rfl)|((with_reducible apply kl);rfl;assumption;rfl;(first|assumption|rfl)));refine jT (by first|(simp only [j0,jU];rfl)|rfl) ?_)))
       refine jb rfl rfl (and_run _ _ _ .u32 (b := 1) rfl hb (by decide)) rfl ?_
       rw [Nat.and_one_is_mod]
       rcases Nat.mod_two_eq_zero_or_one b with h | h <;> rw [h]
       ·refine ju (r := .int .u32 ((0 : Nat) : Int)) rfl rfl rfl ?_
        refine jb rfl rfl (and_run _ _ _ .u32 (a := 3988292384) (b := 0) rfl (by decide) (by decide)) rfl ?_
        refine jb rfl rfl (xor_run _ _ _ .u32 (a := b / 2 ^ 1) (b := 3988292384 &&& 0) rfl (by show b / 2 ^ 1 < 2 ^ 32; omega) (by decide)) rfl ?_
        rw [crc0 h]
        (repeat(first|with_reducible refine jZ ?_|(with_reducible apply jW;refine jX (by first|(simp only [j0,jU];rfl)|rfl) ?_)|with_reducible apply jE|with_reducible refine jP (by decide) ?_|(with_reducible apply jQ;first|refine kR rfl rfl ?_|refine kT rfl rfl ?_)|((first|((with_reducible apply kv);rfl)|((with_reducible apply ky);rfl;rfl)|((with_reducible apply kz);rfl;rfl)|((with_reducible apply kl);rfl;assumption;rfl;(first|assumption|rfl)));refine jT (by first|(simp only [j0,jU];rfl)|rfl) ?_)))
        rw [wrapS (n := j) (by omega)]
        (repeat(first|with_reducible refine jZ ?_|(with_reducible apply jW;refine jX (by first|(simp only [j0,jU];rfl)|rfl) ?_)|with_reducible apply jE|with_reducible refine jP (by decide) ?_|(with_reducible apply jQ;first|refine kR rfl rfl ?_|refine kT rfl rfl ?_)|((first|((with_reducible apply kv);rfl)|((with_reducible apply ky);rfl;rfl)|((with_reducible apply kz);rfl;rfl)|((with_reducible apply kl);rfl;assumption;rfl;(first|assumption|rfl)));refine jT (by first|(simp only [j0,jU];rfl)|rfl) ?_)))
        exact LoopQ.normal (8 - (j + 1)) (by omega) ⟨j + 1, crcBit b, rfl, by omega, crcBit_lt hb, by rw [← hbr, show 8 - (j + 1) = 7 - j by omega]; rfl, dead_of rfl⟩
       ·refine ju (r := .int .u32 ((4294967295 : Nat) : Int)) rfl rfl rfl ?_
        refine jb rfl rfl (and_run _ _ _ .u32 (a := 3988292384) (b := 4294967295) rfl (by decide) (by decide)) rfl ?_
        refine jb rfl rfl (xor_run _ _ _ .u32 (a := b / 2 ^ 1) (b := 3988292384 &&& 4294967295) rfl (by show b / 2 ^ 1 < 2 ^ 32; omega) (by decide)) rfl ?_
        rw [crc1 h]
        (repeat(first|with_reducible refine jZ ?_|(with_reducible apply jW;refine jX (by first|(simp only [j0,jU];rfl)|rfl) ?_)|with_reducible apply jE|with_reducible refine jP (by decide) ?_|(with_reducible apply jQ;first|refine kR rfl rfl ?_|refine kT rfl rfl ?_)|((first|((with_reducible apply kv);rfl)|((with_reducible apply ky);rfl;rfl)|((with_reducible apply kz);rfl;rfl)|((with_reducible apply kl);rfl;assumption;rfl;(first|assumption|rfl)));refine jT (by first|(simp only [j0,jU];rfl)|rfl) ?_)))
        rw [wrapS (n := j) (by omega)]
        (repeat(first|with_reducible refine jZ ?_|(with_reducible apply jW;refine jX (by first|(simp only [j0,jU];rfl)|rfl) ?_)|with_reducible apply jE|with_reducible refine jP (by decide) ?_|(with_reducible apply jQ;first|refine kR rfl rfl ?_|refine kT rfl rfl ?_)|((first|((with_reducible apply kv);rfl)|((with_reducible apply ky);rfl;rfl)|((with_reducible apply kz);rfl;rfl)|((with_reducible apply kl);rfl;assumption;rfl;(first|assumption|rfl)));refine jT (by first|(simp only [j0,jU];rfl)|rfl) ?_)))
        exact LoopQ.normal (8 - (j + 1)) (by omega) ⟨j + 1, crcBit b, rfl, by omega, crcBit_lt hb, by rw [← hbr, show 8 - (j + 1) = 7 - j by omega]; rfl, dead_of rfl⟩
      ·obtain rfl : j = 8 := by omega
       (repeat(first|with_reducible refine jZ ?_|(with_reducible apply jW;refine jX (by first|(simp only [j0,jU];rfl)|rfl) ?_)|with_reducible apply jE|with_reducible refine jP (by decide) ?_|(with_reducible apply jQ;first|refine kR rfl rfl ?_|refine kT rfl rfl ?_)|((first|((with_reducible apply kv);rfl)|((with_reducible apply ky);rfl;rfl)|((with_reducible apply kz);rfl;rfl)|((with_reducible apply kl);rfl;assumption;rfl;(first|assumption|rfl)));refine jT (by first|(simp only [j0,jU];rfl)|rfl) ?_)))
       have hb8 : b = crcBits 8 (c ^^^ s[i].toNat) := hbr
       rw [← hb8]
       exact ⟨rfl, dead_of rfl⟩
    ·rintro regs own2 H2 ⟨d, rfl⟩
     (repeat(first|with_reducible refine jZ ?_|(with_reducible apply jW;refine jX (by first|(simp only [j0,jU];rfl)|rfl) ?_)|with_reducible apply jE|with_reducible refine jP (by decide) ?_|(with_reducible apply jQ;first|refine kR rfl rfl ?_|refine kT rfl rfl ?_)|((first|((with_reducible apply kv);rfl)|((with_reducible apply ky);rfl;rfl)|((with_reducible apply kz);rfl;rfl)|((with_reducible apply kl);rfl;assumption;rfl;(first|assumption|rfl)));refine jT (by first|(simp only [j0,jU];rfl)|rfl) ?_)))
     rw [wrapS (n := i) (by omega)]
     (repeat(first|with_reducible refine jZ ?_|(with_reducible apply jW;refine jX (by first|(simp only [j0,jU];rfl)|rfl) ?_)|with_reducible apply jE|with_reducible refine jP (by decide) ?_|(with_reducible apply jQ;first|refine kR rfl rfl ?_|refine kT rfl rfl ?_)|((first|((with_reducible apply kv);rfl)|((with_reducible apply ky);rfl;rfl)|((with_reducible apply kz);rfl;rfl)|((with_reducible apply kl);rfl;assumption;rfl;(first|assumption|rfl)));refine jT (by first|(simp only [j0,jU];rfl)|rfl) ?_)))
     exact LoopQ.normal (s.length - (i + 1)) (by omega) ⟨i + 1, _, rfl, by omega, crcBits_lt 8 (Nat.xor_lt_two_pow hc (u8_lt32 _)), hcr, dead_of rfl⟩
   ·obtain rfl : i = s.length := by omega
    rw [List.drop_length] at hcr
    rw [show decide ((s.length : Int) < (s.length : Int)) = false by simp]
    (repeat(first|with_reducible refine jZ ?_|(with_reducible apply jW;refine jX (by first|(simp only [j0,jU];rfl)|rfl) ?_)|with_reducible apply jE|with_reducible refine jP (by decide) ?_|(with_reducible apply jQ;first|refine kR rfl rfl ?_|refine kT rfl rfl ?_)|((first|((with_reducible apply kv);rfl)|((with_reducible apply ky);rfl;rfl)|((with_reducible apply kz);rfl;rfl)|((with_reducible apply kl);rfl;assumption;rfl;(first|assumption|rfl)));refine jT (by first|(simp only [j0,jU];rfl)|rfl) ?_)))
    have hcr' : c = crcGo 4294967295 s := hcr
    rw [← hcr']
    exact ⟨rfl, dead_of rfl⟩
 ·rintro regs own H1 ⟨d, rfl⟩
  (repeat(first|with_reducible refine jZ ?_|(with_reducible apply jW;refine jX (by first|(simp only [j0,jU];rfl)|rfl) ?_)|with_reducible apply jE|with_reducible refine jP (by decide) ?_|(with_reducible apply jQ;first|refine kR rfl rfl ?_|refine kT rfl rfl ?_)|((first|((with_reducible apply kv);rfl)|((with_reducible apply ky);rfl;rfl)|((with_reducible apply kz);rfl;rfl)|((with_reducible apply kl);rfl;assumption;rfl;(first|assumption|rfl)));refine jT (by first|(simp only [j0,jU];rfl)|rfl) ?_)))
  refine ju rfl (not32 (c := crcGo 4294967295 s) (crcGo_lt s (by decide))) rfl ?_
  (repeat(first|with_reducible refine jZ ?_|(with_reducible apply jW;refine jX (by first|(simp only [j0,jU];rfl)|rfl) ?_)|with_reducible apply jE|with_reducible refine jP (by decide) ?_|(with_reducible apply jQ;first|refine kR rfl rfl ?_|refine kT rfl rfl ?_)|((first|((with_reducible apply kv);rfl)|((with_reducible apply ky);rfl;rfl)|((with_reducible apply kz);rfl;rfl)|((with_reducible apply kl);rfl;assumption;rfl;(first|assumption|rfl)));refine jT (by first|(simp only [j0,jU];rfl)|rfl) ?_)))
  exact EndQ.ret rfl ⟨_, rfl, rfl, rfl, rfl⟩
theorem check2_tells (s : Bs) (hl : s.length < 4294967281) (H : List AB) : Tells Kk 100 [.str s] H fun r H' => H' = H ∧ r = u32v (checkP s) := by
 refine Tells.vals (c := _) Tryz.func100 rfl (args' := [.str s]) (m := 32) rfl rfl rfl rfl rfl ?_
 (repeat(first|with_reducible refine jZ ?_|(with_reducible apply jW;refine jX (by first|(simp only [j0,jU];rfl)|rfl) ?_)|with_reducible refine jP (by decide) ?_|(with_reducible apply jQ;first|refine kR rfl rfl ?_|refine kT rfl rfl ?_)|((first|((with_reducible apply kv);rfl)|((with_reducible apply ky);rfl;rfl)|((with_reducible apply kz);rfl;rfl)|((with_reducible apply kl);rfl;assumption;rfl;(first|assumption|rfl)));refine jT (by first|(simp only [j0,jU];rfl)|rfl) ?_)))
 refine Wc.mid (fun st => ∃ d : Nat → AV, st.regs = (d 0 :: d 1 :: d 2 :: u32v (crcGo 4294967295 s) :: d 4 :: d 5 :: d 6 :: d 7 :: d 8 :: d 9 :: d 10 :: d 11 :: d 12 :: d 13 :: d 14 :: d 15 :: d 16 :: d 17 :: d 18 :: d 19 :: d 20 :: d 21 :: d 22 :: d 23 :: d 24 :: d 25 :: d 26 :: d 27 :: d 28 :: d 29 :: d 30 :: d 31 :: d 32 :: [])) ?_ ?_
 ·refine Wc.block ?_
  refine Wc.inv (fun m st => ∃ (i c : Nat), m = s.length - i ∧ i ≤ s.length ∧ c < 2 ^ 32 ∧ crcGo c (s.drop i) = crcGo 4294967295 s ∧ ∃ d : Nat → AV, st.regs = (.str s :: d 1 :: d 2 :: u32v c :: i64v i :: d 5 :: d 6 :: d 7 :: d 8 :: d 9 :: d 10 :: d 11 :: d 12 :: d 13 :: d 14 :: d 15 :: d 16 :: d 17 :: d 18 :: d 19 :: d 20 :: d 21 :: d 22 :: d 23 :: d 24 :: d 25 :: d 26 :: d 27 :: d 28 :: d 29 :: d 30 :: d 31 :: d 32 :: [])) s.length ?_ ?_
  ·exact ⟨0, 4294967295, by omega, by omega, by decide, rfl, dead_of rfl⟩
  ·rintro m regs own H1 ⟨i, c, rfl, hi, hc, hcr, d, rfl⟩
   (repeat(first|with_reducible refine jZ ?_|(with_reducible apply jW;refine jX (by first|(simp only [j0,jU];rfl)|rfl) ?_)|with_reducible apply jE|with_reducible refine jP (by decide) ?_|(with_reducible apply jQ;first|refine kR rfl rfl ?_|refine kT rfl rfl ?_)|((first|((with_reducible apply kv);rfl)|((with_reducible apply ky);rfl;rfl)|((with_reducible apply kz);rfl;rfl)|((with_reducible apply kl);rfl;assumption;rfl;(first|assumption|rfl)));refine jT (by first|(simp only [j0,jU];rfl)|rfl) ?_)))
   by_cases hlt : i < s.length
   ·rw [show decide ((i : Int) < (s.length : Int)) = true from decide_eq_true (by omega)]
    rw [crcGo_drop hlt] at hcr
    (repeat(first|with_reducible refine jZ ?_|(with_reducible apply jW;refine jX (by first|(simp only [j0,jU];rfl)|rfl) ?_)|with_reducible apply jE|with_reducible refine jP (by decide) ?_|(with_reducible apply jQ;first|refine kR rfl rfl ?_|refine kT rfl rfl ?_)|((first|((with_reducible apply kv);rfl)|((with_reducible apply ky);rfl;rfl)|((with_reducible apply kz);rfl;rfl)|((with_reducible apply kl);rfl;assumption;rfl;(first|assumption|rfl)));refine jT (by first|(simp only [j0,jU];rfl)|rfl) ?_)))
    refine ki (j := i) rfl rfl rfl rfl hlt ?_
    (repeat(first|with_reducible refine jZ ?_|(with_reducible apply jW;refine jX (by first|(simp only [j0,jU];rfl)|rfl) ?_)|with_reducible apply jE|with_reducible refine jP (by decide) ?_|(with_reducible apply jQ;first|refine kR rfl rfl ?_|refine kT rfl rfl ?_)|((first|((with_reducible apply kv);rfl)|((with_reducible apply ky);rfl;rfl)|((with_reducible apply kz);rfl;rfl)|((with_reducible apply kl);rfl;assumption;rfl;(first|assumption|rfl)));refine jT (by first|(simp only [j0,jU];rfl)|rfl) ?_)))
    rw [wrap_u .u32 rfl (by have := s[i].toNat_lt; show _ < 2 ^ 32; omega)]
    refine jb rfl rfl (xor_run _ _ _ .u32 rfl hc (u8_lt32 _)) rfl ?_
    (repeat(first|with_reducible refine jZ ?_|(with_reducible apply jW;refine jX (by first|(simp only [j0,jU];rfl)|rfl) ?_)|with_reducible refine jP (by decide) ?_|(with_reducible apply jQ;first|refine kR rfl rfl ?_|refine kT rfl rfl ?_)|((first|((with_reducible apply kv);rfl)|((with_reducible apply ky);rfl;rfl)|((with_reducible apply kz);rfl;rfl)|((with_reducible apply kl);rfl;assumption;rfl;(first|assumption|rfl)));refine jT (by first|(simp only [j0,jU];rfl)|rfl) ?_)))
    refine Wc.midQ (fun st => ∃ d : Nat → AV, st.regs = (.str s :: d 1 :: d 2 :: u32v (crcBits 8 (c ^^^ s[i].toNat)) :: i64v i :: d 5 :: d 6 :: d 7 :: d 8 :: d 9 :: d 10 :: d 11 :: d 12 :: d 13 :: d 14 :: d 15 :: d 16 :: d 17 :: d 18 :: d 19 :: d 20 :: d 21 :: d 22 :: d 23 :: d 24 :: d 25 :: d 26 :: d 27 :: d 28 :: d 29 :: d 30 :: d 31 :: d 32 :: [])) ?_ ?_
    ·refine Wc.block ?_
     refine Wc.inv (fun m st => ∃ (j b : Nat), m = 8 - j ∧ j ≤ 8 ∧ b < 2 ^ 32 ∧ crcBits (8 - j) b = crcBits 8 (c ^^^ s[i].toNat) ∧ ∃ d : Nat → AV, st.regs = (.str s :: d 1 :: d 2 :: u32v b :: i64v i :: i64v j :: d 6 :: d 7 :: d 8 :: d 9 :: d 10 :: d 11 :: d 12 :: d 13 :: d 14 :: d 15 :: d 16 :: d 17 :: d 18 :: d 19 :: d 20 :: d 21 :: d 22 :: d 23 :: d 24 :: d 25 :: d 26 :: d 27 :: d 28 :: d 29 :: d 30 :: d 31 :: d 32 :: [])) 8 ?_ ?_
     ·exact ⟨0, _, by omega, by omega, Nat.xor_lt_two_pow hc (u8_lt32 _), rfl, dead_of rfl⟩
     ·rintro m regs own2 H2 ⟨j, b, rfl, hj, hb, hbr, d, rfl⟩
      (repeat(first|with_reducible refine jZ ?_|(with_reducible apply jW;refine jX (by first|(simp only [j0,jU];rfl)|rfl) ?_)|with_reducible apply jE|with_reducible refine jP (by decide) ?_|(with_reducible apply jQ;first|refine kR rfl rfl ?_|refine kT rfl rfl ?_)|((first|((with_reducible apply kv);rfl)|((with_reducible apply ky);rfl;rfl)|((with_reducible apply kz);rfl;rfl)|((with_reducible apply kl);rfl;assumption;rfl;(first|assumption|rfl)));refine jT (by first|(simp only [j0,jU];rfl)|rfl) ?_)))
      by_cases hj8 : j < 8
      ·rw [show decide ((j : Int) < 8) = true from decide_eq_true (by omega)]
       rw [show 8 - j = (7 - j) + 1 by omega] at hbr
       (repeat(first|with_reducible refine jZ ?_|(with_reducible apply jW;refine jX (by first|(simp only [j0,jU];rfl)|rfl) ?_)|with_reducible apply jE|with_reducible refine jP (by decide) ?_|(with_reducible apply jQ;first|refine kR rfl rfl ?_|refine kT rfl rfl ?_)|((first|((with_reducible apply kv);rfl)|((with_reducible apply ky);rfl;rfl)|((with_reducible apply kz);rfl;rfl)|((with_reducible apply kl);rfl;assumption;rfl;(first|assumption|rfl)));refine jT (by first|(simp only [j0,jU];rfl)|rfl) ?_)))
       refine jb rfl rfl (and_run _ _ _ .u32 (b := 1) rfl hb (by decide)) rfl ?_
       rw [Nat.and_one_is_mod]
       (repeat(first|with_reducible refine jZ ?_|(with_reducible apply jW;refine jX (by first|(simp only [j0,jU];rfl)|rfl) ?_)|with_reducible apply jE|with_reducible refine jP (by decide) ?_|(with_reducible apply jQ;first|refine kR rfl rfl ?_|refine kT rfl rfl ?_)|((first|((with_reducible apply kv);rfl)|((with_reducible apply ky);rfl;rfl)|((with_reducible apply kz);rfl;rfl)|((with_reducible apply kl);rfl;assumption;rfl;(first|assumption|rfl)));refine jT (by first|(simp only [j0,jU];rfl)|rfl) ?_)))
       refine jb rfl rfl (shrN_run _ _ _ .u32 _ (n := 1) (by decide)) rfl ?_
       rcases Nat.mod_two_eq_zero_or_one b with h | h <;> rw [h]
       ·(repeat(first|with_reducible refine jZ ?_|(with_reducible apply jW;refine jX (by first|(simp only [j0,jU];rfl)|rfl) ?_)|with_reducible apply jE|with_reducible refine jP (by decide) ?_|(with_reducible apply jQ;first|refine kR rfl rfl ?_|refine kT rfl rfl ?_)|((first|((with_reducible apply kv);rfl)|((with_reducible apply ky);rfl;rfl)|((with_reducible apply kz);rfl;rfl)|((with_reducible apply kl);rfl;assumption;rfl;(first|assumption|rfl)));refine jT (by first|(simp only [j0,jU];rfl)|rfl) ?_)))
        rw [wrapS (n := j) (by omega)]
        have hs : b / 2 ^ 1 = crcBit b := by unfold crcBit; rw [h]; simp
        rw [hs]
        exact LoopQ.normal (8 - (j + 1)) (by omega) ⟨j + 1, crcBit b, rfl, by omega, crcBit_lt hb, by rw [← hbr, show 8 - (j + 1) = 7 - j by omega]; rfl, dead_of rfl⟩
       ·(repeat(first|with_reducible refine jZ ?_|(with_reducible apply jW;refine jX (by first|(simp only [j0,jU];rfl)|rfl) ?_)|with_reducible apply jE|with_reducible refine jP (by decide) ?_|(with_reducible apply jQ;first|refine kR rfl rfl ?_|refine kT rfl rfl ?_)|((first|((with_reducible apply kv);rfl)|((with_reducible apply ky);rfl;rfl)|((with_reducible apply kz);rfl;rfl)|((with_reducible apply kl);rfl;assumption;rfl;(first|assumption|rfl)));refine jT (by first|(simp only [j0,jU];rfl)|rfl) ?_)))
        refine jb rfl rfl (xor_run _ _ _ .u32 (a := b / 2 ^ 1) (b := 3988292384) rfl (by show b / 2 ^ 1 < 2 ^ 32; omega) (by decide)) rfl ?_
        (repeat(first|with_reducible refine jZ ?_|(with_reducible apply jW;refine jX (by first|(simp only [j0,jU];rfl)|rfl) ?_)|with_reducible apply jE|with_reducible refine jP (by decide) ?_|(with_reducible apply jQ;first|refine kR rfl rfl ?_|refine kT rfl rfl ?_)|((first|((with_reducible apply kv);rfl)|((with_reducible apply ky);rfl;rfl)|((with_reducible apply kz);rfl;rfl)|((with_reducible apply kl);rfl;assumption;rfl;(first|assumption|rfl)));refine jT (by first|(simp only [j0,jU];rfl)|rfl) ?_)))
        rw [wrapS (n := j) (by omega)]
        have hs : b / 2 ^ 1 ^^^ 3988292384 = crcBit b := by unfold crcBit; rw [h]; rfl
        rw [hs]
        exact LoopQ.normal (8 - (j + 1)) (by omega) ⟨j + 1, crcBit b, rfl, by omega, crcBit_lt hb, by rw [← hbr, show 8 - (j + 1) = 7 - j by omega]; rfl, dead_of rfl⟩
      ·obtain rfl : j = 8 := by omega
       (repeat(first|with_reducible refine jZ ?_|(with_reducible apply jW;refine jX (by first|(simp only [j0,jU];rfl)|rfl) ?_)|with_reducible apply jE|with_reducible refine jP (by decide) ?_|(with_reducible apply jQ;first|refine kR rfl rfl ?_|refine kT rfl rfl ?_)|((first|((with_reducible apply kv);rfl)|((with_reducible apply ky);rfl;rfl)|((with_reducible apply kz);rfl;rfl)|((with_reducible apply kl);rfl;assumption;rfl;(first|assumption|rfl)));refine jT (by first|(simp only [j0,jU];rfl)|rfl) ?_)))
       have hb8 : b = crcBits 8 (c ^^^ s[i].toNat) := hbr
       rw [← hb8]
       exact ⟨rfl, dead_of rfl⟩
    ·rintro regs own2 H2 ⟨d, rfl⟩
     (repeat(first|with_reducible refine jZ ?_|(with_reducible apply jW;refine jX (by first|(simp only [j0,jU];rfl)|rfl) ?_)|with_reducible apply jE|with_reducible refine jP (by decide) ?_|(with_reducible apply jQ;first|refine kR rfl rfl ?_|refine kT rfl rfl ?_)|((first|((with_reducible apply kv);rfl)|((with_reducible apply ky);rfl;rfl)|((with_reducible apply kz);rfl;rfl)|((with_reducible apply kl);rfl;assumption;rfl;(first|assumption|rfl)));refine jT (by first|(simp only [j0,jU];rfl)|rfl) ?_)))
     rw [wrapS (n := i) (by omega)]
     exact LoopQ.normal (s.length - (i + 1)) (by omega) ⟨i + 1, _, rfl, by omega, crcBits_lt 8 (Nat.xor_lt_two_pow hc (u8_lt32 _)), hcr, dead_of rfl⟩
   ·obtain rfl : i = s.length := by omega
    rw [List.drop_length] at hcr
    rw [show decide ((s.length : Int) < (s.length : Int)) = false by simp]
    (repeat(first|with_reducible refine jZ ?_|(with_reducible apply jW;refine jX (by first|(simp only [j0,jU];rfl)|rfl) ?_)|with_reducible apply jE|with_reducible refine jP (by decide) ?_|(with_reducible apply jQ;first|refine kR rfl rfl ?_|refine kT rfl rfl ?_)|((first|((with_reducible apply kv);rfl)|((with_reducible apply ky);rfl;rfl)|((with_reducible apply kz);rfl;rfl)|((with_reducible apply kl);rfl;assumption;rfl;(first|assumption|rfl)));refine jT (by first|(simp only [j0,jU];rfl)|rfl) ?_)))
    have hcr' : c = crcGo 4294967295 s := hcr
    rw [← hcr']
    exact ⟨rfl, dead_of rfl⟩
 ·rintro regs own H1 ⟨d, rfl⟩
  (repeat(first|with_reducible refine jZ ?_|(with_reducible apply jW;refine jX (by first|(simp only [j0,jU];rfl)|rfl) ?_)|with_reducible apply jE|with_reducible refine jP (by decide) ?_|(with_reducible apply jQ;first|refine kR rfl rfl ?_|refine kT rfl rfl ?_)|((first|((with_reducible apply kv);rfl)|((with_reducible apply ky);rfl;rfl)|((with_reducible apply kz);rfl;rfl)|((with_reducible apply kl);rfl;assumption;rfl;(first|assumption|rfl)));refine jT (by first|(simp only [j0,jU];rfl)|rfl) ?_)))
  refine jb rfl rfl (xor_run _ _ _ .u32 (a := crcGo 4294967295 s) (b := 4294967295) rfl (crcGo_lt s (by decide)) (by decide)) rfl ?_
  (repeat(first|with_reducible refine jZ ?_|(with_reducible apply jW;refine jX (by first|(simp only [j0,jU];rfl)|rfl) ?_)|with_reducible apply jE|with_reducible refine jP (by decide) ?_|(with_reducible apply jQ;first|refine kR rfl rfl ?_|refine kT rfl rfl ?_)|((first|((with_reducible apply kv);rfl)|((with_reducible apply ky);rfl;rfl)|((with_reducible apply kz);rfl;rfl)|((with_reducible apply kl);rfl;assumption;rfl;(first|assumption|rfl)));refine jT (by first|(simp only [j0,jU];rfl)|rfl) ?_)))
  exact EndQ.ret rfl ⟨_, rfl, rfl, rfl, rfl⟩
end Go.Proofs.Ck
