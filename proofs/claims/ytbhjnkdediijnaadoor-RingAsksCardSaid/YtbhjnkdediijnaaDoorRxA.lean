/- RsIx, RsPlain, RsFeed, joined. -/
import Derived.Test.YtbhjnkdediijnaaDoorTmQd
import Derived.Test.YtbhjnkdediijnaaDoorTmSha
import Derived.Test.YtbhjnkdediijnaaDoorProg
set_option linter.unusedVariables false
set_option linter.unusedSimpArgs false
set_option linter.unusedSectionVars false
section
namespace Go.Proofs
open Go.Tm
def toldTrue : List AV → Option AV
 | [] => some (.v (.bool true))
 | _ => none
noncomputable def Kz : Cfg where
 P := Tryd.prog
 gl := fun i => if i == 0 then some (shaK.map cellU) else none
 vals := fun f => !([17, 18, 19, 32, 20, 40, 42, 43, 44, 45, 52, 26, 27, 31, 34, 35, 49].contains f)
 chg := fun f d => (f == 17 && d == 30) || (f == 8 && d == 23) || (f == 9 && d == 23) || (f == 18 && d == 35) || (f == 11 && d == 82) || (f == 35 && d == 25)
 libv := fun f => if f == 4 then some toldTrue else none
 lib := fun f => if f == 49 then some toldFeed else none
theorem u24 : Kz.P.underlying 24 = some (.slice 3) := Tryd.underlying24
theorem u3 : Kz.P.underlying 3 = some (.int .i64) := Tryd.underlying3
theorem ag3 : tAgg Kz.P 3 = some false := by kernel_rfl
theorem sz3 : tSize Kz.P 3 = some 1 := by kernel_rfl
set_option maxRecDepth 100000
def idx (n : Int) : List Int → Nat → Int
 | [], _ => -1
 | x :: r, i => if n = x then i else idx n r (i + 1)
theorem w64 {n : Nat} (h : n < 2 ^ 62) : IntKind.i64.wrap ((n : Int) + 1) = ((n + 1 : Nat) : Int) := by
 simp only [IntKind.wrap, IntKind.bits, IntKind.signed]
 simp
 omega
theorem view0 {H H0 : List AB} {x : AV} {xs : List Int} {r : List AV} (hv : View H x xs) (h : H0 = H ∨ AV.closedL (x :: r) = true) : View H0 x xs := by
 rcases h with rfl | h
 ·exact hv
 ·refine hv.kept ?_ _
  simp only [AV.closedL, Bool.and_eq_true] at h
  exact h.1
set_option maxHeartbeats 2000000 in
theorem index_tells {x : AV} (xs : List Int) (n : Int) (H : List AB) (hv : View H x xs) (hl : xs.length < 2^62) : Tells Kz 33 [x, i64 n] H fun r H' => r = i64 (idx n xs 0) ∧ H' = H := by
 refine Tells.plain (c := _) Tryd.func33 rfl (args' := [x, i64 n]) (m := 17) (by simp only [List.map, hv.unown]; rfl) rfl rfl rfl (fun H0 h0 => ?_)
 have hv := view0 hv h0
 (repeat (first | with_reducible refine Wc.seq ?_ | with_reducible refine Wc.region ?_ | with_reducible refine Wo.nil ?_ | (with_reducible refine SeqQ.id ?_; refine SeqQ.norm (by first | (simp only [setAt, enter, List.replicate, List.cons_append, List.nil_append]; rfl) | rfl) ?_) | with_reducible refine Wc.block ?_ | with_reducible refine Wc.skip ?_ | with_reducible refine Wc.exit ?_ | with_reducible refine Wc.retn ?_ | with_reducible refine SeqQ.exit ?_ | with_reducible refine SeqQ.ret ?_ | with_reducible refine BlkQ.normal ?_ | with_reducible refine BlkQ.ret ?_ | with_reducible refine BlkQ.hit ?_ | with_reducible refine BlkQ.miss (by decide) ?_ | with_reducible refine LoopQ.exit ?_ | with_reducible refine LoopQ.ret ?_ | (with_reducible refine Wo.id ?_; first | refine Wo.doVal rfl rfl (op_move rfl rfl) ?_ | refine Wo.doVal rfl rfl (op_assign rfl rfl) ?_ | refine Wo.doVal rfl rfl (op_bin rfl rfl rfl rfl rfl) ?_ | refine Wo.doVal rfl rfl (op_un rfl rfl rfl rfl) ?_ | refine Wo.doVal rfl rfl (op_len_sl rfl rfl (by first | with_reducible exact u24 | with_reducible exact u3) rfl) ?_ | refine Wo.doVal rfl rfl (op_len_str rfl rfl (by first | with_reducible exact u24 | with_reducible exact u3) rfl) ?_)))
 refine Wo.doVal rfl rfl (op_len_view hv rfl rfl u24 rfl) ?_
 (repeat (first | with_reducible refine Wc.seq ?_ | with_reducible refine Wc.region ?_ | with_reducible refine Wo.nil ?_ | (with_reducible refine SeqQ.id ?_; refine SeqQ.norm (by first | (simp only [setAt, enter, List.replicate, List.cons_append, List.nil_append]; rfl) | rfl) ?_) | with_reducible refine Wc.block ?_ | with_reducible refine Wc.skip ?_ | with_reducible refine Wc.exit ?_ | with_reducible refine Wc.retn ?_ | with_reducible refine SeqQ.exit ?_ | with_reducible refine SeqQ.ret ?_ | with_reducible refine BlkQ.normal ?_ | with_reducible refine BlkQ.ret ?_ | with_reducible refine BlkQ.hit ?_ | with_reducible refine BlkQ.miss (by decide) ?_ | with_reducible refine LoopQ.exit ?_ | with_reducible refine LoopQ.ret ?_ | (with_reducible refine Wo.id ?_; first | refine Wo.doVal rfl rfl (op_move rfl rfl) ?_ | refine Wo.doVal rfl rfl (op_assign rfl rfl) ?_ | refine Wo.doVal rfl rfl (op_bin rfl rfl rfl rfl rfl) ?_ | refine Wo.doVal rfl rfl (op_un rfl rfl rfl rfl) ?_ | refine Wo.doVal rfl rfl (op_len_sl rfl rfl (by first | with_reducible exact u24 | with_reducible exact u3) rfl) ?_ | refine Wo.doVal rfl rfl (op_len_str rfl rfl (by first | with_reducible exact u24 | with_reducible exact u3) rfl) ?_)))
 refine Wc.regs (R' := [x, i64 n, .undef, .undef, i64 0, .undef, x, .v (goInt xs.length), i64 0, .undef, .undef, .undef, .undef, .undef, .undef, .undef, .undef, .undef, .undef]) rfl ?_
 refine Wc.inv (fun m s => ∃ i : Nat, m = xs.length - i ∧ i ≤ xs.length ∧ s.H = H0 ∧ idx n xs 0 = idx n (xs.drop i) i ∧ ∃ d : Nat → AV, s.regs = [x, i64 n, d 2, d 3, i64 0, d 5, d 6, .v (goInt xs.length), i64 i, d 9, d 10, d 11, d 12, d 13, d 14, d 15, d 16, d 17, d 18]) xs.length ?_ ?_
 ·exact ⟨0, by omega, by omega, rfl, by simp, dead_of rfl⟩
 ·rintro m regs own H1 ⟨i, rfl, hi, rfl, hx, d, rfl⟩
  (repeat (first | with_reducible refine Wc.seq ?_ | with_reducible refine Wc.region ?_ | with_reducible refine Wo.nil ?_ | (with_reducible refine SeqQ.id ?_; refine SeqQ.norm (by first | (simp only [setAt, enter, List.replicate, List.cons_append, List.nil_append]; rfl) | rfl) ?_) | with_reducible refine Wc.block ?_ | with_reducible refine Wc.skip ?_ | with_reducible refine Wc.exit ?_ | with_reducible refine Wc.retn ?_ | with_reducible refine SeqQ.exit ?_ | with_reducible refine SeqQ.ret ?_ | with_reducible refine BlkQ.normal ?_ | with_reducible refine BlkQ.ret ?_ | with_reducible refine BlkQ.hit ?_ | with_reducible refine BlkQ.miss (by decide) ?_ | with_reducible refine LoopQ.exit ?_ | with_reducible refine LoopQ.ret ?_ | (with_reducible refine Wo.id ?_; first | refine Wo.doVal rfl rfl (op_move rfl rfl) ?_ | refine Wo.doVal rfl rfl (op_assign rfl rfl) ?_ | refine Wo.doVal rfl rfl (op_bin rfl rfl rfl rfl rfl) ?_ | refine Wo.doVal rfl rfl (op_un rfl rfl rfl rfl) ?_ | refine Wo.doVal rfl rfl (op_len_sl rfl rfl (by first | with_reducible exact u24 | with_reducible exact u3) rfl) ?_ | refine Wo.doVal rfl rfl (op_len_str rfl rfl (by first | with_reducible exact u24 | with_reducible exact u3) rfl) ?_)))
  refine Wc.cond rfl rfl (fun h => ?_) (fun h => ?_)
  ·have hlt : i < xs.length := by simpa [goInt] using h
   (repeat (first | with_reducible refine Wc.seq ?_ | with_reducible refine Wc.region ?_ | with_reducible refine Wo.nil ?_ | (with_reducible refine SeqQ.id ?_; refine SeqQ.norm (by first | (simp only [setAt, enter, List.replicate, List.cons_append, List.nil_append]; rfl) | rfl) ?_) | with_reducible refine Wc.block ?_ | with_reducible refine Wc.skip ?_ | with_reducible refine Wc.exit ?_ | with_reducible refine Wc.retn ?_ | with_reducible refine SeqQ.exit ?_ | with_reducible refine SeqQ.ret ?_ | with_reducible refine BlkQ.normal ?_ | with_reducible refine BlkQ.ret ?_ | with_reducible refine BlkQ.hit ?_ | with_reducible refine BlkQ.miss (by decide) ?_ | with_reducible refine LoopQ.exit ?_ | with_reducible refine LoopQ.ret ?_ | (with_reducible refine Wo.id ?_; first | refine Wo.doVal rfl rfl (op_move rfl rfl) ?_ | refine Wo.doVal rfl rfl (op_assign rfl rfl) ?_ | refine Wo.doVal rfl rfl (op_bin rfl rfl rfl rfl rfl) ?_ | refine Wo.doVal rfl rfl (op_un rfl rfl rfl rfl) ?_ | refine Wo.doVal rfl rfl (op_len_sl rfl rfl (by first | with_reducible exact u24 | with_reducible exact u3) rfl) ?_ | refine Wo.doVal rfl rfl (op_len_str rfl rfl (by first | with_reducible exact u24 | with_reducible exact u3) rfl) ?_)))
   refine Wo.elem rfl hv hlt rfl rfl rfl rfl rfl rfl rfl u24 sz3 ag3 rfl rfl (Nat.le_of_ble_eq_true rfl) (fun a => ?_)
   (repeat (first | with_reducible refine Wc.seq ?_ | with_reducible refine Wc.region ?_ | with_reducible refine Wo.nil ?_ | (with_reducible refine SeqQ.id ?_; refine SeqQ.norm (by first | (simp only [setAt, enter, List.replicate, List.cons_append, List.nil_append]; rfl) | rfl) ?_) | with_reducible refine Wc.block ?_ | with_reducible refine Wc.skip ?_ | with_reducible refine Wc.exit ?_ | with_reducible refine Wc.retn ?_ | with_reducible refine SeqQ.exit ?_ | with_reducible refine SeqQ.ret ?_ | with_reducible refine BlkQ.normal ?_ | with_reducible refine BlkQ.ret ?_ | with_reducible refine BlkQ.hit ?_ | with_reducible refine BlkQ.miss (by decide) ?_ | with_reducible refine LoopQ.exit ?_ | with_reducible refine LoopQ.ret ?_ | (with_reducible refine Wo.id ?_; first | refine Wo.doVal rfl rfl (op_move rfl rfl) ?_ | refine Wo.doVal rfl rfl (op_assign rfl rfl) ?_ | refine Wo.doVal rfl rfl (op_bin rfl rfl rfl rfl rfl) ?_ | refine Wo.doVal rfl rfl (op_un rfl rfl rfl rfl) ?_ | refine Wo.doVal rfl rfl (op_len_sl rfl rfl (by first | with_reducible exact u24 | with_reducible exact u3) rfl) ?_ | refine Wo.doVal rfl rfl (op_len_str rfl rfl (by first | with_reducible exact u24 | with_reducible exact u3) rfl) ?_)))
   refine Wc.cond rfl rfl (fun h => ?_) (fun h => ?_)
   ·(repeat (first | with_reducible refine Wc.seq ?_ | with_reducible refine Wc.region ?_ | with_reducible refine Wo.nil ?_ | (with_reducible refine SeqQ.id ?_; refine SeqQ.norm (by first | (simp only [setAt, enter, List.replicate, List.cons_append, List.nil_append]; rfl) | rfl) ?_) | with_reducible refine Wc.block ?_ | with_reducible refine Wc.skip ?_ | with_reducible refine Wc.exit ?_ | with_reducible refine Wc.retn ?_ | with_reducible refine SeqQ.exit ?_ | with_reducible refine SeqQ.ret ?_ | with_reducible refine BlkQ.normal ?_ | with_reducible refine BlkQ.ret ?_ | with_reducible refine BlkQ.hit ?_ | with_reducible refine BlkQ.miss (by decide) ?_ | with_reducible refine LoopQ.exit ?_ | with_reducible refine LoopQ.ret ?_ | (with_reducible refine Wo.id ?_; first | refine Wo.doVal rfl rfl (op_move rfl rfl) ?_ | refine Wo.doVal rfl rfl (op_assign rfl rfl) ?_ | refine Wo.doVal rfl rfl (op_bin rfl rfl rfl rfl rfl) ?_ | refine Wo.doVal rfl rfl (op_un rfl rfl rfl rfl) ?_ | refine Wo.doVal rfl rfl (op_len_sl rfl rfl (by first | with_reducible exact u24 | with_reducible exact u3) rfl) ?_ | refine Wo.doVal rfl rfl (op_len_str rfl rfl (by first | with_reducible exact u24 | with_reducible exact u3) rfl) ?_)))
    refine EndQ.ret (r := i64 i) rfl ⟨?_, rfl⟩
    rw [hx, List.drop_eq_getElem_cons hlt]
    simp [idx, eq_of_beq h]
   ·(repeat (first | with_reducible refine Wc.seq ?_ | with_reducible refine Wc.region ?_ | with_reducible refine Wo.nil ?_ | (with_reducible refine SeqQ.id ?_; refine SeqQ.norm (by first | (simp only [setAt, enter, List.replicate, List.cons_append, List.nil_append]; rfl) | rfl) ?_) | with_reducible refine Wc.block ?_ | with_reducible refine Wc.skip ?_ | with_reducible refine Wc.exit ?_ | with_reducible refine Wc.retn ?_ | with_reducible refine SeqQ.exit ?_ | with_reducible refine SeqQ.ret ?_ | with_reducible refine BlkQ.normal ?_ | with_reducible refine BlkQ.ret ?_ | with_reducible refine BlkQ.hit ?_ | with_reducible refine BlkQ.miss (by decide) ?_ | with_reducible refine LoopQ.exit ?_ | with_reducible refine LoopQ.ret ?_ | (with_reducible refine Wo.id ?_; first | refine Wo.doVal rfl rfl (op_move rfl rfl) ?_ | refine Wo.doVal rfl rfl (op_assign rfl rfl) ?_ | refine Wo.doVal rfl rfl (op_bin rfl rfl rfl rfl rfl) ?_ | refine Wo.doVal rfl rfl (op_un rfl rfl rfl rfl) ?_ | refine Wo.doVal rfl rfl (op_len_sl rfl rfl (by first | with_reducible exact u24 | with_reducible exact u3) rfl) ?_ | refine Wo.doVal rfl rfl (op_len_str rfl rfl (by first | with_reducible exact u24 | with_reducible exact u3) rfl) ?_)))
    refine LoopQ.normal (xs.length - (i + 1)) (by omega) ⟨i + 1, rfl, by omega, rfl, ?_, dead_of ?_⟩
    ·rw [hx, List.drop_eq_getElem_cons hlt]
     simp [idx, ne_of_beq_false h]
    ·rw [w64 (by omega)]; rfl
  ·(repeat (first | with_reducible refine Wc.seq ?_ | with_reducible refine Wc.region ?_ | with_reducible refine Wo.nil ?_ | (with_reducible refine SeqQ.id ?_; refine SeqQ.norm (by first | (simp only [setAt, enter, List.replicate, List.cons_append, List.nil_append]; rfl) | rfl) ?_) | with_reducible refine Wc.block ?_ | with_reducible refine Wc.skip ?_ | with_reducible refine Wc.exit ?_ | with_reducible refine Wc.retn ?_ | with_reducible refine SeqQ.exit ?_ | with_reducible refine SeqQ.ret ?_ | with_reducible refine BlkQ.normal ?_ | with_reducible refine BlkQ.ret ?_ | with_reducible refine BlkQ.hit ?_ | with_reducible refine BlkQ.miss (by decide) ?_ | with_reducible refine LoopQ.exit ?_ | with_reducible refine LoopQ.ret ?_ | (with_reducible refine Wo.id ?_; first | refine Wo.doVal rfl rfl (op_move rfl rfl) ?_ | refine Wo.doVal rfl rfl (op_assign rfl rfl) ?_ | refine Wo.doVal rfl rfl (op_bin rfl rfl rfl rfl rfl) ?_ | refine Wo.doVal rfl rfl (op_un rfl rfl rfl rfl) ?_ | refine Wo.doVal rfl rfl (op_len_sl rfl rfl (by first | with_reducible exact u24 | with_reducible exact u3) rfl) ?_ | refine Wo.doVal rfl rfl (op_len_str rfl rfl (by first | with_reducible exact u24 | with_reducible exact u3) rfl) ?_)))
   refine EndQ.ret (r := i64 (-1)) rfl ⟨?_, rfl⟩
   have : i = xs.length := by
    have h' : ¬ i < xs.length := by simpa [goInt] using h
    omega
   subst this
   rw [hx]
   simp [idx]
theorem idx_mem (n : Int) : ∀ (l : List Int) (i : Nat), (0 ≤ idx n l i) ↔ n ∈ l
 | [], i => by simp [idx]
 | x :: r, i => by
  unfold idx
  by_cases e : n = x
  ·simp [e]
  ·rw [if_neg e, idx_mem n r (i + 1)]; simp [e]
set_option maxHeartbeats 2000000 in
theorem contains_tells {x : AV} (xs : List Int) (n : Int) (H : List AB) (hv : View H x xs) (hl : xs.length < 2^62) : Tells Kz 21 [x, i64 n] H fun r H' => r = .v (.bool (decide (n ∈ xs))) ∧ H' = H := by
 refine Tells.plain (c := _) Tryd.func21 rfl (args' := [x, i64 n]) (m := 7) (by simp only [List.map, hv.unown]; rfl) rfl rfl rfl (fun H0 h0 => ?_)
 have hv := view0 hv h0
 (repeat (first | with_reducible refine Wc.seq ?_ | with_reducible refine Wc.region ?_ | with_reducible refine Wo.nil ?_ | (with_reducible refine SeqQ.id ?_; refine SeqQ.norm (by first | (simp only [setAt, enter, List.replicate, List.cons_append, List.nil_append]; rfl) | rfl) ?_) | with_reducible refine Wc.block ?_ | with_reducible refine Wc.skip ?_ | with_reducible refine Wc.exit ?_ | with_reducible refine Wc.retn ?_ | with_reducible refine SeqQ.exit ?_ | with_reducible refine SeqQ.ret ?_ | with_reducible refine BlkQ.normal ?_ | with_reducible refine BlkQ.ret ?_ | with_reducible refine BlkQ.hit ?_ | with_reducible refine BlkQ.miss (by decide) ?_ | with_reducible refine LoopQ.exit ?_ | with_reducible refine LoopQ.ret ?_ | (with_reducible refine Wo.id ?_; first | refine Wo.doVal rfl rfl (op_move rfl rfl) ?_ | refine Wo.doVal rfl rfl (op_assign rfl rfl) ?_ | refine Wo.doVal rfl rfl (op_bin rfl rfl rfl rfl rfl) ?_ | refine Wo.doVal rfl rfl (op_un rfl rfl rfl rfl) ?_ | refine Wo.doVal rfl rfl (op_len_sl rfl rfl (by first | with_reducible exact u24 | with_reducible exact u3) rfl) ?_ | refine Wo.doVal rfl rfl (op_len_str rfl rfl (by first | with_reducible exact u24 | with_reducible exact u3) rfl) ?_)))
 refine Wo.doCall rfl rfl (op_call (args := [x, i64 n]) rfl rfl) ?_
 rw [show List.map AV.unown [x, i64 n] = [x, i64 n] by simp only [List.map, hv.unown]; rfl]
 refine (index_tells xs n _ hv hl).mono ?_
 rintro r H' ⟨rfl, rfl⟩
 (repeat (first | with_reducible refine Wc.seq ?_ | with_reducible refine Wc.region ?_ | with_reducible refine Wo.nil ?_ | (with_reducible refine SeqQ.id ?_; refine SeqQ.norm (by first | (simp only [setAt, enter, List.replicate, List.cons_append, List.nil_append]; rfl) | rfl) ?_) | with_reducible refine Wc.block ?_ | with_reducible refine Wc.skip ?_ | with_reducible refine Wc.exit ?_ | with_reducible refine Wc.retn ?_ | with_reducible refine SeqQ.exit ?_ | with_reducible refine SeqQ.ret ?_ | with_reducible refine BlkQ.normal ?_ | with_reducible refine BlkQ.ret ?_ | with_reducible refine BlkQ.hit ?_ | with_reducible refine BlkQ.miss (by decide) ?_ | with_reducible refine LoopQ.exit ?_ | with_reducible refine LoopQ.ret ?_ | (with_reducible refine Wo.id ?_; first | refine Wo.doVal rfl rfl (op_move rfl rfl) ?_ | refine Wo.doVal rfl rfl (op_assign rfl rfl) ?_ | refine Wo.doVal rfl rfl (op_bin rfl rfl rfl rfl rfl) ?_ | refine Wo.doVal rfl rfl (op_un rfl rfl rfl rfl) ?_ | refine Wo.doVal rfl rfl (op_len_sl rfl rfl (by first | with_reducible exact u24 | with_reducible exact u3) rfl) ?_ | refine Wo.doVal rfl rfl (op_len_str rfl rfl (by first | with_reducible exact u24 | with_reducible exact u3) rfl) ?_)))
 refine EndQ.ret (r := .v (.bool (decide (idx n xs 0 ≥ 0)))) rfl ⟨?_, rfl⟩
 simp [idx_mem]
set_option maxHeartbeats 2000000 in
theorem in_tells {x : AV} (xs : List Int) (n : Int) (H : List AB) (hv : View H x xs) (hl : xs.length < 2^62) : Tells Kz 22 [x, i64 n] H fun r H' => r = .v (.bool (decide (n ∈ xs))) ∧ H' = H := by
 refine Tells.plain (c := _) Tryd.func22 rfl (args' := [x, i64 n]) (m := 16) (by simp only [List.map, hv.unown]; rfl) rfl rfl rfl (fun H0 h0 => ?_)
 have hv := view0 hv h0
 (repeat (first | with_reducible refine Wc.seq ?_ | with_reducible refine Wc.region ?_ | with_reducible refine Wo.nil ?_ | (with_reducible refine SeqQ.id ?_; refine SeqQ.norm (by first | (simp only [setAt, enter, List.replicate, List.cons_append, List.nil_append]; rfl) | rfl) ?_) | with_reducible refine Wc.block ?_ | with_reducible refine Wc.skip ?_ | with_reducible refine Wc.exit ?_ | with_reducible refine Wc.retn ?_ | with_reducible refine SeqQ.exit ?_ | with_reducible refine SeqQ.ret ?_ | with_reducible refine BlkQ.normal ?_ | with_reducible refine BlkQ.ret ?_ | with_reducible refine BlkQ.hit ?_ | with_reducible refine BlkQ.miss (by decide) ?_ | with_reducible refine LoopQ.exit ?_ | with_reducible refine LoopQ.ret ?_ | (with_reducible refine Wo.id ?_; first | refine Wo.doVal rfl rfl (op_move rfl rfl) ?_ | refine Wo.doVal rfl rfl (op_assign rfl rfl) ?_ | refine Wo.doVal rfl rfl (op_bin rfl rfl rfl rfl rfl) ?_ | refine Wo.doVal rfl rfl (op_un rfl rfl rfl rfl) ?_ | refine Wo.doVal rfl rfl (op_len_sl rfl rfl (by first | with_reducible exact u24 | with_reducible exact u3) rfl) ?_ | refine Wo.doVal rfl rfl (op_len_str rfl rfl (by first | with_reducible exact u24 | with_reducible exact u3) rfl) ?_)))
 refine Wc.regs (R' := [x, i64 n, .undef, .undef, .v (.bool false), i64 0, .undef, .undef, .undef, .undef, .undef, .undef, .undef, .undef, .undef, .undef, .undef, .undef]) rfl ?_
 refine Wc.inv (fun m s => ∃ i : Nat, m = xs.length - i ∧ i ≤ xs.length ∧ s.H = H0 ∧ decide (n ∈ xs) = decide (n ∈ xs.drop i) ∧ ∃ d : Nat → AV, s.regs = [x, i64 n, d 2, d 3, d 4, i64 i, d 6, d 7, d 8, d 9, d 10, d 11, d 12, d 13, d 14, d 15, d 16, d 17]) xs.length ?_ ?_
 ·exact ⟨0, by omega, by omega, rfl, by simp, dead_of rfl⟩
 ·rintro m regs own H1 ⟨i, rfl, hi, rfl, hx, d, rfl⟩
  (repeat (first | with_reducible refine Wc.seq ?_ | with_reducible refine Wc.region ?_ | with_reducible refine Wo.nil ?_ | (with_reducible refine SeqQ.id ?_; refine SeqQ.norm (by first | (simp only [setAt, enter, List.replicate, List.cons_append, List.nil_append]; rfl) | rfl) ?_) | with_reducible refine Wc.block ?_ | with_reducible refine Wc.skip ?_ | with_reducible refine Wc.exit ?_ | with_reducible refine Wc.retn ?_ | with_reducible refine SeqQ.exit ?_ | with_reducible refine SeqQ.ret ?_ | with_reducible refine BlkQ.normal ?_ | with_reducible refine BlkQ.ret ?_ | with_reducible refine BlkQ.hit ?_ | with_reducible refine BlkQ.miss (by decide) ?_ | with_reducible refine LoopQ.exit ?_ | with_reducible refine LoopQ.ret ?_ | (with_reducible refine Wo.id ?_; first | refine Wo.doVal rfl rfl (op_move rfl rfl) ?_ | refine Wo.doVal rfl rfl (op_assign rfl rfl) ?_ | refine Wo.doVal rfl rfl (op_bin rfl rfl rfl rfl rfl) ?_ | refine Wo.doVal rfl rfl (op_un rfl rfl rfl rfl) ?_ | refine Wo.doVal rfl rfl (op_len_sl rfl rfl (by first | with_reducible exact u24 | with_reducible exact u3) rfl) ?_ | refine Wo.doVal rfl rfl (op_len_str rfl rfl (by first | with_reducible exact u24 | with_reducible exact u3) rfl) ?_)))
  refine Wo.doVal rfl rfl (op_len_view hv rfl rfl u24 rfl) ?_
  (repeat (first | with_reducible refine Wc.seq ?_ | with_reducible refine Wc.region ?_ | with_reducible refine Wo.nil ?_ | (with_reducible refine SeqQ.id ?_; refine SeqQ.norm (by first | (simp only [setAt, enter, List.replicate, List.cons_append, List.nil_append]; rfl) | rfl) ?_) | with_reducible refine Wc.block ?_ | with_reducible refine Wc.skip ?_ | with_reducible refine Wc.exit ?_ | with_reducible refine Wc.retn ?_ | with_reducible refine SeqQ.exit ?_ | with_reducible refine SeqQ.ret ?_ | with_reducible refine BlkQ.normal ?_ | with_reducible refine BlkQ.ret ?_ | with_reducible refine BlkQ.hit ?_ | with_reducible refine BlkQ.miss (by decide) ?_ | with_reducible refine LoopQ.exit ?_ | with_reducible refine LoopQ.ret ?_ | (with_reducible refine Wo.id ?_; first | refine Wo.doVal rfl rfl (op_move rfl rfl) ?_ | refine Wo.doVal rfl rfl (op_assign rfl rfl) ?_ | refine Wo.doVal rfl rfl (op_bin rfl rfl rfl rfl rfl) ?_ | refine Wo.doVal rfl rfl (op_un rfl rfl rfl rfl) ?_ | refine Wo.doVal rfl rfl (op_len_sl rfl rfl (by first | with_reducible exact u24 | with_reducible exact u3) rfl) ?_ | refine Wo.doVal rfl rfl (op_len_str rfl rfl (by first | with_reducible exact u24 | with_reducible exact u3) rfl) ?_)))
  refine Wc.cond rfl rfl (fun h => ?_) (fun h => ?_)
  ·have hlt : i < xs.length := by simpa [goInt] using h
   (repeat (first | with_reducible refine Wc.seq ?_ | with_reducible refine Wc.region ?_ | with_reducible refine Wo.nil ?_ | (with_reducible refine SeqQ.id ?_; refine SeqQ.norm (by first | (simp only [setAt, enter, List.replicate, List.cons_append, List.nil_append]; rfl) | rfl) ?_) | with_reducible refine Wc.block ?_ | with_reducible refine Wc.skip ?_ | with_reducible refine Wc.exit ?_ | with_reducible refine Wc.retn ?_ | with_reducible refine SeqQ.exit ?_ | with_reducible refine SeqQ.ret ?_ | with_reducible refine BlkQ.normal ?_ | with_reducible refine BlkQ.ret ?_ | with_reducible refine BlkQ.hit ?_ | with_reducible refine BlkQ.miss (by decide) ?_ | with_reducible refine LoopQ.exit ?_ | with_reducible refine LoopQ.ret ?_ | (with_reducible refine Wo.id ?_; first | refine Wo.doVal rfl rfl (op_move rfl rfl) ?_ | refine Wo.doVal rfl rfl (op_assign rfl rfl) ?_ | refine Wo.doVal rfl rfl (op_bin rfl rfl rfl rfl rfl) ?_ | refine Wo.doVal rfl rfl (op_un rfl rfl rfl rfl) ?_ | refine Wo.doVal rfl rfl (op_len_sl rfl rfl (by first | with_reducible exact u24 | with_reducible exact u3) rfl) ?_ | refine Wo.doVal rfl rfl (op_len_str rfl rfl (by first | with_reducible exact u24 | with_reducible exact u3) rfl) ?_)))
   refine Wo.elem rfl hv hlt rfl rfl rfl rfl rfl rfl rfl u24 sz3 ag3 rfl rfl (Nat.le_of_ble_eq_true rfl) (fun a => ?_)
   (repeat (first | with_reducible refine Wc.seq ?_ | with_reducible refine Wc.region ?_ | with_reducible refine Wo.nil ?_ | (with_reducible refine SeqQ.id ?_; refine SeqQ.norm (by first | (simp only [setAt, enter, List.replicate, List.cons_append, List.nil_append]; rfl) | rfl) ?_) | with_reducible refine Wc.block ?_ | with_reducible refine Wc.skip ?_ | with_reducible refine Wc.exit ?_ | with_reducible refine Wc.retn ?_ | with_reducible refine SeqQ.exit ?_ | with_reducible refine SeqQ.ret ?_ | with_reducible refine BlkQ.normal ?_ | with_reducible refine BlkQ.ret ?_ | with_reducible refine BlkQ.hit ?_ | with_reducible refine BlkQ.miss (by decide) ?_ | with_reducible refine LoopQ.exit ?_ | with_reducible refine LoopQ.ret ?_ | (with_reducible refine Wo.id ?_; first | refine Wo.doVal rfl rfl (op_move rfl rfl) ?_ | refine Wo.doVal rfl rfl (op_assign rfl rfl) ?_ | refine Wo.doVal rfl rfl (op_bin rfl rfl rfl rfl rfl) ?_ | refine Wo.doVal rfl rfl (op_un rfl rfl rfl rfl) ?_ | refine Wo.doVal rfl rfl (op_len_sl rfl rfl (by first | with_reducible exact u24 | with_reducible exact u3) rfl) ?_ | refine Wo.doVal rfl rfl (op_len_str rfl rfl (by first | with_reducible exact u24 | with_reducible exact u3) rfl) ?_)))
   refine Wc.cond rfl rfl (fun h => ?_) (fun h => ?_)
   ·(repeat (first | with_reducible refine Wc.seq ?_ | with_reducible refine Wc.region ?_ | with_reducible refine Wo.nil ?_ | (with_reducible refine SeqQ.id ?_; refine SeqQ.norm (by first | (simp only [setAt, enter, List.replicate, List.cons_append, List.nil_append]; rfl) | rfl) ?_) | with_reducible refine Wc.block ?_ | with_reducible refine Wc.skip ?_ | with_reducible refine Wc.exit ?_ | with_reducible refine Wc.retn ?_ | with_reducible refine SeqQ.exit ?_ | with_reducible refine SeqQ.ret ?_ | with_reducible refine BlkQ.normal ?_ | with_reducible refine BlkQ.ret ?_ | with_reducible refine BlkQ.hit ?_ | with_reducible refine BlkQ.miss (by decide) ?_ | with_reducible refine LoopQ.exit ?_ | with_reducible refine LoopQ.ret ?_ | (with_reducible refine Wo.id ?_; first | refine Wo.doVal rfl rfl (op_move rfl rfl) ?_ | refine Wo.doVal rfl rfl (op_assign rfl rfl) ?_ | refine Wo.doVal rfl rfl (op_bin rfl rfl rfl rfl rfl) ?_ | refine Wo.doVal rfl rfl (op_un rfl rfl rfl rfl) ?_ | refine Wo.doVal rfl rfl (op_len_sl rfl rfl (by first | with_reducible exact u24 | with_reducible exact u3) rfl) ?_ | refine Wo.doVal rfl rfl (op_len_str rfl rfl (by first | with_reducible exact u24 | with_reducible exact u3) rfl) ?_)))
    refine EndQ.ret (r := .v (.bool true)) rfl ⟨?_, rfl⟩
    rw [hx, List.drop_eq_getElem_cons hlt]
    simp [eq_of_beq h]
   ·(repeat (first | with_reducible refine Wc.seq ?_ | with_reducible refine Wc.region ?_ | with_reducible refine Wo.nil ?_ | (with_reducible refine SeqQ.id ?_; refine SeqQ.norm (by first | (simp only [setAt, enter, List.replicate, List.cons_append, List.nil_append]; rfl) | rfl) ?_) | with_reducible refine Wc.block ?_ | with_reducible refine Wc.skip ?_ | with_reducible refine Wc.exit ?_ | with_reducible refine Wc.retn ?_ | with_reducible refine SeqQ.exit ?_ | with_reducible refine SeqQ.ret ?_ | with_reducible refine BlkQ.normal ?_ | with_reducible refine BlkQ.ret ?_ | with_reducible refine BlkQ.hit ?_ | with_reducible refine BlkQ.miss (by decide) ?_ | with_reducible refine LoopQ.exit ?_ | with_reducible refine LoopQ.ret ?_ | (with_reducible refine Wo.id ?_; first | refine Wo.doVal rfl rfl (op_move rfl rfl) ?_ | refine Wo.doVal rfl rfl (op_assign rfl rfl) ?_ | refine Wo.doVal rfl rfl (op_bin rfl rfl rfl rfl rfl) ?_ | refine Wo.doVal rfl rfl (op_un rfl rfl rfl rfl) ?_ | refine Wo.doVal rfl rfl (op_len_sl rfl rfl (by first | with_reducible exact u24 | with_reducible exact u3) rfl) ?_ | refine Wo.doVal rfl rfl (op_len_str rfl rfl (by first | with_reducible exact u24 | with_reducible exact u3) rfl) ?_)))
    refine LoopQ.normal (xs.length - (i + 1)) (by omega) ⟨i + 1, rfl, by omega, rfl, ?_, dead_of ?_⟩
    ·rw [hx, List.drop_eq_getElem_cons hlt]
     have e : ¬ n = xs[i] := Ne.symm (ne_of_beq_false h)
     simp only [List.mem_cons, e, false_or]
    ·rw [w64 (by omega)]; rfl
  ·(repeat (first | with_reducible refine Wc.seq ?_ | with_reducible refine Wc.region ?_ | with_reducible refine Wo.nil ?_ | (with_reducible refine SeqQ.id ?_; refine SeqQ.norm (by first | (simp only [setAt, enter, List.replicate, List.cons_append, List.nil_append]; rfl) | rfl) ?_) | with_reducible refine Wc.block ?_ | with_reducible refine Wc.skip ?_ | with_reducible refine Wc.exit ?_ | with_reducible refine Wc.retn ?_ | with_reducible refine SeqQ.exit ?_ | with_reducible refine SeqQ.ret ?_ | with_reducible refine BlkQ.normal ?_ | with_reducible refine BlkQ.ret ?_ | with_reducible refine BlkQ.hit ?_ | with_reducible refine BlkQ.miss (by decide) ?_ | with_reducible refine LoopQ.exit ?_ | with_reducible refine LoopQ.ret ?_ | (with_reducible refine Wo.id ?_; first | refine Wo.doVal rfl rfl (op_move rfl rfl) ?_ | refine Wo.doVal rfl rfl (op_assign rfl rfl) ?_ | refine Wo.doVal rfl rfl (op_bin rfl rfl rfl rfl rfl) ?_ | refine Wo.doVal rfl rfl (op_un rfl rfl rfl rfl) ?_ | refine Wo.doVal rfl rfl (op_len_sl rfl rfl (by first | with_reducible exact u24 | with_reducible exact u3) rfl) ?_ | refine Wo.doVal rfl rfl (op_len_str rfl rfl (by first | with_reducible exact u24 | with_reducible exact u3) rfl) ?_)))
   refine EndQ.ret (r := .v (.bool false)) rfl ⟨?_, rfl⟩
   have : i = xs.length := by
    have h' : ¬ i < xs.length := by simpa [goInt] using h
    omega
   subst this
   rw [hx]
   simp
end Go.Proofs
end
section
namespace Go.Proofs.RsPlain
open Go.Tm
set_option maxRecDepth 100000
section
variable (A : Ar)
def rotR (x n m : Nat) : Nat := A.or (A.shr x n) (A.shl x m)
def wordR (a b c d : UInt8) : Nat := A.add (A.shl (A.add (A.shl (A.add (A.shl (A.add (A.shl 0 8) (A.cv a.toNat)) 8) (A.cv b.toNat)) 8) (A.cv c.toNat)) 8) (A.cv d.toNat)
def words0 : List UInt8 → List Nat → List Nat
 | a :: b :: c :: d :: r, acc => words0 r (wordR A a b c d :: acc)
 | _, acc => acc
def nextR (l : List Nat) : Nat :=
 A.add (A.add (A.add (A.xor (A.xor (rotR A (nthN l 1) 17 15) (rotR A (nthN l 1) 19 13)) (A.shr (nthN l 1) 10)) (nthN l 6)) (A.xor (A.xor (rotR A (nthN l 14) 7 25) (rotR A (nthN l 14) 18 14)) (A.shr (nthN l 14) 3))) (nthN l 15)
def moreR : Nat → List Nat → List Nat
 | 0, l => l
 | n + 1, l => moreR n (nextR A l :: l)
def wordsR (s : List UInt8) : List Nat := revN (moreR A 48 (words0 A s [])) []
def oneR (k w e f g h : Nat) : Nat := A.add (A.add (A.add (A.add h (A.xor (A.xor (rotR A e 6 26) (rotR A e 11 21)) (rotR A e 25 7))) (A.xor (A.and e f) (A.and (A.not e) g))) k) w
def twoR (a b c : Nat) : Nat := A.add (A.xor (A.xor (rotR A a 2 30) (rotR A a 13 19)) (rotR A a 22 10)) (A.xor (A.xor (A.and a b) (A.and a c)) (A.and b c))
def roundR (k w : Nat) : List Nat → List Nat
 | [a, b, c, d, e, f, g, h] => [A.add (oneR A k w e f g h) (twoR A a b c), a, b, c, A.add d (oneR A k w e f g h), e, f, g]
 | l => l
end
theorem or_real (a b : Nat) : Ar.real.or a b = (a ||| b) % 4294967296 := by unfold Ar.real; rfl
theorem add_real (a b : Nat) : Ar.real.add a b = (a + b) % 4294967296 := by unfold Ar.real; rfl
theorem rot_same (x n m : Nat) : rotR Ar.real x n m = rotU Ar.real x n m := by
 unfold rotR rotU
 rw [or_real, or_real, Nat.or_comm]
theorem add_turn (add : Nat → Nat → Nat) (M : Nat) (h : ∀ a b, add a b = (a + b) % M) (y a x b : Nat) : add (add (add y a) x) b = add (add (add b a) x) y := by
 simp only [h, Nat.mod_add_mod]
 congr 1
 omega
section
variable {A : Ar} (hr : ∀ x n m, rotR A x n m = rotU A x n m) {M : Nat} (ha : ∀ a b, A.add a b = (a + b) % M) (hw : ∀ a b c d, wordR A a b c d = wordU A a b c d)
include hr ha
theorem next_same (l : List Nat) : nextR A l = nextU A l := by
 unfold nextR nextU
 simp only [hr]
 exact add_turn A.add M ha _ _ _ _
theorem more_same : ∀ (n : Nat) (l : List Nat), moreR A n l = moreU A n l
 | 0, _ => rfl
 | n + 1, l => by rw [moreR, moreU, next_same hr ha, more_same n]
omit ha
theorem one_same (k w e f g h : Nat) : oneR A k w e f g h = oneU A k w e f g h := by unfold oneR oneU; simp only [hr]
theorem two_same (a b c : Nat) : twoR A a b c = twoU A a b c := by unfold twoR twoU; simp only [hr]
omit hr
include hw
theorem words0_same : ∀ (s : List UInt8) (acc : List Nat), words0 A s acc = wordsU A s acc
 | [], _ => rfl
 | [_], _ => rfl
 | [_, _], _ => rfl
 | [_, _, _], _ => rfl
 | a :: b :: c :: d :: r, acc => by rw [words0, wordsU, hw, words0_same r]
include hr ha
theorem words_same (s : List UInt8) : wordsR A s = revN (moreU A 48 (wordsU A s [])) [] := by
 unfold wordsR
 rw [words0_same hw, more_same hr ha]
end
def roundsR (A : Ar) : List Nat → List Nat → List Nat → List Nat
 | k :: ks, w :: ws, st => roundsR A ks ws (roundR A k w st)
 | _, _, st => st
theorem rounds_same {A : Ar} (hr : ∀ x n m, rotR A x n m = rotU A x n m) : ∀ (ks ws : List Nat) (a b c d e f g h : Nat), roundsR A ks ws [a, b, c, d, e, f, g, h] = roundsU A ks ws a b c d e f g h
 | [], _, _, _, _, _, _, _, _, _ => by rw [roundsR, roundsU] <;> simp
 | _ :: _, [], _, _, _, _, _, _, _, _ => by rw [roundsR, roundsU] <;> simp
 | k :: ks, w :: ws, a, b, c, d, e, f, g, h => by
  rw [roundsR, roundsU, roundR, one_same hr, two_same hr]
  exact rounds_same hr ks ws _ _ _ _ _ _ _ _
theorem shl8 (x : Nat) : Ar.real.shl x 8 = (x * 256) % 4294967296 := by unfold Ar.real; rfl
theorem shl16 (x : Nat) : Ar.real.shl x 16 = (x * 65536) % 4294967296 := by unfold Ar.real; rfl
theorem shl24 (x : Nat) : Ar.real.shl x 24 = (x * 16777216) % 4294967296 := by unfold Ar.real; rfl
theorem cv_real (x : Nat) : Ar.real.cv x = x % 4294967296 := by unfold Ar.real; rfl
theorem or_add (i K x y : Nat) (hK : 2 ^ i = K) (h : y < K) : x * K ||| y = x * K + y := by
 subst hK
 rw [Nat.mul_comm]
 exact (Nat.two_pow_add_eq_or_of_lt h x).symm
theorem step_l (M x y : Nat) (hx : x < 16777216) (hy : y < 256) (hM : 4294967296 ≤ M) : (x * 256 % M + y % M) % M = x * 256 + y := by
 rw [Nat.mod_eq_of_lt (a := x * 256) (by omega), Nat.mod_eq_of_lt (a := y) (by omega), Nat.mod_eq_of_lt (by omega)]
theorem step_r (M i K x y : Nat) (hK : 2 ^ i = K) (hy : y < K) (hM : x * K + y < M) : (x * K % M ||| y % M) % M = x * K + y := by
 rw [Nat.mod_eq_of_lt (a := x * K) (by omega), Nat.mod_eq_of_lt (a := y) (by omega), or_add i K x y hK hy, Nat.mod_eq_of_lt hM]
theorem word_left (M a b c d : Nat) (hM : 4294967296 ≤ M) (ha : a < 256) (hb : b < 256) (hc : c < 256) (hd : d < 256) :
  (((((((0 * 256) % M + a % M) % M * 256 % M + b % M) % M) * 256 % M + c % M) % M) * 256 % M + d % M) % M = ((a * 256 + b) * 256 + c) * 256 + d := by
 rw [step_l M 0 a (by omega) ha hM, Nat.zero_mul, Nat.zero_add, step_l M a b (by omega) hb hM, step_l M (a * 256 + b) c (by omega) hc hM, step_l M ((a * 256 + b) * 256 + c) d (by omega) hd hM]
theorem word_right (M a b c d : Nat) (hM : 4294967296 ≤ M) (ha : a < 256) (hb : b < 256) (hc : c < 256) (hd : d < 256) :
  ((((((a % M) * 16777216) % M ||| ((b % M) * 65536) % M) % M ||| ((c % M) * 256) % M) % M) ||| d % M) % M = ((a * 256 + b) * 256 + c) * 256 + d := by
 have ea : a % M = a := Nat.mod_eq_of_lt (by omega)
 have eb : b % M = b := Nat.mod_eq_of_lt (by omega)
 have ec : c % M = c := Nat.mod_eq_of_lt (by omega)
 rw [ea, eb, ec, step_r M 24 16777216 a (b * 65536) (by decide) (by omega) (by omega)]
 have e1 : a * 16777216 + b * 65536 = (a * 256 + b) * 65536 := by omega
 have m1 : (a * 256 + b) * 65536 % M = (a * 256 + b) * 65536 := Nat.mod_eq_of_lt (by omega)
 rw [e1]
 have s2 := step_r M 16 65536 (a * 256 + b) (c * 256) (by decide) (by omega) (by omega)
 rw [m1] at s2
 rw [s2]
 have e2 : (a * 256 + b) * 65536 + c * 256 = ((a * 256 + b) * 256 + c) * 256 := by clear s2 m1 e1 ea eb ec; omega
 have m2 : ((a * 256 + b) * 256 + c) * 256 % M = ((a * 256 + b) * 256 + c) * 256 := Nat.mod_eq_of_lt (by omega)
 rw [e2]
 have s3 := step_r M 8 256 ((a * 256 + b) * 256 + c) d (by decide) (by omega) (by omega)
 rw [m2] at s3
 exact s3
theorem word_gen {A : Ar} {M : Nat} (hM : 4294967296 ≤ M) (ha : ∀ a b, A.add a b = (a + b) % M) (h8 : ∀ x, A.shl x 8 = (x * 256) % M) (h16 : ∀ x, A.shl x 16 = (x * 65536) % M) (h24 : ∀ x, A.shl x 24 = (x * 16777216) % M) (hc : ∀ x, A.cv x = x % M) (ho : ∀ x y, A.or x y = (x ||| y) % M) (a b c d : UInt8) : wordR A a b c d = wordU A a b c d := by
 have l : wordR A a b c d = ((a.toNat * 256 + b.toNat) * 256 + c.toNat) * 256 + d.toNat := by
  unfold wordR
  rw [ha, ha, ha, ha, h8, h8, h8, h8, hc, hc, hc, hc]
  exact word_left M _ _ _ _ hM a.toNat_lt b.toNat_lt c.toNat_lt d.toNat_lt
 rw [l]
 unfold wordU byU
 rw [ho, ho, ho, h24, h16, h8, hc, hc, hc, hc]
 exact (word_right M _ _ _ _ hM a.toNat_lt b.toNat_lt c.toNat_lt d.toNat_lt).symm
theorem word_same (a b c d : UInt8) : wordR Ar.real a b c d = wordU Ar.real a b c d := word_gen (Nat.le_refl _) add_real shl8 shl16 shl24 cv_real or_real a b c d
theorem feed_same (a b c d e f g h : Nat) (s : List UInt8) : addsU Ar.real [a, b, c, d, e, f, g, h] (roundsR Ar.real shaK (wordsR Ar.real s) [a, b, c, d, e, f, g, h]) = feedU Ar.real a b c d e f g h s := by
 unfold feedU
 rw [words_same rot_same add_real word_same, rounds_same rot_same]
end Go.Proofs.RsPlain
end
section
namespace Go.Proofs
open Go.Tm Go.Proofs.RsPlain
noncomputable def Kq (A : Ar) : Cfg where
 P := Tryd.prog
 ar := A
 gl := fun i => if i == 0 then some (shaK.map fun (n : Nat) => AV.v (.int .u32 (.ofNat n))) else none
set_option maxRecDepth 100000
theorem feed_run (A : Ar) (a b c d e f g h : Nat) (s : Nat → UInt8) (t : TypeId × Bool) (rest : List AV) :
  firstOf (callF (Kq A) 1000 49 [.ptr 0 0, .str (list64 s)] [.cells t (cellU a :: cellU b :: cellU c :: cellU d :: cellU e :: cellU f :: cellU g :: cellU h :: rest)]) = some (.tup [], .cells t ((feedU A a b c d e f g h (list64 s)).map cellU ++ rest)) := by kernel_rfl
noncomputable def Kv (A : Ar) : Cfg := { Kz with ar := A }
theorem words_run (A : Ar) (s : Nat → UInt8) (H : List AB) : callF (Kv A) 1000 38 [.str (list64 s)] H = some (.agg ((wordsR A (list64 s)).map cellU), H) := by kernel_rfl
end Go.Proofs
end
