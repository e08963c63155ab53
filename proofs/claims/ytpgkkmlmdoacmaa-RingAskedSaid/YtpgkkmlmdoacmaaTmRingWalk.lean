/- ring's walk over the tree machine: the owners from a partition on, each once. -/
import Derived.Test.YtpgkkmlmdoacmaaTmRingIx
import Derived.Test.YtpgkkmlmdoacmaaTmRingPlain
import Derived.Test.YtpgkkmlmdoacmaaTmS1
set_option linter.unusedVariables false
set_option linter.unusedSimpArgs false
set_option linter.unusedSectionVars false
namespace Go.Proofs
open Go.Tm Go.Proofs.RingPlain
set_option maxRecDepth 100000
theorem u23 : Kz.P.underlying 23 = some (.array 8 3) := Try.underlying23
theorem z3 : tZero Kz.P 3 = some (i64 0) := by kernel_rfl
theorem in3 : ∃ info, Kz.P.info? 3 = some info ∧ info.bytes = 8 := by
  have h : (Kz.P.info? 3).map (·.bytes) = some 8 := by kernel_rfl
  obtain ⟨i, h1, h2⟩ := Option.map_eq_some_iff.1 h
  exact ⟨i, h1, h2⟩
theorem goP_snoc (n : Int) : ∀ (l acc : List Int), goP acc (l ++ [n]) = if 0 < n ∧ n ∉ goP acc l then goP acc l ++ [n] else goP acc l
  | [], acc => by simp only [List.nil_append, goP]; rfl
  | x :: r, acc => by
    simp only [List.cons_append, goP]
    split
    · exact goP_snoc n r _
    · exact goP_snoc n r _
/-- The owners in the order in which they are met. -/
def rot (o : List Int) (p : Int) : List Int := (List.range 8).map fun i => o.getD (((max p 0) % 8).toNat + i) 0
def rotI (o : List Int) (p : Int) (i : Nat) : Int := o.getD ((((max p 0) % 8).toNat + i) % 8) 0
/-- A list that the call itself made. -/
def Made (H H' : List AB) (r : AV) (xs : List Int) : Prop := ((xs = [] ∧ r = .sl [] .nil) ∨ ∃ b, r = .ms b 0 xs.length 1 ∧ H.length ≤ b ∧ nth H' b = some (.cells (3, false) (xs.map i64))) ∧ H.length ≤ H'.length ∧ ∀ k, k < H.length → nth H' k = nth H k
theorem Made.view {H H' : List AB} {r : AV} {xs : List Int} (h : Made H H' r xs) : View H' r xs := by
  rcases h.1 with ⟨rfl, rfl⟩ | ⟨b, rfl, _, hb⟩
  · exact .inl ⟨.nil, rfl, rfl⟩
  · exact .inr ⟨b, 0, _, _, rfl, hb, by simp, fun j hj => by simp [List.getElem?_map, List.getElem?_eq_getElem hj]⟩
/-- The owners so far. -/
def owners (o : List Int) (p : Int) (i : Nat) : List Int := goP [] ((List.range i).map (rotI o p))
theorem owners_succ (o : List Int) (p : Int) (i : Nat) : owners o p (i + 1) = if 0 < rotI o p i ∧ rotI o p i ∉ owners o p i then owners o p i ++ [rotI o p i] else owners o p i := by
  unfold owners
  rw [List.range_succ, List.map_append]
  exact goP_snoc _ _ _
theorem owners_len (o : List Int) (p : Int) (i : Nat) : (owners o p i).length ≤ i := by
  have := goP_len ((List.range i).map (rotI o p)) []
  simpa [owners] using this
theorem nth_app {α : Type} (l : List α) (x : α) : nth (l ++ [x]) l.length = some x := by rw [nth_eq]; simp
theorem nth_app_lt {α : Type} (l r : List α) (k : Nat) (h : k < l.length) : nth (l ++ r) k = nth l k := by rw [nth_eq, nth_eq, List.getElem?_append_left h]
theorem Made.new {B H : List AB} (n : Int) (hl : B.length ≤ H.length) (hk : ∀ k, k < B.length → nth H k = nth B k) : Made B (H ++ [.cells (3, false) [i64 n]]) (.ms H.length 0 1 1) [n] :=
  ⟨.inr ⟨H.length, rfl, hl, nth_app _ _⟩, by simp; omega, fun k h => by rw [nth_app_lt _ _ _ (by omega)]; exact hk k h⟩
theorem Made.more {B H : List AB} {b : Nat} {xs : List Int} (n : Int) (hb : B.length ≤ b) (hl : B.length ≤ H.length) (hk : ∀ k, k < B.length → nth H k = nth B k) : Made B (setAt H b .dead ++ [.cells (3, false) (xs.map i64 ++ [i64 n])]) (.ms H.length 0 (xs.length + 1) 1) (xs ++ [n]) := by
  have hs : (setAt H b .dead).length = H.length := by rw [setAt_eq]; simp
  refine ⟨.inr ⟨H.length, by simp, hl, ?_⟩, by simp [hs]; omega, fun k h => ?_⟩
  · have := nth_app (setAt H b .dead) (AB.cells (3, false) (xs.map i64 ++ [i64 n]))
    rw [hs] at this
    simpa using this
  · rw [nth_app_lt _ _ _ (by rw [hs]; omega), nth_eq, setAt_eq, List.getElem?_set_ne (by omega), ← nth_eq]
    exact hk k h
theorem place (p : Int) (i : Nat) (hi : i < 8) : (IntKind.i64.wrap ((if (0 : Int) > p then 0 else p).tmod 8 + (i : Int))).tmod 8 = (((((max p 0) % 8).toNat + i) % 8 : Nat) : Int) := by
  have e : (if (0 : Int) > p then 0 else p) = max p 0 := by split <;> omega
  have t : (max p 0).tmod 8 = (max p 0) % 8 := Int.tmod_eq_emod_of_nonneg (by omega)
  have w : IntKind.i64.wrap ((max p 0) % 8 + (i : Int)) = (max p 0) % 8 + (i : Int) := by
    simp only [IntKind.wrap, IntKind.bits, IntKind.signed]
    simp
    omega
  rw [e, t, w, Int.tmod_eq_emod_of_nonneg (by omega)]
  omega
set_option maxHeartbeats 4000000 in
theorem walk_tells (o : List Int) (ho : o.length = 8) (p : Int) (H : List AB) : Tells Kz 30 [.agg (o.map i64), i64 p] H fun r H' => Made H H' r (owners o p 8) := by
  refine Tells.mem (c := _) Try.func30 rfl (args' := [.agg (o.map i64), i64 p]) (m := 31) rfl rfl rfl rfl rfl ?_
  refine Wc.seq ?_
  refine Wc.region ?_
  refine Wo.doVal rfl rfl (op_box rfl rfl (by simp [AV.cells, allOne, AV.one])) ?_
  repeat (first | with_reducible refine Wc.seq ?_ | with_reducible refine Wc.region ?_ | with_reducible refine Wo.nil ?_ | (with_reducible refine SeqQ.id ?_; refine SeqQ.norm (by first | (simp only [setAt, enter, List.replicate, List.cons_append, List.nil_append]; rfl) | rfl) ?_) | with_reducible refine Wc.block ?_ | with_reducible refine Wc.skip ?_ | with_reducible refine Wc.exit ?_ | with_reducible refine Wc.retn ?_ | with_reducible refine SeqQ.exit ?_ | with_reducible refine SeqQ.ret ?_ | with_reducible refine BlkQ.normal ?_ | with_reducible refine BlkQ.ret ?_ | with_reducible refine BlkQ.hit ?_ | with_reducible refine BlkQ.miss (by decide) ?_ | with_reducible refine LoopQ.exit ?_ | with_reducible refine LoopQ.ret ?_ | (with_reducible refine Wo.id ?_; first | refine Wo.doVal rfl rfl (op_move rfl rfl) ?_ | refine Wo.doVal rfl rfl (op_assign rfl rfl) ?_ | refine Wo.doVal rfl rfl (op_bin rfl rfl rfl rfl rfl) ?_ | refine Wo.doVal rfl rfl (op_un rfl rfl rfl rfl) ?_ | refine Wo.doVal rfl rfl (op_len_sl rfl rfl (by first | with_reducible exact u24 | with_reducible exact u3 | with_reducible exact u23) rfl) ?_ | refine Wo.doVal rfl rfl (op_len_str rfl rfl (by first | with_reducible exact u24 | with_reducible exact u3 | with_reducible exact u23) rfl) ?_))
  refine Wc.regs (R' := (.agg (o.map i64) :: i64 p :: .ptr H.length 0 :: .undef :: .sl [] .nil :: .sl [] .nil :: .undef :: .undef :: i64 0 :: .undef :: .undef :: .undef :: .undef :: .undef :: .undef :: .undef :: .undef :: .undef :: .undef :: .undef :: .undef :: .undef :: .undef :: .undef :: .undef :: .undef :: .undef :: .undef :: .undef :: .undef :: .undef :: .undef :: .undef :: [])) rfl ?_
  refine Wc.inv (fun m s => ∃ i : Nat, m = 8 - i ∧ i ≤ 8 ∧ ∃ x, Made (H ++ [.cells (23, true) (o.map i64)]) s.H x (owners o p i) ∧ ∃ d : Nat → AV, s.regs = (.agg (o.map i64) :: i64 p :: .ptr H.length 0 :: d 3 :: d 4 :: x :: d 6 :: d 7 :: i64 i :: d 9 :: d 10 :: d 11 :: d 12 :: d 13 :: d 14 :: d 15 :: d 16 :: d 17 :: d 18 :: d 19 :: d 20 :: d 21 :: d 22 :: d 23 :: d 24 :: d 25 :: d 26 :: d 27 :: d 28 :: d 29 :: d 30 :: d 31 :: d 32 :: [])) 8 ?_ ?_
  · exact ⟨0, by omega, by omega, .sl [] .nil, ⟨.inl ⟨rfl, rfl⟩, Nat.le_refl _, fun _ _ => rfl⟩, dead_of rfl⟩
  · rintro m regs own H1 ⟨i, rfl, hi, x, hm, d, rfl⟩
    repeat (first | with_reducible refine Wc.seq ?_ | with_reducible refine Wc.region ?_ | with_reducible refine Wo.nil ?_ | (with_reducible refine SeqQ.id ?_; refine SeqQ.norm (by first | (simp only [setAt, enter, List.replicate, List.cons_append, List.nil_append]; rfl) | rfl) ?_) | with_reducible refine Wc.block ?_ | with_reducible refine Wc.skip ?_ | with_reducible refine Wc.exit ?_ | with_reducible refine Wc.retn ?_ | with_reducible refine SeqQ.exit ?_ | with_reducible refine SeqQ.ret ?_ | with_reducible refine BlkQ.normal ?_ | with_reducible refine BlkQ.ret ?_ | with_reducible refine BlkQ.hit ?_ | with_reducible refine BlkQ.miss (by decide) ?_ | with_reducible refine LoopQ.exit ?_ | with_reducible refine LoopQ.ret ?_ | (with_reducible refine Wo.id ?_; first | refine Wo.doVal rfl rfl (op_move rfl rfl) ?_ | refine Wo.doVal rfl rfl (op_assign rfl rfl) ?_ | refine Wo.doVal rfl rfl (op_bin rfl rfl rfl rfl rfl) ?_ | refine Wo.doVal rfl rfl (op_un rfl rfl rfl rfl) ?_ | refine Wo.doVal rfl rfl (op_len_sl rfl rfl (by first | with_reducible exact u24 | with_reducible exact u3 | with_reducible exact u23) rfl) ?_ | refine Wo.doVal rfl rfl (op_len_str rfl rfl (by first | with_reducible exact u24 | with_reducible exact u3 | with_reducible exact u23) rfl) ?_))
    refine Wc.cond rfl rfl (fun h => ?_) (fun h => ?_)
    · have hlt : i < 8 := by have := of_decide_eq_true h; omega
      repeat (first | with_reducible refine Wc.seq ?_ | with_reducible refine Wc.region ?_ | with_reducible refine Wo.nil ?_ | (with_reducible refine SeqQ.id ?_; refine SeqQ.norm (by first | (simp only [setAt, enter, List.replicate, List.cons_append, List.nil_append]; rfl) | rfl) ?_) | with_reducible refine Wc.block ?_ | with_reducible refine Wc.skip ?_ | with_reducible refine Wc.exit ?_ | with_reducible refine Wc.retn ?_ | with_reducible refine SeqQ.exit ?_ | with_reducible refine SeqQ.ret ?_ | with_reducible refine BlkQ.normal ?_ | with_reducible refine BlkQ.ret ?_ | with_reducible refine BlkQ.hit ?_ | with_reducible refine BlkQ.miss (by decide) ?_ | with_reducible refine LoopQ.exit ?_ | with_reducible refine LoopQ.ret ?_ | (with_reducible refine Wo.id ?_; first | refine Wo.doVal rfl rfl (op_move rfl rfl) ?_ | refine Wo.doVal rfl rfl (op_assign rfl rfl) ?_ | refine Wo.doVal rfl rfl (op_bin rfl rfl rfl rfl rfl) ?_ | refine Wo.doVal rfl rfl (op_un rfl rfl rfl rfl) ?_ | refine Wo.doVal rfl rfl (op_len_sl rfl rfl (by first | with_reducible exact u24 | with_reducible exact u3 | with_reducible exact u23) rfl) ?_ | refine Wo.doVal rfl rfl (op_len_str rfl rfl (by first | with_reducible exact u24 | with_reducible exact u3 | with_reducible exact u23) rfl) ?_))
      refine Wo.doVal rfl rfl (op_max2 rfl rfl rfl rfl) ?_
      repeat (first | with_reducible refine Wc.seq ?_ | with_reducible refine Wc.region ?_ | with_reducible refine Wo.nil ?_ | (with_reducible refine SeqQ.id ?_; refine SeqQ.norm (by first | (simp only [setAt, enter, List.replicate, List.cons_append, List.nil_append]; rfl) | rfl) ?_) | with_reducible refine Wc.block ?_ | with_reducible refine Wc.skip ?_ | with_reducible refine Wc.exit ?_ | with_reducible refine Wc.retn ?_ | with_reducible refine SeqQ.exit ?_ | with_reducible refine SeqQ.ret ?_ | with_reducible refine BlkQ.normal ?_ | with_reducible refine BlkQ.ret ?_ | with_reducible refine BlkQ.hit ?_ | with_reducible refine BlkQ.miss (by decide) ?_ | with_reducible refine LoopQ.exit ?_ | with_reducible refine LoopQ.ret ?_ | (with_reducible refine Wo.id ?_; first | refine Wo.doVal rfl rfl (op_move rfl rfl) ?_ | refine Wo.doVal rfl rfl (op_assign rfl rfl) ?_ | refine Wo.doVal rfl rfl (op_bin rfl rfl rfl rfl rfl) ?_ | refine Wo.doVal rfl rfl (op_un rfl rfl rfl rfl) ?_ | refine Wo.doVal rfl rfl (op_len_sl rfl rfl (by first | with_reducible exact u24 | with_reducible exact u3 | with_reducible exact u23) rfl) ?_ | refine Wo.doVal rfl rfl (op_len_str rfl rfl (by first | with_reducible exact u24 | with_reducible exact u3 | with_reducible exact u23) rfl) ?_))
      have hbox : nth H1 H.length = some (.cells (23, true) (o.map i64)) := (hm.2.2 H.length (by simp)).trans (nth_app _ _)
      have hjl : (((max p 0) % 8).toNat + i) % 8 < 8 := by omega
      refine Wo.doVal rfl rfl (op_indexAddr_arr (sz := 0) rfl rfl u23 sz3 rfl rfl (place p i hlt) hjl) ?_
      refine Wo.doVal rfl rfl (op_load_ptr (v := i64 (rotI o p i)) rfl rfl hbox ?_) ?_
      · have hlen : 0 + (((max p 0) % 8).toNat + i) % 8 * (0 + 1) < (o.map i64).length := by rw [List.length_map, ho]; omega
        rw [List.drop_eq_getElem_cons hlen]
        refine (take_one ag3 sz3).trans ?_
        simp only [rotI, List.getElem_map, Nat.zero_add, Nat.mul_one]
        rw [List.getD_eq_getElem?_getD, List.getElem?_eq_getElem (by rw [ho]; exact hjl)]
        rfl
      repeat (first | with_reducible refine Wc.seq ?_ | with_reducible refine Wc.region ?_ | with_reducible refine Wo.nil ?_ | (with_reducible refine SeqQ.id ?_; refine SeqQ.norm (by first | (simp only [setAt, enter, List.replicate, List.cons_append, List.nil_append]; rfl) | rfl) ?_) | with_reducible refine Wc.block ?_ | with_reducible refine Wc.skip ?_ | with_reducible refine Wc.exit ?_ | with_reducible refine Wc.retn ?_ | with_reducible refine SeqQ.exit ?_ | with_reducible refine SeqQ.ret ?_ | with_reducible refine BlkQ.normal ?_ | with_reducible refine BlkQ.ret ?_ | with_reducible refine BlkQ.hit ?_ | with_reducible refine BlkQ.miss (by decide) ?_ | with_reducible refine LoopQ.exit ?_ | with_reducible refine LoopQ.ret ?_ | (with_reducible refine Wo.id ?_; first | refine Wo.doVal rfl rfl (op_move rfl rfl) ?_ | refine Wo.doVal rfl rfl (op_assign rfl rfl) ?_ | refine Wo.doVal rfl rfl (op_bin rfl rfl rfl rfl rfl) ?_ | refine Wo.doVal rfl rfl (op_un rfl rfl rfl rfl) ?_ | refine Wo.doVal rfl rfl (op_len_sl rfl rfl (by first | with_reducible exact u24 | with_reducible exact u3 | with_reducible exact u23) rfl) ?_ | refine Wo.doVal rfl rfl (op_len_str rfl rfl (by first | with_reducible exact u24 | with_reducible exact u3 | with_reducible exact u23) rfl) ?_))
      have hsucc := owners_succ o p i
      have hlen := owners_len o p i
      by_cases hn : 0 < rotI o p i
      · refine Wo.yes rfl rfl rfl (by simp [hn]) ?_
        repeat (first | with_reducible refine Wc.seq ?_ | with_reducible refine Wc.region ?_ | with_reducible refine Wo.nil ?_ | (with_reducible refine SeqQ.id ?_; refine SeqQ.norm (by first | (simp only [setAt, enter, List.replicate, List.cons_append, List.nil_append]; rfl) | rfl) ?_) | with_reducible refine Wc.block ?_ | with_reducible refine Wc.skip ?_ | with_reducible refine Wc.exit ?_ | with_reducible refine Wc.retn ?_ | with_reducible refine SeqQ.exit ?_ | with_reducible refine SeqQ.ret ?_ | with_reducible refine BlkQ.normal ?_ | with_reducible refine BlkQ.ret ?_ | with_reducible refine BlkQ.hit ?_ | with_reducible refine BlkQ.miss (by decide) ?_ | with_reducible refine LoopQ.exit ?_ | with_reducible refine LoopQ.ret ?_ | (with_reducible refine Wo.id ?_; first | refine Wo.doVal rfl rfl (op_move rfl rfl) ?_ | refine Wo.doVal rfl rfl (op_assign rfl rfl) ?_ | refine Wo.doVal rfl rfl (op_bin rfl rfl rfl rfl rfl) ?_ | refine Wo.doVal rfl rfl (op_un rfl rfl rfl rfl) ?_ | refine Wo.doVal rfl rfl (op_len_sl rfl rfl (by first | with_reducible exact u24 | with_reducible exact u3 | with_reducible exact u23) rfl) ?_ | refine Wo.doVal rfl rfl (op_len_str rfl rfl (by first | with_reducible exact u24 | with_reducible exact u3 | with_reducible exact u23) rfl) ?_))
        refine Wo.yes rfl rfl rfl (by simp [hn]) ?_
        repeat (first | with_reducible refine Wc.seq ?_ | with_reducible refine Wc.region ?_ | with_reducible refine Wo.nil ?_ | (with_reducible refine SeqQ.id ?_; refine SeqQ.norm (by first | (simp only [setAt, enter, List.replicate, List.cons_append, List.nil_append]; rfl) | rfl) ?_) | with_reducible refine Wc.block ?_ | with_reducible refine Wc.skip ?_ | with_reducible refine Wc.exit ?_ | with_reducible refine Wc.retn ?_ | with_reducible refine SeqQ.exit ?_ | with_reducible refine SeqQ.ret ?_ | with_reducible refine BlkQ.normal ?_ | with_reducible refine BlkQ.ret ?_ | with_reducible refine BlkQ.hit ?_ | with_reducible refine BlkQ.miss (by decide) ?_ | with_reducible refine LoopQ.exit ?_ | with_reducible refine LoopQ.ret ?_ | (with_reducible refine Wo.id ?_; first | refine Wo.doVal rfl rfl (op_move rfl rfl) ?_ | refine Wo.doVal rfl rfl (op_assign rfl rfl) ?_ | refine Wo.doVal rfl rfl (op_bin rfl rfl rfl rfl rfl) ?_ | refine Wo.doVal rfl rfl (op_un rfl rfl rfl rfl) ?_ | refine Wo.doVal rfl rfl (op_len_sl rfl rfl (by first | with_reducible exact u24 | with_reducible exact u3 | with_reducible exact u23) rfl) ?_ | refine Wo.doVal rfl rfl (op_len_str rfl rfl (by first | with_reducible exact u24 | with_reducible exact u3 | with_reducible exact u23) rfl) ?_))
        refine Wo.yes rfl rfl rfl (by simp [hn]) ?_
        refine Wo.doCall rfl rfl (op_call (args := [x, i64 (rotI o p i)]) rfl rfl) ?_
        rw [show List.map AV.unown [x, i64 (rotI o p i)] = [x, i64 (rotI o p i)] by simp only [List.map, hm.view.unown]; rfl]
        refine (contains_tells (owners o p i) (rotI o p i) _ hm.view (by omega)).mono ?_
        rintro r H2 ⟨rfl, rfl⟩
        refine Wo.yes rfl rfl rfl (by simp [hn]) ?_
        repeat (first | with_reducible refine Wc.seq ?_ | with_reducible refine Wc.region ?_ | with_reducible refine Wo.nil ?_ | (with_reducible refine SeqQ.id ?_; refine SeqQ.norm (by first | (simp only [setAt, enter, List.replicate, List.cons_append, List.nil_append]; rfl) | rfl) ?_) | with_reducible refine Wc.block ?_ | with_reducible refine Wc.skip ?_ | with_reducible refine Wc.exit ?_ | with_reducible refine Wc.retn ?_ | with_reducible refine SeqQ.exit ?_ | with_reducible refine SeqQ.ret ?_ | with_reducible refine BlkQ.normal ?_ | with_reducible refine BlkQ.ret ?_ | with_reducible refine BlkQ.hit ?_ | with_reducible refine BlkQ.miss (by decide) ?_ | with_reducible refine LoopQ.exit ?_ | with_reducible refine LoopQ.ret ?_ | (with_reducible refine Wo.id ?_; first | refine Wo.doVal rfl rfl (op_move rfl rfl) ?_ | refine Wo.doVal rfl rfl (op_assign rfl rfl) ?_ | refine Wo.doVal rfl rfl (op_bin rfl rfl rfl rfl rfl) ?_ | refine Wo.doVal rfl rfl (op_un rfl rfl rfl rfl) ?_ | refine Wo.doVal rfl rfl (op_len_sl rfl rfl (by first | with_reducible exact u24 | with_reducible exact u3 | with_reducible exact u23) rfl) ?_ | refine Wo.doVal rfl rfl (op_len_str rfl rfl (by first | with_reducible exact u24 | with_reducible exact u3 | with_reducible exact u23) rfl) ?_))
        refine Wo.doVal rfl rfl (op_pick_t rfl (by simp [hn]) rfl rfl rfl rfl) ?_
        repeat (first | with_reducible refine Wc.seq ?_ | with_reducible refine Wc.region ?_ | with_reducible refine Wo.nil ?_ | (with_reducible refine SeqQ.id ?_; refine SeqQ.norm (by first | (simp only [setAt, enter, List.replicate, List.cons_append, List.nil_append]; rfl) | rfl) ?_) | with_reducible refine Wc.block ?_ | with_reducible refine Wc.skip ?_ | with_reducible refine Wc.exit ?_ | with_reducible refine Wc.retn ?_ | with_reducible refine SeqQ.exit ?_ | with_reducible refine SeqQ.ret ?_ | with_reducible refine BlkQ.normal ?_ | with_reducible refine BlkQ.ret ?_ | with_reducible refine BlkQ.hit ?_ | with_reducible refine BlkQ.miss (by decide) ?_ | with_reducible refine LoopQ.exit ?_ | with_reducible refine LoopQ.ret ?_ | (with_reducible refine Wo.id ?_; first | refine Wo.doVal rfl rfl (op_move rfl rfl) ?_ | refine Wo.doVal rfl rfl (op_assign rfl rfl) ?_ | refine Wo.doVal rfl rfl (op_bin rfl rfl rfl rfl rfl) ?_ | refine Wo.doVal rfl rfl (op_un rfl rfl rfl rfl) ?_ | refine Wo.doVal rfl rfl (op_len_sl rfl rfl (by first | with_reducible exact u24 | with_reducible exact u3 | with_reducible exact u23) rfl) ?_ | refine Wo.doVal rfl rfl (op_len_str rfl rfl (by first | with_reducible exact u24 | with_reducible exact u3 | with_reducible exact u23) rfl) ?_))
        refine Wc.cond rfl rfl (fun hc => ?_) (fun hc => ?_)
        · have hnot : rotI o p i ∉ owners o p i := by simpa using hc
          rw [if_pos ⟨hn, hnot⟩] at hsucc
          repeat (first | with_reducible refine Wc.seq ?_ | with_reducible refine Wc.region ?_ | with_reducible refine Wo.nil ?_ | (with_reducible refine SeqQ.id ?_; refine SeqQ.norm (by first | (simp only [setAt, enter, List.replicate, List.cons_append, List.nil_append]; rfl) | rfl) ?_) | with_reducible refine Wc.block ?_ | with_reducible refine Wc.skip ?_ | with_reducible refine Wc.exit ?_ | with_reducible refine Wc.retn ?_ | with_reducible refine SeqQ.exit ?_ | with_reducible refine SeqQ.ret ?_ | with_reducible refine BlkQ.normal ?_ | with_reducible refine BlkQ.ret ?_ | with_reducible refine BlkQ.hit ?_ | with_reducible refine BlkQ.miss (by decide) ?_ | with_reducible refine LoopQ.exit ?_ | with_reducible refine LoopQ.ret ?_ | (with_reducible refine Wo.id ?_; first | refine Wo.doVal rfl rfl (op_move rfl rfl) ?_ | refine Wo.doVal rfl rfl (op_assign rfl rfl) ?_ | refine Wo.doVal rfl rfl (op_bin rfl rfl rfl rfl rfl) ?_ | refine Wo.doVal rfl rfl (op_un rfl rfl rfl rfl) ?_ | refine Wo.doVal rfl rfl (op_len_sl rfl rfl (by first | with_reducible exact u24 | with_reducible exact u3 | with_reducible exact u23) rfl) ?_ | refine Wo.doVal rfl rfl (op_len_str rfl rfl (by first | with_reducible exact u24 | with_reducible exact u3 | with_reducible exact u23) rfl) ?_))
          refine Wo.doVal rfl rfl (op_buildSlice rfl rfl rfl (build_one u24 sz3 z3 rfl rfl rfl rfl rfl)) ?_
          obtain ⟨info, hinfo, hbytes⟩ := in3
          obtain ⟨hm1, hm2, hm3⟩ := hm
          rcases hm1 with ⟨hnil, rfl⟩ | ⟨b, rfl, hb1, hb2⟩
          · refine Wo.doVal rfl rfl (op_append_new rfl rfl rfl rfl u24 u24 hinfo sz3 z3 rfl rfl rfl (.inl rfl) rfl rfl (by simp) (by simp [roomOk, hbytes])) ?_
            repeat (first | with_reducible refine Wc.seq ?_ | with_reducible refine Wc.region ?_ | with_reducible refine Wo.nil ?_ | (with_reducible refine SeqQ.id ?_; refine SeqQ.norm (by first | (simp only [setAt, enter, List.replicate, List.cons_append, List.nil_append]; rfl) | rfl) ?_) | with_reducible refine Wc.block ?_ | with_reducible refine Wc.skip ?_ | with_reducible refine Wc.exit ?_ | with_reducible refine Wc.retn ?_ | with_reducible refine SeqQ.exit ?_ | with_reducible refine SeqQ.ret ?_ | with_reducible refine BlkQ.normal ?_ | with_reducible refine BlkQ.ret ?_ | with_reducible refine BlkQ.hit ?_ | with_reducible refine BlkQ.miss (by decide) ?_ | with_reducible refine LoopQ.exit ?_ | with_reducible refine LoopQ.ret ?_ | (with_reducible refine Wo.id ?_; first | refine Wo.doVal rfl rfl (op_move rfl rfl) ?_ | refine Wo.doVal rfl rfl (op_assign rfl rfl) ?_ | refine Wo.doVal rfl rfl (op_bin rfl rfl rfl rfl rfl) ?_ | refine Wo.doVal rfl rfl (op_un rfl rfl rfl rfl) ?_ | refine Wo.doVal rfl rfl (op_len_sl rfl rfl (by first | with_reducible exact u24 | with_reducible exact u3 | with_reducible exact u23) rfl) ?_ | refine Wo.doVal rfl rfl (op_len_str rfl rfl (by first | with_reducible exact u24 | with_reducible exact u3 | with_reducible exact u23) rfl) ?_))
            refine LoopQ.normal (8 - (i + 1)) (by omega) ⟨i + 1, rfl, by omega, .ms H2.length 0 1 1, ?_, dead_of ?_⟩
            · rw [hsucc, hnil]
              exact Made.new _ hm2 hm3
            · rw [w64 (by omega)]; rfl
          · refine Wo.doVal rfl rfl (op_append_ms rfl rfl rfl rfl u24 u24 hinfo sz3 z3 rfl rfl hb2 (by simp) rfl rfl (by simp) (by simp [roomOk, hbytes]; omega)) ?_
            repeat (first | with_reducible refine Wc.seq ?_ | with_reducible refine Wc.region ?_ | with_reducible refine Wo.nil ?_ | (with_reducible refine SeqQ.id ?_; refine SeqQ.norm (by first | (simp only [setAt, enter, List.replicate, List.cons_append, List.nil_append]; rfl) | rfl) ?_) | with_reducible refine Wc.block ?_ | with_reducible refine Wc.skip ?_ | with_reducible refine Wc.exit ?_ | with_reducible refine Wc.retn ?_ | with_reducible refine SeqQ.exit ?_ | with_reducible refine SeqQ.ret ?_ | with_reducible refine BlkQ.normal ?_ | with_reducible refine BlkQ.ret ?_ | with_reducible refine BlkQ.hit ?_ | with_reducible refine BlkQ.miss (by decide) ?_ | with_reducible refine LoopQ.exit ?_ | with_reducible refine LoopQ.ret ?_ | (with_reducible refine Wo.id ?_; first | refine Wo.doVal rfl rfl (op_move rfl rfl) ?_ | refine Wo.doVal rfl rfl (op_assign rfl rfl) ?_ | refine Wo.doVal rfl rfl (op_bin rfl rfl rfl rfl rfl) ?_ | refine Wo.doVal rfl rfl (op_un rfl rfl rfl rfl) ?_ | refine Wo.doVal rfl rfl (op_len_sl rfl rfl (by first | with_reducible exact u24 | with_reducible exact u3 | with_reducible exact u23) rfl) ?_ | refine Wo.doVal rfl rfl (op_len_str rfl rfl (by first | with_reducible exact u24 | with_reducible exact u3 | with_reducible exact u23) rfl) ?_))
            refine LoopQ.normal (8 - (i + 1)) (by omega) ⟨i + 1, rfl, by omega, .ms H2.length 0 ((owners o p i).length + 1) 1, ?_, dead_of ?_⟩
            · rw [hsucc]
              exact Made.more _ hb1 hm2 hm3
            · rw [w64 (by omega)]; rfl
        · have hin : rotI o p i ∈ owners o p i := by simpa using hc
          rw [if_neg (fun q => q.2 hin)] at hsucc
          repeat (first | with_reducible refine Wc.seq ?_ | with_reducible refine Wc.region ?_ | with_reducible refine Wo.nil ?_ | (with_reducible refine SeqQ.id ?_; refine SeqQ.norm (by first | (simp only [setAt, enter, List.replicate, List.cons_append, List.nil_append]; rfl) | rfl) ?_) | with_reducible refine Wc.block ?_ | with_reducible refine Wc.skip ?_ | with_reducible refine Wc.exit ?_ | with_reducible refine Wc.retn ?_ | with_reducible refine SeqQ.exit ?_ | with_reducible refine SeqQ.ret ?_ | with_reducible refine BlkQ.normal ?_ | with_reducible refine BlkQ.ret ?_ | with_reducible refine BlkQ.hit ?_ | with_reducible refine BlkQ.miss (by decide) ?_ | with_reducible refine LoopQ.exit ?_ | with_reducible refine LoopQ.ret ?_ | (with_reducible refine Wo.id ?_; first | refine Wo.doVal rfl rfl (op_move rfl rfl) ?_ | refine Wo.doVal rfl rfl (op_assign rfl rfl) ?_ | refine Wo.doVal rfl rfl (op_bin rfl rfl rfl rfl rfl) ?_ | refine Wo.doVal rfl rfl (op_un rfl rfl rfl rfl) ?_ | refine Wo.doVal rfl rfl (op_len_sl rfl rfl (by first | with_reducible exact u24 | with_reducible exact u3 | with_reducible exact u23) rfl) ?_ | refine Wo.doVal rfl rfl (op_len_str rfl rfl (by first | with_reducible exact u24 | with_reducible exact u3 | with_reducible exact u23) rfl) ?_))
          refine LoopQ.normal (8 - (i + 1)) (by omega) ⟨i + 1, rfl, by omega, x, by rw [hsucc]; exact hm, dead_of ?_⟩
          rw [w64 (by omega)]; rfl
      · rw [if_neg (fun q => hn q.1)] at hsucc
        refine Wo.not rfl rfl rfl rfl (by simp [hn]) ?_
        refine Wo.not rfl rfl rfl rfl (by simp [hn]) ?_
        refine Wo.not rfl rfl rfl rfl (by simp [hn]) ?_
        refine Wo.not rfl rfl rfl rfl (by simp [hn]) ?_
        refine Wo.doVal rfl rfl (op_pick_f rfl (by simp [hn]) rfl rfl rfl rfl) ?_
        repeat (first | with_reducible refine Wc.seq ?_ | with_reducible refine Wc.region ?_ | with_reducible refine Wo.nil ?_ | (with_reducible refine SeqQ.id ?_; refine SeqQ.norm (by first | (simp only [setAt, enter, List.replicate, List.cons_append, List.nil_append]; rfl) | rfl) ?_) | with_reducible refine Wc.block ?_ | with_reducible refine Wc.skip ?_ | with_reducible refine Wc.exit ?_ | with_reducible refine Wc.retn ?_ | with_reducible refine SeqQ.exit ?_ | with_reducible refine SeqQ.ret ?_ | with_reducible refine BlkQ.normal ?_ | with_reducible refine BlkQ.ret ?_ | with_reducible refine BlkQ.hit ?_ | with_reducible refine BlkQ.miss (by decide) ?_ | with_reducible refine LoopQ.exit ?_ | with_reducible refine LoopQ.ret ?_ | (with_reducible refine Wo.id ?_; first | refine Wo.doVal rfl rfl (op_move rfl rfl) ?_ | refine Wo.doVal rfl rfl (op_assign rfl rfl) ?_ | refine Wo.doVal rfl rfl (op_bin rfl rfl rfl rfl rfl) ?_ | refine Wo.doVal rfl rfl (op_un rfl rfl rfl rfl) ?_ | refine Wo.doVal rfl rfl (op_len_sl rfl rfl (by first | with_reducible exact u24 | with_reducible exact u3 | with_reducible exact u23) rfl) ?_ | refine Wo.doVal rfl rfl (op_len_str rfl rfl (by first | with_reducible exact u24 | with_reducible exact u3 | with_reducible exact u23) rfl) ?_))
        refine Wc.cond rfl rfl (fun hc => by cases hc) (fun _ => ?_)
        repeat (first | with_reducible refine Wc.seq ?_ | with_reducible refine Wc.region ?_ | with_reducible refine Wo.nil ?_ | (with_reducible refine SeqQ.id ?_; refine SeqQ.norm (by first | (simp only [setAt, enter, List.replicate, List.cons_append, List.nil_append]; rfl) | rfl) ?_) | with_reducible refine Wc.block ?_ | with_reducible refine Wc.skip ?_ | with_reducible refine Wc.exit ?_ | with_reducible refine Wc.retn ?_ | with_reducible refine SeqQ.exit ?_ | with_reducible refine SeqQ.ret ?_ | with_reducible refine BlkQ.normal ?_ | with_reducible refine BlkQ.ret ?_ | with_reducible refine BlkQ.hit ?_ | with_reducible refine BlkQ.miss (by decide) ?_ | with_reducible refine LoopQ.exit ?_ | with_reducible refine LoopQ.ret ?_ | (with_reducible refine Wo.id ?_; first | refine Wo.doVal rfl rfl (op_move rfl rfl) ?_ | refine Wo.doVal rfl rfl (op_assign rfl rfl) ?_ | refine Wo.doVal rfl rfl (op_bin rfl rfl rfl rfl rfl) ?_ | refine Wo.doVal rfl rfl (op_un rfl rfl rfl rfl) ?_ | refine Wo.doVal rfl rfl (op_len_sl rfl rfl (by first | with_reducible exact u24 | with_reducible exact u3 | with_reducible exact u23) rfl) ?_ | refine Wo.doVal rfl rfl (op_len_str rfl rfl (by first | with_reducible exact u24 | with_reducible exact u3 | with_reducible exact u23) rfl) ?_))
        refine LoopQ.normal (8 - (i + 1)) (by omega) ⟨i + 1, rfl, by omega, x, by rw [hsucc]; exact hm, dead_of ?_⟩
        rw [w64 (by omega)]; rfl
    · have h8 : i = 8 := by have := of_decide_eq_false h; omega
      subst h8
      repeat (first | with_reducible refine Wc.seq ?_ | with_reducible refine Wc.region ?_ | with_reducible refine Wo.nil ?_ | (with_reducible refine SeqQ.id ?_; refine SeqQ.norm (by first | (simp only [setAt, enter, List.replicate, List.cons_append, List.nil_append]; rfl) | rfl) ?_) | with_reducible refine Wc.block ?_ | with_reducible refine Wc.skip ?_ | with_reducible refine Wc.exit ?_ | with_reducible refine Wc.retn ?_ | with_reducible refine SeqQ.exit ?_ | with_reducible refine SeqQ.ret ?_ | with_reducible refine BlkQ.normal ?_ | with_reducible refine BlkQ.ret ?_ | with_reducible refine BlkQ.hit ?_ | with_reducible refine BlkQ.miss (by decide) ?_ | with_reducible refine LoopQ.exit ?_ | with_reducible refine LoopQ.ret ?_ | (with_reducible refine Wo.id ?_; first | refine Wo.doVal rfl rfl (op_move rfl rfl) ?_ | refine Wo.doVal rfl rfl (op_assign rfl rfl) ?_ | refine Wo.doVal rfl rfl (op_bin rfl rfl rfl rfl rfl) ?_ | refine Wo.doVal rfl rfl (op_un rfl rfl rfl rfl) ?_ | refine Wo.doVal rfl rfl (op_len_sl rfl rfl (by first | with_reducible exact u24 | with_reducible exact u3 | with_reducible exact u23) rfl) ?_ | refine Wo.doVal rfl rfl (op_len_str rfl rfl (by first | with_reducible exact u24 | with_reducible exact u3 | with_reducible exact u23) rfl) ?_))
      refine EndQ.ret (r := x) rfl ?_
      obtain ⟨hm1, hm2, hm3⟩ := hm
      have hm2' : H.length + 1 ≤ H1.length := by simpa using hm2
      refine ⟨?_, Nat.le_trans (Nat.le_succ _) hm2', fun k hk => (hm3 k (by simp; omega)).trans (nth_app_lt _ _ _ hk)⟩
      rcases hm1 with q | ⟨b, rfl, hb1, hb2⟩
      · exact .inl q
      · exact .inr ⟨b, rfl, by simp at hb1; omega, hb2⟩
end Go.Proofs
