/- ring's walk over the tree machine: Primaries. -/
import Derived.Test.YtpgkkmlmdoacmaaTmRingDel
set_option linter.unusedVariables false
set_option linter.unusedSimpArgs false
set_option linter.unusedSectionVars false
namespace Go.Proofs
open Go.Tm Go.Proofs.RingPlain
set_option maxRecDepth 100000
theorem ag23 : tAgg Kz.P 23 = some true := by kernel_rfl
theorem sz23 : tSize Kz.P 23 = some 8 := by kernel_rfl
theorem take_agg {P : Program} {t : TypeId} {n : Nat} {cs : List AV} (h1 : tAgg P t = some true) (h2 : tSize P t = some n) (hn : n ≤ cs.length) : takeVar P t cs = some (.agg (cs.take n)) := by
  simp only [takeVar, h1, h2, if_pos hn]
theorem mapO_ints (H : List AB) (n : Nat) : ∀ xs : List Int, mapO (snap H (n + 1)) (xs.map i64) = some (xs.map i64)
  | [] => rfl
  | x :: r => by
    simp only [List.map_cons, mapO]
    rw [show snap H (n + 1) (i64 x) = some (i64 x) from rfl, mapO_ints H n r]
theorem chunk_one : ∀ xs : List AV, chunk 1 xs.length xs = xs
  | [] => rfl
  | x :: r => by
    show elOf 1 (x :: r) :: chunk 1 r.length ((x :: r).drop 1) = _
    rw [List.drop_one, List.tail_cons, chunk_one r]; rfl
theorem closedL_ints : ∀ xs : List Int, AV.closedL (xs.map i64) = true
  | [] => rfl
  | x :: r => by simp only [List.map_cons, AV.closedL, AV.closed, closedL_ints r, Bool.and_self]
theorem allOne_ints (xs : List Int) : allOne (xs.map i64) = true := by simp [allOne, AV.one]
theorem snap_ms {H : List AB} {b off : Nat} {tt : TypeId × Bool} {cs : List AV} {xs : List Int} (hb : nth H b = some (.cells tt cs)) (hle : off + xs.length ≤ cs.length) (hc : ∀ (j : Nat) (h : j < xs.length), cs[off + j]? = some (i64 xs[j])) : snap H 6 (.ms b off xs.length 1) = some (.sl (xs.map i64) .unk) := by
  have hcs : (cs.drop off).take (xs.length * 1) = xs.map i64 := by
    apply List.ext_getElem?
    intro k
    rw [List.getElem?_take, List.getElem?_drop, List.getElem?_map, Nat.mul_one]
    by_cases hk : k < xs.length
    · rw [if_pos hk, hc k hk, List.getElem?_eq_getElem hk]; rfl
    · rw [if_neg hk, List.getElem?_eq_none (by omega)]; rfl
  unfold snap
  simp only [hb]
  rw [if_pos ⟨by omega, by omega⟩, hcs, mapO_ints H 4 xs]
  simp only [closedL_ints, allOne_ints, Bool.and_self, if_true]
  have := chunk_one (xs.map i64)
  rw [List.length_map] at this
  rw [this]
section
variable {K : Cfg} {f : FuncId} {o : Oper} {R : List AV} {own : Nat → Nat} {H : List AB}
theorem op_slice_hi_nil (hs : K.sym = false) {t e : TypeId} {x l : Operand} {k : IntKind} {n : Int} {sz : Nat} {tl : Tail} (ho : o.op = .slice t x none (some l) none) (hu : K.P.underlying t = some (.slice e)) (hz : tSize K.P e = some sz) (hx : evalO K R x = some (.sl [] tl)) (hl : evalO K R l = some (.v (.int k n))) (hn : n = 0) : aOp K f ⟨R, own, H⟩ o [] = some (.val (AV.sl [] (cutTail tl 0 0 0 none)) own H, [], []) := by
  subst hn
  simp only [aOp, ho, hx, hl, Option.elim, Option.map]
  have h : aSlice K H t (.sl [] tl) none (some (.v (.int k 0))) none [] = some (.sl [] (cutTail tl 0 0 0 none), [], []) := by
    simp only [aSlice, hu, hz, hs]
    refine (E.bind_nil (a := ()) rfl).trans ?_
    refine (E.bind_nil (a := (0, 0, none)) ?_).trans rfl
    simp only [aBounds, optI, asI, Option.map, hs]
    exact (E.bind_nil (a := ()) rfl).trans rfl
  exact (E.bind_nil h).trans rfl
end
set_option maxHeartbeats 4000000 in
theorem prim_tells (o : List Int) (ho : o.length = 8) (p n : Int) (H : List AB) : Tells Kz 15 [.agg (o.map i64), i64 p, i64 n] H fun r H' => (∃ tl, r = .sl (((owners o p 8).take (max n 0).toNat).map i64) tl ∧ tl.un = tl) ∧ H' = H := by
  have hcl : AV.closedL [.agg (o.map i64), i64 p, i64 n] = true := by simp [AV.closedL, AV.closed, closedL_ints]
  refine Tells.vals (c := _) Try.func15 rfl (args' := [.agg (o.map i64), i64 p, i64 n]) (m := 15) rfl rfl rfl rfl (by rw [hcl]; rfl) ?_
  refine Wc.seq ?_
  refine Wc.region ?_
  refine Wo.doVal rfl rfl (op_box rfl rfl (allOne_ints o)) ?_
  repeat (first | with_reducible refine Wc.seq ?_ | with_reducible refine Wc.region ?_ | with_reducible refine Wo.nil ?_ | (with_reducible refine SeqQ.id ?_; refine SeqQ.norm (by first | (simp only [setAt, enter, List.replicate, List.cons_append, List.nil_append]; rfl) | rfl) ?_) | with_reducible refine Wc.block ?_ | with_reducible refine Wc.skip ?_ | with_reducible refine Wc.exit ?_ | with_reducible refine Wc.retn ?_ | with_reducible refine SeqQ.exit ?_ | with_reducible refine SeqQ.ret ?_ | with_reducible refine BlkQ.normal ?_ | with_reducible refine BlkQ.ret ?_ | with_reducible refine BlkQ.hit ?_ | with_reducible refine BlkQ.miss (by decide) ?_ | with_reducible refine LoopQ.exit ?_ | with_reducible refine LoopQ.ret ?_ | (with_reducible refine Wo.id ?_; first | refine Wo.doVal rfl rfl (op_move rfl rfl) ?_ | refine Wo.doVal rfl rfl (op_assign rfl rfl) ?_ | refine Wo.doVal rfl rfl (op_bin rfl rfl rfl rfl rfl) ?_ | refine Wo.doVal rfl rfl (op_un rfl rfl rfl rfl) ?_ | refine Wo.doVal rfl rfl (op_len_sl rfl rfl (by first | with_reducible exact u24 | with_reducible exact u3 | with_reducible exact u23) rfl) ?_ | refine Wo.doVal rfl rfl (op_len_str rfl rfl (by first | with_reducible exact u24 | with_reducible exact u3 | with_reducible exact u23) rfl) ?_))
  refine Wo.doVal rfl rfl (op_load_ptr (v := .agg (o.map i64)) rfl rfl rfl ?_) ?_
  · refine (take_agg ag23 sz23 (by show 8 ≤ (List.map i64 o).length; rw [List.length_map, ho]; exact Nat.le_refl _)).trans ?_
    show some (AV.agg ((o.map i64).take 8)) = _
    rw [List.take_of_length_le (by rw [List.length_map, ho]; exact Nat.le_refl _)]
  repeat (first | with_reducible refine Wc.seq ?_ | with_reducible refine Wc.region ?_ | with_reducible refine Wo.nil ?_ | (with_reducible refine SeqQ.id ?_; refine SeqQ.norm (by first | (simp only [setAt, enter, List.replicate, List.cons_append, List.nil_append]; rfl) | rfl) ?_) | with_reducible refine Wc.block ?_ | with_reducible refine Wc.skip ?_ | with_reducible refine Wc.exit ?_ | with_reducible refine Wc.retn ?_ | with_reducible refine SeqQ.exit ?_ | with_reducible refine SeqQ.ret ?_ | with_reducible refine BlkQ.normal ?_ | with_reducible refine BlkQ.ret ?_ | with_reducible refine BlkQ.hit ?_ | with_reducible refine BlkQ.miss (by decide) ?_ | with_reducible refine LoopQ.exit ?_ | with_reducible refine LoopQ.ret ?_ | (with_reducible refine Wo.id ?_; first | refine Wo.doVal rfl rfl (op_move rfl rfl) ?_ | refine Wo.doVal rfl rfl (op_assign rfl rfl) ?_ | refine Wo.doVal rfl rfl (op_bin rfl rfl rfl rfl rfl) ?_ | refine Wo.doVal rfl rfl (op_un rfl rfl rfl rfl) ?_ | refine Wo.doVal rfl rfl (op_len_sl rfl rfl (by first | with_reducible exact u24 | with_reducible exact u3 | with_reducible exact u23) rfl) ?_ | refine Wo.doVal rfl rfl (op_len_str rfl rfl (by first | with_reducible exact u24 | with_reducible exact u3 | with_reducible exact u23) rfl) ?_))
  refine Wo.doCall rfl rfl (op_call (args := [.agg (o.map i64), i64 p]) rfl rfl) ?_
  refine (walk_tells o ho p _).mono ?_
  rintro x H' hm
  have hv := hm.view
  have hlen8 := owners_len o p 8
  rw [hv.unown]
  repeat (first | with_reducible refine Wc.seq ?_ | with_reducible refine Wc.region ?_ | with_reducible refine Wo.nil ?_ | (with_reducible refine SeqQ.id ?_; refine SeqQ.norm (by first | (simp only [setAt, enter, List.replicate, List.cons_append, List.nil_append]; rfl) | rfl) ?_) | with_reducible refine Wc.block ?_ | with_reducible refine Wc.skip ?_ | with_reducible refine Wc.exit ?_ | with_reducible refine Wc.retn ?_ | with_reducible refine SeqQ.exit ?_ | with_reducible refine SeqQ.ret ?_ | with_reducible refine BlkQ.normal ?_ | with_reducible refine BlkQ.ret ?_ | with_reducible refine BlkQ.hit ?_ | with_reducible refine BlkQ.miss (by decide) ?_ | with_reducible refine LoopQ.exit ?_ | with_reducible refine LoopQ.ret ?_ | (with_reducible refine Wo.id ?_; first | refine Wo.doVal rfl rfl (op_move rfl rfl) ?_ | refine Wo.doVal rfl rfl (op_assign rfl rfl) ?_ | refine Wo.doVal rfl rfl (op_bin rfl rfl rfl rfl rfl) ?_ | refine Wo.doVal rfl rfl (op_un rfl rfl rfl rfl) ?_ | refine Wo.doVal rfl rfl (op_len_sl rfl rfl (by first | with_reducible exact u24 | with_reducible exact u3 | with_reducible exact u23) rfl) ?_ | refine Wo.doVal rfl rfl (op_len_str rfl rfl (by first | with_reducible exact u24 | with_reducible exact u3 | with_reducible exact u23) rfl) ?_))
  refine Wo.doVal rfl rfl (op_max2 rfl rfl rfl rfl) ?_
  repeat (first | with_reducible refine Wc.seq ?_ | with_reducible refine Wc.region ?_ | with_reducible refine Wo.nil ?_ | (with_reducible refine SeqQ.id ?_; refine SeqQ.norm (by first | (simp only [setAt, enter, List.replicate, List.cons_append, List.nil_append]; rfl) | rfl) ?_) | with_reducible refine Wc.block ?_ | with_reducible refine Wc.skip ?_ | with_reducible refine Wc.exit ?_ | with_reducible refine Wc.retn ?_ | with_reducible refine SeqQ.exit ?_ | with_reducible refine SeqQ.ret ?_ | with_reducible refine BlkQ.normal ?_ | with_reducible refine BlkQ.ret ?_ | with_reducible refine BlkQ.hit ?_ | with_reducible refine BlkQ.miss (by decide) ?_ | with_reducible refine LoopQ.exit ?_ | with_reducible refine LoopQ.ret ?_ | (with_reducible refine Wo.id ?_; first | refine Wo.doVal rfl rfl (op_move rfl rfl) ?_ | refine Wo.doVal rfl rfl (op_assign rfl rfl) ?_ | refine Wo.doVal rfl rfl (op_bin rfl rfl rfl rfl rfl) ?_ | refine Wo.doVal rfl rfl (op_un rfl rfl rfl rfl) ?_ | refine Wo.doVal rfl rfl (op_len_sl rfl rfl (by first | with_reducible exact u24 | with_reducible exact u3 | with_reducible exact u23) rfl) ?_ | refine Wo.doVal rfl rfl (op_len_str rfl rfl (by first | with_reducible exact u24 | with_reducible exact u3 | with_reducible exact u23) rfl) ?_))
  refine Wo.doVal rfl rfl (op_len_view hv rfl rfl u24 rfl) ?_
  refine Wo.doVal rfl rfl (op_min2 rfl rfl rfl rfl) ?_
  have hmin : (if ((owners o p 8).length : Int) < (if (0 : Int) > n then 0 else n) then ((owners o p 8).length : Int) else (if (0 : Int) > n then 0 else n)) = ((min (max n 0).toNat (owners o p 8).length : Nat) : Int) := by
    split <;> split at * <;> omega
  have htake : (owners o p 8).take (max n 0).toNat = (owners o p 8).take (min (max n 0).toNat (owners o p 8).length) := by
    by_cases h : (max n 0).toNat ≤ (owners o p 8).length
    · rw [Nat.min_eq_left h]
    · rw [Nat.min_eq_right (by omega), List.take_of_length_le (by omega), List.take_length]
  rw [htake]
  generalize hk : min (max n 0).toNat (owners o p 8).length = k at *
  have hkl : k ≤ (owners o p 8).length := by omega
  rcases hm.1 with ⟨hnil, rfl⟩ | ⟨b, rfl, hb1, hb2⟩
  · have hk0 : k = 0 := by rw [hnil] at hkl; simpa using hkl
    refine Wo.doVal rfl rfl (op_slice_hi_nil rfl rfl u24 sz3 rfl rfl (hmin.trans (by rw [hk0]; rfl))) ?_
    repeat (first | with_reducible refine Wc.seq ?_ | with_reducible refine Wc.region ?_ | with_reducible refine Wo.nil ?_ | (with_reducible refine SeqQ.id ?_; refine SeqQ.norm (by first | (simp only [setAt, enter, List.replicate, List.cons_append, List.nil_append]; rfl) | rfl) ?_) | with_reducible refine Wc.block ?_ | with_reducible refine Wc.skip ?_ | with_reducible refine Wc.exit ?_ | with_reducible refine Wc.retn ?_ | with_reducible refine SeqQ.exit ?_ | with_reducible refine SeqQ.ret ?_ | with_reducible refine BlkQ.normal ?_ | with_reducible refine BlkQ.ret ?_ | with_reducible refine BlkQ.hit ?_ | with_reducible refine BlkQ.miss (by decide) ?_ | with_reducible refine LoopQ.exit ?_ | with_reducible refine LoopQ.ret ?_ | (with_reducible refine Wo.id ?_; first | refine Wo.doVal rfl rfl (op_move rfl rfl) ?_ | refine Wo.doVal rfl rfl (op_assign rfl rfl) ?_ | refine Wo.doVal rfl rfl (op_bin rfl rfl rfl rfl rfl) ?_ | refine Wo.doVal rfl rfl (op_un rfl rfl rfl rfl) ?_ | refine Wo.doVal rfl rfl (op_len_sl rfl rfl (by first | with_reducible exact u24 | with_reducible exact u3 | with_reducible exact u23) rfl) ?_ | refine Wo.doVal rfl rfl (op_len_str rfl rfl (by first | with_reducible exact u24 | with_reducible exact u3 | with_reducible exact u23) rfl) ?_))
    refine EndQ.ret rfl ⟨.sl [] .nil, rfl, rfl, ⟨.nil, by rw [hk0]; rfl, rfl⟩, rfl⟩
  · refine Wo.doVal rfl rfl (op_slice_hi_ms rfl rfl u24 sz3 rfl rfl hmin hkl) ?_
    by_cases h0 : 0 = (owners o p 8).length
    · rw [if_pos h0]
      have hk0 : k = 0 := by omega
      repeat (first | with_reducible refine Wc.seq ?_ | with_reducible refine Wc.region ?_ | with_reducible refine Wo.nil ?_ | (with_reducible refine SeqQ.id ?_; refine SeqQ.norm (by first | (simp only [setAt, enter, List.replicate, List.cons_append, List.nil_append]; rfl) | rfl) ?_) | with_reducible refine Wc.block ?_ | with_reducible refine Wc.skip ?_ | with_reducible refine Wc.exit ?_ | with_reducible refine Wc.retn ?_ | with_reducible refine SeqQ.exit ?_ | with_reducible refine SeqQ.ret ?_ | with_reducible refine BlkQ.normal ?_ | with_reducible refine BlkQ.ret ?_ | with_reducible refine BlkQ.hit ?_ | with_reducible refine BlkQ.miss (by decide) ?_ | with_reducible refine LoopQ.exit ?_ | with_reducible refine LoopQ.ret ?_ | (with_reducible refine Wo.id ?_; first | refine Wo.doVal rfl rfl (op_move rfl rfl) ?_ | refine Wo.doVal rfl rfl (op_assign rfl rfl) ?_ | refine Wo.doVal rfl rfl (op_bin rfl rfl rfl rfl rfl) ?_ | refine Wo.doVal rfl rfl (op_un rfl rfl rfl rfl) ?_ | refine Wo.doVal rfl rfl (op_len_sl rfl rfl (by first | with_reducible exact u24 | with_reducible exact u3 | with_reducible exact u23) rfl) ?_ | refine Wo.doVal rfl rfl (op_len_str rfl rfl (by first | with_reducible exact u24 | with_reducible exact u3 | with_reducible exact u23) rfl) ?_))
      refine EndQ.ret rfl ⟨.sl [] .unk, rfl, rfl, ⟨.unk, by rw [hk0]; rfl, rfl⟩, rfl⟩
    · rw [if_neg h0]
      repeat (first | with_reducible refine Wc.seq ?_ | with_reducible refine Wc.region ?_ | with_reducible refine Wo.nil ?_ | (with_reducible refine SeqQ.id ?_; refine SeqQ.norm (by first | (simp only [setAt, enter, List.replicate, List.cons_append, List.nil_append]; rfl) | rfl) ?_) | with_reducible refine Wc.block ?_ | with_reducible refine Wc.skip ?_ | with_reducible refine Wc.exit ?_ | with_reducible refine Wc.retn ?_ | with_reducible refine SeqQ.exit ?_ | with_reducible refine SeqQ.ret ?_ | with_reducible refine BlkQ.normal ?_ | with_reducible refine BlkQ.ret ?_ | with_reducible refine BlkQ.hit ?_ | with_reducible refine BlkQ.miss (by decide) ?_ | with_reducible refine LoopQ.exit ?_ | with_reducible refine LoopQ.ret ?_ | (with_reducible refine Wo.id ?_; first | refine Wo.doVal rfl rfl (op_move rfl rfl) ?_ | refine Wo.doVal rfl rfl (op_assign rfl rfl) ?_ | refine Wo.doVal rfl rfl (op_bin rfl rfl rfl rfl rfl) ?_ | refine Wo.doVal rfl rfl (op_un rfl rfl rfl rfl) ?_ | refine Wo.doVal rfl rfl (op_len_sl rfl rfl (by first | with_reducible exact u24 | with_reducible exact u3 | with_reducible exact u23) rfl) ?_ | refine Wo.doVal rfl rfl (op_len_str rfl rfl (by first | with_reducible exact u24 | with_reducible exact u3 | with_reducible exact u23) rfl) ?_))
      have hlt : ((owners o p 8).take k).length = k := by rw [List.length_take]; omega
      refine EndQ.ret (r := .ms b 0 k 1) rfl ⟨.sl (((owners o p 8).take k).map i64) .unk, ?_, rfl, ⟨.unk, rfl, rfl⟩, rfl⟩
      have := snap_ms (xs := (owners o p 8).take k) (off := 0) hb2 (by rw [List.length_map, hlt]; omega) (fun j hj => by
        have hj' : j < (owners o p 8).length := by omega
        rw [Nat.zero_add, List.getElem?_map, List.getElem?_eq_getElem hj', List.getElem_take]; rfl)
      rwa [hlt] at this
end Go.Proofs
