/- pack's writer: numbers, flags, texts, what it has. -/
import Derived.Test.YtaefgigfoifjaaaGreatDoorCkBuf
set_option linter.unusedVariables false
set_option linter.unusedSimpArgs false
set_option linter.unusedSectionVars false
namespace Go.Tm
section
variable {K : Cfg} {f : FuncId} {o : Oper} {R : List AV} {own : Nat → Nat} {H : List AB}
theorem op_sliceData {x : Operand} {v r : AV} {ts : Array TypeId} (ho : o.op = .call { callee := .builtin .unsafeSliceData, args := #[x], argTypes := ts }) (hx : evalO K R x = some v) (hv : (v = .sl [] .nil ∧ r = .v (.pointer none)) ∨ ∃ b off l s, v = .ms b off (l + 1) s ∧ r = .ptr b off) : aOp K f ⟨R, own, H⟩ o [] = some (.val r own H, [], []) := by
 have hm : mapO (evalO K R) [x] = some [v] := by simp [mapO, hx]
 rcases hv with ⟨rfl, rfl⟩ | ⟨b, off, l, s, rfl, rfl⟩
 ·simp only [aOp, ho, hm, aBuiltin]; rfl
 ·simp only [aOp, ho, hm, aBuiltin]; rfl
theorem op_unsafeString {x y : Operand} {t u : TypeId} {p n r : AV} {H' : List AB} {ts : Array TypeId} {l : List TypeId} (ho : o.op = .call { callee := .builtin .unsafeString, args := #[x, y], argTypes := ts }) (ht : ts.toList = t :: l) (hu : K.P.underlying t = some (.pointer u)) (hx : evalO K R x = some p) (hy : evalO K R y = some n) (hr : aUnsafeString K H u p n = some (r, H')) : aOp K f ⟨R, own, H⟩ o [] = some (.val r.unown own H', [], []) := by
 have hm : mapO (evalO K R) [x, y] = some [p, n] := by simp [mapO, hx, hy]
 simp only [aOp, ho, hm, ht, aBuiltin, hu, hr]; rfl
end
end Go.Tm
namespace Go.Proofs.Ck
open Go.Tm
set_option maxRecDepth 100000
abbrev u64v (n : Nat) : AV := .v (.int .u64 (n : Nat))
theorem ag37 : tAgg Kk.P 37 = some false := by kernel_rfl
theorem sz37 : tSize Kk.P 37 = some 1 := by kernel_rfl
theorem u168 : Kk.P.underlying 168 = some (.pointer 5) := Tryz.underlying168
theorem cells5 : Kk.P.cellsOf 5 = 1 := by kernel_rfl
theorem fb1 (b : Nat) : aFieldAddr Kk 72 (.ptr b 0) 1 = some (.ptr b 1) := by kernel_rfl
theorem asBytes_u8 : ∀ bs : List UInt8, asBytes (bs.map u8v) = some bs
 | [] => rfl
 | b :: r => by
  simp only [List.map_cons, asBytes, asBytes_u8 r]
  congr 2
  exact UInt8.ofNat_toNat
theorem us_some {H : List AB} {k : Nat} {bs : List UInt8} (hne : bs ≠ []) (hl : bs.length ≤ 140737488355328) (hk : nth H k = some (.cells (5, false) (bs.map u8v))) : aUnsafeString Kk H 5 (.ptr k 0) (.v (goInt bs.length)) = some (.str bs, setAt H k .dead) := by
 have hp : 0 < bs.length := List.length_pos_iff.2 hne
 obtain ⟨n, hn⟩ : ∃ n, bs.length = n + 1 := ⟨bs.length - 1, by omega⟩
 unfold aUnsafeString
 rw [show asI (.v (goInt bs.length)) = some (.i64, ((n + 1 : Nat) : Int)) by rw [hn]; rfl]
 show (match nth H k with
  | some (.cells tt cs) =>
   if (0 : Nat) = 0 ∧ 0 < ((n + 1 : Nat) : Int) ∧ ((n + 1 : Nat) : Int).toNat ≤ cs.length ∧ ((n + 1 : Nat) : Int) ≤ 9223372036854775807 ∧ tt.1 = 5 ∧ Kk.P.cellsOf 5 = 1 then match asBytes (cs.take ((n + 1 : Nat) : Int).toNat) with
    | some l => some (AV.str l, setAt H k .dead)
    | none => none
   else none
  | _ => none) = _
 rw [hk]
 simp only [Int.toNat_natCast]
 rw [if_pos ⟨by trivial, by omega, by rw [List.length_map, hn]; exact Nat.le_refl _, by omega, by trivial, cells5⟩, ← hn, List.take_of_length_le (by rw [List.length_map]; exact Nat.le_refl _), asBytes_u8]
theorem str_tells {n : Nat} (H : List AB) (b : Nat) (bs : List UInt8) (hb : Bld n H b bs) (hl : bs.length ≤ 140737488355328) : Tells Kk 97 [.ptr b 0] H fun r H' => r = .str bs ∧ Old n H H' := by
 refine Tells.mem (c := _) Tryz.func97 rfl (args' := [.ptr b 0]) (m := 13) rfl rfl rfl rfl rfl ?_
 (repeat(first|with_reducible refine jZ ?_|(with_reducible apply jW;refine jX (by first|(simp only [j0,jU];rfl)|rfl) ?_)|with_reducible apply jE|with_reducible refine jP (by decide) ?_|(with_reducible apply jQ;first|refine kR rfl rfl ?_|refine kT rfl rfl ?_)|((first|((with_reducible apply kv);rfl)|((with_reducible apply ky);rfl;rfl)|((with_reducible apply kz);rfl;rfl)|((with_reducible apply kl);rfl;assumption;rfl;(first|assumption|rfl)));refine jT (by first|(simp only [j0,jU];rfl)|rfl) ?_)))
 refine Wc.drawn rfl (by kernel_rfl) ?_
 (repeat (with_reducible refine Wd.id ?_; first | refine Wd.nil ?_ | (refine Wd.not rfl rfl rfl rfl rfl ?_; refine Wd.norm (by first | (simp only [setAt]; rfl) | rfl) ?_) | ((first | refine Wd.go0 rfl rfl ?_ | refine Wd.go1 rfl rfl rfl rfl ?_); (first | refine Wy.val rfl (op_move rfl rfl) rfl ?_ | refine Wy.val rfl (op_assign rfl rfl) rfl ?_ | refine Wy.val rfl (op_bin rfl rfl rfl rfl rfl) rfl ?_ | refine Wy.val rfl (op_un rfl rfl rfl rfl) rfl ?_ | refine Wy.val rfl (op_pick_t rfl rfl rfl rfl rfl rfl) rfl ?_ | refine Wy.val rfl (op_pick_f rfl rfl rfl rfl rfl rfl) rfl ?_ | refine Wy.val rfl (op_len_sl rfl rfl (by first | with_reducible exact u37) rfl) rfl ?_ | refine Wy.val rfl (op_len_str rfl rfl (by first | with_reducible exact u37) rfl) rfl ?_); refine Wd.norm (by first | (simp only [setAt]; rfl) | rfl) ?_)))
 obtain ⟨t, a, v, ht, ha, hn, hvb, hv⟩ := hb.buf
 have hload : takeVar Kk.P 37 ([a, v].drop 1) = some v := take_one ag37 sz37
 ((first | refine Wd.go0 rfl rfl ?_ | refine Wd.go1 rfl rfl rfl rfl ?_); refine Wy.val rfl (op_nilCheck rfl rfl) rfl ?_; refine Wd.norm (by first | (simp only [setAt]; rfl) | rfl) ?_)
 ((first | refine Wd.go0 rfl rfl ?_ | refine Wd.go1 rfl rfl rfl rfl ?_); refine Wy.val rfl (op_fieldAddr rfl rfl (fb1 _)) rfl ?_; refine Wd.norm (by first | (simp only [setAt]; rfl) | rfl) ?_)
 ((first | refine Wd.go0 rfl rfl ?_ | refine Wd.go1 rfl rfl rfl rfl ?_); refine Wy.val rfl (op_load_ptr (v := v) rfl rfl hn hload) rfl ?_; refine Wd.norm (by first | (simp only [setAt]; rfl) | rfl) ?_)
 rw [hv.plain.1]
 obtain ⟨hbn, t2, ht2, ⟨rfl, a', ha', hn'⟩ | ⟨hne, k, hkb, hnk, hn', hk⟩⟩ := hb
 ·obtain ⟨rfl, rfl⟩ : a' = a ∧ v = .sl [] .nil := by rw [hn] at hn'; cases hn'; exact ⟨rfl, rfl⟩
  ((first | refine Wd.go0 rfl rfl ?_ | refine Wd.go1 rfl rfl rfl rfl ?_); refine Wy.val rfl (op_sliceData rfl rfl (.inl ⟨rfl, rfl⟩)) rfl ?_; refine Wd.norm (by first | (simp only [setAt]; rfl) | rfl) ?_)
  (repeat (with_reducible refine Wd.id ?_; first | refine Wd.nil ?_ | (refine Wd.not rfl rfl rfl rfl rfl ?_; refine Wd.norm (by first | (simp only [setAt]; rfl) | rfl) ?_) | ((first | refine Wd.go0 rfl rfl ?_ | refine Wd.go1 rfl rfl rfl rfl ?_); (first | refine Wy.val rfl (op_move rfl rfl) rfl ?_ | refine Wy.val rfl (op_assign rfl rfl) rfl ?_ | refine Wy.val rfl (op_bin rfl rfl rfl rfl rfl) rfl ?_ | refine Wy.val rfl (op_un rfl rfl rfl rfl) rfl ?_ | refine Wy.val rfl (op_pick_t rfl rfl rfl rfl rfl rfl) rfl ?_ | refine Wy.val rfl (op_pick_f rfl rfl rfl rfl rfl rfl) rfl ?_ | refine Wy.val rfl (op_len_sl rfl rfl (by first | with_reducible exact u37) rfl) rfl ?_ | refine Wy.val rfl (op_len_str rfl rfl (by first | with_reducible exact u37) rfl) rfl ?_); refine Wd.norm (by first | (simp only [setAt]; rfl) | rfl) ?_)))
  ((first | refine Wd.go0 rfl rfl ?_ | refine Wd.go1 rfl rfl rfl rfl ?_); refine Wy.val rfl (op_nilCheck rfl rfl) rfl ?_; refine Wd.norm (by first | (simp only [setAt]; rfl) | rfl) ?_)
  ((first | refine Wd.go0 rfl rfl ?_ | refine Wd.go1 rfl rfl rfl rfl ?_); refine Wy.val rfl (op_fieldAddr rfl rfl (fb1 _)) rfl ?_; refine Wd.norm (by first | (simp only [setAt]; rfl) | rfl) ?_)
  ((first | refine Wd.go0 rfl rfl ?_ | refine Wd.go1 rfl rfl rfl rfl ?_); refine Wy.val rfl (op_load_ptr (v := .sl [] .nil) rfl rfl hn hload) rfl ?_; refine Wd.norm (by first | (simp only [setAt]; rfl) | rfl) ?_)
  (repeat (with_reducible refine Wd.id ?_; first | refine Wd.nil ?_ | (refine Wd.not rfl rfl rfl rfl rfl ?_; refine Wd.norm (by first | (simp only [setAt]; rfl) | rfl) ?_) | ((first | refine Wd.go0 rfl rfl ?_ | refine Wd.go1 rfl rfl rfl rfl ?_); (first | refine Wy.val rfl (op_move rfl rfl) rfl ?_ | refine Wy.val rfl (op_assign rfl rfl) rfl ?_ | refine Wy.val rfl (op_bin rfl rfl rfl rfl rfl) rfl ?_ | refine Wy.val rfl (op_un rfl rfl rfl rfl) rfl ?_ | refine Wy.val rfl (op_pick_t rfl rfl rfl rfl rfl rfl) rfl ?_ | refine Wy.val rfl (op_pick_f rfl rfl rfl rfl rfl rfl) rfl ?_ | refine Wy.val rfl (op_len_sl rfl rfl (by first | with_reducible exact u37) rfl) rfl ?_ | refine Wy.val rfl (op_len_str rfl rfl (by first | with_reducible exact u37) rfl) rfl ?_); refine Wd.norm (by first | (simp only [setAt]; rfl) | rfl) ?_)))
  ((first | refine Wd.go0 rfl rfl ?_ | refine Wd.go1 rfl rfl rfl rfl ?_); refine Wy.val rfl (op_unsafeString rfl rfl u168 rfl rfl rfl) rfl ?_; refine Wd.norm (by first | (simp only [setAt]; rfl) | rfl) ?_)
  (repeat (with_reducible refine Wd.id ?_; first | refine Wd.nil ?_ | (refine Wd.not rfl rfl rfl rfl rfl ?_; refine Wd.norm (by first | (simp only [setAt]; rfl) | rfl) ?_) | ((first | refine Wd.go0 rfl rfl ?_ | refine Wd.go1 rfl rfl rfl rfl ?_); (first | refine Wy.val rfl (op_move rfl rfl) rfl ?_ | refine Wy.val rfl (op_assign rfl rfl) rfl ?_ | refine Wy.val rfl (op_bin rfl rfl rfl rfl rfl) rfl ?_ | refine Wy.val rfl (op_un rfl rfl rfl rfl) rfl ?_ | refine Wy.val rfl (op_pick_t rfl rfl rfl rfl rfl rfl) rfl ?_ | refine Wy.val rfl (op_pick_f rfl rfl rfl rfl rfl rfl) rfl ?_ | refine Wy.val rfl (op_len_sl rfl rfl (by first | with_reducible exact u37) rfl) rfl ?_ | refine Wy.val rfl (op_len_str rfl rfl (by first | with_reducible exact u37) rfl) rfl ?_); refine Wd.norm (by first | (simp only [setAt]; rfl) | rfl) ?_)))
  (repeat(first|with_reducible refine jZ ?_|(with_reducible apply jW;refine jX (by first|(simp only [j0,jU];rfl)|rfl) ?_)|with_reducible apply jE|with_reducible refine jP (by decide) ?_|(with_reducible apply jQ;first|refine kR rfl rfl ?_|refine kT rfl rfl ?_)|((first|((with_reducible apply kv);rfl)|((with_reducible apply ky);rfl;rfl)|((with_reducible apply kz);rfl;rfl)|((with_reducible apply kl);rfl;assumption;rfl;(first|assumption|rfl)));refine jT (by first|(simp only [j0,jU];rfl)|rfl) ?_)))
  exact EndQ.ret rfl ⟨rfl, Old.refl _ _⟩
 ·obtain rfl : v = .ms k 0 bs.length 1 := by rw [hn] at hn'; cases hn'; rfl
  obtain ⟨n, hl'⟩ : ∃ n, bs.length = n + 1 := ⟨bs.length - 1, by have := List.length_pos_iff.2 hne; omega⟩
  ((first | refine Wd.go0 rfl rfl ?_ | refine Wd.go1 rfl rfl rfl rfl ?_); refine Wy.val rfl (op_sliceData rfl rfl (.inr ⟨k, 0, n, 1, by rw [hl'], rfl⟩)) rfl ?_; refine Wd.norm (by first | (simp only [setAt]; rfl) | rfl) ?_)
  (repeat (with_reducible refine Wd.id ?_; first | refine Wd.nil ?_ | (refine Wd.not rfl rfl rfl rfl rfl ?_; refine Wd.norm (by first | (simp only [setAt]; rfl) | rfl) ?_) | ((first | refine Wd.go0 rfl rfl ?_ | refine Wd.go1 rfl rfl rfl rfl ?_); (first | refine Wy.val rfl (op_move rfl rfl) rfl ?_ | refine Wy.val rfl (op_assign rfl rfl) rfl ?_ | refine Wy.val rfl (op_bin rfl rfl rfl rfl rfl) rfl ?_ | refine Wy.val rfl (op_un rfl rfl rfl rfl) rfl ?_ | refine Wy.val rfl (op_pick_t rfl rfl rfl rfl rfl rfl) rfl ?_ | refine Wy.val rfl (op_pick_f rfl rfl rfl rfl rfl rfl) rfl ?_ | refine Wy.val rfl (op_len_sl rfl rfl (by first | with_reducible exact u37) rfl) rfl ?_ | refine Wy.val rfl (op_len_str rfl rfl (by first | with_reducible exact u37) rfl) rfl ?_); refine Wd.norm (by first | (simp only [setAt]; rfl) | rfl) ?_)))
  ((first | refine Wd.go0 rfl rfl ?_ | refine Wd.go1 rfl rfl rfl rfl ?_); refine Wy.val rfl (op_nilCheck rfl rfl) rfl ?_; refine Wd.norm (by first | (simp only [setAt]; rfl) | rfl) ?_)
  ((first | refine Wd.go0 rfl rfl ?_ | refine Wd.go1 rfl rfl rfl rfl ?_); refine Wy.val rfl (op_fieldAddr rfl rfl (fb1 _)) rfl ?_; refine Wd.norm (by first | (simp only [setAt]; rfl) | rfl) ?_)
  ((first | refine Wd.go0 rfl rfl ?_ | refine Wd.go1 rfl rfl rfl rfl ?_); refine Wy.val rfl (op_load_ptr (v := .ms k 0 bs.length 1) rfl rfl hn hload) rfl ?_; refine Wd.norm (by first | (simp only [setAt]; rfl) | rfl) ?_)
  (repeat (with_reducible refine Wd.id ?_; first | refine Wd.nil ?_ | (refine Wd.not rfl rfl rfl rfl rfl ?_; refine Wd.norm (by first | (simp only [setAt]; rfl) | rfl) ?_) | ((first | refine Wd.go0 rfl rfl ?_ | refine Wd.go1 rfl rfl rfl rfl ?_); (first | refine Wy.val rfl (op_move rfl rfl) rfl ?_ | refine Wy.val rfl (op_assign rfl rfl) rfl ?_ | refine Wy.val rfl (op_bin rfl rfl rfl rfl rfl) rfl ?_ | refine Wy.val rfl (op_un rfl rfl rfl rfl) rfl ?_ | refine Wy.val rfl (op_pick_t rfl rfl rfl rfl rfl rfl) rfl ?_ | refine Wy.val rfl (op_pick_f rfl rfl rfl rfl rfl rfl) rfl ?_ | refine Wy.val rfl (op_len_sl rfl rfl (by first | with_reducible exact u37) rfl) rfl ?_ | refine Wy.val rfl (op_len_str rfl rfl (by first | with_reducible exact u37) rfl) rfl ?_); refine Wd.norm (by first | (simp only [setAt]; rfl) | rfl) ?_)))
  ((first | refine Wd.go0 rfl rfl ?_ | refine Wd.go1 rfl rfl rfl rfl ?_); refine Wy.val rfl (op_len_ms rfl rfl u37 rfl) rfl ?_; refine Wd.norm (by first | (simp only [setAt]; rfl) | rfl) ?_)
  ((first | refine Wd.go0 rfl rfl ?_ | refine Wd.go1 rfl rfl rfl rfl ?_); refine Wy.val rfl (op_unsafeString rfl rfl u168 rfl rfl (us_some hne hl hk)) rfl ?_; refine Wd.norm (by first | (simp only [setAt]; rfl) | rfl) ?_)
  (repeat (with_reducible refine Wd.id ?_; first | refine Wd.nil ?_ | (refine Wd.not rfl rfl rfl rfl rfl ?_; refine Wd.norm (by first | (simp only [setAt]; rfl) | rfl) ?_) | ((first | refine Wd.go0 rfl rfl ?_ | refine Wd.go1 rfl rfl rfl rfl ?_); (first | refine Wy.val rfl (op_move rfl rfl) rfl ?_ | refine Wy.val rfl (op_assign rfl rfl) rfl ?_ | refine Wy.val rfl (op_bin rfl rfl rfl rfl rfl) rfl ?_ | refine Wy.val rfl (op_un rfl rfl rfl rfl) rfl ?_ | refine Wy.val rfl (op_pick_t rfl rfl rfl rfl rfl rfl) rfl ?_ | refine Wy.val rfl (op_pick_f rfl rfl rfl rfl rfl rfl) rfl ?_ | refine Wy.val rfl (op_len_sl rfl rfl (by first | with_reducible exact u37) rfl) rfl ?_ | refine Wy.val rfl (op_len_str rfl rfl (by first | with_reducible exact u37) rfl) rfl ?_); refine Wd.norm (by first | (simp only [setAt]; rfl) | rfl) ?_)))
  (repeat(first|with_reducible refine jZ ?_|(with_reducible apply jW;refine jX (by first|(simp only [j0,jU];rfl)|rfl) ?_)|with_reducible apply jE|with_reducible refine jP (by decide) ?_|(with_reducible apply jQ;first|refine kR rfl rfl ?_|refine kT rfl rfl ?_)|((first|((with_reducible apply kv);rfl)|((with_reducible apply ky);rfl;rfl)|((with_reducible apply kz);rfl;rfl)|((with_reducible apply kl);rfl;assumption;rfl;(first|assumption|rfl)));refine jT (by first|(simp only [j0,jU];rfl)|rfl) ?_)))
  exact EndQ.ret rfl ⟨rfl, Old.set hnk _⟩
theorem wrap8 (n : Nat) : IntKind.u8.wrap (n : Int) = ((n % 256 : Nat) : Int) := by rw [IntKind.wrap_u8]; omega
theorem wrap64 {n : Nat} (h : n < 18446744073709551616) : IntKind.u64.wrap (n : Int) = (n : Int) := by rw [IntKind.wrap_u64]; omega
theorem wrapi {n : Nat} (h : n < 9223372036854775808) : IntKind.i64.wrap (n : Int) = (n : Int) := by rw [IntKind.wrap_i64]; omega
theorem u8v_of (n : Nat) (h : n < 256) : AV.v (.int .u8 ((n : Nat) : Int)) = u8v (UInt8.ofNat n) := by
 show AV.v _ = AV.v _
 rw [UInt8.toNat_ofNat', Nat.mod_eq_of_lt h]
theorem num_tells {n : Nat} (k : Nat) (hk : k < 18446744073709551616) (H : List AB) (b : Nat) (bs : List UInt8) (hb : Bld n H b bs) (hl : bs.length ≤ 1099511627776) : Tells Kk 143 [.ptr b 0, u64v k] H fun _ H' => Bld n H' b (bs ++ numB k) ∧ Old n H H' := by
 refine Tells.mem (c := _) Tryz.func143 rfl (args' := [.ptr b 0, u64v k]) (m := 19) rfl rfl rfl rfl rfl ?_
 (repeat(first|with_reducible refine jZ ?_|(with_reducible apply jW;refine jX (by first|(simp only [j0,jU];rfl)|rfl) ?_)|with_reducible refine jP (by decide) ?_|(with_reducible apply jQ;first|refine kR rfl rfl ?_|refine kT rfl rfl ?_)|((first|((with_reducible apply kv);rfl)|((with_reducible apply ky);rfl;rfl)|((with_reducible apply kz);rfl;rfl)|((with_reducible apply kl);rfl;assumption;rfl;(first|assumption|rfl)));refine jT (by first|(simp only [j0,jU];rfl)|rfl) ?_)))
 refine Wc.mid (fun st => ∃ (j : Nat) (cs : List UInt8), j < 128 ∧ numB k = cs ++ [UInt8.ofNat j] ∧ cs.length ≤ 10 ∧ Bld n st.H b (bs ++ cs) ∧ Old n H st.H ∧ ∃ d : Nat → AV, st.regs = (.ptr b 0 :: u64v j :: d 2 :: d 3 :: d 4 :: d 5 :: d 6 :: d 7 :: d 8 :: d 9 :: d 10 :: d 11 :: d 12 :: d 13 :: d 14 :: d 15 :: d 16 :: d 17 :: d 18 :: d 19 :: d 20 :: [])) ?_ ?_
 ·refine Wc.block ?_
  refine Wc.inv (fun m st => ∃ (j : Nat) (cs : List UInt8), j = m ∧ j * 128 ^ cs.length ≤ k ∧ numB k = cs ++ numB j ∧ j < 18446744073709551616 ∧ cs.length ≤ 10 ∧ (cs ≠ [] → 0 < j) ∧ Bld n st.H b (bs ++ cs) ∧ Old n H st.H ∧ ∃ d : Nat → AV, st.regs = (.ptr b 0 :: u64v j :: d 2 :: d 3 :: d 4 :: d 5 :: d 6 :: d 7 :: d 8 :: d 9 :: d 10 :: d 11 :: d 12 :: d 13 :: d 14 :: d 15 :: d 16 :: d 17 :: d 18 :: d 19 :: d 20 :: [])) k ?_ ?_
  ·exact ⟨k, [], rfl, by simp, rfl, hk, by simp, by simp, by simpa using hb, Old.refl _ _, dead_of rfl⟩
  ·rintro m regs own H1 ⟨j, cs, rfl, hjk, hnum, hj, hcs, hpos, hb1, ho1, d, rfl⟩
   (repeat(first|with_reducible refine jZ ?_|(with_reducible apply jW;refine jX (by first|(simp only [j0,jU];rfl)|rfl) ?_)|with_reducible apply jE|with_reducible refine jP (by decide) ?_|(with_reducible apply jQ;first|refine kR rfl rfl ?_|refine kT rfl rfl ?_)|((first|((with_reducible apply kv);rfl)|((with_reducible apply ky);rfl;rfl)|((with_reducible apply kz);rfl;rfl)|((with_reducible apply kl);rfl;assumption;rfl;(first|assumption|rfl)));refine jT (by first|(simp only [j0,jU];rfl)|rfl) ?_)))
   by_cases h : j < 128
   ·rw [show decide ((j : Int) ≥ 128) = false from decide_eq_false (by omega)]
    (repeat(first|with_reducible refine jZ ?_|(with_reducible apply jW;refine jX (by first|(simp only [j0,jU];rfl)|rfl) ?_)|with_reducible apply jE|with_reducible refine jP (by decide) ?_|(with_reducible apply jQ;first|refine kR rfl rfl ?_|refine kT rfl rfl ?_)|((first|((with_reducible apply kv);rfl)|((with_reducible apply ky);rfl;rfl)|((with_reducible apply kz);rfl;rfl)|((with_reducible apply kl);rfl;assumption;rfl;(first|assumption|rfl)));refine jT (by first|(simp only [j0,jU];rfl)|rfl) ?_)))
    refine ⟨rfl, j, cs, h, ?_, hcs, hb1, ho1, dead_of rfl⟩
    rw [hnum]; unfold numB; rw [dif_pos h]
   ·rw [show decide ((j : Int) ≥ 128) = true from decide_eq_true (by omega)]
    have hlen : cs.length < 9 := by
     rcases Nat.lt_or_ge cs.length 9 with q | q
     ·exact q
     ·have h1 : 128 ^ 9 ≤ 128 ^ cs.length := Nat.pow_le_pow_right (by omega) q
      have h2 : 128 * 128 ^ 9 ≤ j * 128 ^ cs.length := Nat.mul_le_mul (by omega) h1
      have h3 : (128 : Nat) * 128 ^ 9 = 1180591620717411303424 := by decide
      omega
    (repeat(first|with_reducible refine jZ ?_|(with_reducible apply jW;refine jX (by first|(simp only [j0,jU];rfl)|rfl) ?_)|with_reducible apply jE|with_reducible refine jP (by decide) ?_|(with_reducible apply jQ;first|refine kR rfl rfl ?_|refine kT rfl rfl ?_)|((first|((with_reducible apply kv);rfl)|((with_reducible apply ky);rfl;rfl)|((with_reducible apply kz);rfl;rfl)|((with_reducible apply kl);rfl;assumption;rfl;(first|assumption|rfl)));refine jT (by first|(simp only [j0,jU];rfl)|rfl) ?_)))
    rw [wrap8]
    refine Wo.doVal rfl rfl (op_bin (r := .int .u8 ((j % 256 ||| 128 : Nat) : Int)) rfl rfl rfl (or_run _ _ _ .u8 rfl (by show j % 256 < 2 ^ 8; omega) (by decide)) rfl) ?_
    rw [or128 _ (Nat.mod_lt _ (by omega)), show j % 256 % 128 + 128 = j % 128 + 128 by omega, u8v_of (j % 128 + 128) (by omega)]
    refine kC rfl rfl ((wb_tells H1 b (bs ++ cs) _ hb1 (by simp; omega)).mono ?_)
    rintro r2 H2 ⟨hb2, ho2⟩
    (repeat(first|with_reducible refine jZ ?_|(with_reducible apply jW;refine jX (by first|(simp only [j0,jU];rfl)|rfl) ?_)|with_reducible apply jE|with_reducible refine jP (by decide) ?_|(with_reducible apply jQ;first|refine kR rfl rfl ?_|refine kT rfl rfl ?_)|((first|((with_reducible apply kv);rfl)|((with_reducible apply ky);rfl;rfl)|((with_reducible apply kz);rfl;rfl)|((with_reducible apply kl);rfl;assumption;rfl;(first|assumption|rfl)));refine jT (by first|(simp only [j0,jU];rfl)|rfl) ?_)))
    refine Wo.doVal rfl rfl (op_bin (r := .int .u64 ((j / 2 ^ 7 : Nat) : Int)) rfl rfl rfl (shrN_run _ _ _ .u64 _ (n := 7) (by decide)) rfl) ?_
    (repeat(first|with_reducible refine jZ ?_|(with_reducible apply jW;refine jX (by first|(simp only [j0,jU];rfl)|rfl) ?_)|with_reducible apply jE|with_reducible refine jP (by decide) ?_|(with_reducible apply jQ;first|refine kR rfl rfl ?_|refine kT rfl rfl ?_)|((first|((with_reducible apply kv);rfl)|((with_reducible apply ky);rfl;rfl)|((with_reducible apply kz);rfl;rfl)|((with_reducible apply kl);rfl;assumption;rfl;(first|assumption|rfl)));refine jT (by first|(simp only [j0,jU];rfl)|rfl) ?_)))
    refine LoopQ.normal (j / 2 ^ 7) (by omega) ⟨j / 2 ^ 7, cs ++ [UInt8.ofNat (j % 128 + 128)], rfl, ?_, ?_, by omega, by simp; omega, by omega, by simpa using hb2, ho1.trans ho2, dead_of rfl⟩
    ·rw [List.length_append, List.length_singleton, Nat.pow_succ (n := 128) (m := cs.length), Nat.mul_comm (128 ^ cs.length), ← Nat.mul_assoc, show (2 : Nat) ^ 7 = 128 from rfl]
     exact Nat.le_trans (Nat.mul_le_mul_right _ (by omega)) hjk
    ·rw [hnum, List.append_assoc]
     congr 1
     rw [numB, dif_neg h]; rfl
 ·rintro regs own H1 ⟨j, cs, hj, hnum, hcs, hb1, ho1, d, rfl⟩
  (repeat(first|with_reducible refine jZ ?_|(with_reducible apply jW;refine jX (by first|(simp only [j0,jU];rfl)|rfl) ?_)|with_reducible apply jE|with_reducible refine jP (by decide) ?_|(with_reducible apply jQ;first|refine kR rfl rfl ?_|refine kT rfl rfl ?_)|((first|((with_reducible apply kv);rfl)|((with_reducible apply ky);rfl;rfl)|((with_reducible apply kz);rfl;rfl)|((with_reducible apply kl);rfl;assumption;rfl;(first|assumption|rfl)));refine jT (by first|(simp only [j0,jU];rfl)|rfl) ?_)))
  rw [wrap8, Nat.mod_eq_of_lt (by omega), u8v_of j (by omega)]
  refine kC rfl rfl ((wb_tells H1 b (bs ++ cs) _ hb1 (by simp; omega)).mono ?_)
  rintro r2 H2 ⟨hb2, ho2⟩
  (repeat(first|with_reducible refine jZ ?_|(with_reducible apply jW;refine jX (by first|(simp only [j0,jU];rfl)|rfl) ?_)|with_reducible apply jE|with_reducible refine jP (by decide) ?_|(with_reducible apply jQ;first|refine kR rfl rfl ?_|refine kT rfl rfl ?_)|((first|((with_reducible apply kv);rfl)|((with_reducible apply ky);rfl;rfl)|((with_reducible apply kz);rfl;rfl)|((with_reducible apply kl);rfl;assumption;rfl;(first|assumption|rfl)));refine jT (by first|(simp only [j0,jU];rfl)|rfl) ?_)))
  refine EndQ.normal rfl ⟨?_, ho1.trans ho2⟩
  rw [hnum, ← List.append_assoc]; exact hb2
theorem raw_tells {n : Nat} (s : List UInt8) (H : List AB) (b : Nat) (bs : List UInt8) (hb : Bld n H b bs) (hl : bs.length + s.length ≤ 140737488355328) : Tells Kk 144 [.ptr b 0, .str s] H fun _ H' => Bld n H' b (bs ++ s) ∧ Old n H H' := by
 refine Tells.mem (c := _) Tryz.func144 rfl (args' := [.ptr b 0, .str s]) (m := 7) rfl rfl rfl rfl rfl ?_
 (repeat(first|with_reducible refine jZ ?_|(with_reducible apply jW;refine jX (by first|(simp only [j0,jU];rfl)|rfl) ?_)|with_reducible apply jE|with_reducible refine jP (by decide) ?_|(with_reducible apply jQ;first|refine kR rfl rfl ?_|refine kT rfl rfl ?_)|((first|((with_reducible apply kv);rfl)|((with_reducible apply ky);rfl;rfl)|((with_reducible apply kz);rfl;rfl)|((with_reducible apply kl);rfl;assumption;rfl;(first|assumption|rfl)));refine jT (by first|(simp only [j0,jU];rfl)|rfl) ?_)))
 refine kC rfl rfl ((ws_tells H b bs s hb hl).mono ?_)
 rintro r2 H2 ⟨hb2, ho2⟩
 (repeat(first|with_reducible refine jZ ?_|(with_reducible apply jW;refine jX (by first|(simp only [j0,jU];rfl)|rfl) ?_)|with_reducible apply jE|with_reducible refine jP (by decide) ?_|(with_reducible apply jQ;first|refine kR rfl rfl ?_|refine kT rfl rfl ?_)|((first|((with_reducible apply kv);rfl)|((with_reducible apply ky);rfl;rfl)|((with_reducible apply kz);rfl;rfl)|((with_reducible apply kl);rfl;assumption;rfl;(first|assumption|rfl)));refine jT (by first|(simp only [j0,jU];rfl)|rfl) ?_)))
 exact EndQ.normal rfl ⟨hb2, ho2⟩
theorem numB_len10 {n : Nat} (h : n < 18446744073709551616) : (numB n).length ≤ 10 := numB_len 10 n (by omega) (by omega)
theorem text_tells {n : Nat} (s : List UInt8) (H : List AB) (b : Nat) (bs : List UInt8) (hb : Bld n H b bs) (hl : bs.length + s.length ≤ 1099511627776) : Tells Kk 91 [.ptr b 0, .str s] H fun _ H' => Bld n H' b (bs ++ textB s) ∧ Old n H H' := by
 refine Tells.mem (c := _) Tryz.func91 rfl (args' := [.ptr b 0, .str s]) (m := 10) rfl rfl rfl rfl rfl ?_
 (repeat(first|with_reducible refine jZ ?_|(with_reducible apply jW;refine jX (by first|(simp only [j0,jU];rfl)|rfl) ?_)|with_reducible apply jE|with_reducible refine jP (by decide) ?_|(with_reducible apply jQ;first|refine kR rfl rfl ?_|refine kT rfl rfl ?_)|((first|((with_reducible apply kv);rfl)|((with_reducible apply ky);rfl;rfl)|((with_reducible apply kz);rfl;rfl)|((with_reducible apply kl);rfl;assumption;rfl;(first|assumption|rfl)));refine jT (by first|(simp only [j0,jU];rfl)|rfl) ?_)))
 rw [wrap64 (by omega)]
 refine kC rfl rfl ((num_tells s.length (by omega) H b bs hb (by omega)).mono ?_)
 rintro r2 H2 ⟨hb2, ho2⟩
 have := numB_len10 (n := s.length) (by omega)
 (repeat(first|with_reducible refine jZ ?_|(with_reducible apply jW;refine jX (by first|(simp only [j0,jU];rfl)|rfl) ?_)|with_reducible apply jE|with_reducible refine jP (by decide) ?_|(with_reducible apply jQ;first|refine kR rfl rfl ?_|refine kT rfl rfl ?_)|((first|((with_reducible apply kv);rfl)|((with_reducible apply ky);rfl;rfl)|((with_reducible apply kz);rfl;rfl)|((with_reducible apply kl);rfl;assumption;rfl;(first|assumption|rfl)));refine jT (by first|(simp only [j0,jU];rfl)|rfl) ?_)))
 refine kC rfl rfl ((raw_tells s H2 b _ hb2 (by simp; omega)).mono ?_)
 rintro r3 H3 ⟨hb3, ho3⟩
 (repeat(first|with_reducible refine jZ ?_|(with_reducible apply jW;refine jX (by first|(simp only [j0,jU];rfl)|rfl) ?_)|with_reducible apply jE|with_reducible refine jP (by decide) ?_|(with_reducible apply jQ;first|refine kR rfl rfl ?_|refine kT rfl rfl ?_)|((first|((with_reducible apply kv);rfl)|((with_reducible apply ky);rfl;rfl)|((with_reducible apply kz);rfl;rfl)|((with_reducible apply kl);rfl;assumption;rfl;(first|assumption|rfl)));refine jT (by first|(simp only [j0,jU];rfl)|rfl) ?_)))
 refine EndQ.normal rfl ⟨?_, ho2.trans ho3⟩
 unfold textB
 rw [← List.append_assoc]; exact hb3
theorem flag_tells {n : Nat} (x : Bool) (H : List AB) (b : Nat) (bs : List UInt8) (hb : Bld n H b bs) (hl : bs.length + 1 ≤ 140737488355328) : Tells Kk 93 [.ptr b 0, .v (.bool x)] H fun _ H' => Bld n H' b (bs ++ flagB x) ∧ Old n H H' := by
 refine Tells.mem (c := _) Tryz.func93 rfl (args' := [.ptr b 0, .v (.bool x)]) (m := 9) rfl rfl rfl rfl rfl ?_
 (repeat(first|with_reducible refine jZ ?_|(with_reducible apply jW;refine jX (by first|(simp only [j0,jU];rfl)|rfl) ?_)|with_reducible apply jE|with_reducible refine jP (by decide) ?_|(with_reducible apply jQ;first|refine kR rfl rfl ?_|refine kT rfl rfl ?_)|((first|((with_reducible apply kv);rfl)|((with_reducible apply ky);rfl;rfl)|((with_reducible apply kz);rfl;rfl)|((with_reducible apply kl);rfl;assumption;rfl;(first|assumption|rfl)));refine jT (by first|(simp only [j0,jU];rfl)|rfl) ?_)))
 cases x with
 | true =>
  (repeat(first|with_reducible refine jZ ?_|(with_reducible apply jW;refine jX (by first|(simp only [j0,jU];rfl)|rfl) ?_)|with_reducible apply jE|with_reducible refine jP (by decide) ?_|(with_reducible apply jQ;first|refine kR rfl rfl ?_|refine kT rfl rfl ?_)|((first|((with_reducible apply kv);rfl)|((with_reducible apply ky);rfl;rfl)|((with_reducible apply kz);rfl;rfl)|((with_reducible apply kl);rfl;assumption;rfl;(first|assumption|rfl)));refine jT (by first|(simp only [j0,jU];rfl)|rfl) ?_)))
  refine kC rfl rfl ((wb_tells H b bs 1 hb hl).mono ?_)
  rintro r2 H2 ⟨hb2, ho2⟩
  (repeat(first|with_reducible refine jZ ?_|(with_reducible apply jW;refine jX (by first|(simp only [j0,jU];rfl)|rfl) ?_)|with_reducible apply jE|with_reducible refine jP (by decide) ?_|(with_reducible apply jQ;first|refine kR rfl rfl ?_|refine kT rfl rfl ?_)|((first|((with_reducible apply kv);rfl)|((with_reducible apply ky);rfl;rfl)|((with_reducible apply kz);rfl;rfl)|((with_reducible apply kl);rfl;assumption;rfl;(first|assumption|rfl)));refine jT (by first|(simp only [j0,jU];rfl)|rfl) ?_)))
  exact EndQ.normal rfl ⟨hb2, ho2⟩
 | false =>
  (repeat(first|with_reducible refine jZ ?_|(with_reducible apply jW;refine jX (by first|(simp only [j0,jU];rfl)|rfl) ?_)|with_reducible apply jE|with_reducible refine jP (by decide) ?_|(with_reducible apply jQ;first|refine kR rfl rfl ?_|refine kT rfl rfl ?_)|((first|((with_reducible apply kv);rfl)|((with_reducible apply ky);rfl;rfl)|((with_reducible apply kz);rfl;rfl)|((with_reducible apply kl);rfl;assumption;rfl;(first|assumption|rfl)));refine jT (by first|(simp only [j0,jU];rfl)|rfl) ?_)))
  refine kC rfl rfl ((wb_tells H b bs 0 hb hl).mono ?_)
  rintro r2 H2 ⟨hb2, ho2⟩
  (repeat(first|with_reducible refine jZ ?_|(with_reducible apply jW;refine jX (by first|(simp only [j0,jU];rfl)|rfl) ?_)|with_reducible apply jE|with_reducible refine jP (by decide) ?_|(with_reducible apply jQ;first|refine kR rfl rfl ?_|refine kT rfl rfl ?_)|((first|((with_reducible apply kv);rfl)|((with_reducible apply ky);rfl;rfl)|((with_reducible apply kz);rfl;rfl)|((with_reducible apply kl);rfl;assumption;rfl;(first|assumption|rfl)));refine jT (by first|(simp only [j0,jU];rfl)|rfl) ?_)))
  exact EndQ.normal rfl ⟨hb2, ho2⟩
end Go.Proofs.Ck
