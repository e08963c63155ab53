/- sha's reference: Sum of a text. -/
import Derived.Test.YtbhjnkdediijnaaDoorRxC
set_option linter.unusedVariables false
set_option linter.unusedSimpArgs false
set_option linter.unusedSectionVars false
namespace Go.Proofs
open Go.Tm Go.Proofs.RsPlain
set_option maxRecDepth 100000
theorem sz63 : tSize Kz.P 63 = some 8 := by kernel_rfl
theorem ag63 : tAgg Kz.P 63 = some true := by kernel_rfl
theorem z63 : tZero Kz.P 63 = some (.agg ((List.replicate 8 0).map cellU)) := by kernel_rfl
theorem sz70 : tSize Kz.P 70 = some 64 := by kernel_rfl
theorem ag70 : tAgg Kz.P 70 = some true := by kernel_rfl
theorem z70 : tZero Kz.P 70 = some (.agg ((List.replicate 64 0).map cellU)) := by kernel_rfl
theorem b63 (a b c d e f g h : Nat) : aBuild Kz 63 [(0, cellU a), (1, cellU b), (2, cellU c), (3, cellU d), (4, cellU e), (5, cellU f), (6, cellU g), (7, cellU h)] = some (.agg [cellU a, cellU b, cellU c, cellU d, cellU e, cellU f, cellU g, cellU h]) := by kernel_rfl
theorem allOne_cellU (l : List Nat) : allOne (l.map cellU) = true := by simp [allOne, AV.one, cellU]
theorem st_one (l : List Nat) (i v : Nat) (h : i < l.length) : (if (cellU v).cells.length = 1 ∧ (0 + i * (0 + 1)) + 1 ≤ (l.map cellU).length ∧ allOne (cellU v).cells = true then some (putAll (l.map cellU) (0 + i * (0 + 1)) (cellU v).unown.cells) else none) = some ((l.set i v).map cellU) := by
 rw [if_pos ⟨rfl, by rw [List.length_map]; omega, rfl⟩, Nat.zero_add, Nat.zero_add, Nat.mul_one]
 show some (setAt (l.map cellU) i (cellU v)) = _
 rw [setAt_eq, List.map_set]
theorem adds_ext {hs st cur : List Nat} (h1 : hs.length = 8) (h2 : st.length = 8) (h3 : cur.length = 8) (h : ∀ j, j < 8 → cur.getD j 0 = Ar.real.add (hs.getD j 0) (st.getD j 0)) : cur = addsU Ar.real hs st := by
 obtain ⟨a0, a1, a2, a3, a4, a5, a6, a7, rfl⟩ := eightN hs h1
 obtain ⟨b0, b1, b2, b3, b4, b5, b6, b7, rfl⟩ := eightN st h2
 obtain ⟨c0, c1, c2, c3, c4, c5, c6, c7, rfl⟩ := eightN cur h3
 have e0 : c0 = Ar.real.add a0 b0 := h 0 (by decide)
 have e1 : c1 = Ar.real.add a1 b1 := h 1 (by decide)
 have e2 : c2 = Ar.real.add a2 b2 := h 2 (by decide)
 have e3 : c3 = Ar.real.add a3 b3 := h 3 (by decide)
 have e4 : c4 = Ar.real.add a4 b4 := h 4 (by decide)
 have e5 : c5 = Ar.real.add a5 b5 := h 5 (by decide)
 have e6 : c6 = Ar.real.add a6 b6 := h 6 (by decide)
 have e7 : c7 = Ar.real.add a7 b7 := h 7 (by decide)
 subst e0 e1 e2 e3 e4 e5 e6 e7
 rfl
theorem wordsR_len (s : List UInt8) (h : s.length = 64) : (wordsR Ar.real s).length = 64 := by
 rw [list64_eq h]; rfl
theorem u75 : Kz.P.underlying 75 = some (.int .u64) := Tryd.underlying75
structure RM2 (H : List AB) (hs : List Nat) : Prop where
 b0 : nth H 0 = some (.cells (47, true) ((List.replicate 32 (0 : UInt8)).map u8v))
 b1 : nth H 1 = some (.cells (63, true) (hs.map cellU))
 b2 : nth H 2 = some (.cells (70, true) (shaK.map cellU))
 len : 3 ≤ H.length
 hl : hs.length = 8
theorem RM2.app {H : List AB} {hs : List Nat} (h : RM2 H hs) (A : AB) : RM2 (H ++ [A]) hs := by
 have := h.len
 exact ⟨by rw [nth_app_lt _ _ _ (by omega)]; exact h.b0, by rw [nth_app_lt _ _ _ (by omega)]; exact h.b1, by rw [nth_app_lt _ _ _ (by omega)]; exact h.b2, by rw [List.length_append]; omega, h.hl⟩
theorem RM2.set {H : List AB} {hs : List Nat} (h : RM2 H hs) (L : Nat) (hL : 3 ≤ L) (A : AB) : RM2 (setAt H L A) hs :=
 ⟨by rw [nth_setAt_other _ _ _ _ (by omega)]; exact h.b0, by rw [nth_setAt_other _ _ _ _ (by omega)]; exact h.b1, by rw [nth_setAt_other _ _ _ _ (by omega)]; exact h.b2, by rw [len_setAt]; exact h.len, h.hl⟩
set_option maxHeartbeats 1000000 in
theorem rsum_tells (s : List UInt8) (hl : s.length < 2 ^ 60) (hpad : ∀ H, Tells Kz 37 [.str s] H fun r H' => r = .str (s ++ padB s.length 8) ∧ H' = H) (H : List AB) : Tells Kz 24 [.str s] H fun r H' => r = .agg ((List.range 32).map fun i => u8v (outB (shaU s) i)) ∧ H' = H := by
 refine Tells.vals (c := _) Tryd.func24 rfl (args' := [.str s]) (m := 146) rfl rfl rfl rfl rfl ?_
 (repeat (first | (with_reducible first | refine jh ?_ | refine ji ?_ | refine jl ?_ | refine jm ?_ | refine jn ?_ | refine jo ?_ | refine jp ?_ | refine jq ?_ | refine jr ?_ | refine js ?_ | refine jt ?_ | refine ju ?_ | refine jv ?_ | refine jw ?_) | (with_reducible refine jj ?_; refine jk (by first | (simp only [setAt, enter, List.replicate, List.cons_append, List.nil_append]; rfl) | rfl) ?_) | with_reducible refine jx (by decide) ?_ | (with_reducible refine jD ?_; first | refine jE rfl rfl rfl ?_ | refine jF rfl rfl rfl ?_) | ((first | (with_reducible refine jG ?_; first | refine jB rfl rfl rfl rfl ?_ | refine jC rfl rfl rfl rfl rfl ?_) | (with_reducible refine jH ?_; refine ja rfl rfl (jc rfl rfl) ?_) | (with_reducible refine jI ?_; refine ja rfl rfl (je rfl rfl) ?_) | (with_reducible refine jJ ?_; refine ja rfl rfl (jd rfl rfl rfl rfl rfl) ?_) | (with_reducible refine jK ?_; refine ja rfl rfl (jf rfl rfl rfl rfl) ?_) | (with_reducible refine jL ?_; first | refine ja rfl rfl (jy rfl rfl rfl rfl rfl rfl) ?_ | refine ja rfl rfl (jz rfl rfl rfl rfl rfl rfl) ?_) | (with_reducible refine jM ?_; refine ja rfl rfl (jg rfl rfl u24 rfl) ?_)); refine jb (by first | (simp only [setAt]; rfl) | rfl) ?_)))
 refine ja rfl rfl (op_alloc rfl rfl z47) ?_
 refine jb (by first | (simp only [setAt]; rfl) | rfl) ?_
 (repeat (first | (with_reducible first | refine jh ?_ | refine ji ?_ | refine jl ?_ | refine jm ?_ | refine jn ?_ | refine jo ?_ | refine jp ?_ | refine jq ?_ | refine jr ?_ | refine js ?_ | refine jt ?_ | refine ju ?_ | refine jv ?_ | refine jw ?_) | (with_reducible refine jj ?_; refine jk (by first | (simp only [setAt, enter, List.replicate, List.cons_append, List.nil_append]; rfl) | rfl) ?_) | with_reducible refine jx (by decide) ?_ | (with_reducible refine jD ?_; first | refine jE rfl rfl rfl ?_ | refine jF rfl rfl rfl ?_) | ((first | (with_reducible refine jG ?_; first | refine jB rfl rfl rfl rfl ?_ | refine jC rfl rfl rfl rfl rfl ?_) | (with_reducible refine jH ?_; refine ja rfl rfl (jc rfl rfl) ?_) | (with_reducible refine jI ?_; refine ja rfl rfl (je rfl rfl) ?_) | (with_reducible refine jJ ?_; refine ja rfl rfl (jd rfl rfl rfl rfl rfl) ?_) | (with_reducible refine jK ?_; refine ja rfl rfl (jf rfl rfl rfl rfl) ?_) | (with_reducible refine jL ?_; first | refine ja rfl rfl (jy rfl rfl rfl rfl rfl rfl) ?_ | refine ja rfl rfl (jz rfl rfl rfl rfl rfl rfl) ?_) | (with_reducible refine jM ?_; refine ja rfl rfl (jg rfl rfl u24 rfl) ?_)); refine jb (by first | (simp only [setAt]; rfl) | rfl) ?_)))
 refine ja rfl rfl (op_build rfl rfl (b63 _ _ _ _ _ _ _ _)) ?_
 refine jb (by first | (simp only [setAt]; rfl) | rfl) ?_
 refine ja rfl rfl (op_alloc rfl rfl z63) ?_
 refine jb (by first | (simp only [setAt]; rfl) | rfl) ?_
 refine Wo.doSkip rfl rfl (op_storeC (cs' := iv.map cellU) rfl sz63 rfl rfl rfl rfl) ?_
 (repeat (first | (with_reducible first | refine jh ?_ | refine ji ?_ | refine jl ?_ | refine jm ?_ | refine jn ?_ | refine jo ?_ | refine jp ?_ | refine jq ?_ | refine jr ?_ | refine js ?_ | refine jt ?_ | refine ju ?_ | refine jv ?_ | refine jw ?_) | (with_reducible refine jj ?_; refine jk (by first | (simp only [setAt, enter, List.replicate, List.cons_append, List.nil_append]; rfl) | rfl) ?_) | with_reducible refine jx (by decide) ?_ | (with_reducible refine jD ?_; first | refine jE rfl rfl rfl ?_ | refine jF rfl rfl rfl ?_) | ((first | (with_reducible refine jG ?_; first | refine jB rfl rfl rfl rfl ?_ | refine jC rfl rfl rfl rfl rfl ?_) | (with_reducible refine jH ?_; refine ja rfl rfl (jc rfl rfl) ?_) | (with_reducible refine jI ?_; refine ja rfl rfl (je rfl rfl) ?_) | (with_reducible refine jJ ?_; refine ja rfl rfl (jd rfl rfl rfl rfl rfl) ?_) | (with_reducible refine jK ?_; refine ja rfl rfl (jf rfl rfl rfl rfl) ?_) | (with_reducible refine jL ?_; first | refine ja rfl rfl (jy rfl rfl rfl rfl rfl rfl) ?_ | refine ja rfl rfl (jz rfl rfl rfl rfl rfl rfl) ?_) | (with_reducible refine jM ?_; refine ja rfl rfl (jg rfl rfl u24 rfl) ?_)); refine jb (by first | (simp only [setAt]; rfl) | rfl) ?_)))
 refine Wo.doCall rfl rfl (op_call (args := []) rfl rfl) (Tells.run rfl rfl (table_run _) ?_)
 refine jb (by first | (simp only [setAt]; rfl) | rfl) ?_
 refine ja rfl rfl (op_alloc rfl rfl z70) ?_
 refine jb (by first | (simp only [setAt]; rfl) | rfl) ?_
 refine Wo.doSkip rfl rfl (op_storeC (cs' := shaK.map cellU) rfl sz70 rfl rfl rfl (sto_all (by simp [shaK]) (by simp [AV.cells]) (allOne_cellU _))) ?_
 (repeat (first | (with_reducible first | refine jh ?_ | refine ji ?_ | refine jl ?_ | refine jm ?_ | refine jn ?_ | refine jo ?_ | refine jp ?_ | refine jq ?_ | refine jr ?_ | refine js ?_ | refine jt ?_ | refine ju ?_ | refine jv ?_ | refine jw ?_) | (with_reducible refine jj ?_; refine jk (by first | (simp only [setAt, enter, List.replicate, List.cons_append, List.nil_append]; rfl) | rfl) ?_) | with_reducible refine jx (by decide) ?_ | (with_reducible refine jD ?_; first | refine jE rfl rfl rfl ?_ | refine jF rfl rfl rfl ?_) | ((first | (with_reducible refine jG ?_; first | refine jB rfl rfl rfl rfl ?_ | refine jC rfl rfl rfl rfl rfl ?_) | (with_reducible refine jH ?_; refine ja rfl rfl (jc rfl rfl) ?_) | (with_reducible refine jI ?_; refine ja rfl rfl (je rfl rfl) ?_) | (with_reducible refine jJ ?_; refine ja rfl rfl (jd rfl rfl rfl rfl rfl) ?_) | (with_reducible refine jK ?_; refine ja rfl rfl (jf rfl rfl rfl rfl) ?_) | (with_reducible refine jL ?_; first | refine ja rfl rfl (jy rfl rfl rfl rfl rfl rfl) ?_ | refine ja rfl rfl (jz rfl rfl rfl rfl rfl rfl) ?_) | (with_reducible refine jM ?_; refine ja rfl rfl (jg rfl rfl u24 rfl) ?_)); refine jb (by first | (simp only [setAt]; rfl) | rfl) ?_)))
 refine Wo.doCall rfl rfl (op_call (args := [.str s]) rfl rfl) ((hpad _).mono ?_)
 rintro r H1 ⟨rfl, rfl⟩
 refine jb (by first | (simp only [setAt]; rfl) | rfl) ?_
 (repeat (first | (with_reducible first | refine jh ?_ | refine ji ?_ | refine jl ?_ | refine jm ?_ | refine jn ?_ | refine jo ?_ | refine jp ?_ | refine jq ?_ | refine jr ?_ | refine js ?_ | refine jt ?_ | refine ju ?_ | refine jv ?_ | refine jw ?_) | (with_reducible refine jj ?_; refine jk (by first | (simp only [setAt, enter, List.replicate, List.cons_append, List.nil_append]; rfl) | rfl) ?_) | with_reducible refine jx (by decide) ?_ | (with_reducible refine jD ?_; first | refine jE rfl rfl rfl ?_ | refine jF rfl rfl rfl ?_) | ((first | (with_reducible refine jG ?_; first | refine jB rfl rfl rfl rfl ?_ | refine jC rfl rfl rfl rfl rfl ?_) | (with_reducible refine jH ?_; refine ja rfl rfl (jc rfl rfl) ?_) | (with_reducible refine jI ?_; refine ja rfl rfl (je rfl rfl) ?_) | (with_reducible refine jJ ?_; refine ja rfl rfl (jd rfl rfl rfl rfl rfl) ?_) | (with_reducible refine jK ?_; refine ja rfl rfl (jf rfl rfl rfl rfl) ?_) | (with_reducible refine jL ?_; first | refine ja rfl rfl (jy rfl rfl rfl rfl rfl rfl) ?_ | refine ja rfl rfl (jz rfl rfl rfl rfl rfl rfl) ?_) | (with_reducible refine jM ?_; refine ja rfl rfl (jg rfl rfl u24 rfl) ?_)); refine jb (by first | (simp only [setAt]; rfl) | rfl) ?_)))
 obtain ⟨P, hPd⟩ : ∃ P, P = s ++ padB s.length 8 := ⟨_, rfl⟩
 have hPl : P.length = 64 * (P.length / 64) := by
  rw [hPd, List.length_append, padB_len]
  unfold zl
  omega
 have hPs : P.length < 2 ^ 61 := by
  rw [hPd, List.length_append, padB_len]
  unfold zl
  omega
 have hres : shaU s = allU (P.length / 64) P iv := by rw [hPd]; rfl
 rw [hres, ← hPd]
 clear hres hPd hpad
 generalize hK : P.length / 64 = K at *
 refine Wc.inv (fun w s1 => ∃ (k : Nat) (hs : List Nat), w = K - k ∧ k ≤ K ∧ RM2 s1.H hs ∧ allU (K - k) (P.drop (64 * k)) hs = allU K P iv ∧ ∃ d : Nat → AV, s1.regs = (d 0 :: d 1 :: .ptr 0 0 :: .ptr 1 0 :: .ptr 2 0 :: .str P :: i64 (64 * k : Nat) :: d 7 :: d 8 :: d 9 :: d 10 :: d 11 :: d 12 :: d 13 :: d 14 :: d 15 :: d 16 :: d 17 :: d 18 :: d 19 :: d 20 :: d 21 :: d 22 :: d 23 :: d 24 :: d 25 :: d 26 :: d 27 :: d 28 :: d 29 :: d 30 :: d 31 :: d 32 :: d 33 :: d 34 :: d 35 :: d 36 :: d 37 :: d 38 :: d 39 :: d 40 :: d 41 :: d 42 :: d 43 :: d 44 :: d 45 :: d 46 :: d 47 :: d 48 :: d 49 :: d 50 :: d 51 :: d 52 :: d 53 :: d 54 :: d 55 :: d 56 :: d 57 :: d 58 :: d 59 :: d 60 :: d 61 :: d 62 :: d 63 :: d 64 :: d 65 :: d 66 :: d 67 :: d 68 :: d 69 :: d 70 :: d 71 :: d 72 :: d 73 :: d 74 :: d 75 :: d 76 :: d 77 :: d 78 :: d 79 :: d 80 :: d 81 :: d 82 :: d 83 :: d 84 :: d 85 :: d 86 :: d 87 :: d 88 :: d 89 :: d 90 :: d 91 :: d 92 :: d 93 :: d 94 :: d 95 :: d 96 :: d 97 :: d 98 :: d 99 :: d 100 :: d 101 :: d 102 :: d 103 :: d 104 :: d 105 :: d 106 :: d 107 :: d 108 :: d 109 :: d 110 :: d 111 :: d 112 :: d 113 :: d 114 :: d 115 :: d 116 :: d 117 :: d 118 :: d 119 :: d 120 :: d 121 :: d 122 :: d 123 :: d 124 :: d 125 :: d 126 :: d 127 :: d 128 :: d 129 :: d 130 :: d 131 :: d 132 :: d 133 :: d 134 :: d 135 :: d 136 :: d 137 :: d 138 :: d 139 :: d 140 :: d 141 :: d 142 :: d 143 :: d 144 :: d 145 :: d 146 :: [])) K ?_ ?_
 ·exact ⟨0, iv, rfl, by omega, ⟨rfl, rfl, rfl, Nat.le_refl 3, rfl⟩, rfl, dead_of rfl⟩
 ·rintro w regs own H2 ⟨k, hs, rfl, hk, hR, hall, d, rfl⟩
  simp only at hR
  (repeat (first | (with_reducible first | refine jh ?_ | refine ji ?_ | refine jl ?_ | refine jm ?_ | refine jn ?_ | refine jo ?_ | refine jp ?_ | refine jq ?_ | refine jr ?_ | refine js ?_ | refine jt ?_ | refine ju ?_ | refine jv ?_ | refine jw ?_) | (with_reducible refine jj ?_; refine jk (by first | (simp only [setAt, enter, List.replicate, List.cons_append, List.nil_append]; rfl) | rfl) ?_) | with_reducible refine jx (by decide) ?_ | (with_reducible refine jD ?_; first | refine jE rfl rfl rfl ?_ | refine jF rfl rfl rfl ?_) | ((first | (with_reducible refine jG ?_; first | refine jB rfl rfl rfl rfl ?_ | refine jC rfl rfl rfl rfl rfl ?_) | (with_reducible refine jH ?_; refine ja rfl rfl (jc rfl rfl) ?_) | (with_reducible refine jI ?_; refine ja rfl rfl (je rfl rfl) ?_) | (with_reducible refine jJ ?_; refine ja rfl rfl (jd rfl rfl rfl rfl rfl) ?_) | (with_reducible refine jK ?_; refine ja rfl rfl (jf rfl rfl rfl rfl) ?_) | (with_reducible refine jL ?_; first | refine ja rfl rfl (jy rfl rfl rfl rfl rfl rfl) ?_ | refine ja rfl rfl (jz rfl rfl rfl rfl rfl rfl) ?_) | (with_reducible refine jM ?_; refine ja rfl rfl (jg rfl rfl u24 rfl) ?_)); refine jb (by first | (simp only [setAt]; rfl) | rfl) ?_)))
  refine ja rfl rfl (jQ rfl rfl u9 rfl) ?_
  refine jb (by first | (simp only [setAt]; rfl) | rfl) ?_
  (repeat (first | (with_reducible first | refine jh ?_ | refine ji ?_ | refine jl ?_ | refine jm ?_ | refine jn ?_ | refine jo ?_ | refine jp ?_ | refine jq ?_ | refine jr ?_ | refine js ?_ | refine jt ?_ | refine ju ?_ | refine jv ?_ | refine jw ?_) | (with_reducible refine jj ?_; refine jk (by first | (simp only [setAt, enter, List.replicate, List.cons_append, List.nil_append]; rfl) | rfl) ?_) | with_reducible refine jx (by decide) ?_ | (with_reducible refine jD ?_; first | refine jE rfl rfl rfl ?_ | refine jF rfl rfl rfl ?_) | ((first | (with_reducible refine jG ?_; first | refine jB rfl rfl rfl rfl ?_ | refine jC rfl rfl rfl rfl rfl ?_) | (with_reducible refine jH ?_; refine ja rfl rfl (jc rfl rfl) ?_) | (with_reducible refine jI ?_; refine ja rfl rfl (je rfl rfl) ?_) | (with_reducible refine jJ ?_; refine ja rfl rfl (jd rfl rfl rfl rfl rfl) ?_) | (with_reducible refine jK ?_; refine ja rfl rfl (jf rfl rfl rfl rfl) ?_) | (with_reducible refine jL ?_; first | refine ja rfl rfl (jy rfl rfl rfl rfl rfl rfl) ?_ | refine ja rfl rfl (jz rfl rfl rfl rfl rfl rfl) ?_) | (with_reducible refine jM ?_; refine ja rfl rfl (jg rfl rfl u24 rfl) ?_)); refine jb (by first | (simp only [setAt]; rfl) | rfl) ?_)))
  refine Wc.cond rfl rfl (fun h => ?_) (fun h => ?_)
  ·have hlt : k < K := by have := of_decide_eq_true h; omega
   clear h
   (repeat (first | (with_reducible first | refine jh ?_ | refine ji ?_ | refine jl ?_ | refine jm ?_ | refine jn ?_ | refine jo ?_ | refine jp ?_ | refine jq ?_ | refine jr ?_ | refine js ?_ | refine jt ?_ | refine ju ?_ | refine jv ?_ | refine jw ?_) | (with_reducible refine jj ?_; refine jk (by first | (simp only [setAt, enter, List.replicate, List.cons_append, List.nil_append]; rfl) | rfl) ?_) | with_reducible refine jx (by decide) ?_ | (with_reducible refine jD ?_; first | refine jE rfl rfl rfl ?_ | refine jF rfl rfl rfl ?_) | ((first | (with_reducible refine jG ?_; first | refine jB rfl rfl rfl rfl ?_ | refine jC rfl rfl rfl rfl rfl ?_) | (with_reducible refine jH ?_; refine ja rfl rfl (jc rfl rfl) ?_) | (with_reducible refine jI ?_; refine ja rfl rfl (je rfl rfl) ?_) | (with_reducible refine jJ ?_; refine ja rfl rfl (jd rfl rfl rfl rfl rfl) ?_) | (with_reducible refine jK ?_; refine ja rfl rfl (jf rfl rfl rfl rfl) ?_) | (with_reducible refine jL ?_; first | refine ja rfl rfl (jy rfl rfl rfl rfl rfl rfl) ?_ | refine ja rfl rfl (jz rfl rfl rfl rfl rfl rfl) ?_) | (with_reducible refine jM ?_; refine ja rfl rfl (jg rfl rfl u24 rfl) ?_)); refine jb (by first | (simp only [setAt]; rfl) | rfl) ?_)))
   rw [wrap_sm (n := ((64 * k : Nat) : Int) + 64) (by omega) (by omega)]
   refine ja rfl rfl (op_slice_str_both (a := 64 * k) (b := 64 * k + 64) rfl rfl u9 rfl rfl rfl rfl (by omega) (by omega) (by omega)) ?_
   refine jb (by first | (simp only [setAt]; rfl) | rfl) ?_
   rw [show (P.take (64 * k + 64)).drop (64 * k) = (P.drop (64 * k)).take 64 by rw [List.drop_take]; congr 1; omega]
   have hcl : ((P.drop (64 * k)).take 64).length = 64 := by rw [List.length_take, List.length_drop]; omega
   have hstep : allU (K - k) (P.drop (64 * k)) hs = allU (K - (k + 1)) (P.drop (64 * (k + 1))) (feedL hs ((P.drop (64 * k)).take 64)) := by
    rw [show K - k = (K - (k + 1)) + 1 by omega]
    show allU (K - (k + 1)) ((P.drop (64 * k)).drop 64) _ = _
    rw [List.drop_drop]
    congr 1
   generalize (P.drop (64 * k)).take 64 = ch at *
   refine Wo.doCall rfl rfl (op_call (args := [.str ch]) rfl rfl) ((words_tells ch hcl _).mono ?_)
   rintro r Hq ⟨rfl, rfl⟩
   have hwl := wordsR_len ch hcl
   have hfs : addsU Ar.real hs (roundsR Ar.real shaK (wordsR Ar.real ch) hs) = feedL hs ch := by
    obtain ⟨a0, a1, a2, a3, a4, a5, a6, a7, rfl⟩ := eightN hs hR.hl
    exact feed_same _ _ _ _ _ _ _ _ ch
   generalize wordsR Ar.real ch = ws at *
   refine jb (by first | (simp only [setAt]; rfl) | rfl) ?_
   refine ja rfl rfl (op_alloc rfl rfl z70) ?_
   refine jb (by first | (simp only [setAt]; rfl) | rfl) ?_
   have hR1 := hR.app (.cells (70, true) (AV.agg ((List.replicate 64 0).map cellU)).cells)
   have hn7 := nth_app Hq (AB.cells (70, true) (AV.agg ((List.replicate 64 0).map cellU)).cells)
   obtain ⟨L, hL⟩ : ∃ L, L = Hq.length := ⟨_, rfl⟩
   have hL3 : 3 ≤ L := by rw [hL]; exact hR.len
   have hl1 : (Hq ++ [AB.cells (70, true) (AV.agg ((List.replicate 64 0).map cellU)).cells]).length = L + 1 := by rw [List.length_append, hL]; rfl
   rw [← hL] at hn7 ⊢
   generalize Hq ++ [AB.cells (70, true) (AV.agg ((List.replicate 64 0).map cellU)).cells] = H3 at *
   refine Wo.doSkip rfl rfl (op_storeC (cs' := ws.map cellU) rfl sz70 rfl rfl hn7 (sto_all (by rw [List.length_map]; exact hwl) (by simp [AV.cells]) (allOne_cellU _))) ?_
   have hR2 := hR1.set L hL3 (.cells (70, true) (ws.map cellU))
   have hn72 := nth_setAt_same _ _ (AB.cells (70, true) (ws.map cellU)) _ hn7
   have hl2 : (setAt H3 L (AB.cells (70, true) (ws.map cellU))).length = L + 1 := by rw [len_setAt]; exact hl1
   generalize setAt H3 L (AB.cells (70, true) (ws.map cellU)) = H4 at *
   (repeat (first | (with_reducible first | refine jh ?_ | refine ji ?_ | refine jl ?_ | refine jm ?_ | refine jn ?_ | refine jo ?_ | refine jp ?_ | refine jq ?_ | refine jr ?_ | refine js ?_ | refine jt ?_ | refine ju ?_ | refine jv ?_ | refine jw ?_) | (with_reducible refine jj ?_; refine jk (by first | (simp only [setAt, enter, List.replicate, List.cons_append, List.nil_append]; rfl) | rfl) ?_) | with_reducible refine jx (by decide) ?_ | (with_reducible refine jD ?_; first | refine jE rfl rfl rfl ?_ | refine jF rfl rfl rfl ?_) | ((first | (with_reducible refine jG ?_; first | refine jB rfl rfl rfl rfl ?_ | refine jC rfl rfl rfl rfl rfl ?_) | (with_reducible refine jH ?_; refine ja rfl rfl (jc rfl rfl) ?_) | (with_reducible refine jI ?_; refine ja rfl rfl (je rfl rfl) ?_) | (with_reducible refine jJ ?_; refine ja rfl rfl (jd rfl rfl rfl rfl rfl) ?_) | (with_reducible refine jK ?_; refine ja rfl rfl (jf rfl rfl rfl rfl) ?_) | (with_reducible refine jL ?_; first | refine ja rfl rfl (jy rfl rfl rfl rfl rfl rfl) ?_ | refine ja rfl rfl (jz rfl rfl rfl rfl rfl rfl) ?_) | (with_reducible refine jM ?_; refine ja rfl rfl (jg rfl rfl u24 rfl) ?_)); refine jb (by first | (simp only [setAt]; rfl) | rfl) ?_)))
   refine ja rfl rfl (op_load_ptr (v := .agg (hs.map cellU)) rfl rfl hR2.b1 (by rw [List.drop_zero]; exact (take_agg ag63 sz63 (by rw [List.length_map, hR.hl]; exact Nat.le_refl 8)).trans (by rw [List.take_of_length_le (by rw [List.length_map, hR.hl]; exact Nat.le_refl 8)]))) ?_
   refine jb (by first | (simp only [setAt]; rfl) | rfl) ?_
   refine ja rfl rfl (op_alloc rfl rfl z63) ?_
   refine jb (by first | (simp only [setAt]; rfl) | rfl) ?_
   have hR3 := hR2.app (.cells (63, true) (AV.agg ((List.replicate 8 0).map cellU)).cells)
   have hn8 := nth_app H4 (AB.cells (63, true) (AV.agg ((List.replicate 8 0).map cellU)).cells)
   have hn73 := (nth_app_lt H4 [AB.cells (63, true) (AV.agg ((List.replicate 8 0).map cellU)).cells] L (by omega)).trans hn72
   rw [hl2] at hn8 ⊢
   generalize H4 ++ [AB.cells (63, true) (AV.agg ((List.replicate 8 0).map cellU)).cells] = H5 at *
   refine Wo.doSkip rfl rfl (op_storeC (cs' := hs.map cellU) rfl sz63 rfl rfl hn8 (sto_all (by rw [List.length_map]; exact hR.hl) (by simp [AV.cells]) (allOne_cellU _))) ?_
   (repeat (first | (with_reducible first | refine jh ?_ | refine ji ?_ | refine jl ?_ | refine jm ?_ | refine jn ?_ | refine jo ?_ | refine jp ?_ | refine jq ?_ | refine jr ?_ | refine js ?_ | refine jt ?_ | refine ju ?_ | refine jv ?_ | refine jw ?_) | (with_reducible refine jj ?_; refine jk (by first | (simp only [setAt, enter, List.replicate, List.cons_append, List.nil_append]; rfl) | rfl) ?_) | with_reducible refine jx (by decide) ?_ | (with_reducible refine jD ?_; first | refine jE rfl rfl rfl ?_ | refine jF rfl rfl rfl ?_) | ((first | (with_reducible refine jG ?_; first | refine jB rfl rfl rfl rfl ?_ | refine jC rfl rfl rfl rfl rfl ?_) | (with_reducible refine jH ?_; refine ja rfl rfl (jc rfl rfl) ?_) | (with_reducible refine jI ?_; refine ja rfl rfl (je rfl rfl) ?_) | (with_reducible refine jJ ?_; refine ja rfl rfl (jd rfl rfl rfl rfl rfl) ?_) | (with_reducible refine jK ?_; refine ja rfl rfl (jf rfl rfl rfl rfl) ?_) | (with_reducible refine jL ?_; first | refine ja rfl rfl (jy rfl rfl rfl rfl rfl rfl) ?_ | refine ja rfl rfl (jz rfl rfl rfl rfl rfl rfl) ?_) | (with_reducible refine jM ?_; refine ja rfl rfl (jg rfl rfl u24 rfl) ?_)); refine jb (by first | (simp only [setAt]; rfl) | rfl) ?_)))
   refine Wc.inv (fun w s1 => ∃ (i : Nat) (st : List Nat), w = 64 - i ∧ i ≤ 64 ∧ st.length = 8 ∧ s1.H = setAt H5 (L + 1) (.cells (63, true) (st.map cellU)) ∧ roundsR Ar.real (shaK.drop i) (ws.drop i) st = roundsR Ar.real shaK ws hs ∧ ∃ d : Nat → AV, s1.regs = (d 0 :: d 1 :: .ptr 0 0 :: .ptr 1 0 :: .ptr 2 0 :: .str P :: i64 (64 * k : Nat) :: .ptr L 0 :: .ptr (L + 1) 0 :: i64 i :: d 10 :: d 11 :: d 12 :: d 13 :: d 14 :: d 15 :: d 16 :: d 17 :: d 18 :: d 19 :: d 20 :: d 21 :: d 22 :: d 23 :: d 24 :: d 25 :: d 26 :: d 27 :: d 28 :: d 29 :: d 30 :: d 31 :: d 32 :: d 33 :: d 34 :: d 35 :: d 36 :: d 37 :: d 38 :: d 39 :: d 40 :: d 41 :: d 42 :: d 43 :: d 44 :: d 45 :: d 46 :: d 47 :: d 48 :: d 49 :: d 50 :: d 51 :: d 52 :: d 53 :: d 54 :: d 55 :: d 56 :: d 57 :: d 58 :: d 59 :: d 60 :: d 61 :: d 62 :: d 63 :: d 64 :: d 65 :: d 66 :: d 67 :: d 68 :: d 69 :: d 70 :: d 71 :: d 72 :: d 73 :: d 74 :: d 75 :: d 76 :: d 77 :: d 78 :: d 79 :: d 80 :: d 81 :: d 82 :: d 83 :: d 84 :: d 85 :: d 86 :: d 87 :: d 88 :: d 89 :: d 90 :: d 91 :: d 92 :: d 93 :: d 94 :: d 95 :: d 96 :: d 97 :: d 98 :: d 99 :: d 100 :: d 101 :: d 102 :: d 103 :: d 104 :: d 105 :: d 106 :: d 107 :: d 108 :: d 109 :: d 110 :: d 111 :: d 112 :: d 113 :: d 114 :: d 115 :: d 116 :: d 117 :: d 118 :: d 119 :: d 120 :: d 121 :: d 122 :: d 123 :: d 124 :: d 125 :: d 126 :: d 127 :: d 128 :: d 129 :: d 130 :: d 131 :: d 132 :: d 133 :: d 134 :: d 135 :: d 136 :: d 137 :: d 138 :: d 139 :: d 140 :: d 141 :: d 142 :: d 143 :: d 144 :: d 145 :: d 146 :: [])) 64 ?_ ?_
   ·exact ⟨0, hs, rfl, by omega, hR.hl, rfl, rfl, dead_of rfl⟩
   ·clear d
    rintro w regs own2 H6 ⟨i, st, rfl, hi, hst, hH, hrd, d, rfl⟩
    simp only at hH
    subst hH
    (repeat (first | (with_reducible first | refine jh ?_ | refine ji ?_ | refine jl ?_ | refine jm ?_ | refine jn ?_ | refine jo ?_ | refine jp ?_ | refine jq ?_ | refine jr ?_ | refine js ?_ | refine jt ?_ | refine ju ?_ | refine jv ?_ | refine jw ?_) | (with_reducible refine jj ?_; refine jk (by first | (simp only [setAt, enter, List.replicate, List.cons_append, List.nil_append]; rfl) | rfl) ?_) | with_reducible refine jx (by decide) ?_ | (with_reducible refine jD ?_; first | refine jE rfl rfl rfl ?_ | refine jF rfl rfl rfl ?_) | ((first | (with_reducible refine jG ?_; first | refine jB rfl rfl rfl rfl ?_ | refine jC rfl rfl rfl rfl rfl ?_) | (with_reducible refine jH ?_; refine ja rfl rfl (jc rfl rfl) ?_) | (with_reducible refine jI ?_; refine ja rfl rfl (je rfl rfl) ?_) | (with_reducible refine jJ ?_; refine ja rfl rfl (jd rfl rfl rfl rfl rfl) ?_) | (with_reducible refine jK ?_; refine ja rfl rfl (jf rfl rfl rfl rfl) ?_) | (with_reducible refine jL ?_; first | refine ja rfl rfl (jy rfl rfl rfl rfl rfl rfl) ?_ | refine ja rfl rfl (jz rfl rfl rfl rfl rfl rfl) ?_) | (with_reducible refine jM ?_; refine ja rfl rfl (jg rfl rfl u24 rfl) ?_)); refine jb (by first | (simp only [setAt]; rfl) | rfl) ?_)))
    refine Wc.cond rfl rfl (fun h => ?_) (fun h => ?_)
    ·have hlt64 : i < 64 := by have := of_decide_eq_true h; omega
     clear h
     have hki : i < shaK.length := hlt64
     have hwi : i < ws.length := by omega
     rw [List.drop_eq_getElem_cons hki, List.drop_eq_getElem_cons hwi] at hrd
     simp only [roundsR] at hrd
     have hkg : shaK.getD i 0 = shaK[i] := by rw [List.getD_eq_getElem?_getD, List.getElem?_eq_getElem hki]; rfl
     have hwg : ws.getD i 0 = ws[i] := by rw [List.getD_eq_getElem?_getD, List.getElem?_eq_getElem hwi]; rfl
     rw [← hkg, ← hwg] at hrd
     obtain ⟨st0, st1, st2, st3, st4, st5, st6, st7, rfl⟩ := eightN st hst
     have hb8 := nth_setAt_same H5 (L + 1) (.cells (63, true) ([st0, st1, st2, st3, st4, st5, st6, st7].map cellU)) _ hn8
     have hb7 : nth (setAt H5 (L + 1) (.cells (63, true) ([st0, st1, st2, st3, st4, st5, st6, st7].map cellU))) L = some (.cells (70, true) (ws.map cellU)) := by rw [nth_setAt_other _ _ _ _ (by omega)]; exact hn73
     have hb4 : nth (setAt H5 (L + 1) (.cells (63, true) ([st0, st1, st2, st3, st4, st5, st6, st7].map cellU))) 2 = some (.cells (70, true) (shaK.map cellU)) := by rw [nth_setAt_other _ _ _ _ (by omega)]; exact hR3.b2
     (repeat (first | (with_reducible first | refine jh ?_ | refine ji ?_ | refine jl ?_ | refine jm ?_ | refine jn ?_ | refine jo ?_ | refine jp ?_ | refine jq ?_ | refine jr ?_ | refine js ?_ | refine jt ?_ | refine ju ?_ | refine jv ?_ | refine jw ?_) | (with_reducible refine jj ?_; refine jk (by first | (simp only [setAt, enter, List.replicate, List.cons_append, List.nil_append]; rfl) | rfl) ?_) | with_reducible refine jx (by decide) ?_ | (with_reducible refine jD ?_; first | refine jE rfl rfl rfl ?_ | refine jF rfl rfl rfl ?_) | ((first | (with_reducible refine jG ?_; first | refine jB rfl rfl rfl rfl ?_ | refine jC rfl rfl rfl rfl rfl ?_) | (with_reducible refine jH ?_; refine ja rfl rfl (jc rfl rfl) ?_) | (with_reducible refine jI ?_; refine ja rfl rfl (je rfl rfl) ?_) | (with_reducible refine jJ ?_; refine ja rfl rfl (jd rfl rfl rfl rfl rfl) ?_) | (with_reducible refine jK ?_; refine ja rfl rfl (jf rfl rfl rfl rfl) ?_) | (with_reducible refine jL ?_; first | refine ja rfl rfl (jy rfl rfl rfl rfl rfl rfl) ?_ | refine ja rfl rfl (jz rfl rfl rfl rfl rfl rfl) ?_) | (with_reducible refine jM ?_; refine ja rfl rfl (jg rfl rfl u24 rfl) ?_)); refine jb (by first | (simp only [setAt]; rfl) | rfl) ?_)))
     refine ja rfl rfl (op_indexAddr_arr (sz := 0) (j := 0) rfl rfl u63 sz62 rfl rfl rfl (by omega)) ?_
     refine jb (by first | (simp only [setAt]; rfl) | rfl) ?_
     refine ja rfl rfl (op_load_ptr (v := cellU st0) rfl rfl hb8 (take_one ag62 sz62)) ?_
     refine jb (by first | (simp only [setAt]; rfl) | rfl) ?_
     (repeat (first | (with_reducible first | refine jh ?_ | refine ji ?_ | refine jl ?_ | refine jm ?_ | refine jn ?_ | refine jo ?_ | refine jp ?_ | refine jq ?_ | refine jr ?_ | refine js ?_ | refine jt ?_ | refine ju ?_ | refine jv ?_ | refine jw ?_) | (with_reducible refine jj ?_; refine jk (by first | (simp only [setAt, enter, List.replicate, List.cons_append, List.nil_append]; rfl) | rfl) ?_) | with_reducible refine jx (by decide) ?_ | (with_reducible refine jD ?_; first | refine jE rfl rfl rfl ?_ | refine jF rfl rfl rfl ?_) | ((first | (with_reducible refine jG ?_; first | refine jB rfl rfl rfl rfl ?_ | refine jC rfl rfl rfl rfl rfl ?_) | (with_reducible refine jH ?_; refine ja rfl rfl (jc rfl rfl) ?_) | (with_reducible refine jI ?_; refine ja rfl rfl (je rfl rfl) ?_) | (with_reducible refine jJ ?_; refine ja rfl rfl (jd rfl rfl rfl rfl rfl) ?_) | (with_reducible refine jK ?_; refine ja rfl rfl (jf rfl rfl rfl rfl) ?_) | (with_reducible refine jL ?_; first | refine ja rfl rfl (jy rfl rfl rfl rfl rfl rfl) ?_ | refine ja rfl rfl (jz rfl rfl rfl rfl rfl rfl) ?_) | (with_reducible refine jM ?_; refine ja rfl rfl (jg rfl rfl u24 rfl) ?_)); refine jb (by first | (simp only [setAt]; rfl) | rfl) ?_)))
     refine ja rfl rfl (op_indexAddr_arr (sz := 0) (j := 4) rfl rfl u63 sz62 rfl rfl rfl (by omega)) ?_
     refine jb (by first | (simp only [setAt]; rfl) | rfl) ?_
     refine ja rfl rfl (op_load_ptr (v := cellU st4) rfl rfl hb8 (take_one ag62 sz62)) ?_
     refine jb (by first | (simp only [setAt]; rfl) | rfl) ?_
     (repeat (first | (with_reducible first | refine jh ?_ | refine ji ?_ | refine jl ?_ | refine jm ?_ | refine jn ?_ | refine jo ?_ | refine jp ?_ | refine jq ?_ | refine jr ?_ | refine js ?_ | refine jt ?_ | refine ju ?_ | refine jv ?_ | refine jw ?_) | (with_reducible refine jj ?_; refine jk (by first | (simp only [setAt, enter, List.replicate, List.cons_append, List.nil_append]; rfl) | rfl) ?_) | with_reducible refine jx (by decide) ?_ | (with_reducible refine jD ?_; first | refine jE rfl rfl rfl ?_ | refine jF rfl rfl rfl ?_) | ((first | (with_reducible refine jG ?_; first | refine jB rfl rfl rfl rfl ?_ | refine jC rfl rfl rfl rfl rfl ?_) | (with_reducible refine jH ?_; refine ja rfl rfl (jc rfl rfl) ?_) | (with_reducible refine jI ?_; refine ja rfl rfl (je rfl rfl) ?_) | (with_reducible refine jJ ?_; refine ja rfl rfl (jd rfl rfl rfl rfl rfl) ?_) | (with_reducible refine jK ?_; refine ja rfl rfl (jf rfl rfl rfl rfl) ?_) | (with_reducible refine jL ?_; first | refine ja rfl rfl (jy rfl rfl rfl rfl rfl rfl) ?_ | refine ja rfl rfl (jz rfl rfl rfl rfl rfl rfl) ?_) | (with_reducible refine jM ?_; refine ja rfl rfl (jg rfl rfl u24 rfl) ?_)); refine jb (by first | (simp only [setAt]; rfl) | rfl) ?_)))
     refine Wc.drawn rfl (by kernel_rfl) ?_
     ((first | refine jO rfl rfl ?_ | refine jP rfl rfl rfl rfl ?_); refine jA rfl (op_indexAddr_arr (sz := 0) (j := 7) rfl rfl u63 sz62 rfl rfl rfl (by omega)) rfl ?_; refine jN (by first | (simp only [setAt]; rfl) | rfl) ?_)
     ((first | refine jO rfl rfl ?_ | refine jP rfl rfl rfl rfl ?_); refine jA rfl (op_load_ptr (v := cellU st7) rfl rfl hb8 (take_one ag62 sz62)) rfl ?_; refine jN (by first | (simp only [setAt]; rfl) | rfl) ?_)
     ((first | refine jO rfl rfl ?_ | refine jP rfl rfl rfl rfl ?_); refine jA rfl (jc rfl rfl) rfl ?_; refine jN (by first | (simp only [setAt]; rfl) | rfl) ?_)
     refine Wd.call rfl (.inl rfl) rfl (op_call (args := [cellU st4, i64 6]) rfl rfl) rfl ((rot_tells (rot_run6 Ar.real _) _).mono ?_)
     rintro r Hq ⟨rfl, rfl⟩
     refine jN (by first | (simp only [setAt]; rfl) | rfl) ?_
     ((first | refine jO rfl rfl ?_ | refine jP rfl rfl rfl rfl ?_); refine jA rfl (jc rfl rfl) rfl ?_; refine jN (by first | (simp only [setAt]; rfl) | rfl) ?_)
     refine Wd.call rfl (.inl rfl) rfl (op_call (args := [cellU st4, i64 11]) rfl rfl) rfl ((rot_tells (rot_run11 Ar.real _) _).mono ?_)
     rintro r Hq ⟨rfl, rfl⟩
     refine jN (by first | (simp only [setAt]; rfl) | rfl) ?_
     ((first | refine jO rfl rfl ?_ | refine jP rfl rfl rfl rfl ?_); refine jA rfl (op_u32 (op := .xor) rfl rfl rfl rfl) rfl ?_; refine jN (by first | (simp only [setAt]; rfl) | rfl) ?_)
     ((first | refine jO rfl rfl ?_ | refine jP rfl rfl rfl rfl ?_); refine jA rfl (jc rfl rfl) rfl ?_; refine jN (by first | (simp only [setAt]; rfl) | rfl) ?_)
     refine Wd.call rfl (.inl rfl) rfl (op_call (args := [cellU st4, i64 25]) rfl rfl) rfl ((rot_tells (rot_run25 Ar.real _) _).mono ?_)
     rintro r Hq ⟨rfl, rfl⟩
     refine jN (by first | (simp only [setAt]; rfl) | rfl) ?_
     ((first | refine jO rfl rfl ?_ | refine jP rfl rfl rfl rfl ?_); refine jA rfl (op_u32 (op := .xor) rfl rfl rfl rfl) rfl ?_; refine jN (by first | (simp only [setAt]; rfl) | rfl) ?_)
     ((first | refine jO rfl rfl ?_ | refine jP rfl rfl rfl rfl ?_); refine jA rfl (op_u32 (op := .add) rfl rfl rfl rfl) rfl ?_; refine jN (by first | (simp only [setAt]; rfl) | rfl) ?_)
     ((first | refine jO rfl rfl ?_ | refine jP rfl rfl rfl rfl ?_); refine jA rfl (jc rfl rfl) rfl ?_; refine jN (by first | (simp only [setAt]; rfl) | rfl) ?_)
     ((first | refine jO rfl rfl ?_ | refine jP rfl rfl rfl rfl ?_); refine jA rfl (op_indexAddr_arr (sz := 0) (j := 5) rfl rfl u63 sz62 rfl rfl rfl (by omega)) rfl ?_; refine jN (by first | (simp only [setAt]; rfl) | rfl) ?_)
     ((first | refine jO rfl rfl ?_ | refine jP rfl rfl rfl rfl ?_); refine jA rfl (op_load_ptr (v := cellU st5) rfl rfl hb8 (take_one ag62 sz62)) rfl ?_; refine jN (by first | (simp only [setAt]; rfl) | rfl) ?_)
     ((first | refine jO rfl rfl ?_ | refine jP rfl rfl rfl rfl ?_); refine jA rfl (op_u32 (op := .and) rfl rfl rfl rfl) rfl ?_; refine jN (by first | (simp only [setAt]; rfl) | rfl) ?_)
     ((first | refine jO rfl rfl ?_ | refine jP rfl rfl rfl rfl ?_); refine jA rfl (jc rfl rfl) rfl ?_; refine jN (by first | (simp only [setAt]; rfl) | rfl) ?_)
     ((first | refine jO rfl rfl ?_ | refine jP rfl rfl rfl rfl ?_); refine jA rfl (op_notU rfl rfl) rfl ?_; refine jN (by first | (simp only [setAt]; rfl) | rfl) ?_)
     ((first | refine jO rfl rfl ?_ | refine jP rfl rfl rfl rfl ?_); refine jA rfl (op_indexAddr_arr (sz := 0) (j := 6) rfl rfl u63 sz62 rfl rfl rfl (by omega)) rfl ?_; refine jN (by first | (simp only [setAt]; rfl) | rfl) ?_)
     ((first | refine jO rfl rfl ?_ | refine jP rfl rfl rfl rfl ?_); refine jA rfl (op_load_ptr (v := cellU st6) rfl rfl hb8 (take_one ag62 sz62)) rfl ?_; refine jN (by first | (simp only [setAt]; rfl) | rfl) ?_)
     ((first | refine jO rfl rfl ?_ | refine jP rfl rfl rfl rfl ?_); refine jA rfl (op_u32 (op := .and) rfl rfl rfl rfl) rfl ?_; refine jN (by first | (simp only [setAt]; rfl) | rfl) ?_)
     ((first | refine jO rfl rfl ?_ | refine jP rfl rfl rfl rfl ?_); refine jA rfl (op_u32 (op := .xor) rfl rfl rfl rfl) rfl ?_; refine jN (by first | (simp only [setAt]; rfl) | rfl) ?_)
     ((first | refine jO rfl rfl ?_ | refine jP rfl rfl rfl rfl ?_); refine jA rfl (op_u32 (op := .add) rfl rfl rfl rfl) rfl ?_; refine jN (by first | (simp only [setAt]; rfl) | rfl) ?_)
     ((first | refine jO rfl rfl ?_ | refine jP rfl rfl rfl rfl ?_); refine jA rfl (jc rfl rfl) rfl ?_; refine jN (by first | (simp only [setAt]; rfl) | rfl) ?_)
     ((first | refine jO rfl rfl ?_ | refine jP rfl rfl rfl rfl ?_); refine jA rfl (op_indexAddr_arr (sz := 0) (j := i) rfl rfl u70 sz62 rfl rfl rfl (by omega)) rfl ?_; refine jN (by first | (simp only [setAt]; rfl) | rfl) ?_)
     ((first | refine jO rfl rfl ?_ | refine jP rfl rfl rfl rfl ?_); refine jA rfl (op_load_ptr rfl rfl hb4 (ld62 _ i hki)) rfl ?_; refine jN (by first | (simp only [setAt]; rfl) | rfl) ?_)
     ((first | refine jO rfl rfl ?_ | refine jP rfl rfl rfl rfl ?_); refine jA rfl (op_u32 (op := .add) rfl rfl rfl rfl) rfl ?_; refine jN (by first | (simp only [setAt]; rfl) | rfl) ?_)
     ((first | refine jO rfl rfl ?_ | refine jP rfl rfl rfl rfl ?_); refine jA rfl (jc rfl rfl) rfl ?_; refine jN (by first | (simp only [setAt]; rfl) | rfl) ?_)
     ((first | refine jO rfl rfl ?_ | refine jP rfl rfl rfl rfl ?_); refine jA rfl (op_indexAddr_arr (sz := 0) (j := i) rfl rfl u70 sz62 rfl rfl rfl (by omega)) rfl ?_; refine jN (by first | (simp only [setAt]; rfl) | rfl) ?_)
     ((first | refine jO rfl rfl ?_ | refine jP rfl rfl rfl rfl ?_); refine jA rfl (op_load_ptr rfl rfl hb7 (ld62 _ i hwi)) rfl ?_; refine jN (by first | (simp only [setAt]; rfl) | rfl) ?_)
     ((first | refine jO rfl rfl ?_ | refine jP rfl rfl rfl rfl ?_); refine jA rfl (op_u32 (op := .add) rfl rfl rfl rfl) rfl ?_; refine jN (by first | (simp only [setAt]; rfl) | rfl) ?_)
     ((first | refine jO rfl rfl ?_ | refine jP rfl rfl rfl rfl ?_); refine jA rfl (je rfl rfl) rfl ?_; refine jN (by first | (simp only [setAt]; rfl) | rfl) ?_)
     refine jR ?_
     (repeat (first | (with_reducible first | refine jh ?_ | refine ji ?_ | refine jl ?_ | refine jm ?_ | refine jn ?_ | refine jo ?_ | refine jp ?_ | refine jq ?_ | refine jr ?_ | refine js ?_ | refine jt ?_ | refine ju ?_ | refine jv ?_ | refine jw ?_) | (with_reducible refine jj ?_; refine jk (by first | (simp only [setAt, enter, List.replicate, List.cons_append, List.nil_append]; rfl) | rfl) ?_) | with_reducible refine jx (by decide) ?_ | (with_reducible refine jD ?_; first | refine jE rfl rfl rfl ?_ | refine jF rfl rfl rfl ?_) | ((first | (with_reducible refine jG ?_; first | refine jB rfl rfl rfl rfl ?_ | refine jC rfl rfl rfl rfl rfl ?_) | (with_reducible refine jH ?_; refine ja rfl rfl (jc rfl rfl) ?_) | (with_reducible refine jI ?_; refine ja rfl rfl (je rfl rfl) ?_) | (with_reducible refine jJ ?_; refine ja rfl rfl (jd rfl rfl rfl rfl rfl) ?_) | (with_reducible refine jK ?_; refine ja rfl rfl (jf rfl rfl rfl rfl) ?_) | (with_reducible refine jL ?_; first | refine ja rfl rfl (jy rfl rfl rfl rfl rfl rfl) ?_ | refine ja rfl rfl (jz rfl rfl rfl rfl rfl rfl) ?_) | (with_reducible refine jM ?_; refine ja rfl rfl (jg rfl rfl u24 rfl) ?_)); refine jb (by first | (simp only [setAt]; rfl) | rfl) ?_)))
     refine Wc.drawn rfl (by kernel_rfl) ?_
     ((first | refine jO rfl rfl ?_ | refine jP rfl rfl rfl rfl ?_); refine jA rfl (jc rfl rfl) rfl ?_; refine jN (by first | (simp only [setAt]; rfl) | rfl) ?_)
     refine Wd.call rfl (.inl rfl) rfl (op_call (args := [cellU st0, i64 2]) rfl rfl) rfl ((rot_tells (rot_run2 Ar.real _) _).mono ?_)
     rintro r Hq ⟨rfl, rfl⟩
     refine jN (by first | (simp only [setAt]; rfl) | rfl) ?_
     ((first | refine jO rfl rfl ?_ | refine jP rfl rfl rfl rfl ?_); refine jA rfl (jc rfl rfl) rfl ?_; refine jN (by first | (simp only [setAt]; rfl) | rfl) ?_)
     refine Wd.call rfl (.inl rfl) rfl (op_call (args := [cellU st0, i64 13]) rfl rfl) rfl ((rot_tells (rot_run13 Ar.real _) _).mono ?_)
     rintro r Hq ⟨rfl, rfl⟩
     refine jN (by first | (simp only [setAt]; rfl) | rfl) ?_
     ((first | refine jO rfl rfl ?_ | refine jP rfl rfl rfl rfl ?_); refine jA rfl (op_u32 (op := .xor) rfl rfl rfl rfl) rfl ?_; refine jN (by first | (simp only [setAt]; rfl) | rfl) ?_)
     ((first | refine jO rfl rfl ?_ | refine jP rfl rfl rfl rfl ?_); refine jA rfl (jc rfl rfl) rfl ?_; refine jN (by first | (simp only [setAt]; rfl) | rfl) ?_)
     refine Wd.call rfl (.inl rfl) rfl (op_call (args := [cellU st0, i64 22]) rfl rfl) rfl ((rot_tells (rot_run22 Ar.real _) _).mono ?_)
     rintro r Hq ⟨rfl, rfl⟩
     refine jN (by first | (simp only [setAt]; rfl) | rfl) ?_
     ((first | refine jO rfl rfl ?_ | refine jP rfl rfl rfl rfl ?_); refine jA rfl (op_u32 (op := .xor) rfl rfl rfl rfl) rfl ?_; refine jN (by first | (simp only [setAt]; rfl) | rfl) ?_)
     ((first | refine jO rfl rfl ?_ | refine jP rfl rfl rfl rfl ?_); refine jA rfl (jc rfl rfl) rfl ?_; refine jN (by first | (simp only [setAt]; rfl) | rfl) ?_)
     ((first | refine jO rfl rfl ?_ | refine jP rfl rfl rfl rfl ?_); refine jA rfl (op_indexAddr_arr (sz := 0) (j := 1) rfl rfl u63 sz62 rfl rfl rfl (by omega)) rfl ?_; refine jN (by first | (simp only [setAt]; rfl) | rfl) ?_)
     ((first | refine jO rfl rfl ?_ | refine jP rfl rfl rfl rfl ?_); refine jA rfl (op_load_ptr (v := cellU st1) rfl rfl hb8 (take_one ag62 sz62)) rfl ?_; refine jN (by first | (simp only [setAt]; rfl) | rfl) ?_)
     ((first | refine jO rfl rfl ?_ | refine jP rfl rfl rfl rfl ?_); refine jA rfl (op_u32 (op := .and) rfl rfl rfl rfl) rfl ?_; refine jN (by first | (simp only [setAt]; rfl) | rfl) ?_)
     ((first | refine jO rfl rfl ?_ | refine jP rfl rfl rfl rfl ?_); refine jA rfl (jc rfl rfl) rfl ?_; refine jN (by first | (simp only [setAt]; rfl) | rfl) ?_)
     ((first | refine jO rfl rfl ?_ | refine jP rfl rfl rfl rfl ?_); refine jA rfl (op_indexAddr_arr (sz := 0) (j := 2) rfl rfl u63 sz62 rfl rfl rfl (by omega)) rfl ?_; refine jN (by first | (simp only [setAt]; rfl) | rfl) ?_)
     ((first | refine jO rfl rfl ?_ | refine jP rfl rfl rfl rfl ?_); refine jA rfl (op_load_ptr (v := cellU st2) rfl rfl hb8 (take_one ag62 sz62)) rfl ?_; refine jN (by first | (simp only [setAt]; rfl) | rfl) ?_)
     ((first | refine jO rfl rfl ?_ | refine jP rfl rfl rfl rfl ?_); refine jA rfl (op_u32 (op := .and) rfl rfl rfl rfl) rfl ?_; refine jN (by first | (simp only [setAt]; rfl) | rfl) ?_)
     ((first | refine jO rfl rfl ?_ | refine jP rfl rfl rfl rfl ?_); refine jA rfl (op_u32 (op := .xor) rfl rfl rfl rfl) rfl ?_; refine jN (by first | (simp only [setAt]; rfl) | rfl) ?_)
     ((first | refine jO rfl rfl ?_ | refine jP rfl rfl rfl rfl ?_); refine jA rfl (op_indexAddr_arr (sz := 0) (j := 1) rfl rfl u63 sz62 rfl rfl rfl (by omega)) rfl ?_; refine jN (by first | (simp only [setAt]; rfl) | rfl) ?_)
     ((first | refine jO rfl rfl ?_ | refine jP rfl rfl rfl rfl ?_); refine jA rfl (op_load_ptr (v := cellU st1) rfl rfl hb8 (take_one ag62 sz62)) rfl ?_; refine jN (by first | (simp only [setAt]; rfl) | rfl) ?_)
     ((first | refine jO rfl rfl ?_ | refine jP rfl rfl rfl rfl ?_); refine jA rfl (op_indexAddr_arr (sz := 0) (j := 2) rfl rfl u63 sz62 rfl rfl rfl (by omega)) rfl ?_; refine jN (by first | (simp only [setAt]; rfl) | rfl) ?_)
     ((first | refine jO rfl rfl ?_ | refine jP rfl rfl rfl rfl ?_); refine jA rfl (op_load_ptr (v := cellU st2) rfl rfl hb8 (take_one ag62 sz62)) rfl ?_; refine jN (by first | (simp only [setAt]; rfl) | rfl) ?_)
     ((first | refine jO rfl rfl ?_ | refine jP rfl rfl rfl rfl ?_); refine jA rfl (op_u32 (op := .and) rfl rfl rfl rfl) rfl ?_; refine jN (by first | (simp only [setAt]; rfl) | rfl) ?_)
     ((first | refine jO rfl rfl ?_ | refine jP rfl rfl rfl rfl ?_); refine jA rfl (op_u32 (op := .xor) rfl rfl rfl rfl) rfl ?_; refine jN (by first | (simp only [setAt]; rfl) | rfl) ?_)
     ((first | refine jO rfl rfl ?_ | refine jP rfl rfl rfl rfl ?_); refine jA rfl (op_u32 (op := .add) rfl rfl rfl rfl) rfl ?_; refine jN (by first | (simp only [setAt]; rfl) | rfl) ?_)
     ((first | refine jO rfl rfl ?_ | refine jP rfl rfl rfl rfl ?_); refine jA rfl (je rfl rfl) rfl ?_; refine jN (by first | (simp only [setAt]; rfl) | rfl) ?_)
     refine jR ?_
     (repeat (first | (with_reducible refine jj ?_; refine jk (by first | (simp only [setAt]; rfl) | rfl) ?_) | (with_reducible first | refine jh ?_ | refine ji ?_)))
     refine ja rfl rfl (jc rfl rfl) ?_
     refine jb (by first | (simp only [setAt]; rfl) | rfl) ?_
     refine ja rfl rfl (jc rfl rfl) ?_
     refine jb (by first | (simp only [setAt]; rfl) | rfl) ?_
     refine ja rfl rfl (op_u32 (op := .add) rfl rfl rfl rfl) ?_
     refine jb (by first | (simp only [setAt]; rfl) | rfl) ?_
     refine ja rfl rfl (op_indexAddr_arr (sz := 0) (j := 0) rfl rfl u63 sz62 rfl rfl rfl (by omega)) ?_
     refine jb (by first | (simp only [setAt]; rfl) | rfl) ?_
     refine ja rfl rfl (op_load_ptr (v := cellU st0) rfl rfl hb8 (take_one ag62 sz62)) ?_
     refine jb (by first | (simp only [setAt]; rfl) | rfl) ?_
     refine ja rfl rfl (op_indexAddr_arr (sz := 0) (j := 1) rfl rfl u63 sz62 rfl rfl rfl (by omega)) ?_
     refine jb (by first | (simp only [setAt]; rfl) | rfl) ?_
     refine ja rfl rfl (op_load_ptr (v := cellU st1) rfl rfl hb8 (take_one ag62 sz62)) ?_
     refine jb (by first | (simp only [setAt]; rfl) | rfl) ?_
     refine ja rfl rfl (op_indexAddr_arr (sz := 0) (j := 2) rfl rfl u63 sz62 rfl rfl rfl (by omega)) ?_
     refine jb (by first | (simp only [setAt]; rfl) | rfl) ?_
     refine ja rfl rfl (op_load_ptr (v := cellU st2) rfl rfl hb8 (take_one ag62 sz62)) ?_
     refine jb (by first | (simp only [setAt]; rfl) | rfl) ?_
     refine ja rfl rfl (op_indexAddr_arr (sz := 0) (j := 3) rfl rfl u63 sz62 rfl rfl rfl (by omega)) ?_
     refine jb (by first | (simp only [setAt]; rfl) | rfl) ?_
     refine ja rfl rfl (op_load_ptr (v := cellU st3) rfl rfl hb8 (take_one ag62 sz62)) ?_
     refine jb (by first | (simp only [setAt]; rfl) | rfl) ?_
     refine ja rfl rfl (jc rfl rfl) ?_
     refine jb (by first | (simp only [setAt]; rfl) | rfl) ?_
     refine ja rfl rfl (op_u32 (op := .add) rfl rfl rfl rfl) ?_
     refine jb (by first | (simp only [setAt]; rfl) | rfl) ?_
     refine ja rfl rfl (op_indexAddr_arr (sz := 0) (j := 4) rfl rfl u63 sz62 rfl rfl rfl (by omega)) ?_
     refine jb (by first | (simp only [setAt]; rfl) | rfl) ?_
     refine ja rfl rfl (op_load_ptr (v := cellU st4) rfl rfl hb8 (take_one ag62 sz62)) ?_
     refine jb (by first | (simp only [setAt]; rfl) | rfl) ?_
     refine ja rfl rfl (op_indexAddr_arr (sz := 0) (j := 5) rfl rfl u63 sz62 rfl rfl rfl (by omega)) ?_
     refine jb (by first | (simp only [setAt]; rfl) | rfl) ?_
     refine ja rfl rfl (op_load_ptr (v := cellU st5) rfl rfl hb8 (take_one ag62 sz62)) ?_
     refine jb (by first | (simp only [setAt]; rfl) | rfl) ?_
     refine ja rfl rfl (op_indexAddr_arr (sz := 0) (j := 6) rfl rfl u63 sz62 rfl rfl rfl (by omega)) ?_
     refine jb (by first | (simp only [setAt]; rfl) | rfl) ?_
     refine ja rfl rfl (op_load_ptr (v := cellU st6) rfl rfl hb8 (take_one ag62 sz62)) ?_
     refine jb (by first | (simp only [setAt]; rfl) | rfl) ?_
     refine ja rfl rfl (op_build rfl rfl (b63 _ _ _ _ _ _ _ _)) ?_
     refine jb (by first | (simp only [setAt]; rfl) | rfl) ?_
     refine Wo.doSkip rfl rfl (op_storeC (cs' := (roundR Ar.real (shaK.getD i 0) (ws.getD i 0) [st0, st1, st2, st3, st4, st5, st6, st7]).map cellU) rfl sz63 rfl rfl hb8 rfl) ?_
     rw [setAt_two]
     (repeat (first | (with_reducible first | refine jh ?_ | refine ji ?_ | refine jl ?_ | refine jm ?_ | refine jn ?_ | refine jo ?_ | refine jp ?_ | refine jq ?_ | refine jr ?_ | refine js ?_ | refine jt ?_ | refine ju ?_ | refine jv ?_ | refine jw ?_) | (with_reducible refine jj ?_; refine jk (by first | (simp only [setAt, enter, List.replicate, List.cons_append, List.nil_append]; rfl) | rfl) ?_) | with_reducible refine jx (by decide) ?_ | (with_reducible refine jD ?_; first | refine jE rfl rfl rfl ?_ | refine jF rfl rfl rfl ?_) | ((first | (with_reducible refine jG ?_; first | refine jB rfl rfl rfl rfl ?_ | refine jC rfl rfl rfl rfl rfl ?_) | (with_reducible refine jH ?_; refine ja rfl rfl (jc rfl rfl) ?_) | (with_reducible refine jI ?_; refine ja rfl rfl (je rfl rfl) ?_) | (with_reducible refine jJ ?_; refine ja rfl rfl (jd rfl rfl rfl rfl rfl) ?_) | (with_reducible refine jK ?_; refine ja rfl rfl (jf rfl rfl rfl rfl) ?_) | (with_reducible refine jL ?_; first | refine ja rfl rfl (jy rfl rfl rfl rfl rfl rfl) ?_ | refine ja rfl rfl (jz rfl rfl rfl rfl rfl rfl) ?_) | (with_reducible refine jM ?_; refine ja rfl rfl (jg rfl rfl u24 rfl) ?_)); refine jb (by first | (simp only [setAt]; rfl) | rfl) ?_)))
     refine LoopQ.normal (64 - (i + 1)) (by omega) ⟨i + 1, _, rfl, by omega, rfl, rfl, hrd, dead_of ?_⟩
     rw [w64 (by omega)]; rfl
    ·have hi64 : i = 64 := by have := of_decide_eq_false h; omega
     subst hi64
     clear h
     rw [List.drop_eq_nil_of_le (show shaK.length ≤ 64 from Nat.le_refl 64)] at hrd
     simp only [roundsR] at hrd
     rw [← hrd] at hfs
     clear hrd
     have hR4 := hR3.set (L + 1) (by omega) (.cells (63, true) (st.map cellU))
     have hb8 := nth_setAt_same H5 (L + 1) (.cells (63, true) (st.map cellU)) _ hn8
     generalize setAt H5 (L + 1) (.cells (63, true) (st.map cellU)) = H7 at *
     (repeat (first | (with_reducible first | refine jh ?_ | refine ji ?_ | refine jl ?_ | refine jm ?_ | refine jn ?_ | refine jo ?_ | refine jp ?_ | refine jq ?_ | refine jr ?_ | refine js ?_ | refine jt ?_ | refine ju ?_ | refine jv ?_ | refine jw ?_) | (with_reducible refine jj ?_; refine jk (by first | (simp only [setAt, enter, List.replicate, List.cons_append, List.nil_append]; rfl) | rfl) ?_) | with_reducible refine jx (by decide) ?_ | (with_reducible refine jD ?_; first | refine jE rfl rfl rfl ?_ | refine jF rfl rfl rfl ?_) | ((first | (with_reducible refine jG ?_; first | refine jB rfl rfl rfl rfl ?_ | refine jC rfl rfl rfl rfl rfl ?_) | (with_reducible refine jH ?_; refine ja rfl rfl (jc rfl rfl) ?_) | (with_reducible refine jI ?_; refine ja rfl rfl (je rfl rfl) ?_) | (with_reducible refine jJ ?_; refine ja rfl rfl (jd rfl rfl rfl rfl rfl) ?_) | (with_reducible refine jK ?_; refine ja rfl rfl (jf rfl rfl rfl rfl) ?_) | (with_reducible refine jL ?_; first | refine ja rfl rfl (jy rfl rfl rfl rfl rfl rfl) ?_ | refine ja rfl rfl (jz rfl rfl rfl rfl rfl rfl) ?_) | (with_reducible refine jM ?_; refine ja rfl rfl (jg rfl rfl u24 rfl) ?_)); refine jb (by first | (simp only [setAt]; rfl) | rfl) ?_)))
     refine Wc.inv (fun w s1 => ∃ (i : Nat) (cur : List Nat), w = 8 - i ∧ i ≤ 8 ∧ cur.length = 8 ∧ s1.H = setAt H7 1 (.cells (63, true) (cur.map cellU)) ∧ (∀ j, j < 8 → cur.getD j 0 = if j < i then Ar.real.add (hs.getD j 0) (st.getD j 0) else hs.getD j 0) ∧ ∃ d : Nat → AV, s1.regs = (d 0 :: d 1 :: .ptr 0 0 :: .ptr 1 0 :: .ptr 2 0 :: .str P :: i64 (64 * k : Nat) :: d 7 :: .ptr (L + 1) 0 :: d 9 :: d 10 :: d 11 :: d 12 :: d 13 :: i64 i :: d 15 :: d 16 :: d 17 :: d 18 :: d 19 :: d 20 :: d 21 :: d 22 :: d 23 :: d 24 :: d 25 :: d 26 :: d 27 :: d 28 :: d 29 :: d 30 :: d 31 :: d 32 :: d 33 :: d 34 :: d 35 :: d 36 :: d 37 :: d 38 :: d 39 :: d 40 :: d 41 :: d 42 :: d 43 :: d 44 :: d 45 :: d 46 :: d 47 :: d 48 :: d 49 :: d 50 :: d 51 :: d 52 :: d 53 :: d 54 :: d 55 :: d 56 :: d 57 :: d 58 :: d 59 :: d 60 :: d 61 :: d 62 :: d 63 :: d 64 :: d 65 :: d 66 :: d 67 :: d 68 :: d 69 :: d 70 :: d 71 :: d 72 :: d 73 :: d 74 :: d 75 :: d 76 :: d 77 :: d 78 :: d 79 :: d 80 :: d 81 :: d 82 :: d 83 :: d 84 :: d 85 :: d 86 :: d 87 :: d 88 :: d 89 :: d 90 :: d 91 :: d 92 :: d 93 :: d 94 :: d 95 :: d 96 :: d 97 :: d 98 :: d 99 :: d 100 :: d 101 :: d 102 :: d 103 :: d 104 :: d 105 :: d 106 :: d 107 :: d 108 :: d 109 :: d 110 :: d 111 :: d 112 :: d 113 :: d 114 :: d 115 :: d 116 :: d 117 :: d 118 :: d 119 :: d 120 :: d 121 :: d 122 :: d 123 :: d 124 :: d 125 :: d 126 :: d 127 :: d 128 :: d 129 :: d 130 :: d 131 :: d 132 :: d 133 :: d 134 :: d 135 :: d 136 :: d 137 :: d 138 :: d 139 :: d 140 :: d 141 :: d 142 :: d 143 :: d 144 :: d 145 :: d 146 :: [])) 8 ?_ ?_
     ·exact ⟨0, hs, rfl, by omega, hR.hl, (setAt_id _ _ _ hR4.b1).symm, fun j _ => by rw [if_neg (by omega)], dead_of rfl⟩
     ·clear d
      rintro w regs own3 H8 ⟨i, cur, rfl, hi, hcur, hH, hcj, d, rfl⟩
      simp only at hH
      subst hH
      have hb3 := nth_setAt_same H7 1 (.cells (63, true) (cur.map cellU)) _ hR4.b1
      have hb8' : nth (setAt H7 1 (.cells (63, true) (cur.map cellU))) (L + 1) = some (.cells (63, true) (st.map cellU)) := by rw [nth_setAt_other _ _ _ _ (by omega)]; exact hb8
      (repeat (first | (with_reducible first | refine jh ?_ | refine ji ?_ | refine jl ?_ | refine jm ?_ | refine jn ?_ | refine jo ?_ | refine jp ?_ | refine jq ?_ | refine jr ?_ | refine js ?_ | refine jt ?_ | refine ju ?_ | refine jv ?_ | refine jw ?_) | (with_reducible refine jj ?_; refine jk (by first | (simp only [setAt, enter, List.replicate, List.cons_append, List.nil_append]; rfl) | rfl) ?_) | with_reducible refine jx (by decide) ?_ | (with_reducible refine jD ?_; first | refine jE rfl rfl rfl ?_ | refine jF rfl rfl rfl ?_) | ((first | (with_reducible refine jG ?_; first | refine jB rfl rfl rfl rfl ?_ | refine jC rfl rfl rfl rfl rfl ?_) | (with_reducible refine jH ?_; refine ja rfl rfl (jc rfl rfl) ?_) | (with_reducible refine jI ?_; refine ja rfl rfl (je rfl rfl) ?_) | (with_reducible refine jJ ?_; refine ja rfl rfl (jd rfl rfl rfl rfl rfl) ?_) | (with_reducible refine jK ?_; refine ja rfl rfl (jf rfl rfl rfl rfl) ?_) | (with_reducible refine jL ?_; first | refine ja rfl rfl (jy rfl rfl rfl rfl rfl rfl) ?_ | refine ja rfl rfl (jz rfl rfl rfl rfl rfl rfl) ?_) | (with_reducible refine jM ?_; refine ja rfl rfl (jg rfl rfl u24 rfl) ?_)); refine jb (by first | (simp only [setAt]; rfl) | rfl) ?_)))
      refine Wc.cond rfl rfl (fun h => ?_) (fun h => ?_)
      ·have hlt8 : i < 8 := by have := of_decide_eq_true h; omega
       clear h
       have h3i : i < cur.length := by omega
       have h8i : i < st.length := by omega
       (repeat (first | (with_reducible first | refine jh ?_ | refine ji ?_ | refine jl ?_ | refine jm ?_ | refine jn ?_ | refine jo ?_ | refine jp ?_ | refine jq ?_ | refine jr ?_ | refine js ?_ | refine jt ?_ | refine ju ?_ | refine jv ?_ | refine jw ?_) | (with_reducible refine jj ?_; refine jk (by first | (simp only [setAt, enter, List.replicate, List.cons_append, List.nil_append]; rfl) | rfl) ?_) | with_reducible refine jx (by decide) ?_ | (with_reducible refine jD ?_; first | refine jE rfl rfl rfl ?_ | refine jF rfl rfl rfl ?_) | ((first | (with_reducible refine jG ?_; first | refine jB rfl rfl rfl rfl ?_ | refine jC rfl rfl rfl rfl rfl ?_) | (with_reducible refine jH ?_; refine ja rfl rfl (jc rfl rfl) ?_) | (with_reducible refine jI ?_; refine ja rfl rfl (je rfl rfl) ?_) | (with_reducible refine jJ ?_; refine ja rfl rfl (jd rfl rfl rfl rfl rfl) ?_) | (with_reducible refine jK ?_; refine ja rfl rfl (jf rfl rfl rfl rfl) ?_) | (with_reducible refine jL ?_; first | refine ja rfl rfl (jy rfl rfl rfl rfl rfl rfl) ?_ | refine ja rfl rfl (jz rfl rfl rfl rfl rfl rfl) ?_) | (with_reducible refine jM ?_; refine ja rfl rfl (jg rfl rfl u24 rfl) ?_)); refine jb (by first | (simp only [setAt]; rfl) | rfl) ?_)))
       refine Wc.drawn rfl (by kernel_rfl) ?_
       ((first | refine jO rfl rfl ?_ | refine jP rfl rfl rfl rfl ?_); refine jA rfl (jc rfl rfl) rfl ?_; refine jN (by first | (simp only [setAt]; rfl) | rfl) ?_)
       ((first | refine jO rfl rfl ?_ | refine jP rfl rfl rfl rfl ?_); refine jA rfl (jc rfl rfl) rfl ?_; refine jN (by first | (simp only [setAt]; rfl) | rfl) ?_)
       ((first | refine jO rfl rfl ?_ | refine jP rfl rfl rfl rfl ?_); refine jA rfl (op_indexAddr_arr (sz := 0) (j := i) rfl rfl u63 sz62 rfl rfl rfl (by omega)) rfl ?_; refine jN (by first | (simp only [setAt]; rfl) | rfl) ?_)
       ((first | refine jO rfl rfl ?_ | refine jP rfl rfl rfl rfl ?_); refine jA rfl (op_load_ptr rfl rfl hb3 (ld62 _ i h3i)) rfl ?_; refine jN (by first | (simp only [setAt]; rfl) | rfl) ?_)
       ((first | refine jO rfl rfl ?_ | refine jP rfl rfl rfl rfl ?_); refine jA rfl (jc rfl rfl) rfl ?_; refine jN (by first | (simp only [setAt]; rfl) | rfl) ?_)
       ((first | refine jO rfl rfl ?_ | refine jP rfl rfl rfl rfl ?_); refine jA rfl (op_indexAddr_arr (sz := 0) (j := i) rfl rfl u63 sz62 rfl rfl rfl (by omega)) rfl ?_; refine jN (by first | (simp only [setAt]; rfl) | rfl) ?_)
       ((first | refine jO rfl rfl ?_ | refine jP rfl rfl rfl rfl ?_); refine jA rfl (op_load_ptr rfl rfl hb8' (ld62 _ i h8i)) rfl ?_; refine jN (by first | (simp only [setAt]; rfl) | rfl) ?_)
       ((first | refine jO rfl rfl ?_ | refine jP rfl rfl rfl rfl ?_); refine jA rfl (op_u32 (op := .add) rfl rfl rfl rfl) rfl ?_; refine jN (by first | (simp only [setAt]; rfl) | rfl) ?_)
       ((first | refine jO rfl rfl ?_ | refine jP rfl rfl rfl rfl ?_); refine jA rfl (op_indexAddr_arr (sz := 0) (j := i) rfl rfl u63 sz62 rfl rfl rfl (by omega)) rfl ?_; refine jN (by first | (simp only [setAt]; rfl) | rfl) ?_)
       refine Wd.skip rfl (.inl rfl) rfl (op_storeC rfl sz62 rfl rfl hb3 (st_one cur i _ h3i)) (by kernel_rfl) ?_
       refine jR ?_
       rw [setAt_two]
       (repeat (first | (with_reducible first | refine jh ?_ | refine ji ?_ | refine jl ?_ | refine jm ?_ | refine jn ?_ | refine jo ?_ | refine jp ?_ | refine jq ?_ | refine jr ?_ | refine js ?_ | refine jt ?_ | refine ju ?_ | refine jv ?_ | refine jw ?_) | (with_reducible refine jj ?_; refine jk (by first | (simp only [setAt, enter, List.replicate, List.cons_append, List.nil_append]; rfl) | rfl) ?_) | with_reducible refine jx (by decide) ?_ | (with_reducible refine jD ?_; first | refine jE rfl rfl rfl ?_ | refine jF rfl rfl rfl ?_) | ((first | (with_reducible refine jG ?_; first | refine jB rfl rfl rfl rfl ?_ | refine jC rfl rfl rfl rfl rfl ?_) | (with_reducible refine jH ?_; refine ja rfl rfl (jc rfl rfl) ?_) | (with_reducible refine jI ?_; refine ja rfl rfl (je rfl rfl) ?_) | (with_reducible refine jJ ?_; refine ja rfl rfl (jd rfl rfl rfl rfl rfl) ?_) | (with_reducible refine jK ?_; refine ja rfl rfl (jf rfl rfl rfl rfl) ?_) | (with_reducible refine jL ?_; first | refine ja rfl rfl (jy rfl rfl rfl rfl rfl rfl) ?_ | refine ja rfl rfl (jz rfl rfl rfl rfl rfl rfl) ?_) | (with_reducible refine jM ?_; refine ja rfl rfl (jg rfl rfl u24 rfl) ?_)); refine jb (by first | (simp only [setAt]; rfl) | rfl) ?_)))
       refine LoopQ.normal (8 - (i + 1)) (by omega) ⟨i + 1, _, rfl, by omega, by rw [List.length_set]; exact hcur, rfl, fun j hj => ?_, dead_of ?_⟩
       ·rw [List.getD_eq_getElem?_getD, List.getElem?_set]
        by_cases e : i = j
        ·subst e
         rw [if_pos rfl, if_pos h3i, if_pos (by omega)]
         show Ar.real.add (cur.getD i 0) (st.getD i 0) = _
         rw [hcj i hj, if_neg (by omega)]
        ·rw [if_neg e, ← List.getD_eq_getElem?_getD, hcj j hj]
         by_cases q : j < i
         ·rw [if_pos q, if_pos (by omega)]
         ·rw [if_neg q, if_neg (by omega)]
       ·rw [w64 (by omega)]; rfl
      ·have hi8 : i = 8 := by have := of_decide_eq_false h; omega
       subst hi8
       clear h
       have hce := adds_ext hR.hl hst hcur (fun j hj => by rw [hcj j hj, if_pos hj])
       rw [hfs] at hce
       subst hce
       (repeat (first | (with_reducible first | refine jh ?_ | refine ji ?_ | refine jl ?_ | refine jm ?_ | refine jn ?_ | refine jo ?_ | refine jp ?_ | refine jq ?_ | refine jr ?_ | refine js ?_ | refine jt ?_ | refine ju ?_ | refine jv ?_ | refine jw ?_) | (with_reducible refine jj ?_; refine jk (by first | (simp only [setAt, enter, List.replicate, List.cons_append, List.nil_append]; rfl) | rfl) ?_) | with_reducible refine jx (by decide) ?_ | (with_reducible refine jD ?_; first | refine jE rfl rfl rfl ?_ | refine jF rfl rfl rfl ?_) | ((first | (with_reducible refine jG ?_; first | refine jB rfl rfl rfl rfl ?_ | refine jC rfl rfl rfl rfl rfl ?_) | (with_reducible refine jH ?_; refine ja rfl rfl (jc rfl rfl) ?_) | (with_reducible refine jI ?_; refine ja rfl rfl (je rfl rfl) ?_) | (with_reducible refine jJ ?_; refine ja rfl rfl (jd rfl rfl rfl rfl rfl) ?_) | (with_reducible refine jK ?_; refine ja rfl rfl (jf rfl rfl rfl rfl) ?_) | (with_reducible refine jL ?_; first | refine ja rfl rfl (jy rfl rfl rfl rfl rfl rfl) ?_ | refine ja rfl rfl (jz rfl rfl rfl rfl rfl rfl) ?_) | (with_reducible refine jM ?_; refine ja rfl rfl (jg rfl rfl u24 rfl) ?_)); refine jb (by first | (simp only [setAt]; rfl) | rfl) ?_)))
       rw [wrap_sm (n := ((64 * k : Nat) : Int) + 64) (by omega) (by omega)]
       refine LoopQ.normal (K - (k + 1)) (by omega) ⟨k + 1, feedL hs ch, rfl, by omega, ⟨by rw [nth_setAt_other _ _ _ _ (by omega)]; exact hR4.b0, hb3, by rw [nth_setAt_other _ _ _ _ (by omega)]; exact hR4.b2, by rw [len_setAt]; exact hR4.len, hcur⟩, by rw [← hstep]; exact hall, dead_of ?_⟩
       rw [show ((64 * k : Nat) : Int) + 64 = ((64 * (k + 1) : Nat) : Int) by omega]; rfl
  ·have hkK : k = K := by have := of_decide_eq_false h; omega
   subst hkK
   clear h
   rw [Nat.sub_self] at hall
   simp only [allU] at hall
   rw [← hall]
   clear hall
   (repeat (first | (with_reducible first | refine jh ?_ | refine ji ?_ | refine jl ?_ | refine jm ?_ | refine jn ?_ | refine jo ?_ | refine jp ?_ | refine jq ?_ | refine jr ?_ | refine js ?_ | refine jt ?_ | refine ju ?_ | refine jv ?_ | refine jw ?_) | (with_reducible refine jj ?_; refine jk (by first | (simp only [setAt, enter, List.replicate, List.cons_append, List.nil_append]; rfl) | rfl) ?_) | with_reducible refine jx (by decide) ?_ | (with_reducible refine jD ?_; first | refine jE rfl rfl rfl ?_ | refine jF rfl rfl rfl ?_) | ((first | (with_reducible refine jG ?_; first | refine jB rfl rfl rfl rfl ?_ | refine jC rfl rfl rfl rfl rfl ?_) | (with_reducible refine jH ?_; refine ja rfl rfl (jc rfl rfl) ?_) | (with_reducible refine jI ?_; refine ja rfl rfl (je rfl rfl) ?_) | (with_reducible refine jJ ?_; refine ja rfl rfl (jd rfl rfl rfl rfl rfl) ?_) | (with_reducible refine jK ?_; refine ja rfl rfl (jf rfl rfl rfl rfl) ?_) | (with_reducible refine jL ?_; first | refine ja rfl rfl (jy rfl rfl rfl rfl rfl rfl) ?_ | refine ja rfl rfl (jz rfl rfl rfl rfl rfl rfl) ?_) | (with_reducible refine jM ?_; refine ja rfl rfl (jg rfl rfl u24 rfl) ?_)); refine jb (by first | (simp only [setAt]; rfl) | rfl) ?_)))
   refine ja rfl rfl (op_alloc rfl rfl z47) ?_
   refine jb (by first | (simp only [setAt]; rfl) | rfl) ?_
   have hR2 := hR.app (.cells (47, true) (AV.agg (List.replicate 32 (AV.v (.int .u8 0)))).cells)
   have hnew := nth_app H2 (AB.cells (47, true) (AV.agg (List.replicate 32 (AV.v (.int .u8 0)))).cells)
   obtain ⟨L, hL⟩ : ∃ L, L = H2.length := ⟨_, rfl⟩
   have hL3 : 3 ≤ L := by rw [hL]; exact hR.len
   rw [← hL] at hnew ⊢
   generalize H2 ++ [AB.cells (47, true) (AV.agg (List.replicate 32 (AV.v (.int .u8 0)))).cells] = H3 at *
   (repeat (first | (with_reducible first | refine jh ?_ | refine ji ?_ | refine jl ?_ | refine jm ?_ | refine jn ?_ | refine jo ?_ | refine jp ?_ | refine jq ?_ | refine jr ?_ | refine js ?_ | refine jt ?_ | refine ju ?_ | refine jv ?_ | refine jw ?_) | (with_reducible refine jj ?_; refine jk (by first | (simp only [setAt, enter, List.replicate, List.cons_append, List.nil_append]; rfl) | rfl) ?_) | with_reducible refine jx (by decide) ?_ | (with_reducible refine jD ?_; first | refine jE rfl rfl rfl ?_ | refine jF rfl rfl rfl ?_) | ((first | (with_reducible refine jG ?_; first | refine jB rfl rfl rfl rfl ?_ | refine jC rfl rfl rfl rfl rfl ?_) | (with_reducible refine jH ?_; refine ja rfl rfl (jc rfl rfl) ?_) | (with_reducible refine jI ?_; refine ja rfl rfl (je rfl rfl) ?_) | (with_reducible refine jJ ?_; refine ja rfl rfl (jd rfl rfl rfl rfl rfl) ?_) | (with_reducible refine jK ?_; refine ja rfl rfl (jf rfl rfl rfl rfl) ?_) | (with_reducible refine jL ?_; first | refine ja rfl rfl (jy rfl rfl rfl rfl rfl rfl) ?_ | refine ja rfl rfl (jz rfl rfl rfl rfl rfl rfl) ?_) | (with_reducible refine jM ?_; refine ja rfl rfl (jg rfl rfl u24 rfl) ?_)); refine jb (by first | (simp only [setAt]; rfl) | rfl) ?_)))
   refine Wc.inv (fun w s1 => ∃ i : Nat, w = 32 - i ∧ i ≤ 32 ∧ RM2 s1.H hs ∧ nth s1.H L = some (.cells (47, true) ((List.range i).map (fun i => u8v (outB hs i)) ++ List.replicate (32 - i) (u8v 0))) ∧ ∃ d : Nat → AV, s1.regs = (d 0 :: d 1 :: .ptr 0 0 :: .ptr 1 0 :: d 4 :: d 5 :: d 6 :: d 7 :: d 8 :: d 9 :: d 10 :: d 11 :: d 12 :: d 13 :: d 14 :: .ptr L 0 :: i64 i :: d 17 :: d 18 :: d 19 :: d 20 :: d 21 :: d 22 :: d 23 :: d 24 :: d 25 :: d 26 :: d 27 :: d 28 :: d 29 :: d 30 :: d 31 :: d 32 :: d 33 :: d 34 :: d 35 :: d 36 :: d 37 :: d 38 :: d 39 :: d 40 :: d 41 :: d 42 :: d 43 :: d 44 :: d 45 :: d 46 :: d 47 :: d 48 :: d 49 :: d 50 :: d 51 :: d 52 :: d 53 :: d 54 :: d 55 :: d 56 :: d 57 :: d 58 :: d 59 :: d 60 :: d 61 :: d 62 :: d 63 :: d 64 :: d 65 :: d 66 :: d 67 :: d 68 :: d 69 :: d 70 :: d 71 :: d 72 :: d 73 :: d 74 :: d 75 :: d 76 :: d 77 :: d 78 :: d 79 :: d 80 :: d 81 :: d 82 :: d 83 :: d 84 :: d 85 :: d 86 :: d 87 :: d 88 :: d 89 :: d 90 :: d 91 :: d 92 :: d 93 :: d 94 :: d 95 :: d 96 :: d 97 :: d 98 :: d 99 :: d 100 :: d 101 :: d 102 :: d 103 :: d 104 :: d 105 :: d 106 :: d 107 :: d 108 :: d 109 :: d 110 :: d 111 :: d 112 :: d 113 :: d 114 :: d 115 :: d 116 :: d 117 :: d 118 :: d 119 :: d 120 :: d 121 :: d 122 :: d 123 :: d 124 :: d 125 :: d 126 :: d 127 :: d 128 :: d 129 :: d 130 :: d 131 :: d 132 :: d 133 :: d 134 :: d 135 :: d 136 :: d 137 :: d 138 :: d 139 :: d 140 :: d 141 :: d 142 :: d 143 :: d 144 :: d 145 :: d 146 :: [])) 32 ?_ ?_
   ·exact ⟨0, rfl, by omega, hR2, hnew, dead_of rfl⟩
   ·clear d hnew hR2
    rintro w regs own H9 ⟨i, rfl, hi, hR9, hout, d, rfl⟩
    simp only at hR9 hout
    (repeat (first | (with_reducible first | refine jh ?_ | refine ji ?_ | refine jl ?_ | refine jm ?_ | refine jn ?_ | refine jo ?_ | refine jp ?_ | refine jq ?_ | refine jr ?_ | refine js ?_ | refine jt ?_ | refine ju ?_ | refine jv ?_ | refine jw ?_) | (with_reducible refine jj ?_; refine jk (by first | (simp only [setAt, enter, List.replicate, List.cons_append, List.nil_append]; rfl) | rfl) ?_) | with_reducible refine jx (by decide) ?_ | (with_reducible refine jD ?_; first | refine jE rfl rfl rfl ?_ | refine jF rfl rfl rfl ?_) | ((first | (with_reducible refine jG ?_; first | refine jB rfl rfl rfl rfl ?_ | refine jC rfl rfl rfl rfl rfl ?_) | (with_reducible refine jH ?_; refine ja rfl rfl (jc rfl rfl) ?_) | (with_reducible refine jI ?_; refine ja rfl rfl (je rfl rfl) ?_) | (with_reducible refine jJ ?_; refine ja rfl rfl (jd rfl rfl rfl rfl rfl) ?_) | (with_reducible refine jK ?_; refine ja rfl rfl (jf rfl rfl rfl rfl) ?_) | (with_reducible refine jL ?_; first | refine ja rfl rfl (jy rfl rfl rfl rfl rfl rfl) ?_ | refine ja rfl rfl (jz rfl rfl rfl rfl rfl rfl) ?_) | (with_reducible refine jM ?_; refine ja rfl rfl (jg rfl rfl u24 rfl) ?_)); refine jb (by first | (simp only [setAt]; rfl) | rfl) ?_)))
    refine Wc.cond rfl rfl (fun h => ?_) (fun h => ?_)
    ·have hlt : i < 32 := by have := of_decide_eq_true h; omega
     clear h
     (repeat (first | (with_reducible first | refine jh ?_ | refine ji ?_ | refine jl ?_ | refine jm ?_ | refine jn ?_ | refine jo ?_ | refine jp ?_ | refine jq ?_ | refine jr ?_ | refine js ?_ | refine jt ?_ | refine ju ?_ | refine jv ?_ | refine jw ?_) | (with_reducible refine jj ?_; refine jk (by first | (simp only [setAt, enter, List.replicate, List.cons_append, List.nil_append]; rfl) | rfl) ?_) | with_reducible refine jx (by decide) ?_ | (with_reducible refine jD ?_; first | refine jE rfl rfl rfl ?_ | refine jF rfl rfl rfl ?_) | ((first | (with_reducible refine jG ?_; first | refine jB rfl rfl rfl rfl ?_ | refine jC rfl rfl rfl rfl rfl ?_) | (with_reducible refine jH ?_; refine ja rfl rfl (jc rfl rfl) ?_) | (with_reducible refine jI ?_; refine ja rfl rfl (je rfl rfl) ?_) | (with_reducible refine jJ ?_; refine ja rfl rfl (jd rfl rfl rfl rfl rfl) ?_) | (with_reducible refine jK ?_; refine ja rfl rfl (jf rfl rfl rfl rfl) ?_) | (with_reducible refine jL ?_; first | refine ja rfl rfl (jy rfl rfl rfl rfl rfl rfl) ?_ | refine ja rfl rfl (jz rfl rfl rfl rfl rfl rfl) ?_) | (with_reducible refine jM ?_; refine ja rfl rfl (jg rfl rfl u24 rfl) ?_)); refine jb (by first | (simp only [setAt]; rfl) | rfl) ?_)))
     refine ja rfl rfl (op_indexAddr_arr (sz := 0) (j := i / 4) rfl rfl u63 sz62 rfl rfl (q4 i (by omega)) (by omega)) ?_
     refine jb (by first | (simp only [setAt]; rfl) | rfl) ?_
     refine ja rfl rfl (op_load_ptr rfl rfl hR9.b1 (ld62 hs (i / 4) (by have := hR9.hl; omega))) ?_
     refine jb (by first | (simp only [setAt]; rfl) | rfl) ?_
     (repeat (first | (with_reducible first | refine jh ?_ | refine ji ?_ | refine jl ?_ | refine jm ?_ | refine jn ?_ | refine jo ?_ | refine jp ?_ | refine jq ?_ | refine jr ?_ | refine js ?_ | refine jt ?_ | refine ju ?_ | refine jv ?_ | refine jw ?_) | (with_reducible refine jj ?_; refine jk (by first | (simp only [setAt, enter, List.replicate, List.cons_append, List.nil_append]; rfl) | rfl) ?_) | with_reducible refine jx (by decide) ?_ | (with_reducible refine jD ?_; first | refine jE rfl rfl rfl ?_ | refine jF rfl rfl rfl ?_) | ((first | (with_reducible refine jG ?_; first | refine jB rfl rfl rfl rfl ?_ | refine jC rfl rfl rfl rfl rfl ?_) | (with_reducible refine jH ?_; refine ja rfl rfl (jc rfl rfl) ?_) | (with_reducible refine jI ?_; refine ja rfl rfl (je rfl rfl) ?_) | (with_reducible refine jJ ?_; refine ja rfl rfl (jd rfl rfl rfl rfl rfl) ?_) | (with_reducible refine jK ?_; refine ja rfl rfl (jf rfl rfl rfl rfl) ?_) | (with_reducible refine jL ?_; first | refine ja rfl rfl (jy rfl rfl rfl rfl rfl rfl) ?_ | refine ja rfl rfl (jz rfl rfl rfl rfl rfl rfl) ?_) | (with_reducible refine jM ?_; refine ja rfl rfl (jg rfl rfl u24 rfl) ?_)); refine jb (by first | (simp only [setAt]; rfl) | rfl) ?_)))
     rw [r4, wrap_sm (n := 8 * ((i % 4 : Nat) : Int)) (by omega) (by omega), wrap_sm (n := 24 - 8 * ((i % 4 : Nat) : Int)) (by omega) (by omega), show 24 - 8 * ((i % 4 : Nat) : Int) = ((24 - 8 * (i % 4) : Nat) : Int) by omega]
     refine ja rfl rfl (op_conv_int rfl u3 u75 rfl (u64_wrap (by omega) (by omega))) ?_
     refine jb (by first | (simp only [setAt]; rfl) | rfl) ?_
     refine ja rfl rfl (jd (r := .int .u32 ((hs.getD (i / 4) 0 : Int).fdiv (2 ^ (24 - 8 * (i % 4))))) rfl rfl rfl (shr_run _ _ _ .u32 .u64 _ _ (by show 24 - 8 * (i % 4) ≤ 32; omega)) rfl) ?_
     refine jb (by first | (simp only [setAt]; rfl) | rfl) ?_
     refine ja rfl rfl (op_conv_int rfl u62 u5 rfl (out_eq hs i)) ?_
     refine jb (by first | (simp only [setAt]; rfl) | rfl) ?_
     refine ja rfl rfl (op_indexAddr_arr (sz := 0) (j := i) rfl rfl u47 sz5 rfl rfl rfl hlt) ?_
     refine jb (by first | (simp only [setAt]; rfl) | rfl) ?_
     refine Wo.doSkip rfl rfl (op_storeC rfl sz5 rfl rfl hout (out_st hs i hlt)) ?_
     (repeat (first | (with_reducible first | refine jh ?_ | refine ji ?_ | refine jl ?_ | refine jm ?_ | refine jn ?_ | refine jo ?_ | refine jp ?_ | refine jq ?_ | refine jr ?_ | refine js ?_ | refine jt ?_ | refine ju ?_ | refine jv ?_ | refine jw ?_) | (with_reducible refine jj ?_; refine jk (by first | (simp only [setAt, enter, List.replicate, List.cons_append, List.nil_append]; rfl) | rfl) ?_) | with_reducible refine jx (by decide) ?_ | (with_reducible refine jD ?_; first | refine jE rfl rfl rfl ?_ | refine jF rfl rfl rfl ?_) | ((first | (with_reducible refine jG ?_; first | refine jB rfl rfl rfl rfl ?_ | refine jC rfl rfl rfl rfl rfl ?_) | (with_reducible refine jH ?_; refine ja rfl rfl (jc rfl rfl) ?_) | (with_reducible refine jI ?_; refine ja rfl rfl (je rfl rfl) ?_) | (with_reducible refine jJ ?_; refine ja rfl rfl (jd rfl rfl rfl rfl rfl) ?_) | (with_reducible refine jK ?_; refine ja rfl rfl (jf rfl rfl rfl rfl) ?_) | (with_reducible refine jL ?_; first | refine ja rfl rfl (jy rfl rfl rfl rfl rfl rfl) ?_ | refine ja rfl rfl (jz rfl rfl rfl rfl rfl rfl) ?_) | (with_reducible refine jM ?_; refine ja rfl rfl (jg rfl rfl u24 rfl) ?_)); refine jb (by first | (simp only [setAt]; rfl) | rfl) ?_)))
     refine LoopQ.normal (32 - (i + 1)) (by omega) ⟨i + 1, rfl, by omega, hR9.set L hL3 _, nth_setAt_same _ _ _ _ hout, dead_of ?_⟩
     rw [w64 (by omega)]; rfl
    ·have hi32 : i = 32 := by have := of_decide_eq_false h; omega
     subst hi32
     clear h
     (repeat (first | (with_reducible first | refine jh ?_ | refine ji ?_ | refine jl ?_ | refine jm ?_ | refine jn ?_ | refine jo ?_ | refine jp ?_ | refine jq ?_ | refine jr ?_ | refine js ?_ | refine jt ?_ | refine ju ?_ | refine jv ?_ | refine jw ?_) | (with_reducible refine jj ?_; refine jk (by first | (simp only [setAt, enter, List.replicate, List.cons_append, List.nil_append]; rfl) | rfl) ?_) | with_reducible refine jx (by decide) ?_ | (with_reducible refine jD ?_; first | refine jE rfl rfl rfl ?_ | refine jF rfl rfl rfl ?_) | ((first | (with_reducible refine jG ?_; first | refine jB rfl rfl rfl rfl ?_ | refine jC rfl rfl rfl rfl rfl ?_) | (with_reducible refine jH ?_; refine ja rfl rfl (jc rfl rfl) ?_) | (with_reducible refine jI ?_; refine ja rfl rfl (je rfl rfl) ?_) | (with_reducible refine jJ ?_; refine ja rfl rfl (jd rfl rfl rfl rfl rfl) ?_) | (with_reducible refine jK ?_; refine ja rfl rfl (jf rfl rfl rfl rfl) ?_) | (with_reducible refine jL ?_; first | refine ja rfl rfl (jy rfl rfl rfl rfl rfl rfl) ?_ | refine ja rfl rfl (jz rfl rfl rfl rfl rfl rfl) ?_) | (with_reducible refine jM ?_; refine ja rfl rfl (jg rfl rfl u24 rfl) ?_)); refine jb (by first | (simp only [setAt]; rfl) | rfl) ?_)))
     rw [Nat.sub_self, List.replicate_zero, List.append_nil] at hout
     refine ja rfl rfl (op_load_ptr (v := .agg ((List.range 32).map fun i => u8v (outB hs i))) rfl rfl hout (by rw [List.drop_zero]; exact (take_agg ag47 sz47 (by simp)).trans (by rw [List.take_of_length_le (by simp)]))) ?_
     refine jb (by first | (simp only [setAt]; rfl) | rfl) ?_
     refine Wo.doSkip rfl rfl (op_storeC (cs' := (List.range 32).map fun i => u8v (outB hs i)) rfl sz47 rfl rfl hR9.b0 (sto_all (by simp) (by simp) (by simp [allOne, AV.one]))) ?_
     (repeat (first | (with_reducible first | refine jh ?_ | refine ji ?_ | refine jl ?_ | refine jm ?_ | refine jn ?_ | refine jo ?_ | refine jp ?_ | refine jq ?_ | refine jr ?_ | refine js ?_ | refine jt ?_ | refine ju ?_ | refine jv ?_ | refine jw ?_) | (with_reducible refine jj ?_; refine jk (by first | (simp only [setAt, enter, List.replicate, List.cons_append, List.nil_append]; rfl) | rfl) ?_) | with_reducible refine jx (by decide) ?_ | (with_reducible refine jD ?_; first | refine jE rfl rfl rfl ?_ | refine jF rfl rfl rfl ?_) | ((first | (with_reducible refine jG ?_; first | refine jB rfl rfl rfl rfl ?_ | refine jC rfl rfl rfl rfl rfl ?_) | (with_reducible refine jH ?_; refine ja rfl rfl (jc rfl rfl) ?_) | (with_reducible refine jI ?_; refine ja rfl rfl (je rfl rfl) ?_) | (with_reducible refine jJ ?_; refine ja rfl rfl (jd rfl rfl rfl rfl rfl) ?_) | (with_reducible refine jK ?_; refine ja rfl rfl (jf rfl rfl rfl rfl) ?_) | (with_reducible refine jL ?_; first | refine ja rfl rfl (jy rfl rfl rfl rfl rfl rfl) ?_ | refine ja rfl rfl (jz rfl rfl rfl rfl rfl rfl) ?_) | (with_reducible refine jM ?_; refine ja rfl rfl (jg rfl rfl u24 rfl) ?_)); refine jb (by first | (simp only [setAt]; rfl) | rfl) ?_)))
     refine EndQ.ret (r := .agg ((List.range 32).map fun i => u8v (outB hs i))) (result_arr rfl (nth_setAt_same _ _ _ _ hR9.b0) ag47 sz47 (by simp)) ⟨.agg ((List.range 32).map fun i => u8v (outB hs i)), ?_, ?_, rfl, rfl⟩
     ·unfold snap
      simp only [mapO_u8]
     ·simp only [AV.closed, closedL_u8]
end Go.Proofs
