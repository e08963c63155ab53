/- RsWrite, RsHash, RsSum, RsRot, joined. -/
import Derived.Test.YtbhjnkdediijnaaDoorRxA
import Derived.Test.YtbhjnkdediijnaaDoorRxB
import Derived.Test.YtbhjnkdediijnaaDoorTmStr
import Derived.Test.YtbhjnkdediijnaaDoorTmMono
import Derived.Test.YtbhjnkdediijnaaDoorRsDel
set_option linter.unusedVariables false
set_option linter.unusedSimpArgs false
set_option linter.unusedSectionVars false
section
namespace Go.Proofs.RsPlain
open Go.Tm
def feedL (hs : List Nat) (s : List UInt8) : List Nat := match hs with
 | [a, b, c, d, e, f, g, h] => feedU Ar.real a b c d e f g h s
 | l => l
def allU : Nat → List UInt8 → List Nat → List Nat
 | 0, _, hs => hs
 | k + 1, s, hs => allU k (s.drop 64) (feedL hs (s.take 64))
theorem roundsU_len (A : Ar) : ∀ (ks ws : List Nat) (a b c d e f g h : Nat), (roundsU A ks ws a b c d e f g h).length = 8
 | [], _, _, _, _, _, _, _, _, _ => by rw [roundsU] <;> simp
 | _ :: _, [], _, _, _, _, _, _, _, _ => by rw [roundsU] <;> simp
 | _ :: ks, _ :: ws, _, _, _, _, _, _, _, _ => by rw [roundsU]; exact roundsU_len A ks ws _ _ _ _ _ _ _ _
theorem addsU_len (A : Ar) : ∀ (x y : List Nat), x.length = y.length → (addsU A x y).length = x.length
 | [], [], _ => rfl
 | [], _ :: _, h => by cases h
 | _ :: _, [], h => by cases h
 | a :: r, b :: q, h => by rw [addsU, List.length_cons, List.length_cons, addsU_len A r q (by simpa using h)]
theorem eightN (l : List Nat) (h : l.length = 8) : ∃ a b c d e f g i, l = [a, b, c, d, e, f, g, i] := by
 match l, h with
 | [a, b, c, d, e, f, g, i], _ => exact ⟨a, b, c, d, e, f, g, i, rfl⟩
theorem feedL_len {hs : List Nat} (h : hs.length = 8) (s : List UInt8) : (feedL hs s).length = 8 := by
 obtain ⟨a, b, c, d, e, f, g, i, rfl⟩ := eightN hs h
 show (feedU Ar.real a b c d e f g i s).length = 8
 unfold feedU
 rw [addsU_len _ _ _ (by rw [roundsU_len]; rfl)]; rfl
end Go.Proofs.RsPlain
namespace Go.Proofs
open Go.Tm Go.Proofs.RsPlain
set_option maxRecDepth 100000
def shaCells (hs : List Nat) (st : Bool) (rest : List UInt8) (n : Int) : List AV := hs.map cellU ++ [.v (.bool st), .str rest, .v (.int .u64 n)]
def iv : List Nat := [1779033703, 3144134277, 1013904242, 2773480762, 1359893119, 2600822924, 528734635, 1541459225]
theorem u9 : Kz.P.underlying 9 = some .string := Tryd.underlying9
theorem u61 : Kz.P.underlying 61 = some (.slice 9) := Tryd.underlying61
theorem sz9 : tSize Kz.P 9 = some 1 := by kernel_rfl
theorem ag9 : tAgg Kz.P 9 = some false := by kernel_rfl
theorem begin_run (H : List AB) : callF Kz 100 48 [] H = some (.agg (iv.map cellU), H) := by kernel_rfl
theorem toldFeed_eq {H : List AB} {b : Nat} {t : TypeId × Bool} {hs : List Nat} (h8 : hs.length = 8) {rest : List AV} (hb : nth H b = some (.cells t (hs.map cellU ++ rest))) (hr : AV.closedL rest = true) {s : List UInt8} (hl : s.length = 64) : toldFeed [.ptr b 0, .str s] H = some (.tup [], setAt H b (.cells t ((feedL hs s).map cellU ++ rest))) := by
 obtain ⟨a, b1, c, d, e, f, g, i, rfl⟩ := eightN _ h8
 unfold toldFeed
 simp only [hb, List.map_cons, List.map_nil, List.cons_append, List.nil_append]
 rw [show mapO unU [cellU a, cellU b1, cellU c, cellU d, cellU e, cellU f, cellU g, cellU i] = some [a, b1, c, d, e, f, g, i] from rfl]
 simp only
 rw [show (Nat.beq s.length 64 && AV.closedL rest) = true by rw [hl, hr]; rfl]
 simp only
 rw [readyU_eq]; rfl
theorem u65 : Kz.P.underlying 65 = some (.int .u64) := Tryd.underlying65
theorem sz65 : tSize Kz.P 65 = some 1 := by kernel_rfl
theorem ag65 : tAgg Kz.P 65 = some false := by kernel_rfl
theorem sz4 : tSize Kz.P 4 = some 1 := by kernel_rfl
theorem ag4 : tAgg Kz.P 4 = some false := by kernel_rfl
theorem sz64 : tSize Kz.P 64 = some 8 := by kernel_rfl
theorem fa0 (b : Nat) : aFieldAddr Kz 67 (.ptr b 0) 0 = some (.ptr b 0) := by kernel_rfl
theorem fa1 (b : Nat) : aFieldAddr Kz 67 (.ptr b 0) 1 = some (.ptr b 8) := by kernel_rfl
theorem fa2 (b : Nat) : aFieldAddr Kz 67 (.ptr b 0) 2 = some (.ptr b 9) := by kernel_rfl
theorem fa3 (b : Nat) : aFieldAddr Kz 67 (.ptr b 0) 3 = some (.ptr b 10) := by kernel_rfl
theorem op_storeC {f : FuncId} {o : Oper} {R : List AV} {own : Nat → Nat} {H : List AB} {t : TypeId} {a x : Operand} {b off n : Nat} {e : TypeId × Bool} {cs cs' : List AV} {v : AV} (ho : o.op = .store t a x) (hz : tSize Kz.P t = some n) (ha : evalO Kz R a = some (.ptr b off)) (hx : evalO Kz R x = some v) (hb : nth H b = some (.cells e cs)) (hc : (if v.cells.length = n ∧ off + n ≤ cs.length ∧ allOne v.cells = true then some (putAll cs off v.unown.cells) else none) = some cs') : aOp Kz f ⟨R, own, H⟩ o [] = some (.skip (setAt H b (.cells e cs')), [], []) := by
 refine op_store ho ha hx ?_
 simp only [aStore, hz, hb]
 split at hc
 ·rename_i q
  rw [if_pos q, Option.some.inj hc]
 ·cases hc
theorem setAt_two {α : Type} : ∀ (l : List α) (i : Nat) (x y : α), setAt (setAt l i x) i y = setAt l i y
 | [], _, _, _ => rfl
 | _ :: _, 0, _, _ => rfl
 | a :: r, i + 1, x, y => by simp only [setAt]; rw [setAt_two r i]
theorem setAt_id {α : Type} : ∀ (l : List α) (i : Nat) (x : α), nth l i = some x → setAt l i x = l
 | [], _, _, h => by cases h
 | a :: r, 0, x, h => by cases h; rfl
 | a :: r, i + 1, x, h => by simp only [setAt]; rw [setAt_id r i x h]
theorem sha_ld3 {hs : List Nat} (h : hs.length = 8) (st : Bool) (rest : List UInt8) (n : Int) : takeVar Kz.P 65 ((shaCells hs st rest n).drop 10) = some (.v (.int .u64 n)) := by
 obtain ⟨a0, a1, a2, a3, a4, a5, a6, a7, rfl⟩ := eightN hs h
 exact take_one ag65 sz65
theorem sha_ld2 {hs : List Nat} (h : hs.length = 8) (st : Bool) (rest : List UInt8) (n : Int) : takeVar Kz.P 9 ((shaCells hs st rest n).drop 9) = some (.str rest) := by
 obtain ⟨a0, a1, a2, a3, a4, a5, a6, a7, rfl⟩ := eightN hs h
 exact take_one ag9 sz9
theorem sha_st3 {hs : List Nat} (h : hs.length = 8) (st : Bool) (rest : List UInt8) (n n' : Int) : (if (AV.v (.int .u64 n')).cells.length = 1 ∧ 10 + 1 ≤ (shaCells hs st rest n).length ∧ allOne (AV.v (.int .u64 n')).cells = true then some (putAll (shaCells hs st rest n) 10 (AV.v (.int .u64 n')).unown.cells) else none) = some (shaCells hs st rest n') := by
 obtain ⟨a0, a1, a2, a3, a4, a5, a6, a7, rfl⟩ := eightN hs h
 rfl
theorem sha_st2 {hs : List Nat} (h : hs.length = 8) (st : Bool) (rest r' : List UInt8) (n : Int) : (if (AV.str r').cells.length = 1 ∧ 9 + 1 ≤ (shaCells hs st rest n).length ∧ allOne (AV.str r').cells = true then some (putAll (shaCells hs st rest n) 9 (AV.str r').unown.cells) else none) = some (shaCells hs st r' n) := by
 obtain ⟨a0, a1, a2, a3, a4, a5, a6, a7, rfl⟩ := eightN hs h
 rfl
theorem blocks_more {n : Nat} (h : 64 ≤ n) : n / 64 = (n - 64) / 64 + 1 := by omega
set_option maxHeartbeats 8000000 in
theorem write_tells (hs : List Nat) (h8 : hs.length = 8) (st : Bool) (rest s : List UInt8) (hrs : rest.length + s.length ≤ 2 ^ 62) (n : Int) (b : Nat) (H : List AB) (hb : nth H b = some (.cells (67, true) (shaCells hs st rest n))) (tl : Tail) (htl : tl.un = tl) :
  Tells Kz 34 [.ptr b 0, .sl [.str s] tl] H fun r H' => r = .tup [] ∧ H' = setAt H b (.cells (67, true) (shaCells (allU ((rest ++ s).length / 64) (rest ++ s) (if st then hs else iv)) true ((rest ++ s).drop (64 * ((rest ++ s).length / 64))) (IntKind.u64.wrap (n + IntKind.u64.wrap (s.length : Int))))) := by
 refine Tells.mem (c := _) Tryd.func34 rfl (args' := [.ptr b 0, .sl [.str s] tl]) (m := 56) (by simp only [List.map, unown_sl, htl]; rfl) rfl rfl rfl rfl ?_
 obtain ⟨h0, hh0⟩ : ∃ h0, h0 = if st then hs else iv := ⟨_, rfl⟩
 have h08 : h0.length = 8 := by rw [hh0]; split; exact h8; rfl
 (repeat (first | (with_reducible first | refine jh ?_ | refine ji ?_ | refine jl ?_ | refine jm ?_ | refine jn ?_ | refine jo ?_ | refine jp ?_ | refine jq ?_ | refine jr ?_ | refine js ?_ | refine jt ?_ | refine ju ?_ | refine jv ?_ | refine jw ?_) | (with_reducible refine jj ?_; refine jk (by first | (simp only [setAt, enter, List.replicate, List.cons_append, List.nil_append]; rfl) | rfl) ?_) | with_reducible refine jx (by decide) ?_ | (with_reducible refine jD ?_; first | refine jE rfl rfl rfl ?_ | refine jF rfl rfl rfl ?_) | ((first | (with_reducible refine jG ?_; first | refine jB rfl rfl rfl rfl ?_ | refine jC rfl rfl rfl rfl rfl ?_) | (with_reducible refine jH ?_; refine ja rfl rfl (jc rfl rfl) ?_) | (with_reducible refine jI ?_; refine ja rfl rfl (je rfl rfl) ?_) | (with_reducible refine jJ ?_; refine ja rfl rfl (jd rfl rfl rfl rfl rfl) ?_) | (with_reducible refine jK ?_; refine ja rfl rfl (jf rfl rfl rfl rfl) ?_) | (with_reducible refine jL ?_; first | refine ja rfl rfl (jy rfl rfl rfl rfl rfl rfl) ?_ | refine ja rfl rfl (jz rfl rfl rfl rfl rfl rfl) ?_) | (with_reducible refine jM ?_; refine ja rfl rfl (jg rfl rfl u24 rfl) ?_)); refine jb (by first | (simp only [setAt]; rfl) | rfl) ?_)))
 refine ja rfl rfl (op_binv (r := .v (.bool false)) rfl rfl rfl rfl) ?_
 refine jb (by first | (simp only [setAt]; rfl) | rfl) ?_
 (repeat (first | (with_reducible first | refine jh ?_ | refine ji ?_ | refine jl ?_ | refine jm ?_ | refine jn ?_ | refine jo ?_ | refine jp ?_ | refine jq ?_ | refine jr ?_ | refine js ?_ | refine jt ?_ | refine ju ?_ | refine jv ?_ | refine jw ?_) | (with_reducible refine jj ?_; refine jk (by first | (simp only [setAt, enter, List.replicate, List.cons_append, List.nil_append]; rfl) | rfl) ?_) | with_reducible refine jx (by decide) ?_ | (with_reducible refine jD ?_; first | refine jE rfl rfl rfl ?_ | refine jF rfl rfl rfl ?_) | ((first | (with_reducible refine jG ?_; first | refine jB rfl rfl rfl rfl ?_ | refine jC rfl rfl rfl rfl rfl ?_) | (with_reducible refine jH ?_; refine ja rfl rfl (jc rfl rfl) ?_) | (with_reducible refine jI ?_; refine ja rfl rfl (je rfl rfl) ?_) | (with_reducible refine jJ ?_; refine ja rfl rfl (jd rfl rfl rfl rfl rfl) ?_) | (with_reducible refine jK ?_; refine ja rfl rfl (jf rfl rfl rfl rfl) ?_) | (with_reducible refine jL ?_; first | refine ja rfl rfl (jy rfl rfl rfl rfl rfl rfl) ?_ | refine ja rfl rfl (jz rfl rfl rfl rfl rfl rfl) ?_) | (with_reducible refine jM ?_; refine ja rfl rfl (jg rfl rfl u24 rfl) ?_)); refine jb (by first | (simp only [setAt]; rfl) | rfl) ?_)))
 refine ja rfl rfl (op_nilCheck rfl rfl) ?_
 refine jb (by first | (simp only [setAt]; rfl) | rfl) ?_
 refine ja rfl rfl (op_fieldAddr rfl rfl (fa1 b)) ?_
 refine jb (by first | (simp only [setAt]; rfl) | rfl) ?_
 refine ja rfl rfl (op_load_ptr (v := .v (.bool st)) rfl rfl hb ?_) ?_
 ·obtain ⟨a0, a1, a2, a3, a4, a5, a6, a7, rfl⟩ := eightN hs h8
  exact take_one ag4 sz4
 refine jb (by first | (simp only [setAt]; rfl) | rfl) ?_
 (repeat (first | (with_reducible first | refine jh ?_ | refine ji ?_ | refine jl ?_ | refine jm ?_ | refine jn ?_ | refine jo ?_ | refine jp ?_ | refine jq ?_ | refine jr ?_ | refine js ?_ | refine jt ?_ | refine ju ?_ | refine jv ?_ | refine jw ?_) | (with_reducible refine jj ?_; refine jk (by first | (simp only [setAt, enter, List.replicate, List.cons_append, List.nil_append]; rfl) | rfl) ?_) | with_reducible refine jx (by decide) ?_ | (with_reducible refine jD ?_; first | refine jE rfl rfl rfl ?_ | refine jF rfl rfl rfl ?_) | ((first | (with_reducible refine jG ?_; first | refine jB rfl rfl rfl rfl ?_ | refine jC rfl rfl rfl rfl rfl ?_) | (with_reducible refine jH ?_; refine ja rfl rfl (jc rfl rfl) ?_) | (with_reducible refine jI ?_; refine ja rfl rfl (je rfl rfl) ?_) | (with_reducible refine jJ ?_; refine ja rfl rfl (jd rfl rfl rfl rfl rfl) ?_) | (with_reducible refine jK ?_; refine ja rfl rfl (jf rfl rfl rfl rfl) ?_) | (with_reducible refine jL ?_; first | refine ja rfl rfl (jy rfl rfl rfl rfl rfl rfl) ?_ | refine ja rfl rfl (jz rfl rfl rfl rfl rfl rfl) ?_) | (with_reducible refine jM ?_; refine ja rfl rfl (jg rfl rfl u24 rfl) ?_)); refine jb (by first | (simp only [setAt]; rfl) | rfl) ?_)))
 refine Wc.mid (fun s1 => s1.H = setAt H b (.cells (67, true) (shaCells h0 true rest n)) ∧ ∃ d : Nat → AV, s1.regs = (.ptr b 0 :: .sl [.str s] tl :: d 2 :: d 3 :: d 4 :: d 5 :: d 6 :: d 7 :: d 8 :: d 9 :: d 10 :: d 11 :: d 12 :: d 13 :: d 14 :: d 15 :: d 16 :: d 17 :: d 18 :: d 19 :: d 20 :: d 21 :: d 22 :: d 23 :: d 24 :: d 25 :: d 26 :: d 27 :: d 28 :: d 29 :: d 30 :: d 31 :: d 32 :: d 33 :: d 34 :: d 35 :: d 36 :: d 37 :: d 38 :: d 39 :: d 40 :: d 41 :: d 42 :: d 43 :: d 44 :: d 45 :: d 46 :: d 47 :: d 48 :: d 49 :: d 50 :: d 51 :: d 52 :: d 53 :: d 54 :: d 55 :: d 56 :: d 57 :: [])) ?_ ?_
 ·cases st with
  | false =>
   have hz : h0 = iv := by rw [hh0]; rfl
   subst hz
   (repeat (first | (with_reducible first | refine jh ?_ | refine ji ?_ | refine jl ?_ | refine jm ?_ | refine jn ?_ | refine jo ?_ | refine jp ?_ | refine jq ?_ | refine jr ?_ | refine js ?_ | refine jt ?_ | refine ju ?_ | refine jv ?_ | refine jw ?_) | (with_reducible refine jj ?_; refine jk (by first | (simp only [setAt, enter, List.replicate, List.cons_append, List.nil_append]; rfl) | rfl) ?_) | with_reducible refine jx (by decide) ?_ | (with_reducible refine jD ?_; first | refine jE rfl rfl rfl ?_ | refine jF rfl rfl rfl ?_) | ((first | (with_reducible refine jG ?_; first | refine jB rfl rfl rfl rfl ?_ | refine jC rfl rfl rfl rfl rfl ?_) | (with_reducible refine jH ?_; refine ja rfl rfl (jc rfl rfl) ?_) | (with_reducible refine jI ?_; refine ja rfl rfl (je rfl rfl) ?_) | (with_reducible refine jJ ?_; refine ja rfl rfl (jd rfl rfl rfl rfl rfl) ?_) | (with_reducible refine jK ?_; refine ja rfl rfl (jf rfl rfl rfl rfl) ?_) | (with_reducible refine jL ?_; first | refine ja rfl rfl (jy rfl rfl rfl rfl rfl rfl) ?_ | refine ja rfl rfl (jz rfl rfl rfl rfl rfl rfl) ?_) | (with_reducible refine jM ?_; refine ja rfl rfl (jg rfl rfl u24 rfl) ?_)); refine jb (by first | (simp only [setAt]; rfl) | rfl) ?_)))
   refine Wo.doCall rfl rfl (op_call (args := []) rfl rfl) (Tells.run rfl rfl (begin_run _) ?_)
   refine jb (by first | (simp only [setAt]; rfl) | rfl) ?_
   refine ja rfl rfl (op_nilCheck rfl rfl) ?_
   refine jb (by first | (simp only [setAt]; rfl) | rfl) ?_
   refine ja rfl rfl (op_fieldAddr rfl rfl (fa0 b)) ?_
   refine jb (by first | (simp only [setAt]; rfl) | rfl) ?_
   obtain ⟨a0, a1, a2, a3, a4, a5, a6, a7, rfl⟩ := eightN hs h8
   refine Wo.doSkip rfl rfl (op_storeC (cs' := shaCells iv false rest n) rfl sz64 rfl rfl hb rfl) ?_
   refine ja rfl rfl (op_nilCheck rfl rfl) ?_
   refine jb (by first | (simp only [setAt]; rfl) | rfl) ?_
   refine ja rfl rfl (op_fieldAddr rfl rfl (fa1 b)) ?_
   refine jb (by first | (simp only [setAt]; rfl) | rfl) ?_
   refine Wo.doSkip rfl rfl (op_storeC (cs' := shaCells iv true rest n) rfl sz4 rfl rfl (nth_setAt_same _ _ _ _ hb) rfl) ?_
   rw [setAt_two]
   (repeat (first | (with_reducible first | refine jh ?_ | refine ji ?_ | refine jl ?_ | refine jm ?_ | refine jn ?_ | refine jo ?_ | refine jp ?_ | refine jq ?_ | refine jr ?_ | refine js ?_ | refine jt ?_ | refine ju ?_ | refine jv ?_ | refine jw ?_) | (with_reducible refine jj ?_; refine jk (by first | (simp only [setAt, enter, List.replicate, List.cons_append, List.nil_append]; rfl) | rfl) ?_) | with_reducible refine jx (by decide) ?_ | (with_reducible refine jD ?_; first | refine jE rfl rfl rfl ?_ | refine jF rfl rfl rfl ?_) | ((first | (with_reducible refine jG ?_; first | refine jB rfl rfl rfl rfl ?_ | refine jC rfl rfl rfl rfl rfl ?_) | (with_reducible refine jH ?_; refine ja rfl rfl (jc rfl rfl) ?_) | (with_reducible refine jI ?_; refine ja rfl rfl (je rfl rfl) ?_) | (with_reducible refine jJ ?_; refine ja rfl rfl (jd rfl rfl rfl rfl rfl) ?_) | (with_reducible refine jK ?_; refine ja rfl rfl (jf rfl rfl rfl rfl) ?_) | (with_reducible refine jL ?_; first | refine ja rfl rfl (jy rfl rfl rfl rfl rfl rfl) ?_ | refine ja rfl rfl (jz rfl rfl rfl rfl rfl rfl) ?_) | (with_reducible refine jM ?_; refine ja rfl rfl (jg rfl rfl u24 rfl) ?_)); refine jb (by first | (simp only [setAt]; rfl) | rfl) ?_)))
   exact ⟨rfl, rfl, dead_of rfl⟩
  | true =>
   have hz : h0 = hs := by rw [hh0]; rfl
   subst hz
   (repeat (first | (with_reducible first | refine jh ?_ | refine ji ?_ | refine jl ?_ | refine jm ?_ | refine jn ?_ | refine jo ?_ | refine jp ?_ | refine jq ?_ | refine jr ?_ | refine js ?_ | refine jt ?_ | refine ju ?_ | refine jv ?_ | refine jw ?_) | (with_reducible refine jj ?_; refine jk (by first | (simp only [setAt, enter, List.replicate, List.cons_append, List.nil_append]; rfl) | rfl) ?_) | with_reducible refine jx (by decide) ?_ | (with_reducible refine jD ?_; first | refine jE rfl rfl rfl ?_ | refine jF rfl rfl rfl ?_) | ((first | (with_reducible refine jG ?_; first | refine jB rfl rfl rfl rfl ?_ | refine jC rfl rfl rfl rfl rfl ?_) | (with_reducible refine jH ?_; refine ja rfl rfl (jc rfl rfl) ?_) | (with_reducible refine jI ?_; refine ja rfl rfl (je rfl rfl) ?_) | (with_reducible refine jJ ?_; refine ja rfl rfl (jd rfl rfl rfl rfl rfl) ?_) | (with_reducible refine jK ?_; refine ja rfl rfl (jf rfl rfl rfl rfl) ?_) | (with_reducible refine jL ?_; first | refine ja rfl rfl (jy rfl rfl rfl rfl rfl rfl) ?_ | refine ja rfl rfl (jz rfl rfl rfl rfl rfl rfl) ?_) | (with_reducible refine jM ?_; refine ja rfl rfl (jg rfl rfl u24 rfl) ?_)); refine jb (by first | (simp only [setAt]; rfl) | rfl) ?_)))
   exact ⟨rfl, (setAt_id _ _ _ hb).symm, dead_of rfl⟩
 ·rintro regs own H1 ⟨hH, d, rfl⟩
  simp only at hH
  rw [← hh0]
  clear hh0
  obtain ⟨n', hn'⟩ : ∃ x, x = IntKind.u64.wrap (n + IntKind.u64.wrap (s.length : Int)) := ⟨_, rfl⟩
  rw [← hn']
  (repeat (first | (with_reducible first | refine jh ?_ | refine ji ?_ | refine jl ?_ | refine jm ?_ | refine jn ?_ | refine jo ?_ | refine jp ?_ | refine jq ?_ | refine jr ?_ | refine js ?_ | refine jt ?_ | refine ju ?_ | refine jv ?_ | refine jw ?_) | (with_reducible refine jj ?_; refine jk (by first | (simp only [setAt, enter, List.replicate, List.cons_append, List.nil_append]; rfl) | rfl) ?_) | with_reducible refine jx (by decide) ?_ | (with_reducible refine jD ?_; first | refine jE rfl rfl rfl ?_ | refine jF rfl rfl rfl ?_) | ((first | (with_reducible refine jG ?_; first | refine jB rfl rfl rfl rfl ?_ | refine jC rfl rfl rfl rfl rfl ?_) | (with_reducible refine jH ?_; refine ja rfl rfl (jc rfl rfl) ?_) | (with_reducible refine jI ?_; refine ja rfl rfl (je rfl rfl) ?_) | (with_reducible refine jJ ?_; refine ja rfl rfl (jd rfl rfl rfl rfl rfl) ?_) | (with_reducible refine jK ?_; refine ja rfl rfl (jf rfl rfl rfl rfl) ?_) | (with_reducible refine jL ?_; first | refine ja rfl rfl (jy rfl rfl rfl rfl rfl rfl) ?_ | refine ja rfl rfl (jz rfl rfl rfl rfl rfl rfl) ?_) | (with_reducible refine jM ?_; refine ja rfl rfl (jg rfl rfl (by first | exact u24 | exact u61) rfl) ?_)); refine jb (by first | (simp only [setAt]; rfl) | rfl) ?_)))
  refine Wc.inv (fun m s1 => ∃ (i : Nat), m = 1 - i ∧ ((i = 0 ∧ s1.H = setAt H b (.cells (67, true) (shaCells h0 true rest n))) ∨ (i = 1 ∧ s1.H = setAt H b (.cells (67, true) (shaCells (allU ((rest ++ s).length / 64) (rest ++ s) h0) true ((rest ++ s).drop (64 * ((rest ++ s).length / 64))) n')))) ∧ ∃ d : Nat → AV, s1.regs = (.ptr b 0 :: d 1 :: d 2 :: d 3 :: d 4 :: d 5 :: d 6 :: d 7 :: d 8 :: d 9 :: d 10 :: d 11 :: d 12 :: d 13 :: d 14 :: d 15 :: d 16 :: d 17 :: d 18 :: d 19 :: .sl [.str s] tl :: .v (goInt ([AV.str s] : List AV).length) :: i64 i :: d 23 :: d 24 :: d 25 :: d 26 :: d 27 :: d 28 :: d 29 :: d 30 :: d 31 :: d 32 :: d 33 :: d 34 :: d 35 :: d 36 :: d 37 :: d 38 :: d 39 :: d 40 :: d 41 :: d 42 :: d 43 :: d 44 :: d 45 :: d 46 :: d 47 :: d 48 :: d 49 :: d 50 :: d 51 :: d 52 :: d 53 :: d 54 :: d 55 :: d 56 :: d 57 :: [])) 1 ?_ ?_
  ·exact ⟨0, rfl, .inl ⟨rfl, hH⟩, dead_of rfl⟩
  ·clear d hH
   rintro m regs own2 H2 ⟨i, rfl, hcase, d, rfl⟩
   simp only at hcase
   rcases hcase with ⟨rfl, rfl⟩ | ⟨rfl, rfl⟩
   ·have hb1 := nth_setAt_same H b (.cells (67, true) (shaCells h0 true rest n)) _ hb
    (repeat (first | (with_reducible first | refine jh ?_ | refine ji ?_ | refine jl ?_ | refine jm ?_ | refine jn ?_ | refine jo ?_ | refine jp ?_ | refine jq ?_ | refine jr ?_ | refine js ?_ | refine jt ?_ | refine ju ?_ | refine jv ?_ | refine jw ?_) | (with_reducible refine jj ?_; refine jk (by first | (simp only [setAt, enter, List.replicate, List.cons_append, List.nil_append]; rfl) | rfl) ?_) | with_reducible refine jx (by decide) ?_ | (with_reducible refine jD ?_; first | refine jE rfl rfl rfl ?_ | refine jF rfl rfl rfl ?_) | ((first | (with_reducible refine jG ?_; first | refine jB rfl rfl rfl rfl ?_ | refine jC rfl rfl rfl rfl rfl ?_) | (with_reducible refine jH ?_; refine ja rfl rfl (jc rfl rfl) ?_) | (with_reducible refine jI ?_; refine ja rfl rfl (je rfl rfl) ?_) | (with_reducible refine jJ ?_; refine ja rfl rfl (jd rfl rfl rfl rfl rfl) ?_) | (with_reducible refine jK ?_; refine ja rfl rfl (jf rfl rfl rfl rfl) ?_) | (with_reducible refine jL ?_; first | refine ja rfl rfl (jy rfl rfl rfl rfl rfl rfl) ?_ | refine ja rfl rfl (jz rfl rfl rfl rfl rfl rfl) ?_) | (with_reducible refine jM ?_; refine ja rfl rfl (jg rfl rfl u24 rfl) ?_)); refine jb (by first | (simp only [setAt]; rfl) | rfl) ?_)))
    refine ja rfl rfl (op_indexAddr_sl (sz := 0) (j := 0) (el := .str s) rfl rfl u61 sz9 rfl rfl rfl rfl rfl) ?_
    refine jb (by first | (simp only [setAt]; rfl) | rfl) ?_
    refine ja rfl rfl (op_load_rp (v := .str s) rfl rfl (take_one ag9 sz9)) ?_
    refine jb (by first | (simp only [setAt]; rfl) | rfl) ?_
    (repeat (first | (with_reducible first | refine jh ?_ | refine ji ?_ | refine jl ?_ | refine jm ?_ | refine jn ?_ | refine jo ?_ | refine jp ?_ | refine jq ?_ | refine jr ?_ | refine js ?_ | refine jt ?_ | refine ju ?_ | refine jv ?_ | refine jw ?_) | (with_reducible refine jj ?_; refine jk (by first | (simp only [setAt, enter, List.replicate, List.cons_append, List.nil_append]; rfl) | rfl) ?_) | with_reducible refine jx (by decide) ?_ | (with_reducible refine jD ?_; first | refine jE rfl rfl rfl ?_ | refine jF rfl rfl rfl ?_) | ((first | (with_reducible refine jG ?_; first | refine jB rfl rfl rfl rfl ?_ | refine jC rfl rfl rfl rfl rfl ?_) | (with_reducible refine jH ?_; refine ja rfl rfl (jc rfl rfl) ?_) | (with_reducible refine jI ?_; refine ja rfl rfl (je rfl rfl) ?_) | (with_reducible refine jJ ?_; refine ja rfl rfl (jd rfl rfl rfl rfl rfl) ?_) | (with_reducible refine jK ?_; refine ja rfl rfl (jf rfl rfl rfl rfl) ?_) | (with_reducible refine jL ?_; first | refine ja rfl rfl (jy rfl rfl rfl rfl rfl rfl) ?_ | refine ja rfl rfl (jz rfl rfl rfl rfl rfl rfl) ?_) | (with_reducible refine jM ?_; refine ja rfl rfl (jg rfl rfl u24 rfl) ?_)); refine jb (by first | (simp only [setAt]; rfl) | rfl) ?_)))
    refine ja rfl rfl (op_nilCheck rfl rfl) ?_
    refine jb (by first | (simp only [setAt]; rfl) | rfl) ?_
    refine ja rfl rfl (op_fieldAddr rfl rfl (fa3 b)) ?_
    refine jb (by first | (simp only [setAt]; rfl) | rfl) ?_
    refine ja rfl rfl (op_load_ptr rfl rfl hb1 (sha_ld3 h08 _ _ _)) ?_
    refine jb (by first | (simp only [setAt]; rfl) | rfl) ?_
    (repeat (first | (with_reducible first | refine jh ?_ | refine ji ?_ | refine jl ?_ | refine jm ?_ | refine jn ?_ | refine jo ?_ | refine jp ?_ | refine jq ?_ | refine jr ?_ | refine js ?_ | refine jt ?_ | refine ju ?_ | refine jv ?_ | refine jw ?_) | (with_reducible refine jj ?_; refine jk (by first | (simp only [setAt, enter, List.replicate, List.cons_append, List.nil_append]; rfl) | rfl) ?_) | with_reducible refine jx (by decide) ?_ | (with_reducible refine jD ?_; first | refine jE rfl rfl rfl ?_ | refine jF rfl rfl rfl ?_) | ((first | (with_reducible refine jG ?_; first | refine jB rfl rfl rfl rfl ?_ | refine jC rfl rfl rfl rfl rfl ?_) | (with_reducible refine jH ?_; refine ja rfl rfl (jc rfl rfl) ?_) | (with_reducible refine jI ?_; refine ja rfl rfl (je rfl rfl) ?_) | (with_reducible refine jJ ?_; refine ja rfl rfl (jd rfl rfl rfl rfl rfl) ?_) | (with_reducible refine jK ?_; refine ja rfl rfl (jf rfl rfl rfl rfl) ?_) | (with_reducible refine jL ?_; first | refine ja rfl rfl (jy rfl rfl rfl rfl rfl rfl) ?_ | refine ja rfl rfl (jz rfl rfl rfl rfl rfl rfl) ?_) | (with_reducible refine jM ?_; refine ja rfl rfl (jg rfl rfl u24 rfl) ?_)); refine jb (by first | (simp only [setAt]; rfl) | rfl) ?_)))
    refine ja rfl rfl (jQ rfl rfl u9 rfl) ?_
    refine jb (by first | (simp only [setAt]; rfl) | rfl) ?_
    refine ja rfl rfl (op_conv_int rfl u3 u65 rfl rfl) ?_
    refine jb (by first | (simp only [setAt]; rfl) | rfl) ?_
    (repeat (first | (with_reducible first | refine jh ?_ | refine ji ?_ | refine jl ?_ | refine jm ?_ | refine jn ?_ | refine jo ?_ | refine jp ?_ | refine jq ?_ | refine jr ?_ | refine js ?_ | refine jt ?_ | refine ju ?_ | refine jv ?_ | refine jw ?_) | (with_reducible refine jj ?_; refine jk (by first | (simp only [setAt, enter, List.replicate, List.cons_append, List.nil_append]; rfl) | rfl) ?_) | with_reducible refine jx (by decide) ?_ | (with_reducible refine jD ?_; first | refine jE rfl rfl rfl ?_ | refine jF rfl rfl rfl ?_) | ((first | (with_reducible refine jG ?_; first | refine jB rfl rfl rfl rfl ?_ | refine jC rfl rfl rfl rfl rfl ?_) | (with_reducible refine jH ?_; refine ja rfl rfl (jc rfl rfl) ?_) | (with_reducible refine jI ?_; refine ja rfl rfl (je rfl rfl) ?_) | (with_reducible refine jJ ?_; refine ja rfl rfl (jd rfl rfl rfl rfl rfl) ?_) | (with_reducible refine jK ?_; refine ja rfl rfl (jf rfl rfl rfl rfl) ?_) | (with_reducible refine jL ?_; first | refine ja rfl rfl (jy rfl rfl rfl rfl rfl rfl) ?_ | refine ja rfl rfl (jz rfl rfl rfl rfl rfl rfl) ?_) | (with_reducible refine jM ?_; refine ja rfl rfl (jg rfl rfl u24 rfl) ?_)); refine jb (by first | (simp only [setAt]; rfl) | rfl) ?_)))
    refine ja rfl rfl (op_nilCheck rfl rfl) ?_
    refine jb (by first | (simp only [setAt]; rfl) | rfl) ?_
    refine ja rfl rfl (op_fieldAddr rfl rfl (fa3 b)) ?_
    refine jb (by first | (simp only [setAt]; rfl) | rfl) ?_
    refine Wo.doSkip rfl rfl (op_storeC rfl sz65 rfl rfl hb1 (sha_st3 h08 _ _ _ _)) ?_
    rw [setAt_two, ← hn']
    have hb2 := nth_setAt_same H b (.cells (67, true) (shaCells h0 true rest n')) _ hb
    (repeat (first | (with_reducible first | refine jh ?_ | refine ji ?_ | refine jl ?_ | refine jm ?_ | refine jn ?_ | refine jo ?_ | refine jp ?_ | refine jq ?_ | refine jr ?_ | refine js ?_ | refine jt ?_ | refine ju ?_ | refine jv ?_ | refine jw ?_) | (with_reducible refine jj ?_; refine jk (by first | (simp only [setAt, enter, List.replicate, List.cons_append, List.nil_append]; rfl) | rfl) ?_) | with_reducible refine jx (by decide) ?_ | (with_reducible refine jD ?_; first | refine jE rfl rfl rfl ?_ | refine jF rfl rfl rfl ?_) | ((first | (with_reducible refine jG ?_; first | refine jB rfl rfl rfl rfl ?_ | refine jC rfl rfl rfl rfl rfl ?_) | (with_reducible refine jH ?_; refine ja rfl rfl (jc rfl rfl) ?_) | (with_reducible refine jI ?_; refine ja rfl rfl (je rfl rfl) ?_) | (with_reducible refine jJ ?_; refine ja rfl rfl (jd rfl rfl rfl rfl rfl) ?_) | (with_reducible refine jK ?_; refine ja rfl rfl (jf rfl rfl rfl rfl) ?_) | (with_reducible refine jL ?_; first | refine ja rfl rfl (jy rfl rfl rfl rfl rfl rfl) ?_ | refine ja rfl rfl (jz rfl rfl rfl rfl rfl rfl) ?_) | (with_reducible refine jM ?_; refine ja rfl rfl (jg rfl rfl u24 rfl) ?_)); refine jb (by first | (simp only [setAt]; rfl) | rfl) ?_)))
    refine ja rfl rfl (op_nilCheck rfl rfl) ?_
    refine jb (by first | (simp only [setAt]; rfl) | rfl) ?_
    refine ja rfl rfl (op_fieldAddr rfl rfl (fa2 b)) ?_
    refine jb (by first | (simp only [setAt]; rfl) | rfl) ?_
    refine ja rfl rfl (op_load_ptr rfl rfl hb2 (sha_ld2 h08 _ _ _)) ?_
    refine jb (by first | (simp only [setAt]; rfl) | rfl) ?_
    (repeat (first | (with_reducible first | refine jh ?_ | refine ji ?_ | refine jl ?_ | refine jm ?_ | refine jn ?_ | refine jo ?_ | refine jp ?_ | refine jq ?_ | refine jr ?_ | refine js ?_ | refine jt ?_ | refine ju ?_ | refine jv ?_ | refine jw ?_) | (with_reducible refine jj ?_; refine jk (by first | (simp only [setAt, enter, List.replicate, List.cons_append, List.nil_append]; rfl) | rfl) ?_) | with_reducible refine jx (by decide) ?_ | (with_reducible refine jD ?_; first | refine jE rfl rfl rfl ?_ | refine jF rfl rfl rfl ?_) | ((first | (with_reducible refine jG ?_; first | refine jB rfl rfl rfl rfl ?_ | refine jC rfl rfl rfl rfl rfl ?_) | (with_reducible refine jH ?_; refine ja rfl rfl (jc rfl rfl) ?_) | (with_reducible refine jI ?_; refine ja rfl rfl (je rfl rfl) ?_) | (with_reducible refine jJ ?_; refine ja rfl rfl (jd rfl rfl rfl rfl rfl) ?_) | (with_reducible refine jK ?_; refine ja rfl rfl (jf rfl rfl rfl rfl) ?_) | (with_reducible refine jL ?_; first | refine ja rfl rfl (jy rfl rfl rfl rfl rfl rfl) ?_ | refine ja rfl rfl (jz rfl rfl rfl rfl rfl rfl) ?_) | (with_reducible refine jM ?_; refine ja rfl rfl (jg rfl rfl u24 rfl) ?_)); refine jb (by first | (simp only [setAt]; rfl) | rfl) ?_)))
    refine ja rfl rfl (op_add_str rfl rfl rfl rfl (by omega)) ?_
    refine jb (by first | (simp only [setAt]; rfl) | rfl) ?_
    have hlt : (rest ++ s).length ≤ 2 ^ 62 := by rw [List.length_append]; exact hrs
    generalize rest ++ s = t at *
    (repeat (first | (with_reducible first | refine jh ?_ | refine ji ?_ | refine jl ?_ | refine jm ?_ | refine jn ?_ | refine jo ?_ | refine jp ?_ | refine jq ?_ | refine jr ?_ | refine js ?_ | refine jt ?_ | refine ju ?_ | refine jv ?_ | refine jw ?_) | (with_reducible refine jj ?_; refine jk (by first | (simp only [setAt, enter, List.replicate, List.cons_append, List.nil_append]; rfl) | rfl) ?_) | with_reducible refine jx (by decide) ?_ | (with_reducible refine jD ?_; first | refine jE rfl rfl rfl ?_ | refine jF rfl rfl rfl ?_) | ((first | (with_reducible refine jG ?_; first | refine jB rfl rfl rfl rfl ?_ | refine jC rfl rfl rfl rfl rfl ?_) | (with_reducible refine jH ?_; refine ja rfl rfl (jc rfl rfl) ?_) | (with_reducible refine jI ?_; refine ja rfl rfl (je rfl rfl) ?_) | (with_reducible refine jJ ?_; refine ja rfl rfl (jd rfl rfl rfl rfl rfl) ?_) | (with_reducible refine jK ?_; refine ja rfl rfl (jf rfl rfl rfl rfl) ?_) | (with_reducible refine jL ?_; first | refine ja rfl rfl (jy rfl rfl rfl rfl rfl rfl) ?_ | refine ja rfl rfl (jz rfl rfl rfl rfl rfl rfl) ?_) | (with_reducible refine jM ?_; refine ja rfl rfl (jg rfl rfl u24 rfl) ?_)); refine jb (by first | (simp only [setAt]; rfl) | rfl) ?_)))
    refine Wc.inv (fun m s1 => ∃ (cur : List UInt8) (h1 : List Nat), m = cur.length / 64 ∧ h1.length = 8 ∧ cur.length ≤ t.length ∧ s1.H = setAt H b (.cells (67, true) (shaCells h1 true rest n')) ∧ allU (cur.length / 64) cur h1 = allU (t.length / 64) t h0 ∧ cur.drop (64 * (cur.length / 64)) = t.drop (64 * (t.length / 64)) ∧ ∃ d : Nat → AV, s1.regs = (.ptr b 0 :: d 1 :: d 2 :: d 3 :: d 4 :: .str cur :: d 6 :: d 7 :: d 8 :: d 9 :: d 10 :: d 11 :: d 12 :: d 13 :: d 14 :: d 15 :: d 16 :: d 17 :: d 18 :: d 19 :: .sl [.str s] tl :: .v (goInt ([AV.str s] : List AV).length) :: i64 (0 : Nat) :: d 23 :: d 24 :: d 25 :: d 26 :: d 27 :: d 28 :: d 29 :: d 30 :: d 31 :: d 32 :: d 33 :: d 34 :: d 35 :: d 36 :: d 37 :: d 38 :: d 39 :: d 40 :: d 41 :: d 42 :: d 43 :: d 44 :: d 45 :: d 46 :: d 47 :: d 48 :: d 49 :: d 50 :: d 51 :: d 52 :: d 53 :: d 54 :: d 55 :: d 56 :: d 57 :: [])) (t.length / 64) ?_ ?_
    ·exact ⟨t, h0, rfl, h08, Nat.le_refl _, rfl, rfl, rfl, dead_of rfl⟩
    ·clear d
     rintro m regs own3 H3 ⟨cur, h1, rfl, h18, hcl, hH, hall, hdr, d, rfl⟩
     simp only at hH
     subst hH
     have hb3 := nth_setAt_same H b (.cells (67, true) (shaCells h1 true rest n')) _ hb
     (repeat (first | (with_reducible first | refine jh ?_ | refine ji ?_ | refine jl ?_ | refine jm ?_ | refine jn ?_ | refine jo ?_ | refine jp ?_ | refine jq ?_ | refine jr ?_ | refine js ?_ | refine jt ?_ | refine ju ?_ | refine jv ?_ | refine jw ?_) | (with_reducible refine jj ?_; refine jk (by first | (simp only [setAt, enter, List.replicate, List.cons_append, List.nil_append]; rfl) | rfl) ?_) | with_reducible refine jx (by decide) ?_ | (with_reducible refine jD ?_; first | refine jE rfl rfl rfl ?_ | refine jF rfl rfl rfl ?_) | ((first | (with_reducible refine jG ?_; first | refine jB rfl rfl rfl rfl ?_ | refine jC rfl rfl rfl rfl rfl ?_) | (with_reducible refine jH ?_; refine ja rfl rfl (jc rfl rfl) ?_) | (with_reducible refine jI ?_; refine ja rfl rfl (je rfl rfl) ?_) | (with_reducible refine jJ ?_; refine ja rfl rfl (jd rfl rfl rfl rfl rfl) ?_) | (with_reducible refine jK ?_; refine ja rfl rfl (jf rfl rfl rfl rfl) ?_) | (with_reducible refine jL ?_; first | refine ja rfl rfl (jy rfl rfl rfl rfl rfl rfl) ?_ | refine ja rfl rfl (jz rfl rfl rfl rfl rfl rfl) ?_) | (with_reducible refine jM ?_; refine ja rfl rfl (jg rfl rfl u24 rfl) ?_)); refine jb (by first | (simp only [setAt]; rfl) | rfl) ?_)))
     refine ja rfl rfl (jQ rfl rfl u9 rfl) ?_
     refine jb (by first | (simp only [setAt]; rfl) | rfl) ?_
     (repeat (first | (with_reducible first | refine jh ?_ | refine ji ?_ | refine jl ?_ | refine jm ?_ | refine jn ?_ | refine jo ?_ | refine jp ?_ | refine jq ?_ | refine jr ?_ | refine js ?_ | refine jt ?_ | refine ju ?_ | refine jv ?_ | refine jw ?_) | (with_reducible refine jj ?_; refine jk (by first | (simp only [setAt, enter, List.replicate, List.cons_append, List.nil_append]; rfl) | rfl) ?_) | with_reducible refine jx (by decide) ?_ | (with_reducible refine jD ?_; first | refine jE rfl rfl rfl ?_ | refine jF rfl rfl rfl ?_) | ((first | (with_reducible refine jG ?_; first | refine jB rfl rfl rfl rfl ?_ | refine jC rfl rfl rfl rfl rfl ?_) | (with_reducible refine jH ?_; refine ja rfl rfl (jc rfl rfl) ?_) | (with_reducible refine jI ?_; refine ja rfl rfl (je rfl rfl) ?_) | (with_reducible refine jJ ?_; refine ja rfl rfl (jd rfl rfl rfl rfl rfl) ?_) | (with_reducible refine jK ?_; refine ja rfl rfl (jf rfl rfl rfl rfl) ?_) | (with_reducible refine jL ?_; first | refine ja rfl rfl (jy rfl rfl rfl rfl rfl rfl) ?_ | refine ja rfl rfl (jz rfl rfl rfl rfl rfl rfl) ?_) | (with_reducible refine jM ?_; refine ja rfl rfl (jg rfl rfl u24 rfl) ?_)); refine jb (by first | (simp only [setAt]; rfl) | rfl) ?_)))
     refine Wc.cond rfl rfl (fun h => ?_) (fun h => ?_)
     ·have hge : 64 ≤ cur.length := by have := of_decide_eq_true h; omega
      clear h
      have hmore := blocks_more hge
      have hdl : (cur.drop 64).length = cur.length - 64 := List.length_drop
      have htk : (cur.take 64).length = 64 := by rw [List.length_take]; omega
      (repeat (first | (with_reducible first | refine jh ?_ | refine ji ?_ | refine jl ?_ | refine jm ?_ | refine jn ?_ | refine jo ?_ | refine jp ?_ | refine jq ?_ | refine jr ?_ | refine js ?_ | refine jt ?_ | refine ju ?_ | refine jv ?_ | refine jw ?_) | (with_reducible refine jj ?_; refine jk (by first | (simp only [setAt, enter, List.replicate, List.cons_append, List.nil_append]; rfl) | rfl) ?_) | with_reducible refine jx (by decide) ?_ | (with_reducible refine jD ?_; first | refine jE rfl rfl rfl ?_ | refine jF rfl rfl rfl ?_) | ((first | (with_reducible refine jG ?_; first | refine jB rfl rfl rfl rfl ?_ | refine jC rfl rfl rfl rfl rfl ?_) | (with_reducible refine jH ?_; refine ja rfl rfl (jc rfl rfl) ?_) | (with_reducible refine jI ?_; refine ja rfl rfl (je rfl rfl) ?_) | (with_reducible refine jJ ?_; refine ja rfl rfl (jd rfl rfl rfl rfl rfl) ?_) | (with_reducible refine jK ?_; refine ja rfl rfl (jf rfl rfl rfl rfl) ?_) | (with_reducible refine jL ?_; first | refine ja rfl rfl (jy rfl rfl rfl rfl rfl rfl) ?_ | refine ja rfl rfl (jz rfl rfl rfl rfl rfl rfl) ?_) | (with_reducible refine jM ?_; refine ja rfl rfl (jg rfl rfl u24 rfl) ?_)); refine jb (by first | (simp only [setAt]; rfl) | rfl) ?_)))
      refine Wc.drawnZ rfl (by simp) (by kernel_rfl) ?_
      refine Wd.lst (by simp only [List.dropLast]; rfl) ?_
      ((first | refine jO rfl rfl ?_ | refine jP rfl rfl rfl rfl ?_); refine jA rfl (jc rfl rfl) rfl ?_; refine jN (by first | (simp only [setAt]; rfl) | rfl) ?_)
      ((first | refine jO rfl rfl ?_ | refine jP rfl rfl rfl rfl ?_); refine jA rfl (op_nilCheck rfl rfl) rfl ?_; refine jN (by first | (simp only [setAt]; rfl) | rfl) ?_)
      ((first | refine jO rfl rfl ?_ | refine jP rfl rfl rfl rfl ?_); refine jA rfl (op_fieldAddr rfl rfl (fa0 b)) rfl ?_; refine jN (by first | (simp only [setAt]; rfl) | rfl) ?_)
      ((first | refine jO rfl rfl ?_ | refine jP rfl rfl rfl rfl ?_); refine jA rfl (jc rfl rfl) rfl ?_; refine jN (by first | (simp only [setAt]; rfl) | rfl) ?_)
      ((first | refine jO rfl rfl ?_ | refine jP rfl rfl rfl rfl ?_); refine jA rfl (op_slice_str_hi (b := 64) rfl rfl u9 rfl rfl rfl hge) rfl ?_; refine jN (by first | (simp only [setAt]; rfl) | rfl) ?_)
      refine jR ⟨49, [.ptr b 0, .str (cur.take 64)], _, rfl, rfl, op_call (args := [.ptr b 0, .str (cur.take 64)]) rfl rfl, Tells.lib (g := toldFeed) rfl rfl (toldFeed_eq h18 (rest := [.v (.bool true), .str rest, .v (.int .u64 n')]) hb3 rfl htk) ?_⟩
      rw [setAt_two]
      (repeat (first | (with_reducible first | refine jh ?_ | refine ji ?_ | refine jl ?_ | refine jm ?_ | refine jn ?_ | refine jo ?_ | refine jp ?_ | refine jq ?_ | refine jr ?_ | refine js ?_ | refine jt ?_ | refine ju ?_ | refine jv ?_ | refine jw ?_) | (with_reducible refine jj ?_; refine jk (by first | (simp only [setAt, enter, List.replicate, List.cons_append, List.nil_append]; rfl) | rfl) ?_) | with_reducible refine jx (by decide) ?_ | (with_reducible refine jD ?_; first | refine jE rfl rfl rfl ?_ | refine jF rfl rfl rfl ?_) | ((first | (with_reducible refine jG ?_; first | refine jB rfl rfl rfl rfl ?_ | refine jC rfl rfl rfl rfl rfl ?_) | (with_reducible refine jH ?_; refine ja rfl rfl (jc rfl rfl) ?_) | (with_reducible refine jI ?_; refine ja rfl rfl (je rfl rfl) ?_) | (with_reducible refine jJ ?_; refine ja rfl rfl (jd rfl rfl rfl rfl rfl) ?_) | (with_reducible refine jK ?_; refine ja rfl rfl (jf rfl rfl rfl rfl) ?_) | (with_reducible refine jL ?_; first | refine ja rfl rfl (jy rfl rfl rfl rfl rfl rfl) ?_ | refine ja rfl rfl (jz rfl rfl rfl rfl rfl rfl) ?_) | (with_reducible refine jM ?_; refine ja rfl rfl (jg rfl rfl u24 rfl) ?_)); refine jb (by first | (simp only [setAt]; rfl) | rfl) ?_)))
      refine ja rfl rfl (op_slice_str_lo (a := 64) rfl rfl u9 rfl rfl rfl hge) ?_
      refine jb (by first | (simp only [setAt]; rfl) | rfl) ?_
      (repeat (first | (with_reducible first | refine jh ?_ | refine ji ?_ | refine jl ?_ | refine jm ?_ | refine jn ?_ | refine jo ?_ | refine jp ?_ | refine jq ?_ | refine jr ?_ | refine js ?_ | refine jt ?_ | refine ju ?_ | refine jv ?_ | refine jw ?_) | (with_reducible refine jj ?_; refine jk (by first | (simp only [setAt, enter, List.replicate, List.cons_append, List.nil_append]; rfl) | rfl) ?_) | with_reducible refine jx (by decide) ?_ | (with_reducible refine jD ?_; first | refine jE rfl rfl rfl ?_ | refine jF rfl rfl rfl ?_) | ((first | (with_reducible refine jG ?_; first | refine jB rfl rfl rfl rfl ?_ | refine jC rfl rfl rfl rfl rfl ?_) | (with_reducible refine jH ?_; refine ja rfl rfl (jc rfl rfl) ?_) | (with_reducible refine jI ?_; refine ja rfl rfl (je rfl rfl) ?_) | (with_reducible refine jJ ?_; refine ja rfl rfl (jd rfl rfl rfl rfl rfl) ?_) | (with_reducible refine jK ?_; refine ja rfl rfl (jf rfl rfl rfl rfl) ?_) | (with_reducible refine jL ?_; first | refine ja rfl rfl (jy rfl rfl rfl rfl rfl rfl) ?_ | refine ja rfl rfl (jz rfl rfl rfl rfl rfl rfl) ?_) | (with_reducible refine jM ?_; refine ja rfl rfl (jg rfl rfl u24 rfl) ?_)); refine jb (by first | (simp only [setAt]; rfl) | rfl) ?_)))
      refine LoopQ.normal ((cur.drop 64).length / 64) (by omega) ⟨cur.drop 64, feedL h1 (cur.take 64), rfl, feedL_len h18 _, by omega, rfl, ?_, ?_, dead_of rfl⟩
      ·rw [← hall, hmore, hdl]; rfl
      ·rw [← hdr, hmore, hdl, List.drop_drop]
       congr 1
       omega
     ·have hlt64 : cur.length < 64 := by have := of_decide_eq_false h; omega
      clear h
      have hz : cur.length / 64 = 0 := by omega
      rw [hz] at hall hdr
      simp only [allU, Nat.mul_zero, List.drop_zero] at hall hdr
      (repeat (first | (with_reducible first | refine jh ?_ | refine ji ?_ | refine jl ?_ | refine jm ?_ | refine jn ?_ | refine jo ?_ | refine jp ?_ | refine jq ?_ | refine jr ?_ | refine js ?_ | refine jt ?_ | refine ju ?_ | refine jv ?_ | refine jw ?_) | (with_reducible refine jj ?_; refine jk (by first | (simp only [setAt, enter, List.replicate, List.cons_append, List.nil_append]; rfl) | rfl) ?_) | with_reducible refine jx (by decide) ?_ | (with_reducible refine jD ?_; first | refine jE rfl rfl rfl ?_ | refine jF rfl rfl rfl ?_) | ((first | (with_reducible refine jG ?_; first | refine jB rfl rfl rfl rfl ?_ | refine jC rfl rfl rfl rfl rfl ?_) | (with_reducible refine jH ?_; refine ja rfl rfl (jc rfl rfl) ?_) | (with_reducible refine jI ?_; refine ja rfl rfl (je rfl rfl) ?_) | (with_reducible refine jJ ?_; refine ja rfl rfl (jd rfl rfl rfl rfl rfl) ?_) | (with_reducible refine jK ?_; refine ja rfl rfl (jf rfl rfl rfl rfl) ?_) | (with_reducible refine jL ?_; first | refine ja rfl rfl (jy rfl rfl rfl rfl rfl rfl) ?_ | refine ja rfl rfl (jz rfl rfl rfl rfl rfl rfl) ?_) | (with_reducible refine jM ?_; refine ja rfl rfl (jg rfl rfl u24 rfl) ?_)); refine jb (by first | (simp only [setAt]; rfl) | rfl) ?_)))
      refine ja rfl rfl (op_nilCheck rfl rfl) ?_
      refine jb (by first | (simp only [setAt]; rfl) | rfl) ?_
      refine ja rfl rfl (op_fieldAddr rfl rfl (fa2 b)) ?_
      refine jb (by first | (simp only [setAt]; rfl) | rfl) ?_
      refine Wo.doSkip rfl rfl (op_storeC rfl sz9 rfl rfl hb3 (sha_st2 h18 _ _ _ _)) ?_
      rw [setAt_two, hall, hdr]
      (repeat (first | (with_reducible first | refine jh ?_ | refine ji ?_ | refine jl ?_ | refine jm ?_ | refine jn ?_ | refine jo ?_ | refine jp ?_ | refine jq ?_ | refine jr ?_ | refine js ?_ | refine jt ?_ | refine ju ?_ | refine jv ?_ | refine jw ?_) | (with_reducible refine jj ?_; refine jk (by first | (simp only [setAt, enter, List.replicate, List.cons_append, List.nil_append]; rfl) | rfl) ?_) | with_reducible refine jx (by decide) ?_ | (with_reducible refine jD ?_; first | refine jE rfl rfl rfl ?_ | refine jF rfl rfl rfl ?_) | ((first | (with_reducible refine jG ?_; first | refine jB rfl rfl rfl rfl ?_ | refine jC rfl rfl rfl rfl rfl ?_) | (with_reducible refine jH ?_; refine ja rfl rfl (jc rfl rfl) ?_) | (with_reducible refine jI ?_; refine ja rfl rfl (je rfl rfl) ?_) | (with_reducible refine jJ ?_; refine ja rfl rfl (jd rfl rfl rfl rfl rfl) ?_) | (with_reducible refine jK ?_; refine ja rfl rfl (jf rfl rfl rfl rfl) ?_) | (with_reducible refine jL ?_; first | refine ja rfl rfl (jy rfl rfl rfl rfl rfl rfl) ?_ | refine ja rfl rfl (jz rfl rfl rfl rfl rfl rfl) ?_) | (with_reducible refine jM ?_; refine ja rfl rfl (jg rfl rfl u24 rfl) ?_)); refine jb (by first | (simp only [setAt]; rfl) | rfl) ?_)))
      exact LoopQ.normal 0 (by omega) ⟨1, rfl, .inr ⟨rfl, rfl⟩, dead_of rfl⟩
   ·(repeat (first | (with_reducible first | refine jh ?_ | refine ji ?_ | refine jl ?_ | refine jm ?_ | refine jn ?_ | refine jo ?_ | refine jp ?_ | refine jq ?_ | refine jr ?_ | refine js ?_ | refine jt ?_ | refine ju ?_ | refine jv ?_ | refine jw ?_) | (with_reducible refine jj ?_; refine jk (by first | (simp only [setAt, enter, List.replicate, List.cons_append, List.nil_append]; rfl) | rfl) ?_) | with_reducible refine jx (by decide) ?_ | (with_reducible refine jD ?_; first | refine jE rfl rfl rfl ?_ | refine jF rfl rfl rfl ?_) | ((first | (with_reducible refine jG ?_; first | refine jB rfl rfl rfl rfl ?_ | refine jC rfl rfl rfl rfl rfl ?_) | (with_reducible refine jH ?_; refine ja rfl rfl (jc rfl rfl) ?_) | (with_reducible refine jI ?_; refine ja rfl rfl (je rfl rfl) ?_) | (with_reducible refine jJ ?_; refine ja rfl rfl (jd rfl rfl rfl rfl rfl) ?_) | (with_reducible refine jK ?_; refine ja rfl rfl (jf rfl rfl rfl rfl) ?_) | (with_reducible refine jL ?_; first | refine ja rfl rfl (jy rfl rfl rfl rfl rfl rfl) ?_ | refine ja rfl rfl (jz rfl rfl rfl rfl rfl rfl) ?_) | (with_reducible refine jM ?_; refine ja rfl rfl (jg rfl rfl u24 rfl) ?_)); refine jb (by first | (simp only [setAt]; rfl) | rfl) ?_)))
    exact EndQ.normal (r := .tup []) rfl ⟨rfl, rfl⟩
end Go.Proofs
end
section
namespace Go.Proofs
open Go.Tm Go.Proofs.RsPlain
set_option maxRecDepth 100000
def MadeB (B H : List AB) (x : AV) (bs : List UInt8) : Prop := (∃ b, x = .ms b 0 bs.length 1 ∧ B.length ≤ b ∧ nth H b = some (.cells (5, false) (bs.map u8v))) ∧ B.length ≤ H.length ∧ ∀ k, k < B.length → nth H k = nth B k
theorem u82 : Kz.P.underlying 82 = some (.slice 5) := Tryd.underlying82
theorem u5 : Kz.P.underlying 5 = some (.int .u8) := Tryd.underlying5
theorem u47 : Kz.P.underlying 47 = some (.array 32 5) := Tryd.underlying47
theorem sz5 : tSize Kz.P 5 = some 1 := by kernel_rfl
theorem ag5 : tAgg Kz.P 5 = some false := by kernel_rfl
theorem z5 : tZero Kz.P 5 = some (.v (.int .u8 0)) := by kernel_rfl
theorem z47 : tZero Kz.P 47 = some (.agg (List.replicate 32 (.v (.int .u8 0)))) := by kernel_rfl
theorem zeroHash : tZero Kz.P 67 = some (.agg (shaCells (List.replicate 8 0) false [] 0)) := by kernel_rfl
theorem b67 : aBuild Kz 67 [] = some (.agg (shaCells (List.replicate 8 0) false [] 0)) := by kernel_rfl
theorem sz67 : tSize Kz.P 67 = some 11 := by kernel_rfl
theorem ag67 : tAgg Kz.P 67 = some true := by kernel_rfl
theorem in5 : ∃ info, Kz.P.info? 5 = some info ∧ info.bytes = 1 := by
 have h : (Kz.P.info? 5).map (·.bytes) = some 1 := by kernel_rfl
 obtain ⟨i, h1, h2⟩ := Option.map_eq_some_iff.1 h
 exact ⟨i, h1, h2⟩
theorem shr_run {P : Program} (t : TypeId) (p q : Operand) (k yk : IntKind) (a : Int) (n : Nat) (hn : n ≤ k.bits) : pureRun P (do eqGuard .shr t p q (.int k a) (.int yk n); binOp .shr t (.int k a) (.int yk n)) = some (.int k (a.fdiv (2 ^ n))) := by
 have e : pureRun P (do eqGuard .shr t p q (.int k a) (.int yk n); binOp .shr t (.int k a) (.int yk n)) = pureRun P (Op.shift .shr k a yk n) := rfl
 rw [e]
 unfold Op.shift
 rw [if_neg (by omega), Int.toNat_natCast, Nat.min_eq_left hn]
 rfl
theorem rep_one : ∀ n : Nat, rep (AV.v (.int .u8 0)).cells n = List.replicate n (u8v 0)
 | 0 => rfl
 | k + 1 => by rw [List.replicate_succ, ← rep_one k]; rfl
theorem op_makeMut {f : FuncId} {o : Oper} {R : List AV} {own : Nat → Nat} {H : List AB} {d : Nat} {l c : Operand} {n m : Nat} (ho : o.op = .makeSlice 82 l c) (hd : o.dst = some d) (hg : Kz.chg f d = true) (hl : evalO Kz R l = some (i64 n)) (hc : evalO Kz R c = some (i64 m)) (h1 : n ≤ m) (h2 : m ≤ 1000) : aOp Kz f ⟨R, own, H⟩ o [] = some (.val (.ms H.length 0 n 1) own (H ++ [.cells (5, false) ((List.replicate n (0 : UInt8)).map u8v)]), [], []) := by
 obtain ⟨info, hi, hb⟩ := in5
 have h : aMakeSlice Kz true d own H 82 (i64 n) (i64 m) = some (.val (.ms H.length 0 n 1) own (H ++ [.cells (5, false) ((List.replicate n (0 : UInt8)).map u8v)])) := by
  simp only [aMakeSlice, u82, asI, hi, z5, sz5]
  rw [if_pos ⟨by omega, by omega, by rw [hb]; omega, by omega, rfl⟩, Int.toNat_natCast]
  have hrep : rep (AV.v (.int .u8 0)).cells n = (List.replicate n (0 : UInt8)).map u8v := by
   rw [List.map_replicate]
   exact rep_one n
  rw [hrep]
 simp only [aOp, ho, hl, hc, hd, Option.getD_some, hg, h]; rfl
theorem op_conv_ms {f : FuncId} {o : Oper} {R : List AV} {own : Nat → Nat} {H : List AB} {c : Operand} {b : Nat} {tt : TypeId × Bool} {bs : List UInt8} (ho : o.op = .convert 82 9 c) (hx : evalO Kz R c = some (.ms b 0 bs.length 1)) (hb : nth H b = some (.cells tt (bs.map u8v))) : aOp Kz f ⟨R, own, H⟩ o [] = some (.val (.str bs) own H, [], []) := by
 have hm : mapO (fun y => match y with | AV.v (.int .u8 n) => some (UInt8.ofNat n.toNat) | _ => none) (bs.map u8v) = some bs := by
  clear hx hb
  induction bs with
  | nil => rfl
  | cons b r ih =>
   simp only [List.map_cons, mapO]
   rw [ih]
   show some (UInt8.ofNat (Int.toNat (b.toNat : Int)) :: r) = _
   rw [Int.toNat_natCast, UInt8.ofNat_toNat]
 have h2 : aConvertM Kz H 82 9 (.ms b 0 bs.length 1) = some (.str bs) := by
  simp only [aConvertM, u82, u9, u5, hb]
  rw [if_pos (by rw [List.length_map]; omega), List.drop_zero, List.take_of_length_le (by rw [List.length_map]; omega)]
  exact congrArg (Option.map AV.str) hm
 have h1 : aUnsafe Kz H 82 9 (.ms b 0 bs.length 1) = none := by simp only [aUnsafe, u82, u9]
 simp only [aOp, ho, hx, aKeep, h1, h2]; rfl
theorem sha_st67 {hs hs' : List Nat} (h : hs.length = 8) (h' : hs'.length = 8) (st st' : Bool) (rest rest' : List UInt8) (n n' : Int) : (if (AV.agg (shaCells hs' st' rest' n')).cells.length = 11 ∧ 0 + 11 ≤ (shaCells hs st rest n).length ∧ allOne (AV.agg (shaCells hs' st' rest' n')).cells = true then some (putAll (shaCells hs st rest n) 0 (AV.agg (shaCells hs' st' rest' n')).unown.cells) else none) = some (shaCells hs' st' rest' n') := by
 obtain ⟨a0, a1, a2, a3, a4, a5, a6, a7, rfl⟩ := eightN hs h
 obtain ⟨c0, c1, c2, c3, c4, c5, c6, c7, rfl⟩ := eightN hs' h'
 rfl
theorem sha_ld67 {hs : List Nat} (h : hs.length = 8) (st : Bool) (rest : List UInt8) (n : Int) : takeVar Kz.P 67 ((shaCells hs st rest n).drop 0) = some (.agg (shaCells hs st rest n)) := by
 obtain ⟨a0, a1, a2, a3, a4, a5, a6, a7, rfl⟩ := eightN hs h
 exact take_agg ag67 sz67 (Nat.le_refl 11)
theorem allU_len : ∀ (k : Nat) (s : List UInt8) {hs : List Nat}, hs.length = 8 → (allU k s hs).length = 8
 | 0, _, _, h => h
 | k + 1, s, _, h => allU_len k (s.drop 64) (feedL_len h _)
def zl (n : Nat) : Nat := 1 + (119 - n % 64) % 64
def lenB (n : Int) (i : Nat) : UInt8 := UInt8.ofNat ((IntKind.u64.wrap (n * 8)).fdiv (2 ^ (56 - 8 * i)) % 256).toNat
def padB (n : Nat) (k : Nat) : List UInt8 := 128 :: List.replicate (zl n - 1) 0 ++ (List.range k).map (lenB n)
theorem wrap_sm {n : Int} (h1 : -(2 ^ 62) ≤ n) (h2 : n < 2 ^ 62) : IntKind.i64.wrap n = n := by
 simp only [IntKind.wrap, IntKind.bits, IntKind.signed]
 simp
 omega
theorem zl_eq (n : Nat) : IntKind.i64.wrap (1 + (IntKind.i64.wrap (119 - IntKind.i64.wrap ((n : Int).tmod 64))).tmod 64) = ((zl n : Nat) : Int) := by
 have h : (n : Int).tmod 64 = ((n % 64 : Nat) : Int) := (Int.ofNat_tmod n 64).symm
 unfold zl
 rw [h]
 generalize hq : n % 64 = q
 have hq' : q < 64 := by omega
 rw [wrap_sm (n := (q : Int)) (by omega) (by omega), wrap_sm (n := 119 - (q : Int)) (by omega) (by omega), show 119 - (q : Int) = ((119 - q : Nat) : Int) by omega]
 rw [show ((119 - q : Nat) : Int).tmod 64 = (((119 - q) % 64 : Nat) : Int) from (Int.ofNat_tmod (119 - q) 64).symm]
 rw [wrap_sm (by omega) (by omega)]
 omega
theorem byte_eq (x : Int) : IntKind.u8.wrap x = ((UInt8.ofNat (x % 256).toNat).toNat : Int) := by
 rw [IntKind.wrap_u8, UInt8.toNat_ofNat']
 omega
theorem bs82 (own : Nat → Nat) (H : List AB) (x : Int) : aBuildSlice Kz false own H 82 1 [(0, .v (.int .u8 x))] = some (.val (.sl [.v (.int .u8 x)] .full) own H) := by kernel_rfl
theorem bs61 (own : Nat → Nat) (H : List AB) (x : List UInt8) : aBuildSlice Kz false own H 61 1 [(0, .str x)] = some (.val (.sl [.str x] .full) own H) := by kernel_rfl
theorem padB_succ (n k : Nat) : padB n (k + 1) = padB n k ++ [lenB n k] := by
 unfold padB
 rw [List.range_succ, List.map_append, ← List.append_assoc]; rfl
theorem padB_len (n k : Nat) : (padB n k).length = zl n + k := by
 unfold padB zl
 simp
 omega
theorem Wo.pushB {ops : Array Oper} {Q : AX → St → Prop} {R : List AV} {own : Nat → Nat} {B H : List AB} {l : List Oper} {f : FuncId} {o : Oper} {d : Nat} {a x : Operand} {ts : Array TypeId} {v : AV} {bs : List UInt8} {c : UInt8} (hm : MadeB B H v bs) (hgd : o.guard = none) (hd : o.dst = some d) (ho : o.op = .call { callee := .builtin .append, args := #[a, x], argTypes := ts }) (ht : ts.toList = [82, 82]) (ha : evalO Kz R a = some v) (hx : evalO Kz R x = some (.sl [u8v c] .full)) (hl : bs.length < 1000)
  (h : ∀ z H', MadeB B H' z (bs ++ [c]) → Wo Kz f ops l (setAt R d z) own H' Q) : Wo Kz f ops (o :: l) R own H Q := by
 obtain ⟨info, hi, hb⟩ := in5
 obtain ⟨⟨b, rfl, hb1, hb2⟩, hm2, hm3⟩ := hm
 refine ja hgd hd (op_append_ms (K := Kz) rfl ho hd ht u82 u82 hi sz5 z5 rfl ha hb2 (by simp) hx rfl (by simp) (by simp [roomOk, hb]; omega)) (h _ _ ⟨⟨H.length, by rw [List.length_append]; rfl, hm2, ?_⟩, by rw [List.length_append, len_setAt]; simp; omega, fun k hk => ?_⟩)
 ·have := nth_app (setAt H b .dead) (AB.cells (5, false) (bs.map u8v ++ [u8v c].flatMap AV.cells))
  rw [len_setAt] at this
  rw [this, List.map_append]; rfl
 ·rw [nth_app_lt _ _ _ (by rw [len_setAt]; omega), nth_setAt_other _ _ _ _ (by omega)]
  exact hm3 k hk
theorem u64 : Kz.P.underlying 64 = some (.array 8 62) := Tryd.underlying64
theorem u62 : Kz.P.underlying 62 = some (.int .u32) := Tryd.underlying62
theorem sz62 : tSize Kz.P 62 = some 1 := by kernel_rfl
theorem ag62 : tAgg Kz.P 62 = some false := by kernel_rfl
theorem q4 (i : Nat) (h : i < 1000) : IntKind.i64.wrap ((i : Int).tdiv 4) = ((i / 4 : Nat) : Int) := by
 rw [show (i : Int).tdiv 4 = ((i / 4 : Nat) : Int) from (Int.ofNat_tdiv i 4).symm, wrap_sm (by omega) (by omega)]
theorem r4 (i : Nat) : (i : Int).tmod 4 = ((i % 4 : Nat) : Int) := (Int.ofNat_tmod i 4).symm
theorem sha_ldw {hs : List Nat} (h : hs.length = 8) (st : Bool) (rest : List UInt8) (n : Int) (q : Nat) (hq : q < 8) : takeVar Kz.P 62 ((shaCells hs st rest n).drop (0 + q * (0 + 1))) = some (cellU (hs.getD q 0)) := by
 obtain ⟨a0, a1, a2, a3, a4, a5, a6, a7, rfl⟩ := eightN hs h
 match q, hq with
 | 0, _ => exact take_one ag62 sz62
 | 1, _ => exact take_one ag62 sz62
 | 2, _ => exact take_one ag62 sz62
 | 3, _ => exact take_one ag62 sz62
 | 4, _ => exact take_one ag62 sz62
 | 5, _ => exact take_one ag62 sz62
 | 6, _ => exact take_one ag62 sz62
 | 7, _ => exact take_one ag62 sz62
def outB (hs : List Nat) (i : Nat) : UInt8 := UInt8.ofNat (hs.getD (i / 4) 0 / 2 ^ (24 - 8 * (i % 4)) % 256)
theorem sz47 : tSize Kz.P 47 = some 32 := by kernel_rfl
theorem ag47 : tAgg Kz.P 47 = some true := by kernel_rfl
theorem result_arr {K : Cfg} {H : List AB} {regs : List AV} {a b t : Nat} {tt : TypeId × Bool} {l : List AV} {n : Nat} (hr : nth regs a = some (.ptr b 0)) (hb : nth H b = some (.cells tt l)) (h1 : tAgg K.P t = some true) (h2 : tSize K.P t = some n) (hn : l.length = n) : aResults K H regs [.cell a t] = some (.agg l) := by
 have h : aLoad K H t (.ptr b 0) = some (.agg l) := by
  simp only [aLoad, deref, hb, List.drop_zero]
  rw [take_agg h1 h2 (by omega), List.take_of_length_le (by omega)]
 simp only [aResults, mapO, aResult, hr, h]; rfl
theorem sto_all {xs cs : List AV} {n : Nat} (hx : xs.length = n) (hc : cs.length = n) (h1 : allOne xs = true) : (if (AV.agg xs).cells.length = n ∧ 0 + n ≤ cs.length ∧ allOne (AV.agg xs).cells = true then some (putAll cs 0 (AV.agg xs).unown.cells) else none) = some xs := by
 rw [if_pos ⟨hx, by omega, h1⟩]
 show some (putAll cs 0 xs) = some xs
 have := putAll_all xs cs [] (by omega)
 simpa using this
theorem out_eq (hs : List Nat) (i : Nat) : IntKind.u8.wrap ((hs.getD (i / 4) 0 : Int).fdiv (2 ^ (24 - 8 * (i % 4)))) = ((outB hs i).toNat : Int) := by
 unfold outB
 rw [IntKind.wrap_u8, UInt8.toNat_ofNat']
 rw [Int.fdiv_eq_ediv_of_nonneg _ (by exact Int.le_of_lt (Int.pow_pos (by omega)))]
 have e : ((2 : Int) ^ (24 - 8 * (i % 4))) = ((2 ^ (24 - 8 * (i % 4)) : Nat) : Int) := by simp
 rw [e, ← Int.natCast_ediv]
 omega
theorem out_st (hs : List Nat) (i : Nat) (h : i < 32) : (if (u8v (outB hs i)).cells.length = 1 ∧ (0 + i * (0 + 1)) + 1 ≤ ((List.range i).map (fun i => u8v (outB hs i)) ++ List.replicate (32 - i) (u8v 0)).length ∧ allOne (u8v (outB hs i)).cells = true then some (putAll ((List.range i).map (fun i => u8v (outB hs i)) ++ List.replicate (32 - i) (u8v 0)) (0 + i * (0 + 1)) (u8v (outB hs i)).unown.cells) else none) = some ((List.range (i + 1)).map (fun i => u8v (outB hs i)) ++ List.replicate (32 - (i + 1)) (u8v 0)) := by
 rw [if_pos ⟨rfl, by simp; omega, rfl⟩, Nat.zero_add, Nat.zero_add, Nat.mul_one]
 show some (setAt _ i (u8v (outB hs i))) = _
 rw [setAt_eq, show 32 - i = (32 - (i + 1)) + 1 by omega, List.replicate_succ, List.range_succ, List.map_append]
 congr 1
 apply List.ext_getElem?
 intro k
 rw [List.getElem?_set]
 by_cases e : i = k
 ·subst e
  simp
 ·rw [if_neg e]
  by_cases hk : k < i
  ·rw [List.getElem?_append_left (by simpa using hk), List.append_assoc, List.getElem?_append_left (by simpa using hk)]
  ·rw [List.getElem?_append_right (by simp; omega), List.getElem?_append_right (by simp; omega)]
   simp only [List.length_map, List.length_range, List.length_append, List.length_cons, List.length_nil, List.map_cons, List.map_nil]
   rw [show k - i = (k - (i + 1)) + 1 by omega, List.getElem?_cons_succ]
structure HMem (H H' : List AB) (m : Nat) (cs : List AV) : Prop where
 len : m + 2 ≤ H'.length
 c47 : nth H' m = some (.cells (47, true) ((List.replicate 32 (0 : UInt8)).map u8v))
 c67 : nth H' (m + 1) = some (.cells (67, true) cs)
 low : ∀ k, k < m → nth H' k = nth H k
theorem HMem.store {H H' : List AB} {m : Nat} {cs : List AV} (h : HMem H H' m cs) (cs' : List AV) : HMem H (setAt H' (m + 1) (.cells (67, true) cs')) m cs' :=
 ⟨by rw [len_setAt]; exact h.len, by rw [nth_setAt_other _ _ _ _ (by omega)]; exact h.c47, nth_setAt_same _ _ _ _ h.c67, fun k hk => by rw [nth_setAt_other _ _ _ _ (by omega)]; exact h.low k hk⟩
theorem HMem.grown {H H1 H2 : List AB} {m : Nat} {cs : List AV} (h : HMem H H1 m cs) (hl : m + 2 ≤ H2.length) (hk : ∀ k, k < m + 2 → nth H2 k = nth H1 k) : HMem H H2 m cs :=
 ⟨hl, by rw [hk m (by omega)]; exact h.c47, by rw [hk (m + 1) (by omega)]; exact h.c67, fun k q => by rw [hk k (by omega)]; exact h.low k q⟩
theorem HMem.start (H : List AB) : HMem H (H ++ [AB.cells (47, true) (AV.agg (List.replicate 32 (AV.v (.int .u8 0)))).cells] ++ [AB.cells (67, true) (AV.agg (shaCells (List.replicate 8 0) false [] 0)).cells]) H.length (shaCells (List.replicate 8 0) false [] 0) := by
 refine ⟨by simp, ?_, ?_, fun k hk => ?_⟩
 ·rw [nth_app_lt _ _ _ (by simp), nth_app]; rfl
 ·have := nth_app (H ++ [AB.cells (47, true) (AV.agg (List.replicate 32 (AV.v (.int .u8 0)))).cells]) (AB.cells (67, true) (AV.agg (shaCells (List.replicate 8 0) false [] 0)).cells)
  rwa [show (H ++ [AB.cells (47, true) (AV.agg (List.replicate 32 (AV.v (.int .u8 0)))).cells]).length = H.length + 1 by simp] at this
 ·rw [nth_app_lt _ _ _ (by simp; omega), nth_app_lt _ _ _ hk]
set_option maxHeartbeats 1000000 in
theorem hash_tells (hs : List Nat) (h8 : hs.length = 8) (st : Bool) (rest : List UInt8) (n : Nat) (hn : n < 2 ^ 60) (hrest : rest.length ≤ 64) (b : Nat) (H : List AB) (hb : nth H b = some (.cells (67, true) (shaCells hs st rest n))) :
  Tells Kz 35 [.ptr b 0] H fun r H' => r = .agg ((List.range 32).map fun i => u8v (outB (allU ((rest ++ padB n 8).length / 64) (rest ++ padB n 8) (if st then hs else iv)) i)) ∧ H.length ≤ H'.length ∧ ∀ k, k < H.length → nth H' k = nth H k := by
 refine Tells.mem (c := _) Tryd.func35 rfl (args' := [.ptr b 0]) (m := 62) rfl rfl rfl rfl rfl ?_
 have hbl : b < H.length := by rw [nth_eq] at hb; exact (List.getElem?_eq_some_iff.1 hb).1
 (repeat (first | (with_reducible first | refine jh ?_ | refine ji ?_ | refine jl ?_ | refine jm ?_ | refine jn ?_ | refine jo ?_ | refine jp ?_ | refine jq ?_ | refine jr ?_ | refine js ?_ | refine jt ?_ | refine ju ?_ | refine jv ?_ | refine jw ?_) | (with_reducible refine jj ?_; refine jk (by first | (simp only [setAt, enter, List.replicate, List.cons_append, List.nil_append]; rfl) | rfl) ?_) | with_reducible refine jx (by decide) ?_ | (with_reducible refine jD ?_; first | refine jE rfl rfl rfl ?_ | refine jF rfl rfl rfl ?_) | ((first | (with_reducible refine jG ?_; first | refine jB rfl rfl rfl rfl ?_ | refine jC rfl rfl rfl rfl rfl ?_) | (with_reducible refine jH ?_; refine ja rfl rfl (jc rfl rfl) ?_) | (with_reducible refine jI ?_; refine ja rfl rfl (je rfl rfl) ?_) | (with_reducible refine jJ ?_; refine ja rfl rfl (jd rfl rfl rfl rfl rfl) ?_) | (with_reducible refine jK ?_; refine ja rfl rfl (jf rfl rfl rfl rfl) ?_) | (with_reducible refine jL ?_; first | refine ja rfl rfl (jy rfl rfl rfl rfl rfl rfl) ?_ | refine ja rfl rfl (jz rfl rfl rfl rfl rfl rfl) ?_) | (with_reducible refine jM ?_; refine ja rfl rfl (jg rfl rfl u24 rfl) ?_)); refine jb (by first | (simp only [setAt]; rfl) | rfl) ?_)))
 refine ja rfl rfl (op_alloc rfl rfl z47) ?_
 refine jb (by first | (simp only [setAt]; rfl) | rfl) ?_
 (repeat (first | (with_reducible first | refine jh ?_ | refine ji ?_ | refine jl ?_ | refine jm ?_ | refine jn ?_ | refine jo ?_ | refine jp ?_ | refine jq ?_ | refine jr ?_ | refine js ?_ | refine jt ?_ | refine ju ?_ | refine jv ?_ | refine jw ?_) | (with_reducible refine jj ?_; refine jk (by first | (simp only [setAt, enter, List.replicate, List.cons_append, List.nil_append]; rfl) | rfl) ?_) | with_reducible refine jx (by decide) ?_ | (with_reducible refine jD ?_; first | refine jE rfl rfl rfl ?_ | refine jF rfl rfl rfl ?_) | ((first | (with_reducible refine jG ?_; first | refine jB rfl rfl rfl rfl ?_ | refine jC rfl rfl rfl rfl rfl ?_) | (with_reducible refine jH ?_; refine ja rfl rfl (jc rfl rfl) ?_) | (with_reducible refine jI ?_; refine ja rfl rfl (je rfl rfl) ?_) | (with_reducible refine jJ ?_; refine ja rfl rfl (jd rfl rfl rfl rfl rfl) ?_) | (with_reducible refine jK ?_; refine ja rfl rfl (jf rfl rfl rfl rfl) ?_) | (with_reducible refine jL ?_; first | refine ja rfl rfl (jy rfl rfl rfl rfl rfl rfl) ?_ | refine ja rfl rfl (jz rfl rfl rfl rfl rfl rfl) ?_) | (with_reducible refine jM ?_; refine ja rfl rfl (jg rfl rfl u24 rfl) ?_)); refine jb (by first | (simp only [setAt]; rfl) | rfl) ?_)))
 refine ja rfl rfl (op_build (qs := []) rfl rfl b67) ?_
 refine jb (by first | (simp only [setAt]; rfl) | rfl) ?_
 refine ja rfl rfl (op_alloc rfl rfl zeroHash) ?_
 refine jb (by first | (simp only [setAt]; rfl) | rfl) ?_
 have hM := HMem.start H
 obtain ⟨m, hm⟩ : ∃ m, m = H.length := ⟨_, rfl⟩
 rw [show (H ++ [AB.cells (47, true) (AV.agg (List.replicate 32 (AV.v (.int .u8 0)))).cells]).length = m + 1 by simp [hm], ← hm]
 rw [← hm] at hM hbl
 generalize H ++ [AB.cells (47, true) (AV.agg (List.replicate 32 (AV.v (.int .u8 0)))).cells] ++ [AB.cells (67, true) (AV.agg (shaCells (List.replicate 8 0) false [] 0)).cells] = H2 at *
 refine Wo.doSkip rfl rfl (op_storeC rfl sz67 rfl rfl hM.c67 (sha_st67 rfl rfl _ _ _ _ _ _)) ?_
 replace hM := hM.store (shaCells (List.replicate 8 0) false [] 0)
 generalize setAt H2 (m + 1) (AB.cells (67, true) (shaCells (List.replicate 8 0) false [] 0)) = H3 at *
 (repeat (first | (with_reducible first | refine jh ?_ | refine ji ?_ | refine jl ?_ | refine jm ?_ | refine jn ?_ | refine jo ?_ | refine jp ?_ | refine jq ?_ | refine jr ?_ | refine js ?_ | refine jt ?_ | refine ju ?_ | refine jv ?_ | refine jw ?_) | (with_reducible refine jj ?_; refine jk (by first | (simp only [setAt, enter, List.replicate, List.cons_append, List.nil_append]; rfl) | rfl) ?_) | with_reducible refine jx (by decide) ?_ | (with_reducible refine jD ?_; first | refine jE rfl rfl rfl ?_ | refine jF rfl rfl rfl ?_) | ((first | (with_reducible refine jG ?_; first | refine jB rfl rfl rfl rfl ?_ | refine jC rfl rfl rfl rfl rfl ?_) | (with_reducible refine jH ?_; refine ja rfl rfl (jc rfl rfl) ?_) | (with_reducible refine jI ?_; refine ja rfl rfl (je rfl rfl) ?_) | (with_reducible refine jJ ?_; refine ja rfl rfl (jd rfl rfl rfl rfl rfl) ?_) | (with_reducible refine jK ?_; refine ja rfl rfl (jf rfl rfl rfl rfl) ?_) | (with_reducible refine jL ?_; first | refine ja rfl rfl (jy rfl rfl rfl rfl rfl rfl) ?_ | refine ja rfl rfl (jz rfl rfl rfl rfl rfl rfl) ?_) | (with_reducible refine jM ?_; refine ja rfl rfl (jg rfl rfl u24 rfl) ?_)); refine jb (by first | (simp only [setAt]; rfl) | rfl) ?_)))
 refine ja rfl rfl (op_binv (r := .v (.bool true)) rfl rfl rfl rfl) ?_
 refine jb (by first | (simp only [setAt]; rfl) | rfl) ?_
 (repeat (first | (with_reducible first | refine jh ?_ | refine ji ?_ | refine jl ?_ | refine jm ?_ | refine jn ?_ | refine jo ?_ | refine jp ?_ | refine jq ?_ | refine jr ?_ | refine js ?_ | refine jt ?_ | refine ju ?_ | refine jv ?_ | refine jw ?_) | (with_reducible refine jj ?_; refine jk (by first | (simp only [setAt, enter, List.replicate, List.cons_append, List.nil_append]; rfl) | rfl) ?_) | with_reducible refine jx (by decide) ?_ | (with_reducible refine jD ?_; first | refine jE rfl rfl rfl ?_ | refine jF rfl rfl rfl ?_) | ((first | (with_reducible refine jG ?_; first | refine jB rfl rfl rfl rfl ?_ | refine jC rfl rfl rfl rfl rfl ?_) | (with_reducible refine jH ?_; refine ja rfl rfl (jc rfl rfl) ?_) | (with_reducible refine jI ?_; refine ja rfl rfl (je rfl rfl) ?_) | (with_reducible refine jJ ?_; refine ja rfl rfl (jd rfl rfl rfl rfl rfl) ?_) | (with_reducible refine jK ?_; refine ja rfl rfl (jf rfl rfl rfl rfl) ?_) | (with_reducible refine jL ?_; first | refine ja rfl rfl (jy rfl rfl rfl rfl rfl rfl) ?_ | refine ja rfl rfl (jz rfl rfl rfl rfl rfl rfl) ?_) | (with_reducible refine jM ?_; refine ja rfl rfl (jg rfl rfl u24 rfl) ?_)); refine jb (by first | (simp only [setAt]; rfl) | rfl) ?_)))
 refine ja rfl rfl (op_nilCheck rfl rfl) ?_
 refine jb (by first | (simp only [setAt]; rfl) | rfl) ?_
 refine ja rfl rfl (op_load_ptr rfl rfl ((hM.low b hbl).trans hb) (sha_ld67 h8 _ _ _)) ?_
 refine jb (by first | (simp only [setAt]; rfl) | rfl) ?_
 refine Wo.doSkip rfl rfl (op_storeC rfl sz67 rfl rfl hM.c67 (sha_st67 rfl h8 _ _ _ _ _ _)) ?_
 replace hM := hM.store (shaCells hs st rest n)
 generalize setAt H3 (m + 1) (AB.cells (67, true) (shaCells hs st rest n)) = H4 at *
 (repeat (first | (with_reducible first | refine jh ?_ | refine ji ?_ | refine jl ?_ | refine jm ?_ | refine jn ?_ | refine jo ?_ | refine jp ?_ | refine jq ?_ | refine jr ?_ | refine js ?_ | refine jt ?_ | refine ju ?_ | refine jv ?_ | refine jw ?_) | (with_reducible refine jj ?_; refine jk (by first | (simp only [setAt, enter, List.replicate, List.cons_append, List.nil_append]; rfl) | rfl) ?_) | with_reducible refine jx (by decide) ?_ | (with_reducible refine jD ?_; first | refine jE rfl rfl rfl ?_ | refine jF rfl rfl rfl ?_) | ((first | (with_reducible refine jG ?_; first | refine jB rfl rfl rfl rfl ?_ | refine jC rfl rfl rfl rfl rfl ?_) | (with_reducible refine jH ?_; refine ja rfl rfl (jc rfl rfl) ?_) | (with_reducible refine jI ?_; refine ja rfl rfl (je rfl rfl) ?_) | (with_reducible refine jJ ?_; refine ja rfl rfl (jd rfl rfl rfl rfl rfl) ?_) | (with_reducible refine jK ?_; refine ja rfl rfl (jf rfl rfl rfl rfl) ?_) | (with_reducible refine jL ?_; first | refine ja rfl rfl (jy rfl rfl rfl rfl rfl rfl) ?_ | refine ja rfl rfl (jz rfl rfl rfl rfl rfl rfl) ?_) | (with_reducible refine jM ?_; refine ja rfl rfl (jg rfl rfl u24 rfl) ?_)); refine jb (by first | (simp only [setAt]; rfl) | rfl) ?_)))
 refine ja rfl rfl (op_fieldAddr rfl rfl (fa3 _)) ?_
 refine jb (by first | (simp only [setAt]; rfl) | rfl) ?_
 refine ja rfl rfl (op_load_ptr rfl rfl hM.c67 (sha_ld3 h8 _ _ _)) ?_
 refine jb (by first | (simp only [setAt]; rfl) | rfl) ?_
 (repeat (first | (with_reducible first | refine jh ?_ | refine ji ?_ | refine jl ?_ | refine jm ?_ | refine jn ?_ | refine jo ?_ | refine jp ?_ | refine jq ?_ | refine jr ?_ | refine js ?_ | refine jt ?_ | refine ju ?_ | refine jv ?_ | refine jw ?_) | (with_reducible refine jj ?_; refine jk (by first | (simp only [setAt, enter, List.replicate, List.cons_append, List.nil_append]; rfl) | rfl) ?_) | with_reducible refine jx (by decide) ?_ | (with_reducible refine jD ?_; first | refine jE rfl rfl rfl ?_ | refine jF rfl rfl rfl ?_) | ((first | (with_reducible refine jG ?_; first | refine jB rfl rfl rfl rfl ?_ | refine jC rfl rfl rfl rfl rfl ?_) | (with_reducible refine jH ?_; refine ja rfl rfl (jc rfl rfl) ?_) | (with_reducible refine jI ?_; refine ja rfl rfl (je rfl rfl) ?_) | (with_reducible refine jJ ?_; refine ja rfl rfl (jd rfl rfl rfl rfl rfl) ?_) | (with_reducible refine jK ?_; refine ja rfl rfl (jf rfl rfl rfl rfl) ?_) | (with_reducible refine jL ?_; first | refine ja rfl rfl (jy rfl rfl rfl rfl rfl rfl) ?_ | refine ja rfl rfl (jz rfl rfl rfl rfl rfl rfl) ?_) | (with_reducible refine jM ?_; refine ja rfl rfl (jg rfl rfl u24 rfl) ?_)); refine jb (by first | (simp only [setAt]; rfl) | rfl) ?_)))
 refine ja rfl rfl (op_fieldAddr rfl rfl (fa3 _)) ?_
 refine jb (by first | (simp only [setAt]; rfl) | rfl) ?_
 refine ja rfl rfl (op_load_ptr rfl rfl hM.c67 (sha_ld3 h8 _ _ _)) ?_
 refine jb (by first | (simp only [setAt]; rfl) | rfl) ?_
 (repeat (first | (with_reducible first | refine jh ?_ | refine ji ?_ | refine jl ?_ | refine jm ?_ | refine jn ?_ | refine jo ?_ | refine jp ?_ | refine jq ?_ | refine jr ?_ | refine js ?_ | refine jt ?_ | refine ju ?_ | refine jv ?_ | refine jw ?_) | (with_reducible refine jj ?_; refine jk (by first | (simp only [setAt, enter, List.replicate, List.cons_append, List.nil_append]; rfl) | rfl) ?_) | with_reducible refine jx (by decide) ?_ | (with_reducible refine jD ?_; first | refine jE rfl rfl rfl ?_ | refine jF rfl rfl rfl ?_) | ((first | (with_reducible refine jG ?_; first | refine jB rfl rfl rfl rfl ?_ | refine jC rfl rfl rfl rfl rfl ?_) | (with_reducible refine jH ?_; refine ja rfl rfl (jc rfl rfl) ?_) | (with_reducible refine jI ?_; refine ja rfl rfl (je rfl rfl) ?_) | (with_reducible refine jJ ?_; refine ja rfl rfl (jd rfl rfl rfl rfl rfl) ?_) | (with_reducible refine jK ?_; refine ja rfl rfl (jf rfl rfl rfl rfl) ?_) | (with_reducible refine jL ?_; first | refine ja rfl rfl (jy rfl rfl rfl rfl rfl rfl) ?_ | refine ja rfl rfl (jz rfl rfl rfl rfl rfl rfl) ?_) | (with_reducible refine jM ?_; refine ja rfl rfl (jg rfl rfl u24 rfl) ?_)); refine jb (by first | (simp only [setAt]; rfl) | rfl) ?_)))
 refine ja rfl rfl (op_conv_int rfl u65 u3 rfl rfl) ?_
 refine jb (by first | (simp only [setAt]; rfl) | rfl) ?_
 (repeat (first | (with_reducible first | refine jh ?_ | refine ji ?_ | refine jl ?_ | refine jm ?_ | refine jn ?_ | refine jo ?_ | refine jp ?_ | refine jq ?_ | refine jr ?_ | refine js ?_ | refine jt ?_ | refine ju ?_ | refine jv ?_ | refine jw ?_) | (with_reducible refine jj ?_; refine jk (by first | (simp only [setAt, enter, List.replicate, List.cons_append, List.nil_append]; rfl) | rfl) ?_) | with_reducible refine jx (by decide) ?_ | (with_reducible refine jD ?_; first | refine jE rfl rfl rfl ?_ | refine jF rfl rfl rfl ?_) | ((first | (with_reducible refine jG ?_; first | refine jB rfl rfl rfl rfl ?_ | refine jC rfl rfl rfl rfl rfl ?_) | (with_reducible refine jH ?_; refine ja rfl rfl (jc rfl rfl) ?_) | (with_reducible refine jI ?_; refine ja rfl rfl (je rfl rfl) ?_) | (with_reducible refine jJ ?_; refine ja rfl rfl (jd rfl rfl rfl rfl rfl) ?_) | (with_reducible refine jK ?_; refine ja rfl rfl (jf rfl rfl rfl rfl) ?_) | (with_reducible refine jL ?_; first | refine ja rfl rfl (jy rfl rfl rfl rfl rfl rfl) ?_ | refine ja rfl rfl (jz rfl rfl rfl rfl rfl rfl) ?_) | (with_reducible refine jM ?_; refine ja rfl rfl (jg rfl rfl u24 rfl) ?_)); refine jb (by first | (simp only [setAt]; rfl) | rfl) ?_)))
 rw [zl_eq]
 have hz1 : 1 ≤ zl n := by unfold zl; omega
 have hz2 : zl n ≤ 64 := by unfold zl; omega
 refine ja rfl rfl (op_makeMut (n := zl n) (m := 128) rfl rfl rfl rfl rfl (by omega) (by omega)) ?_
 refine jb (by first | (simp only [setAt]; rfl) | rfl) ?_
 (repeat (first | (with_reducible first | refine jh ?_ | refine ji ?_ | refine jl ?_ | refine jm ?_ | refine jn ?_ | refine jo ?_ | refine jp ?_ | refine jq ?_ | refine jr ?_ | refine js ?_ | refine jt ?_ | refine ju ?_ | refine jv ?_ | refine jw ?_) | (with_reducible refine jj ?_; refine jk (by first | (simp only [setAt, enter, List.replicate, List.cons_append, List.nil_append]; rfl) | rfl) ?_) | with_reducible refine jx (by decide) ?_ | (with_reducible refine jD ?_; first | refine jE rfl rfl rfl ?_ | refine jF rfl rfl rfl ?_) | ((first | (with_reducible refine jG ?_; first | refine jB rfl rfl rfl rfl ?_ | refine jC rfl rfl rfl rfl rfl ?_) | (with_reducible refine jH ?_; refine ja rfl rfl (jc rfl rfl) ?_) | (with_reducible refine jI ?_; refine ja rfl rfl (je rfl rfl) ?_) | (with_reducible refine jJ ?_; refine ja rfl rfl (jd rfl rfl rfl rfl rfl) ?_) | (with_reducible refine jK ?_; refine ja rfl rfl (jf rfl rfl rfl rfl) ?_) | (with_reducible refine jL ?_; first | refine ja rfl rfl (jy rfl rfl rfl rfl rfl rfl) ?_ | refine ja rfl rfl (jz rfl rfl rfl rfl rfl rfl) ?_) | (with_reducible refine jM ?_; refine ja rfl rfl (jg rfl rfl u24 rfl) ?_)); refine jb (by first | (simp only [setAt]; rfl) | rfl) ?_)))
 refine ja rfl rfl (op_indexAddr_ms (sz := 0) (j := 0) rfl rfl u82 sz5 rfl rfl rfl (by omega)) ?_
 refine jb (by first | (simp only [setAt]; rfl) | rfl) ?_
 obtain ⟨zk, hzk⟩ : ∃ k, zl n = k + 1 := ⟨zl n - 1, by omega⟩
 have hnew := nth_app H4 (AB.cells (5, false) ((List.replicate (zl n) (0 : UInt8)).map u8v))
 refine Wo.doSkip rfl rfl (op_storeC (cs' := (padB n 0).map u8v) rfl sz5 rfl rfl hnew ?_) ?_
 ·unfold padB
  rw [hzk]
  rw [if_pos ⟨rfl, by simp, rfl⟩]
  simp [List.replicate_succ, putAll, setAt]
  rfl
 have hM0 : MadeB H4 (setAt (H4 ++ [AB.cells (5, false) ((List.replicate (zl n) (0 : UInt8)).map u8v)]) H4.length (.cells (5, false) ((padB n 0).map u8v))) (.ms H4.length 0 (zl n) 1) (padB n 0) :=
  ⟨⟨H4.length, by rw [padB_len, Nat.add_zero], Nat.le_refl _, nth_setAt_same _ _ _ _ hnew⟩, by rw [len_setAt]; simp, fun k hk => by rw [nth_setAt_other _ _ _ _ (by omega), nth_app_lt _ _ _ hk]⟩
 generalize setAt (H4 ++ [AB.cells (5, false) ((List.replicate (zl n) (0 : UInt8)).map u8v)]) H4.length (.cells (5, false) ((padB n 0).map u8v)) = H5 at *
 have hn8 : n < 2 ^ 60 := hn
 (repeat (first | (with_reducible first | refine jh ?_ | refine ji ?_ | refine jl ?_ | refine jm ?_ | refine jn ?_ | refine jo ?_ | refine jp ?_ | refine jq ?_ | refine jr ?_ | refine js ?_ | refine jt ?_ | refine ju ?_ | refine jv ?_ | refine jw ?_) | (with_reducible refine jj ?_; refine jk (by first | (simp only [setAt, enter, List.replicate, List.cons_append, List.nil_append]; rfl) | rfl) ?_) | with_reducible refine jx (by decide) ?_ | (with_reducible refine jD ?_; first | refine jE rfl rfl rfl ?_ | refine jF rfl rfl rfl ?_) | ((first | (with_reducible refine jG ?_; first | refine jB rfl rfl rfl rfl ?_ | refine jC rfl rfl rfl rfl rfl ?_) | (with_reducible refine jH ?_; refine ja rfl rfl (jc rfl rfl) ?_) | (with_reducible refine jI ?_; refine ja rfl rfl (je rfl rfl) ?_) | (with_reducible refine jJ ?_; refine ja rfl rfl (jd rfl rfl rfl rfl rfl) ?_) | (with_reducible refine jK ?_; refine ja rfl rfl (jf rfl rfl rfl rfl) ?_) | (with_reducible refine jL ?_; first | refine ja rfl rfl (jy rfl rfl rfl rfl rfl rfl) ?_ | refine ja rfl rfl (jz rfl rfl rfl rfl rfl rfl) ?_) | (with_reducible refine jM ?_; refine ja rfl rfl (jg rfl rfl u24 rfl) ?_)); refine jb (by first | (simp only [setAt]; rfl) | rfl) ?_)))
 refine Wc.inv (fun w s1 => ∃ (i : Nat) (x : AV), w = 8 - i ∧ i ≤ 8 ∧ MadeB H4 s1.H x (padB n i) ∧ ∃ d : Nat → AV, s1.regs = (d 0 :: d 1 :: .ptr m 0 :: .ptr (m + 1) 0 :: .v (.int .u64 (IntKind.u64.wrap ((n : Int) * 8))) :: x :: d 6 :: d 7 :: d 8 :: d 9 :: d 10 :: d 11 :: d 12 :: d 13 :: d 14 :: d 15 :: d 16 :: d 17 :: d 18 :: d 19 :: d 20 :: d 21 :: d 22 :: d 23 :: d 24 :: d 25 :: d 26 :: d 27 :: i64 i :: d 29 :: d 30 :: d 31 :: d 32 :: d 33 :: d 34 :: d 35 :: d 36 :: d 37 :: d 38 :: d 39 :: d 40 :: d 41 :: d 42 :: d 43 :: d 44 :: d 45 :: d 46 :: d 47 :: d 48 :: d 49 :: d 50 :: d 51 :: d 52 :: d 53 :: d 54 :: d 55 :: d 56 :: d 57 :: d 58 :: d 59 :: d 60 :: d 61 :: d 62 :: [])) 8 ?_ ?_
 ·exact ⟨0, _, rfl, by omega, hM0, dead_of rfl⟩
 ·rintro w regs own H6 ⟨i, x, rfl, hi, hmb, d, rfl⟩
  simp only at hmb
  (repeat (first | (with_reducible first | refine jh ?_ | refine ji ?_ | refine jl ?_ | refine jm ?_ | refine jn ?_ | refine jo ?_ | refine jp ?_ | refine jq ?_ | refine jr ?_ | refine js ?_ | refine jt ?_ | refine ju ?_ | refine jv ?_ | refine jw ?_) | (with_reducible refine jj ?_; refine jk (by first | (simp only [setAt, enter, List.replicate, List.cons_append, List.nil_append]; rfl) | rfl) ?_) | with_reducible refine jx (by decide) ?_ | (with_reducible refine jD ?_; first | refine jE rfl rfl rfl ?_ | refine jF rfl rfl rfl ?_) | ((first | (with_reducible refine jG ?_; first | refine jB rfl rfl rfl rfl ?_ | refine jC rfl rfl rfl rfl rfl ?_) | (with_reducible refine jH ?_; refine ja rfl rfl (jc rfl rfl) ?_) | (with_reducible refine jI ?_; refine ja rfl rfl (je rfl rfl) ?_) | (with_reducible refine jJ ?_; refine ja rfl rfl (jd rfl rfl rfl rfl rfl) ?_) | (with_reducible refine jK ?_; refine ja rfl rfl (jf rfl rfl rfl rfl) ?_) | (with_reducible refine jL ?_; first | refine ja rfl rfl (jy rfl rfl rfl rfl rfl rfl) ?_ | refine ja rfl rfl (jz rfl rfl rfl rfl rfl rfl) ?_) | (with_reducible refine jM ?_; refine ja rfl rfl (jg rfl rfl u24 rfl) ?_)); refine jb (by first | (simp only [setAt]; rfl) | rfl) ?_)))
  refine Wc.cond rfl rfl (fun h => ?_) (fun h => ?_)
  ·have hlt : i < 8 := by have := of_decide_eq_true h; omega
   clear h
   (repeat (first | (with_reducible first | refine jh ?_ | refine ji ?_ | refine jl ?_ | refine jm ?_ | refine jn ?_ | refine jo ?_ | refine jp ?_ | refine jq ?_ | refine jr ?_ | refine js ?_ | refine jt ?_ | refine ju ?_ | refine jv ?_ | refine jw ?_) | (with_reducible refine jj ?_; refine jk (by first | (simp only [setAt, enter, List.replicate, List.cons_append, List.nil_append]; rfl) | rfl) ?_) | with_reducible refine jx (by decide) ?_ | (with_reducible refine jD ?_; first | refine jE rfl rfl rfl ?_ | refine jF rfl rfl rfl ?_) | ((first | (with_reducible refine jG ?_; first | refine jB rfl rfl rfl rfl ?_ | refine jC rfl rfl rfl rfl rfl ?_) | (with_reducible refine jH ?_; refine ja rfl rfl (jc rfl rfl) ?_) | (with_reducible refine jI ?_; refine ja rfl rfl (je rfl rfl) ?_) | (with_reducible refine jJ ?_; refine ja rfl rfl (jd rfl rfl rfl rfl rfl) ?_) | (with_reducible refine jK ?_; refine ja rfl rfl (jf rfl rfl rfl rfl) ?_) | (with_reducible refine jL ?_; first | refine ja rfl rfl (jy rfl rfl rfl rfl rfl rfl) ?_ | refine ja rfl rfl (jz rfl rfl rfl rfl rfl rfl) ?_) | (with_reducible refine jM ?_; refine ja rfl rfl (jg rfl rfl u24 rfl) ?_)); refine jb (by first | (simp only [setAt]; rfl) | rfl) ?_)))
   rw [wrap_sm (n := 8 * (i : Int)) (by omega) (by omega), wrap_sm (n := 56 - 8 * (i : Int)) (by omega) (by omega), show 56 - 8 * (i : Int) = ((56 - 8 * i : Nat) : Int) by omega]
   refine ja rfl rfl (jd (r := .int .u64 ((IntKind.u64.wrap ((n : Int) * 8)).fdiv (2 ^ (56 - 8 * i)))) rfl rfl rfl (shr_run _ _ _ .u64 .i64 _ _ (by show 56 - 8 * i ≤ 64; omega)) rfl) ?_
   refine jb (by first | (simp only [setAt]; rfl) | rfl) ?_
   refine ja rfl rfl (op_conv_int rfl u65 u5 rfl (byte_eq _)) ?_
   refine jb (by first | (simp only [setAt]; rfl) | rfl) ?_
   refine ja rfl rfl (op_buildSlice rfl rfl rfl (bs82 _ _ _)) ?_
   refine jb (by first | (simp only [setAt]; rfl) | rfl) ?_
   refine Wo.pushB (c := lenB n i) hmb rfl rfl rfl rfl rfl rfl (by rw [padB_len]; omega) (fun z H7 hm7 => ?_)
   refine jb (by first | (simp only [setAt]; rfl) | rfl) ?_
   (repeat (first | (with_reducible first | refine jh ?_ | refine ji ?_ | refine jl ?_ | refine jm ?_ | refine jn ?_ | refine jo ?_ | refine jp ?_ | refine jq ?_ | refine jr ?_ | refine js ?_ | refine jt ?_ | refine ju ?_ | refine jv ?_ | refine jw ?_) | (with_reducible refine jj ?_; refine jk (by first | (simp only [setAt, enter, List.replicate, List.cons_append, List.nil_append]; rfl) | rfl) ?_) | with_reducible refine jx (by decide) ?_ | (with_reducible refine jD ?_; first | refine jE rfl rfl rfl ?_ | refine jF rfl rfl rfl ?_) | ((first | (with_reducible refine jG ?_; first | refine jB rfl rfl rfl rfl ?_ | refine jC rfl rfl rfl rfl rfl ?_) | (with_reducible refine jH ?_; refine ja rfl rfl (jc rfl rfl) ?_) | (with_reducible refine jI ?_; refine ja rfl rfl (je rfl rfl) ?_) | (with_reducible refine jJ ?_; refine ja rfl rfl (jd rfl rfl rfl rfl rfl) ?_) | (with_reducible refine jK ?_; refine ja rfl rfl (jf rfl rfl rfl rfl) ?_) | (with_reducible refine jL ?_; first | refine ja rfl rfl (jy rfl rfl rfl rfl rfl rfl) ?_ | refine ja rfl rfl (jz rfl rfl rfl rfl rfl rfl) ?_) | (with_reducible refine jM ?_; refine ja rfl rfl (jg rfl rfl u24 rfl) ?_)); refine jb (by first | (simp only [setAt]; rfl) | rfl) ?_)))
   refine LoopQ.normal (8 - (i + 1)) (by omega) ⟨i + 1, z, rfl, by omega, by rw [padB_succ]; exact hm7, dead_of ?_⟩
   rw [w64 (by omega)]; rfl
  ·have hi8 : i = 8 := by have := of_decide_eq_false h; omega
   subst hi8
   clear h
   have hM6 := hM.grown (H2 := H6) (Nat.le_trans hM.len hmb.2.1) (fun k hk => hmb.2.2 k (Nat.lt_of_lt_of_le hk hM.len))
   obtain ⟨⟨xb, rfl, hxb1, hxb2⟩, hmb2, hmb3⟩ := hmb
   have hpl := padB_len n 8
   generalize padB n 8 = pd at *
   (repeat (first | (with_reducible first | refine jh ?_ | refine ji ?_ | refine jl ?_ | refine jm ?_ | refine jn ?_ | refine jo ?_ | refine jp ?_ | refine jq ?_ | refine jr ?_ | refine js ?_ | refine jt ?_ | refine ju ?_ | refine jv ?_ | refine jw ?_) | (with_reducible refine jj ?_; refine jk (by first | (simp only [setAt, enter, List.replicate, List.cons_append, List.nil_append]; rfl) | rfl) ?_) | with_reducible refine jx (by decide) ?_ | (with_reducible refine jD ?_; first | refine jE rfl rfl rfl ?_ | refine jF rfl rfl rfl ?_) | ((first | (with_reducible refine jG ?_; first | refine jB rfl rfl rfl rfl ?_ | refine jC rfl rfl rfl rfl rfl ?_) | (with_reducible refine jH ?_; refine ja rfl rfl (jc rfl rfl) ?_) | (with_reducible refine jI ?_; refine ja rfl rfl (je rfl rfl) ?_) | (with_reducible refine jJ ?_; refine ja rfl rfl (jd rfl rfl rfl rfl rfl) ?_) | (with_reducible refine jK ?_; refine ja rfl rfl (jf rfl rfl rfl rfl) ?_) | (with_reducible refine jL ?_; first | refine ja rfl rfl (jy rfl rfl rfl rfl rfl rfl) ?_ | refine ja rfl rfl (jz rfl rfl rfl rfl rfl rfl) ?_) | (with_reducible refine jM ?_; refine ja rfl rfl (jg rfl rfl u24 rfl) ?_)); refine jb (by first | (simp only [setAt]; rfl) | rfl) ?_)))
   refine ja rfl rfl (op_conv_ms rfl rfl hxb2) ?_
   refine jb (by first | (simp only [setAt]; rfl) | rfl) ?_
   refine ja rfl rfl (op_buildSlice rfl rfl rfl (bs61 _ _ _)) ?_
   refine jb (by first | (simp only [setAt]; rfl) | rfl) ?_
   refine Wo.doCall rfl rfl (op_call (args := [.ptr (m + 1) 0, .sl [.str pd] .full]) rfl rfl) ?_
   refine (write_tells hs h8 st rest pd (by omega) n (m + 1) _ hM6.c67 .full rfl).mono ?_
   rintro r H8 ⟨rfl, rfl⟩
   have h0l : (if st then hs else iv).length = 8 := by split; exact h8; rfl
   have hfl := allU_len ((rest ++ pd).length / 64) (rest ++ pd) h0l
   generalize allU ((rest ++ pd).length / 64) (rest ++ pd) (if st then hs else iv) = hF at *
   generalize (rest ++ pd).drop (64 * ((rest ++ pd).length / 64)) = rF at *
   generalize IntKind.u64.wrap ((n : Int) + IntKind.u64.wrap (pd.length : Int)) = nF at *
   replace hM6 := hM6.store (shaCells hF true rF nF)
   generalize setAt H6 (m + 1) (AB.cells (67, true) (shaCells hF true rF nF)) = H7 at *
   refine jb (by first | (simp only [setAt]; rfl) | rfl) ?_
   (repeat (first | (with_reducible first | refine jh ?_ | refine ji ?_ | refine jl ?_ | refine jm ?_ | refine jn ?_ | refine jo ?_ | refine jp ?_ | refine jq ?_ | refine jr ?_ | refine js ?_ | refine jt ?_ | refine ju ?_ | refine jv ?_ | refine jw ?_) | (with_reducible refine jj ?_; refine jk (by first | (simp only [setAt, enter, List.replicate, List.cons_append, List.nil_append]; rfl) | rfl) ?_) | with_reducible refine jx (by decide) ?_ | (with_reducible refine jD ?_; first | refine jE rfl rfl rfl ?_ | refine jF rfl rfl rfl ?_) | ((first | (with_reducible refine jG ?_; first | refine jB rfl rfl rfl rfl ?_ | refine jC rfl rfl rfl rfl rfl ?_) | (with_reducible refine jH ?_; refine ja rfl rfl (jc rfl rfl) ?_) | (with_reducible refine jI ?_; refine ja rfl rfl (je rfl rfl) ?_) | (with_reducible refine jJ ?_; refine ja rfl rfl (jd rfl rfl rfl rfl rfl) ?_) | (with_reducible refine jK ?_; refine ja rfl rfl (jf rfl rfl rfl rfl) ?_) | (with_reducible refine jL ?_; first | refine ja rfl rfl (jy rfl rfl rfl rfl rfl rfl) ?_ | refine ja rfl rfl (jz rfl rfl rfl rfl rfl rfl) ?_) | (with_reducible refine jM ?_; refine ja rfl rfl (jg rfl rfl u24 rfl) ?_)); refine jb (by first | (simp only [setAt]; rfl) | rfl) ?_)))
   refine ja rfl rfl (op_alloc rfl rfl z47) ?_
   refine jb (by first | (simp only [setAt]; rfl) | rfl) ?_
   have hM8 := hM6.grown (H2 := H7 ++ [AB.cells (47, true) (AV.agg (List.replicate 32 (AV.v (.int .u8 0)))).cells]) (by simp; have := hM6.len; omega) (fun k hk => nth_app_lt _ _ _ (by have := hM6.len; omega))
   have hnew := nth_app H7 (AB.cells (47, true) (AV.agg (List.replicate 32 (AV.v (.int .u8 0)))).cells)
   obtain ⟨L, hL⟩ : ∃ L, L = H7.length := ⟨_, rfl⟩
   have hL2 : m + 2 ≤ L := by rw [hL]; exact hM6.len
   rw [← hL] at hnew ⊢
   generalize H7 ++ [AB.cells (47, true) (AV.agg (List.replicate 32 (AV.v (.int .u8 0)))).cells] = H8 at *
   (repeat (first | (with_reducible first | refine jh ?_ | refine ji ?_ | refine jl ?_ | refine jm ?_ | refine jn ?_ | refine jo ?_ | refine jp ?_ | refine jq ?_ | refine jr ?_ | refine js ?_ | refine jt ?_ | refine ju ?_ | refine jv ?_ | refine jw ?_) | (with_reducible refine jj ?_; refine jk (by first | (simp only [setAt, enter, List.replicate, List.cons_append, List.nil_append]; rfl) | rfl) ?_) | with_reducible refine jx (by decide) ?_ | (with_reducible refine jD ?_; first | refine jE rfl rfl rfl ?_ | refine jF rfl rfl rfl ?_) | ((first | (with_reducible refine jG ?_; first | refine jB rfl rfl rfl rfl ?_ | refine jC rfl rfl rfl rfl rfl ?_) | (with_reducible refine jH ?_; refine ja rfl rfl (jc rfl rfl) ?_) | (with_reducible refine jI ?_; refine ja rfl rfl (je rfl rfl) ?_) | (with_reducible refine jJ ?_; refine ja rfl rfl (jd rfl rfl rfl rfl rfl) ?_) | (with_reducible refine jK ?_; refine ja rfl rfl (jf rfl rfl rfl rfl) ?_) | (with_reducible refine jL ?_; first | refine ja rfl rfl (jy rfl rfl rfl rfl rfl rfl) ?_ | refine ja rfl rfl (jz rfl rfl rfl rfl rfl rfl) ?_) | (with_reducible refine jM ?_; refine ja rfl rfl (jg rfl rfl u24 rfl) ?_)); refine jb (by first | (simp only [setAt]; rfl) | rfl) ?_)))
   refine Wc.inv (fun w s1 => ∃ i : Nat, w = 32 - i ∧ i ≤ 32 ∧ HMem H s1.H m (shaCells hF true rF nF) ∧ nth s1.H L = some (.cells (47, true) ((List.range i).map (fun i => u8v (outB hF i)) ++ List.replicate (32 - i) (u8v 0))) ∧ ∃ d : Nat → AV, s1.regs = (d 0 :: d 1 :: .ptr m 0 :: .ptr (m + 1) 0 :: d 4 :: d 5 :: d 6 :: .ptr L 0 :: d 8 :: d 9 :: d 10 :: d 11 :: d 12 :: d 13 :: d 14 :: d 15 :: d 16 :: d 17 :: d 18 :: d 19 :: d 20 :: d 21 :: d 22 :: d 23 :: d 24 :: d 25 :: d 26 :: d 27 :: d 28 :: d 29 :: d 30 :: d 31 :: d 32 :: d 33 :: d 34 :: d 35 :: d 36 :: d 37 :: d 38 :: d 39 :: d 40 :: d 41 :: d 42 :: d 43 :: d 44 :: i64 i :: d 46 :: d 47 :: d 48 :: d 49 :: d 50 :: d 51 :: d 52 :: d 53 :: d 54 :: d 55 :: d 56 :: d 57 :: d 58 :: d 59 :: d 60 :: d 61 :: d 62 :: [])) 32 ?_ ?_
   ·exact ⟨0, rfl, by omega, hM8, hnew, dead_of rfl⟩
   ·clear d hnew hM8
    rintro w regs own H9 ⟨i, rfl, hi, hM9, hout, d, rfl⟩
    simp only at hM9 hout
    (repeat (first | (with_reducible first | refine jh ?_ | refine ji ?_ | refine jl ?_ | refine jm ?_ | refine jn ?_ | refine jo ?_ | refine jp ?_ | refine jq ?_ | refine jr ?_ | refine js ?_ | refine jt ?_ | refine ju ?_ | refine jv ?_ | refine jw ?_) | (with_reducible refine jj ?_; refine jk (by first | (simp only [setAt, enter, List.replicate, List.cons_append, List.nil_append]; rfl) | rfl) ?_) | with_reducible refine jx (by decide) ?_ | (with_reducible refine jD ?_; first | refine jE rfl rfl rfl ?_ | refine jF rfl rfl rfl ?_) | ((first | (with_reducible refine jG ?_; first | refine jB rfl rfl rfl rfl ?_ | refine jC rfl rfl rfl rfl rfl ?_) | (with_reducible refine jH ?_; refine ja rfl rfl (jc rfl rfl) ?_) | (with_reducible refine jI ?_; refine ja rfl rfl (je rfl rfl) ?_) | (with_reducible refine jJ ?_; refine ja rfl rfl (jd rfl rfl rfl rfl rfl) ?_) | (with_reducible refine jK ?_; refine ja rfl rfl (jf rfl rfl rfl rfl) ?_) | (with_reducible refine jL ?_; first | refine ja rfl rfl (jy rfl rfl rfl rfl rfl rfl) ?_ | refine ja rfl rfl (jz rfl rfl rfl rfl rfl rfl) ?_) | (with_reducible refine jM ?_; refine ja rfl rfl (jg rfl rfl u24 rfl) ?_)); refine jb (by first | (simp only [setAt]; rfl) | rfl) ?_)))
    refine Wc.cond rfl rfl (fun h => ?_) (fun h => ?_)
    ·have hlt : i < 32 := by have := of_decide_eq_true h; omega
     clear h
     (repeat (first | (with_reducible first | refine jh ?_ | refine ji ?_ | refine jl ?_ | refine jm ?_ | refine jn ?_ | refine jo ?_ | refine jp ?_ | refine jq ?_ | refine jr ?_ | refine js ?_ | refine jt ?_ | refine ju ?_ | refine jv ?_ | refine jw ?_) | (with_reducible refine jj ?_; refine jk (by first | (simp only [setAt, enter, List.replicate, List.cons_append, List.nil_append]; rfl) | rfl) ?_) | with_reducible refine jx (by decide) ?_ | (with_reducible refine jD ?_; first | refine jE rfl rfl rfl ?_ | refine jF rfl rfl rfl ?_) | ((first | (with_reducible refine jG ?_; first | refine jB rfl rfl rfl rfl ?_ | refine jC rfl rfl rfl rfl rfl ?_) | (with_reducible refine jH ?_; refine ja rfl rfl (jc rfl rfl) ?_) | (with_reducible refine jI ?_; refine ja rfl rfl (je rfl rfl) ?_) | (with_reducible refine jJ ?_; refine ja rfl rfl (jd rfl rfl rfl rfl rfl) ?_) | (with_reducible refine jK ?_; refine ja rfl rfl (jf rfl rfl rfl rfl) ?_) | (with_reducible refine jL ?_; first | refine ja rfl rfl (jy rfl rfl rfl rfl rfl rfl) ?_ | refine ja rfl rfl (jz rfl rfl rfl rfl rfl rfl) ?_) | (with_reducible refine jM ?_; refine ja rfl rfl (jg rfl rfl u24 rfl) ?_)); refine jb (by first | (simp only [setAt]; rfl) | rfl) ?_)))
     refine ja rfl rfl (op_fieldAddr rfl rfl (fa0 _)) ?_
     refine jb (by first | (simp only [setAt]; rfl) | rfl) ?_
     refine ja rfl rfl (op_indexAddr_arr (sz := 0) (j := i / 4) rfl rfl u64 sz62 rfl rfl (q4 i (by omega)) (by omega)) ?_
     refine jb (by first | (simp only [setAt]; rfl) | rfl) ?_
     refine ja rfl rfl (op_load_ptr rfl rfl hM9.c67 (sha_ldw hfl _ _ _ (i / 4) (by omega))) ?_
     refine jb (by first | (simp only [setAt]; rfl) | rfl) ?_
     (repeat (first | (with_reducible first | refine jh ?_ | refine ji ?_ | refine jl ?_ | refine jm ?_ | refine jn ?_ | refine jo ?_ | refine jp ?_ | refine jq ?_ | refine jr ?_ | refine js ?_ | refine jt ?_ | refine ju ?_ | refine jv ?_ | refine jw ?_) | (with_reducible refine jj ?_; refine jk (by first | (simp only [setAt, enter, List.replicate, List.cons_append, List.nil_append]; rfl) | rfl) ?_) | with_reducible refine jx (by decide) ?_ | (with_reducible refine jD ?_; first | refine jE rfl rfl rfl ?_ | refine jF rfl rfl rfl ?_) | ((first | (with_reducible refine jG ?_; first | refine jB rfl rfl rfl rfl ?_ | refine jC rfl rfl rfl rfl rfl ?_) | (with_reducible refine jH ?_; refine ja rfl rfl (jc rfl rfl) ?_) | (with_reducible refine jI ?_; refine ja rfl rfl (je rfl rfl) ?_) | (with_reducible refine jJ ?_; refine ja rfl rfl (jd rfl rfl rfl rfl rfl) ?_) | (with_reducible refine jK ?_; refine ja rfl rfl (jf rfl rfl rfl rfl) ?_) | (with_reducible refine jL ?_; first | refine ja rfl rfl (jy rfl rfl rfl rfl rfl rfl) ?_ | refine ja rfl rfl (jz rfl rfl rfl rfl rfl rfl) ?_) | (with_reducible refine jM ?_; refine ja rfl rfl (jg rfl rfl u24 rfl) ?_)); refine jb (by first | (simp only [setAt]; rfl) | rfl) ?_)))
     rw [r4, wrap_sm (n := 8 * ((i % 4 : Nat) : Int)) (by omega) (by omega), wrap_sm (n := 24 - 8 * ((i % 4 : Nat) : Int)) (by omega) (by omega), show 24 - 8 * ((i % 4 : Nat) : Int) = ((24 - 8 * (i % 4) : Nat) : Int) by omega]
     refine ja rfl rfl (jd (r := .int .u32 ((hF.getD (i / 4) 0 : Int).fdiv (2 ^ (24 - 8 * (i % 4))))) rfl rfl rfl (shr_run _ _ _ .u32 .i64 _ _ (by show 24 - 8 * (i % 4) ≤ 32; omega)) rfl) ?_
     refine jb (by first | (simp only [setAt]; rfl) | rfl) ?_
     refine ja rfl rfl (op_conv_int rfl u62 u5 rfl (out_eq hF i)) ?_
     refine jb (by first | (simp only [setAt]; rfl) | rfl) ?_
     refine ja rfl rfl (op_indexAddr_arr (sz := 0) (j := i) rfl rfl u47 sz5 rfl rfl rfl hlt) ?_
     refine jb (by first | (simp only [setAt]; rfl) | rfl) ?_
     refine Wo.doSkip rfl rfl (op_storeC rfl sz5 rfl rfl hout (out_st hF i hlt)) ?_
     (repeat (first | (with_reducible first | refine jh ?_ | refine ji ?_ | refine jl ?_ | refine jm ?_ | refine jn ?_ | refine jo ?_ | refine jp ?_ | refine jq ?_ | refine jr ?_ | refine js ?_ | refine jt ?_ | refine ju ?_ | refine jv ?_ | refine jw ?_) | (with_reducible refine jj ?_; refine jk (by first | (simp only [setAt, enter, List.replicate, List.cons_append, List.nil_append]; rfl) | rfl) ?_) | with_reducible refine jx (by decide) ?_ | (with_reducible refine jD ?_; first | refine jE rfl rfl rfl ?_ | refine jF rfl rfl rfl ?_) | ((first | (with_reducible refine jG ?_; first | refine jB rfl rfl rfl rfl ?_ | refine jC rfl rfl rfl rfl rfl ?_) | (with_reducible refine jH ?_; refine ja rfl rfl (jc rfl rfl) ?_) | (with_reducible refine jI ?_; refine ja rfl rfl (je rfl rfl) ?_) | (with_reducible refine jJ ?_; refine ja rfl rfl (jd rfl rfl rfl rfl rfl) ?_) | (with_reducible refine jK ?_; refine ja rfl rfl (jf rfl rfl rfl rfl) ?_) | (with_reducible refine jL ?_; first | refine ja rfl rfl (jy rfl rfl rfl rfl rfl rfl) ?_ | refine ja rfl rfl (jz rfl rfl rfl rfl rfl rfl) ?_) | (with_reducible refine jM ?_; refine ja rfl rfl (jg rfl rfl u24 rfl) ?_)); refine jb (by first | (simp only [setAt]; rfl) | rfl) ?_)))
     refine LoopQ.normal (32 - (i + 1)) (by omega) ⟨i + 1, rfl, by omega, ⟨by rw [len_setAt]; exact hM9.len, by rw [nth_setAt_other _ _ _ _ (by omega)]; exact hM9.c47, by rw [nth_setAt_other _ _ _ _ (by omega)]; exact hM9.c67, fun k hk => by rw [nth_setAt_other _ _ _ _ (by omega)]; exact hM9.low k hk⟩, nth_setAt_same _ _ _ _ hout, dead_of ?_⟩
     rw [w64 (by omega)]; rfl
    ·have hi32 : i = 32 := by have := of_decide_eq_false h; omega
     subst hi32
     clear h
     (repeat (first | (with_reducible first | refine jh ?_ | refine ji ?_ | refine jl ?_ | refine jm ?_ | refine jn ?_ | refine jo ?_ | refine jp ?_ | refine jq ?_ | refine jr ?_ | refine js ?_ | refine jt ?_ | refine ju ?_ | refine jv ?_ | refine jw ?_) | (with_reducible refine jj ?_; refine jk (by first | (simp only [setAt, enter, List.replicate, List.cons_append, List.nil_append]; rfl) | rfl) ?_) | with_reducible refine jx (by decide) ?_ | (with_reducible refine jD ?_; first | refine jE rfl rfl rfl ?_ | refine jF rfl rfl rfl ?_) | ((first | (with_reducible refine jG ?_; first | refine jB rfl rfl rfl rfl ?_ | refine jC rfl rfl rfl rfl rfl ?_) | (with_reducible refine jH ?_; refine ja rfl rfl (jc rfl rfl) ?_) | (with_reducible refine jI ?_; refine ja rfl rfl (je rfl rfl) ?_) | (with_reducible refine jJ ?_; refine ja rfl rfl (jd rfl rfl rfl rfl rfl) ?_) | (with_reducible refine jK ?_; refine ja rfl rfl (jf rfl rfl rfl rfl) ?_) | (with_reducible refine jL ?_; first | refine ja rfl rfl (jy rfl rfl rfl rfl rfl rfl) ?_ | refine ja rfl rfl (jz rfl rfl rfl rfl rfl rfl) ?_) | (with_reducible refine jM ?_; refine ja rfl rfl (jg rfl rfl u24 rfl) ?_)); refine jb (by first | (simp only [setAt]; rfl) | rfl) ?_)))
     rw [Nat.sub_self, List.replicate_zero, List.append_nil] at hout
     refine ja rfl rfl (op_load_ptr (v := .agg ((List.range 32).map fun i => u8v (outB hF i))) rfl rfl hout (by rw [List.drop_zero]; exact (take_agg ag47 sz47 (by simp)).trans (by rw [List.take_of_length_le (by simp)]))) ?_
     refine jb (by first | (simp only [setAt]; rfl) | rfl) ?_
     refine Wo.doSkip rfl rfl (op_storeC (cs' := (List.range 32).map fun i => u8v (outB hF i)) rfl sz47 rfl rfl hM9.c47 (sto_all (by simp) (by simp) (by simp [allOne, AV.one]))) ?_
     (repeat (first | (with_reducible first | refine jh ?_ | refine ji ?_ | refine jl ?_ | refine jm ?_ | refine jn ?_ | refine jo ?_ | refine jp ?_ | refine jq ?_ | refine jr ?_ | refine js ?_ | refine jt ?_ | refine ju ?_ | refine jv ?_ | refine jw ?_) | (with_reducible refine jj ?_; refine jk (by first | (simp only [setAt, enter, List.replicate, List.cons_append, List.nil_append]; rfl) | rfl) ?_) | with_reducible refine jx (by decide) ?_ | (with_reducible refine jD ?_; first | refine jE rfl rfl rfl ?_ | refine jF rfl rfl rfl ?_) | ((first | (with_reducible refine jG ?_; first | refine jB rfl rfl rfl rfl ?_ | refine jC rfl rfl rfl rfl rfl ?_) | (with_reducible refine jH ?_; refine ja rfl rfl (jc rfl rfl) ?_) | (with_reducible refine jI ?_; refine ja rfl rfl (je rfl rfl) ?_) | (with_reducible refine jJ ?_; refine ja rfl rfl (jd rfl rfl rfl rfl rfl) ?_) | (with_reducible refine jK ?_; refine ja rfl rfl (jf rfl rfl rfl rfl) ?_) | (with_reducible refine jL ?_; first | refine ja rfl rfl (jy rfl rfl rfl rfl rfl rfl) ?_ | refine ja rfl rfl (jz rfl rfl rfl rfl rfl rfl) ?_) | (with_reducible refine jM ?_; refine ja rfl rfl (jg rfl rfl u24 rfl) ?_)); refine jb (by first | (simp only [setAt]; rfl) | rfl) ?_)))
     refine EndQ.ret (r := .agg ((List.range 32).map fun i => u8v (outB hF i))) ?_ ⟨rfl, by rw [len_setAt]; have := hM9.len; omega, fun k hk => by rw [nth_setAt_other _ _ _ _ (by omega)]; exact hM9.low k hk⟩
     exact result_arr rfl (nth_setAt_same _ _ _ _ hM9.c47) ag47 sz47 (by simp)
end Go.Proofs
end
section
namespace Go.Proofs.RsPlain
open Go.Tm Go.Proofs
theorem allU_more (p : List UInt8) (m : Nat) : ∀ (k : Nat) (s : List UInt8) (h : List Nat), 64 * k ≤ s.length → allU (k + m) (s ++ p) h = allU m (s.drop (64 * k) ++ p) (allU k s h)
 | 0, s, h, _ => by rw [Nat.zero_add, Nat.mul_zero, List.drop_zero]; rfl
 | k + 1, s, h, hk => by
  rw [show k + 1 + m = (k + m) + 1 by omega]
  show allU (k + m) ((s ++ p).drop 64) (feedL h ((s ++ p).take 64)) = allU m (s.drop (64 * (k + 1)) ++ p) (allU k (s.drop 64) (feedL h (s.take 64)))
  rw [List.drop_append_of_le_length (by omega), List.take_append_of_le_length (by omega), allU_more p m k (s.drop 64) _ (by rw [List.length_drop]; omega), List.drop_drop]
  congr 3
  omega
def shaU (s : List UInt8) : List Nat := allU ((s ++ padB s.length 8).length / 64) (s ++ padB s.length 8) iv
theorem shaU_two (s : List UInt8) : allU ((s.drop (64 * (s.length / 64)) ++ padB s.length 8).length / 64) (s.drop (64 * (s.length / 64)) ++ padB s.length 8) (allU (s.length / 64) s iv) = shaU s := by
 unfold shaU
 have h : 64 * (s.length / 64) ≤ s.length := by omega
 rw [← allU_more _ _ _ _ _ h]
 congr 1
 simp only [List.length_append, List.length_drop]
 omega
end Go.Proofs.RsPlain
namespace Go.Proofs
open Go.Tm Go.Proofs.RsPlain
set_option maxRecDepth 100000
theorem mapO_u8 (H : List AB) (n : Nat) (f : Nat → UInt8) : ∀ xs : List Nat, mapO (snap H (n + 1)) (xs.map fun i => u8v (f i)) = some (xs.map fun i => u8v (f i))
 | [] => rfl
 | x :: r => by
  simp only [List.map_cons, mapO]
  rw [show snap H (n + 1) (u8v (f x)) = some (u8v (f x)) from rfl, mapO_u8 H n f r]
theorem closedL_u8 (f : Nat → UInt8) : ∀ xs : List Nat, AV.closedL (xs.map fun i => u8v (f i)) = true
 | [] => rfl
 | x :: r => by simp only [List.map_cons, AV.closedL, closedL_u8 f r]; rfl
theorem op_index_u8 {f : FuncId} {o : Oper} {R : List AV} {own : Nat → Nat} {H : List AB} {x i : Operand} {g : Nat → UInt8} {k : IntKind} {n : Int} {j : Nat} (ho : o.op = .index 47 x i) (hx : evalO Kz R x = some (.agg ((List.range 32).map fun i => u8v (g i)))) (hi : evalO Kz R i = some (.v (.int k n))) (hn : n = (j : Int)) (hj : j < 32) : aOp Kz f ⟨R, own, H⟩ o [] = some (.val (u8v (g j)) own H, [], []) := by
 subst hn
 simp only [aOp, ho, hx, hi, aKeepE]
 have hlt : j < ((List.range 32).map fun i => u8v (g i)).length := by rw [List.length_map, List.length_range]; exact hj
 have h : aIndex Kz 47 (.agg ((List.range 32).map fun i => u8v (g i))) (.v (.int k (j : Int))) [] = some (u8v (g j), [], []) := by
  simp only [aIndex, asI, u47, sz5]
  have hd : decide (0 ≤ (j : Int) ∧ (j : Int) < ((32 : Nat) : Int)) = true := by simp; omega
  rw [hd]
  refine (E.bind_nil (a := ()) rfl).trans ?_
  rw [Int.toNat_natCast, Nat.mul_one, List.drop_eq_getElem_cons hlt, take_one ag5 sz5, List.getElem_map, List.getElem_range]
  rfl
 exact (E.bind_nil h).trans rfl
theorem u64_wrap {n : Int} (h0 : 0 ≤ n) (h1 : n < 2 ^ 63) : IntKind.u64.wrap n = n := by
 simp only [IntKind.wrap, IntKind.bits, IntKind.signed]
 simp
 omega
set_option maxHeartbeats 1000000 in
theorem sum_tells (s : List UInt8) (hl : s.length < 2 ^ 60) (tl : Tail) (htl : tl.un = tl) (H : List AB) : Tells Kz 23 [.sl [.str s] tl] H fun r H' => r = .agg ((List.range 32).map fun i => u8v (outB (shaU s) i)) ∧ H' = H := by
 refine Tells.vals (c := _) Tryd.func23 rfl (args' := [.sl [.str s] tl]) (m := 6) (by simp only [List.map, unown_sl, htl]) rfl rfl rfl rfl ?_
 (repeat (first | (with_reducible first | refine jh ?_ | refine ji ?_ | refine jl ?_ | refine jm ?_ | refine jn ?_ | refine jo ?_ | refine jp ?_ | refine jq ?_ | refine jr ?_ | refine js ?_ | refine jt ?_ | refine ju ?_ | refine jv ?_ | refine jw ?_) | (with_reducible refine jj ?_; refine jk (by first | (simp only [setAt, enter, List.replicate, List.cons_append, List.nil_append]; rfl) | rfl) ?_) | with_reducible refine jx (by decide) ?_ | (with_reducible refine jD ?_; first | refine jE rfl rfl rfl ?_ | refine jF rfl rfl rfl ?_) | ((first | (with_reducible refine jG ?_; first | refine jB rfl rfl rfl rfl ?_ | refine jC rfl rfl rfl rfl rfl ?_) | (with_reducible refine jH ?_; refine ja rfl rfl (jc rfl rfl) ?_) | (with_reducible refine jI ?_; refine ja rfl rfl (je rfl rfl) ?_) | (with_reducible refine jJ ?_; refine ja rfl rfl (jd rfl rfl rfl rfl rfl) ?_) | (with_reducible refine jK ?_; refine ja rfl rfl (jf rfl rfl rfl rfl) ?_) | (with_reducible refine jL ?_; first | refine ja rfl rfl (jy rfl rfl rfl rfl rfl rfl) ?_ | refine ja rfl rfl (jz rfl rfl rfl rfl rfl rfl) ?_) | (with_reducible refine jM ?_; refine ja rfl rfl (jg rfl rfl u24 rfl) ?_)); refine jb (by first | (simp only [setAt]; rfl) | rfl) ?_)))
 refine ja rfl rfl (op_alloc rfl rfl z47) ?_
 refine jb (by first | (simp only [setAt]; rfl) | rfl) ?_
 (repeat (first | (with_reducible first | refine jh ?_ | refine ji ?_ | refine jl ?_ | refine jm ?_ | refine jn ?_ | refine jo ?_ | refine jp ?_ | refine jq ?_ | refine jr ?_ | refine js ?_ | refine jt ?_ | refine ju ?_ | refine jv ?_ | refine jw ?_) | (with_reducible refine jj ?_; refine jk (by first | (simp only [setAt, enter, List.replicate, List.cons_append, List.nil_append]; rfl) | rfl) ?_) | with_reducible refine jx (by decide) ?_ | (with_reducible refine jD ?_; first | refine jE rfl rfl rfl ?_ | refine jF rfl rfl rfl ?_) | ((first | (with_reducible refine jG ?_; first | refine jB rfl rfl rfl rfl ?_ | refine jC rfl rfl rfl rfl rfl ?_) | (with_reducible refine jH ?_; refine ja rfl rfl (jc rfl rfl) ?_) | (with_reducible refine jI ?_; refine ja rfl rfl (je rfl rfl) ?_) | (with_reducible refine jJ ?_; refine ja rfl rfl (jd rfl rfl rfl rfl rfl) ?_) | (with_reducible refine jK ?_; refine ja rfl rfl (jf rfl rfl rfl rfl) ?_) | (with_reducible refine jL ?_; first | refine ja rfl rfl (jy rfl rfl rfl rfl rfl rfl) ?_ | refine ja rfl rfl (jz rfl rfl rfl rfl rfl rfl) ?_) | (with_reducible refine jM ?_; refine ja rfl rfl (jg rfl rfl u24 rfl) ?_)); refine jb (by first | (simp only [setAt]; rfl) | rfl) ?_)))
 refine ja rfl rfl (op_alloc rfl rfl zeroHash) ?_
 refine jb (by first | (simp only [setAt]; rfl) | rfl) ?_
 (repeat (first | (with_reducible first | refine jh ?_ | refine ji ?_ | refine jl ?_ | refine jm ?_ | refine jn ?_ | refine jo ?_ | refine jp ?_ | refine jq ?_ | refine jr ?_ | refine js ?_ | refine jt ?_ | refine ju ?_ | refine jv ?_ | refine jw ?_) | (with_reducible refine jj ?_; refine jk (by first | (simp only [setAt, enter, List.replicate, List.cons_append, List.nil_append]; rfl) | rfl) ?_) | with_reducible refine jx (by decide) ?_ | (with_reducible refine jD ?_; first | refine jE rfl rfl rfl ?_ | refine jF rfl rfl rfl ?_) | ((first | (with_reducible refine jG ?_; first | refine jB rfl rfl rfl rfl ?_ | refine jC rfl rfl rfl rfl rfl ?_) | (with_reducible refine jH ?_; refine ja rfl rfl (jc rfl rfl) ?_) | (with_reducible refine jI ?_; refine ja rfl rfl (je rfl rfl) ?_) | (with_reducible refine jJ ?_; refine ja rfl rfl (jd rfl rfl rfl rfl rfl) ?_) | (with_reducible refine jK ?_; refine ja rfl rfl (jf rfl rfl rfl rfl) ?_) | (with_reducible refine jL ?_; first | refine ja rfl rfl (jy rfl rfl rfl rfl rfl rfl) ?_ | refine ja rfl rfl (jz rfl rfl rfl rfl rfl rfl) ?_) | (with_reducible refine jM ?_; refine ja rfl rfl (jg rfl rfl u24 rfl) ?_)); refine jb (by first | (simp only [setAt]; rfl) | rfl) ?_)))
 have h0 : nth [AB.cells (47, true) (AV.agg (List.replicate 32 (AV.v (.int .u8 0)))).cells, AB.cells (67, true) (AV.agg (shaCells (List.replicate 8 0) false [] 0)).cells] 1 = some (.cells (67, true) (shaCells (List.replicate 8 0) false [] 0)) := rfl
 refine Wo.doCall rfl rfl (op_call (args := [.ptr 1 0, .sl [.str s] tl]) rfl rfl) ?_
 rw [show List.map AV.unown [.ptr 1 0, .sl [.str s] tl] = [.ptr 1 0, .sl [.str s] tl] by simp only [List.map, unown_sl, htl]; rfl]
 refine (write_tells (List.replicate 8 0) rfl false [] s (by simp; omega) 0 1 _ h0 tl htl).mono ?_
 rintro r H1 ⟨rfl, rfl⟩
 rw [show IntKind.u64.wrap (0 + IntKind.u64.wrap (s.length : Int)) = (s.length : Int) by rw [u64_wrap (n := (s.length : Int)) (by omega) (by omega), Int.zero_add, u64_wrap (by omega) (by omega)]]
 simp only [List.nil_append, Bool.false_eq_true, if_false]
 have h1 := nth_setAt_same _ _ (AB.cells (67, true) (shaCells (allU (s.length / 64) s iv) true (s.drop (64 * (s.length / 64))) s.length)) _ h0
 have h00 : nth (setAt [AB.cells (47, true) (AV.agg (List.replicate 32 (AV.v (.int .u8 0)))).cells, AB.cells (67, true) (AV.agg (shaCells (List.replicate 8 0) false [] 0)).cells] 1 (AB.cells (67, true) (shaCells (allU (s.length / 64) s iv) true (s.drop (64 * (s.length / 64))) s.length))) 0 = some (.cells (47, true) (List.replicate 32 (AV.v (.int .u8 0)))) := rfl
 have hln : 0 < (setAt [AB.cells (47, true) (AV.agg (List.replicate 32 (AV.v (.int .u8 0)))).cells, AB.cells (67, true) (AV.agg (shaCells (List.replicate 8 0) false [] 0)).cells] 1 (AB.cells (67, true) (shaCells (allU (s.length / 64) s iv) true (s.drop (64 * (s.length / 64))) s.length))).length := by rw [len_setAt]; exact Nat.zero_lt_succ _
 generalize setAt [AB.cells (47, true) (AV.agg (List.replicate 32 (AV.v (.int .u8 0)))).cells, AB.cells (67, true) (AV.agg (shaCells (List.replicate 8 0) false [] 0)).cells] 1 (AB.cells (67, true) (shaCells (allU (s.length / 64) s iv) true (s.drop (64 * (s.length / 64))) s.length)) = H1 at *
 refine jb (by first | (simp only [setAt]; rfl) | rfl) ?_
 (repeat (first | (with_reducible first | refine jh ?_ | refine ji ?_ | refine jl ?_ | refine jm ?_ | refine jn ?_ | refine jo ?_ | refine jp ?_ | refine jq ?_ | refine jr ?_ | refine js ?_ | refine jt ?_ | refine ju ?_ | refine jv ?_ | refine jw ?_) | (with_reducible refine jj ?_; refine jk (by first | (simp only [setAt, enter, List.replicate, List.cons_append, List.nil_append]; rfl) | rfl) ?_) | with_reducible refine jx (by decide) ?_ | (with_reducible refine jD ?_; first | refine jE rfl rfl rfl ?_ | refine jF rfl rfl rfl ?_) | ((first | (with_reducible refine jG ?_; first | refine jB rfl rfl rfl rfl ?_ | refine jC rfl rfl rfl rfl rfl ?_) | (with_reducible refine jH ?_; refine ja rfl rfl (jc rfl rfl) ?_) | (with_reducible refine jI ?_; refine ja rfl rfl (je rfl rfl) ?_) | (with_reducible refine jJ ?_; refine ja rfl rfl (jd rfl rfl rfl rfl rfl) ?_) | (with_reducible refine jK ?_; refine ja rfl rfl (jf rfl rfl rfl rfl) ?_) | (with_reducible refine jL ?_; first | refine ja rfl rfl (jy rfl rfl rfl rfl rfl rfl) ?_ | refine ja rfl rfl (jz rfl rfl rfl rfl rfl rfl) ?_) | (with_reducible refine jM ?_; refine ja rfl rfl (jg rfl rfl u24 rfl) ?_)); refine jb (by first | (simp only [setAt]; rfl) | rfl) ?_)))
 refine Wo.doCall rfl rfl (op_call (args := [.ptr 1 0]) rfl rfl) ?_
 refine (hash_tells (allU (s.length / 64) s iv) (allU_len _ _ rfl) true (s.drop (64 * (s.length / 64))) s.length hl (by rw [List.length_drop]; omega) 1 _ h1).mono ?_
 rintro r H2 ⟨rfl, hH2, hk2⟩
 simp only [if_true]
 rw [shaU_two]
 refine jb (by first | (simp only [setAt]; rfl) | rfl) ?_
 refine Wo.doSkip rfl rfl (op_storeC (cs' := (List.range 32).map fun i => u8v (outB (shaU s) i)) rfl sz47 rfl rfl ((hk2 0 hln).trans h00) (sto_all (by simp) (by simp) (by simp [allOne, AV.one]))) ?_
 (repeat (first | (with_reducible first | refine jh ?_ | refine ji ?_ | refine jl ?_ | refine jm ?_ | refine jn ?_ | refine jo ?_ | refine jp ?_ | refine jq ?_ | refine jr ?_ | refine js ?_ | refine jt ?_ | refine ju ?_ | refine jv ?_ | refine jw ?_) | (with_reducible refine jj ?_; refine jk (by first | (simp only [setAt, enter, List.replicate, List.cons_append, List.nil_append]; rfl) | rfl) ?_) | with_reducible refine jx (by decide) ?_ | (with_reducible refine jD ?_; first | refine jE rfl rfl rfl ?_ | refine jF rfl rfl rfl ?_) | ((first | (with_reducible refine jG ?_; first | refine jB rfl rfl rfl rfl ?_ | refine jC rfl rfl rfl rfl rfl ?_) | (with_reducible refine jH ?_; refine ja rfl rfl (jc rfl rfl) ?_) | (with_reducible refine jI ?_; refine ja rfl rfl (je rfl rfl) ?_) | (with_reducible refine jJ ?_; refine ja rfl rfl (jd rfl rfl rfl rfl rfl) ?_) | (with_reducible refine jK ?_; refine ja rfl rfl (jf rfl rfl rfl rfl) ?_) | (with_reducible refine jL ?_; first | refine ja rfl rfl (jy rfl rfl rfl rfl rfl rfl) ?_ | refine ja rfl rfl (jz rfl rfl rfl rfl rfl rfl) ?_) | (with_reducible refine jM ?_; refine ja rfl rfl (jg rfl rfl u24 rfl) ?_)); refine jb (by first | (simp only [setAt]; rfl) | rfl) ?_)))
 refine EndQ.ret (r := .agg ((List.range 32).map fun i => u8v (outB (shaU s) i))) (result_arr rfl (nth_setAt_same _ _ _ _ ((hk2 0 hln).trans h00)) ag47 sz47 (by simp)) ⟨.agg ((List.range 32).map fun i => u8v (outB (shaU s) i)), ?_, ?_, rfl, trivial⟩
 ·unfold snap
  simp only [mapO_u8]
 ·simp only [AV.closed, closedL_u8]
def partU (s : List UInt8) : Nat := (outB (shaU s) 1).toNat % 8
set_option maxHeartbeats 1000000 in
theorem part_tells (s : List UInt8) (hl : s.length < 2 ^ 60) (H : List AB) : Tells Kz 12 [.str s] H fun r H' => r = i64 (partU s) ∧ H' = H := by
 refine Tells.vals (c := _) Tryd.func12 rfl (args' := [.str s]) (m := 8) rfl rfl rfl rfl rfl ?_
 (repeat (first | (with_reducible first | refine jh ?_ | refine ji ?_ | refine jl ?_ | refine jm ?_ | refine jn ?_ | refine jo ?_ | refine jp ?_ | refine jq ?_ | refine jr ?_ | refine js ?_ | refine jt ?_ | refine ju ?_ | refine jv ?_ | refine jw ?_) | (with_reducible refine jj ?_; refine jk (by first | (simp only [setAt, enter, List.replicate, List.cons_append, List.nil_append]; rfl) | rfl) ?_) | with_reducible refine jx (by decide) ?_ | (with_reducible refine jD ?_; first | refine jE rfl rfl rfl ?_ | refine jF rfl rfl rfl ?_) | ((first | (with_reducible refine jG ?_; first | refine jB rfl rfl rfl rfl ?_ | refine jC rfl rfl rfl rfl rfl ?_) | (with_reducible refine jH ?_; refine ja rfl rfl (jc rfl rfl) ?_) | (with_reducible refine jI ?_; refine ja rfl rfl (je rfl rfl) ?_) | (with_reducible refine jJ ?_; refine ja rfl rfl (jd rfl rfl rfl rfl rfl) ?_) | (with_reducible refine jK ?_; refine ja rfl rfl (jf rfl rfl rfl rfl) ?_) | (with_reducible refine jL ?_; first | refine ja rfl rfl (jy rfl rfl rfl rfl rfl rfl) ?_ | refine ja rfl rfl (jz rfl rfl rfl rfl rfl rfl) ?_) | (with_reducible refine jM ?_; refine ja rfl rfl (jg rfl rfl u24 rfl) ?_)); refine jb (by first | (simp only [setAt]; rfl) | rfl) ?_)))
 refine ja rfl rfl (op_buildSlice rfl rfl rfl (bs61 _ _ _)) ?_
 refine jb (by first | (simp only [setAt]; rfl) | rfl) ?_
 refine Wo.doCall rfl rfl (op_call (args := [.sl [.str s] .full]) rfl rfl) ((sum_tells s hl .full rfl _).mono ?_)
 rintro r H1 ⟨rfl, rfl⟩
 refine jb (by first | (simp only [setAt]; rfl) | rfl) ?_
 refine ja rfl rfl (op_index_u8 (j := 1) rfl rfl rfl rfl (by omega)) ?_
 refine jb (by first | (simp only [setAt]; rfl) | rfl) ?_
 refine ja rfl rfl (op_conv_int rfl u5 u3 rfl rfl) ?_
 refine jb (by first | (simp only [setAt]; rfl) | rfl) ?_
 (repeat (first | (with_reducible first | refine jh ?_ | refine ji ?_ | refine jl ?_ | refine jm ?_ | refine jn ?_ | refine jo ?_ | refine jp ?_ | refine jq ?_ | refine jr ?_ | refine js ?_ | refine jt ?_ | refine ju ?_ | refine jv ?_ | refine jw ?_) | (with_reducible refine jj ?_; refine jk (by first | (simp only [setAt, enter, List.replicate, List.cons_append, List.nil_append]; rfl) | rfl) ?_) | with_reducible refine jx (by decide) ?_ | (with_reducible refine jD ?_; first | refine jE rfl rfl rfl ?_ | refine jF rfl rfl rfl ?_) | ((first | (with_reducible refine jG ?_; first | refine jB rfl rfl rfl rfl ?_ | refine jC rfl rfl rfl rfl rfl ?_) | (with_reducible refine jH ?_; refine ja rfl rfl (jc rfl rfl) ?_) | (with_reducible refine jI ?_; refine ja rfl rfl (je rfl rfl) ?_) | (with_reducible refine jJ ?_; refine ja rfl rfl (jd rfl rfl rfl rfl rfl) ?_) | (with_reducible refine jK ?_; refine ja rfl rfl (jf rfl rfl rfl rfl) ?_) | (with_reducible refine jL ?_; first | refine ja rfl rfl (jy rfl rfl rfl rfl rfl rfl) ?_ | refine ja rfl rfl (jz rfl rfl rfl rfl rfl rfl) ?_) | (with_reducible refine jM ?_; refine ja rfl rfl (jg rfl rfl u24 rfl) ?_)); refine jb (by first | (simp only [setAt]; rfl) | rfl) ?_)))
 have hc := (outB (shaU s) 1).toNat_lt
 refine EndQ.ret (r := i64 (partU s)) ?_ ⟨_, rfl, rfl, rfl, rfl⟩
 rw [wrap_sm (by omega) (by omega)]
 show some (AV.v (.int .i64 ((((outB (shaU s) 1).toNat : Nat) : Int).tmod 8))) = _
 rw [show (((outB (shaU s) 1).toNat : Nat) : Int).tmod 8 = ((((outB (shaU s) 1).toNat % 8 : Nat)) : Int) from (Int.ofNat_tmod _ 8).symm]; rfl
end Go.Proofs
end
section
namespace Go.Proofs
open Go.Tm Go.Proofs.RsPlain
set_option maxRecDepth 100000
theorem rot_run2 (A : Ar) (x : Nat) (H : List AB) : callF (Kv A) 100 39 [cellU x, i64 2] H = some (cellU (rotR A x 2 30), H) := by kernel_rfl
theorem rot_run6 (A : Ar) (x : Nat) (H : List AB) : callF (Kv A) 100 39 [cellU x, i64 6] H = some (cellU (rotR A x 6 26), H) := by kernel_rfl
theorem rot_run11 (A : Ar) (x : Nat) (H : List AB) : callF (Kv A) 100 39 [cellU x, i64 11] H = some (cellU (rotR A x 11 21), H) := by kernel_rfl
theorem rot_run13 (A : Ar) (x : Nat) (H : List AB) : callF (Kv A) 100 39 [cellU x, i64 13] H = some (cellU (rotR A x 13 19), H) := by kernel_rfl
theorem rot_run22 (A : Ar) (x : Nat) (H : List AB) : callF (Kv A) 100 39 [cellU x, i64 22] H = some (cellU (rotR A x 22 10), H) := by kernel_rfl
theorem rot_run25 (A : Ar) (x : Nat) (H : List AB) : callF (Kv A) 100 39 [cellU x, i64 25] H = some (cellU (rotR A x 25 7), H) := by kernel_rfl
theorem kv_real : Kv Ar.real = Kz := rfl
theorem rot_tells {x n m : Nat} (h : ∀ H, callF (Kv Ar.real) 100 39 [cellU x, i64 n] H = some (cellU (rotR Ar.real x n m), H)) (H : List AB) : Tells Kz 39 [cellU x, i64 n] H fun r H' => r = cellU (rotR Ar.real x n m) ∧ H' = H := Tells.run (n := 100) rfl rfl (h H) ⟨rfl, rfl⟩
theorem words_tells (s : List UInt8) (h : s.length = 64) (H : List AB) : Tells Kz 38 [.str s] H fun r H' => r = .agg ((wordsR Ar.real s).map cellU) ∧ H' = H := by
 rw [list64_eq h]
 exact Tells.run (n := 1000) rfl rfl (words_run Ar.real _ H) ⟨rfl, rfl⟩
theorem table_run (H : List AB) : callF Kz 100 36 [] H = some (.agg (shaK.map cellU), H) := by kernel_rfl
section
variable {f : FuncId} {o : Oper} {R : List AV} {own : Nat → Nat} {H : List AB}
theorem op_u32 {op : BinOp} {g : Nat → Nat → Nat} {t yt : TypeId} {x y : Operand} {a b : Nat} (hg : arOp op Ar.real = some g) (ho : o.op = .binOp op t x y yt) (hx : evalO Kz R x = some (cellU a)) (hy : evalO Kz R y = some (cellU b)) : aOp Kz f ⟨R, own, H⟩ o [] = some (.val (cellU (g a b)) own H, [], []) :=
 jd (r := .int .u32 (.ofNat (g a b))) ho hx hy (by rw [guard_int]; exact (intOp_ok (.inl rfl) (arOp_ok hg rfl)).1) rfl
theorem op_notU {t : TypeId} {x : Operand} {a : Nat} (ho : o.op = .unOp .xor t x) (hx : evalO Kz R x = some (cellU a)) : aOp Kz f ⟨R, own, H⟩ o [] = some (.val (cellU (Ar.real.not a)) own H, [], []) := by
 have h : aUnOp Kz .xor (cellU a) = some (cellU (Ar.real.not a)) := unReal (K := Kz) .u32 rfl a
 simp only [aOp, ho, hx, aKeep, h]; rfl
end
theorem ld62 (l : List Nat) (i : Nat) (h : i < l.length) : takeVar Kz.P 62 ((l.map cellU).drop (0 + i * (0 + 1))) = some (cellU (l.getD i 0)) := by
 have hlt : i < (l.map cellU).length := by rw [List.length_map]; exact h
 rw [Nat.zero_add, Nat.zero_add, Nat.mul_one, List.drop_eq_getElem_cons hlt, List.getElem_map, List.getD_eq_getElem?_getD, List.getElem?_eq_getElem h]
 exact take_one ag62 sz62
theorem u63 : Kz.P.underlying 63 = some (.array 8 62) := Tryd.underlying63
theorem u70 : Kz.P.underlying 70 = some (.array 64 62) := Tryd.underlying70
end Go.Proofs
end
