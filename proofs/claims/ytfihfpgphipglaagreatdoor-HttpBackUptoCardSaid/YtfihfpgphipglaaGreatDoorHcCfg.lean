/- The http's program: what is told of Go's library by the shelf's contracts, and of Decode and Encode by their walks; and why it may be. -/
import Derived.Test.YtfihfpgphipglaaGreatDoorHcEnc
import Derived.Test.YtfihfpgphipglaaGreatDoorTmTold
import Derived.Test.YtfihfpgphipglaaGreatDoorTmRowB
import Derived.Test.YtfihfpgphipglaaGreatDoorTmDrawnX
import Derived.Test.YtfihfpgphipglaaGreatDoorHcLay
import Derived.Test.YtfihfpgphipglaaGreatDoorHcLay2
import Derived.Lib.AtoiErrMem
set_option linter.unusedVariables false
set_option linter.unusedSimpArgs false
set_option linter.unusedSectionVars false
namespace Go.Tm
open Go.RowKit Go.Sort
section
variable {K : Cfg} {f : FuncId} {H : List AB}
def toldLen64 : List AV → Option AV
 | [.v (.int .u64 z)] => if 0 ≤ z ∧ z ≤ 18446744073709551615 then some (.v (.int .i64 (Lib.bitLen z.toNat))) else none
 | _ => none
def toldL10 : List AV → Option AV
 | [.v (.int .i64 z)] => if 0 ≤ z ∧ z ≤ 64 then some (.v (.int .i64 (Lib.l10 z.toNat))) else none
 | _ => none
def toldSmall : List AV → Option AV
 | [.v (.int .i64 z)] => if 0 ≤ z ∧ z < 100 then some (.str (Lib.decDigits z.toNat)) else none
 | _ => none
def digs10 (n u : Nat) : List UInt8 := (List.range n).map fun t => Lib.dg u (n - 1 - t)
def allZero : List AV → Bool
 | [] => true
 | .v (.int .u8 z) :: r => decide (z = 0) && allZero r
 | _ :: _ => false
def toldFmt : List AV → List AB → Option (AV × List AB)
 | [.ms b off len 1, .v (.int .u64 z)], H => match nth H b with
  | some (.cells tt cs) => if 0 ≤ z ∧ z.toNat < 10 ^ len ∧ z ≤ 18446744073709551615 ∧ len ≤ 20 ∧ off + len ≤ cs.length ∧ allZero ((cs.drop off).take len) = true then
    some (.tup [], setAt H b (.cells tt (putAll cs off ((digs10 len z.toNat).map u8v)))) else none
  | _ => none
 | _, _ => none
theorem allZero_at : ∀ {l : List AV}, allZero l = true → ∀ (j : Nat), j < l.length → l[j]? = some (u8v 0)
 | [], _, j, h => by simp at h
 | x :: r, h, j, hj => by
  unfold allZero at h
  split at h
  ·rename_i e; cases e
  ·rename_i z r' e
   cases e
   rw [Bool.and_eq_true, decide_eq_true_eq] at h
   obtain ⟨rfl, h⟩ := h
   cases j with
   | zero => rfl
   | succ j => simpa using allZero_at h j (by simpa using hj)
  ·cases h
section
variable (hdr : K.dr = false) (henter : ∀ (args : Array Value) (w : World), (callFunc f args).run K.P w = .ok (.enter f args) w)
include hdr henter
theorem len64_told (hcall : ∀ (x : Int) (w : World), 0 ≤ x → x ≤ 18446744073709551615 → Calls K.P f #[.int .u64 x] w fun e w' => e = .returned (.int .i64 (Lib.bitLen x.toNat)) ∧ w' = w)
  {args : List AV} {r : AV} (h : toldLen64 args = some r) : CallOk K f args H r H := by
 unfold toldLen64 at h
 split at h
 ·split at h
  ·rename_i z hz
   cases h
   refine callOk_below hdr henter fun g w rargs hg hs hv => ?_
   obtain ⟨v, rfl, hx⟩ := one_arg hv
   obtain ⟨rfl, _⟩ := vr_v hx
   exact ⟨_, .v rfl, (hcall z w hz.1 hz.2).mono fun e w' ⟨he, hw⟩ => ⟨he, hw ▸ Below.refl _ _⟩⟩
  ·cases h
 ·cases h
theorem l10_told (hcall : ∀ (x : Nat) (w : World), x ≤ 64 → Calls K.P f #[.int .i64 x] w fun e w' => e = .returned (.int .i64 (Lib.l10 x)) ∧ w' = w)
  {args : List AV} {r : AV} (h : toldL10 args = some r) : CallOk K f args H r H := by
 unfold toldL10 at h
 split at h
 ·split at h
  ·rename_i z hz
   cases h
   refine callOk_below hdr henter fun g w rargs hg hs hv => ?_
   obtain ⟨v, rfl, hx⟩ := one_arg hv
   obtain ⟨rfl, _⟩ := vr_v hx
   obtain ⟨n, rfl⟩ : ∃ n : Nat, z = n := ⟨z.toNat, by omega⟩
   exact ⟨_, .v rfl, (hcall n w (by omega)).mono fun e w' ⟨he, hw⟩ => ⟨he, hw ▸ Below.refl _ _⟩⟩
  ·cases h
 ·cases h
theorem small_told (hcall : ∀ (x : Nat) (w : World), x < 100 → Calls K.P f #[.int .i64 x] w fun e w' => e = .returned (.string ⟨(Lib.decDigits x).toArray⟩) ∧ w' = w)
  {args : List AV} {r : AV} (h : toldSmall args = some r) : CallOk K f args H r H := by
 unfold toldSmall at h
 split at h
 ·split at h
  ·rename_i z hz
   cases h
   refine callOk_below hdr henter fun g w rargs hg hs hv => ?_
   obtain ⟨v, rfl, hx⟩ := one_arg hv
   obtain ⟨rfl, _⟩ := vr_v hx
   obtain ⟨n, rfl⟩ : ∃ n : Nat, z = n := ⟨z.toNat, by omega⟩
   exact ⟨_, .str, (hcall n w (by omega)).mono fun e w' ⟨he, hw⟩ => ⟨he, hw ▸ Below.refl _ _⟩⟩
  ·cases h
 ·cases h
theorem fmt_told (hcall : ∀ (blk off cap u : Nat) (d : Array UInt8) (w : World), Holds (fun (b : UInt8) => Value.int .u8 (b.toNat : Int)) w blk off d → u < 10 ^ d.size → u < 18446744073709551616 → d.size < 4611686018427387904 →
   Calls K.P f #[.slice (some ⟨blk, off, none⟩) d.size cap, .int .u64 u] w fun e w' => e = .returned (.tuple #[]) ∧ ∃ (n v' : Nat) (dk : Array UInt8), w' = (putRow (fun (b : UInt8) => Value.int .u8 (b.toNat : Int)) w blk off dk).drewN n ∧ Lib.FmtInv d.size u 0 v' dk)
  {args : List AV} {r : AV} {H' : List AB} (h : toldFmt args H = some (r, H')) : CallOk K f args H r H' := by
 intro g w rargs hg hs hv
 unfold toldFmt at h
 split at h
 ·split at h
  ·split at h
   ·rename_i b off len z H tt cs hb hc
    cases h
    obtain ⟨h0, hlt, h64, h20, hle, hz⟩ := hc
    obtain ⟨v, u, rfl, hx, hy⟩ := two_args hv
    obtain ⟨rfl, _⟩ := vr_v hy
    rw [nth_eq] at hb
    cases hx with
    | @ms _ _ _ _ rb cap hr hn =>
     obtain ⟨n, rfl⟩ : ∃ n : Nat, z = n := ⟨z.toNat, by omega⟩
     rw [Int.toNat_natCast] at hlt
     have hget : ∀ (j : Nat) (h : j < (List.replicate len (0 : UInt8)).length), cs[off + j]? = some (u8v (List.replicate len (0 : UInt8))[j]) := fun j hj => by
      have hj' : j < len := by simpa using hj
      have := allZero_at hz j (by simp only [List.length_take, List.length_drop]; omega)
      rw [List.getElem?_take, if_pos hj', List.getElem?_drop] at this
      rw [this, List.getElem_replicate]
     obtain ⟨hH, _⟩ := hs.holdsB hb hr (List.replicate len (0 : UInt8)) (by simpa using hle) hget
     have hsz : (List.replicate len (0 : UInt8)).toArray.size = len := by simp
     have hc := hcall rb off cap n _ w hH (by rw [hsz]; exact hlt) (by omega) (by rw [hsz]; omega)
     rw [hsz] at hc
     refine .inl ⟨henter _ w, hc.mono fun e w' ⟨he, k, v', dk, hw, hinv⟩ => ?_⟩
     subst he hw
     have hdk : dk = (digs10 len n).toArray := by
      apply Array.ext
      ·rw [hinv.size]; simp [digs10]
      ·intro i h1 h2
       have := hinv.done i (by omega) (by rw [← hinv.size]; exact h1)
       rw [getElem!_pos dk i h1] at this
       rw [this]
       simp [digs10]
     have hs2 := hs.rowedB hb hr (digs10 len n) (by simpa [digs10] using hle)
     rw [← hdk] at hs2
     exact ⟨g, hs2.grow (below_drewN _ k) (fun q => by have := hg.dr q; rw [hdr] at this; cases this), .tup rfl (fun i x r hx _ => by simp at hx)⟩
   ·cases h
  ·cases h
 ·cases h
end
end
theorem Tells.lib {K : Cfg} {f : FuncId} {g : List AV → List AB → Option (AV × List AB)} {args : List AV} {H H' : List AB} {r : AV} {Q : AV → List AB → Prop} (h0 : K.libv f = none) (hf : K.lib f = some g) (hr : g args H = some (r, H')) (h : Q r H') : Tells K f args H Q := by
 refine ⟨(r, H'), 1, fun n hn => ?_, h⟩
 obtain ⟨n, rfl⟩ : ∃ j, n = j + 1 := ⟨n - 1, by omega⟩
 show aCallW K (aCall K n) (n + 1) f args H [] = _
 unfold aCallW
 simp only [h0, hf, hr]
 rfl
end Go.Tm
namespace Go.Proofs
open Go.Tm Go.RowKit
set_option maxRecDepth 100000
def toldDec : List AV → Option AV
 | [.str s] => if s.length < 4294967281 then some (decV s) else none
 | _ => none
def toldEnc : List AV → Option AV
 | [.str s] => if s.length < 4294967281 then some (.str (enc s)) else none
 | _ => none
noncomputable def Kq (x : Value) : Cfg := { Kp x with
 chg := fun f d => if f == 27 then (d == 89 || d == 117) else (Kp x).chg f d
 libv := fun f => if f == 16 then some toldDec else if f == 20 then some toldEnc else if f == 31 then some toldCut else if f == 25 then some toldIndex else if f == 28 then some toldPrefix else if f == 47 then some toldSplit
  else if f == 63 then some toldLower else if f == 64 then some toldTrim else if f == 50 then some toldAtoi else if f == 95 then some toldLen64 else if f == 94 then some toldL10 else if f == 74 then some toldSmall else (Kp x).libv f
 lib := fun f => if f == 76 then some toldFmt else (Kp x).lib f }
theorem kq_of {x : Value} {f : FuncId} {args : List AV} {H H' : List AB} {r : AV} (h : CallOk (Kp x) f args H r H') : CallOk (Kq x) f args H r H' := fun g w rargs hg hs hv => h g w rargs ⟨hg.1, hg.2, hg.3⟩ hs hv
theorem callOk_of_tells {K : Cfg} (hk : CfgOk K) {f : FuncId} {args : List AV} {H : List AB} {Q : AV → List AB → Prop} (h : Tells K f args H Q) : ∃ r H', CallOk K f args H r H' ∧ Q r H' := by
 obtain ⟨⟨r, H'⟩, N, h1, h2⟩ := h
 exact ⟨r, H', call_ok hk N f args H [] [] r H' ⟨[], h1 N (Nat.le_refl _), by simp⟩, h2⟩
theorem dec_told {x : Value} {args : List AV} {H : List AB} {r : AV} (h : toldDec args = some r) : CallOk (Kq x) 16 args H r H := by
 unfold toldDec at h
 split at h
 ·split at h
  ·rename_i s hlt
   cases h
   obtain ⟨r, H', h1, rfl, rfl⟩ := callOk_of_tells (kp_ok x) (dec_tells s hlt H)
   exact kq_of h1
  ·cases h
 ·cases h
theorem enc_told {x : Value} {args : List AV} {H : List AB} {r : AV} (h : toldEnc args = some r) : CallOk (Kq x) 20 args H r H := by
 unfold toldEnc at h
 split at h
 ·split at h
  ·rename_i s hlt
   cases h
   obtain ⟨r, H', h1, rfl, rfl⟩ := callOk_of_tells (kp_ok x) (enc2_tells s hlt H)
   exact kq_of h1
  ·cases h
 ·cases h
theorem kq_libv (x : Value) : ∀ (f : FuncId) (h : List AV → Option AV) (args : List AV) (H : List AB) (r : AV), (Kq x).libv f = some h → h args = some r → CallOk (Kq x) f args H r H := fun f h args H r hl hr => by
 have h0 : (0 : Nat) ∈ (Kq x).ints := by show 0 ∈ [0]; simp
 by_cases e16 : f = 16
 ·subst e16
  obtain rfl : h = toldDec := (Option.some.inj hl).symm
  exact dec_told hr
 by_cases e20 : f = 20
 ·subst e20
  obtain rfl : h = toldEnc := (Option.some.inj hl).symm
  exact enc_told hr
 by_cases e31 : f = 31
 ·subst e31
  obtain rfl : h = toldCut := (Option.some.inj hl).symm
  exact cut_told (K := Kq x) rfl (enters_of Tryz.func31 (by kernel_rfl) rfl) h0 (fun s t m w h1 h2 => Tryz.strings_Cut s t m w h1 h2) hr
 by_cases e25 : f = 25
 ·subst e25
  obtain rfl : h = toldIndex := (Option.some.inj hl).symm
  exact index_told (K := Kq x) h0 (enters_of Tryz.func25 (by kernel_rfl) rfl) (fun s t m w h1 h2 => Tryz.strings_Index s t m w h1 h2) hr
 by_cases e28 : f = 28
 ·subst e28
  obtain rfl : h = toldPrefix := (Option.some.inj hl).symm
  exact prefix_told (K := Kq x) rfl (enters_of Tryz.func28 (by kernel_rfl) rfl) (fun s t w => Tryz.strings_HasPrefix s t w) hr
 by_cases e47 : f = 47
 ·subst e47
  obtain rfl : h = toldSplit := (Option.some.inj hl).symm
  exact split_told (K := Kq x) (enters_of Tryz.func47 (by kernel_rfl) rfl) h0 (fun s t m w h1 h2 h3 => Tryz.strings_Split s t m w h1 h2 h3) hr
 by_cases e63 : f = 63
 ·subst e63
  obtain rfl : h = toldLower := (Option.some.inj hl).symm
  exact lower_told (K := Kq x) rfl (enters_of Tryz.func63 (by kernel_rfl) rfl) (fun s w h1 h2 => Tryz.strings_ToLower_ascii s w h1 h2) hr
 by_cases e64 : f = 64
 ·subst e64
  obtain rfl : h = toldTrim := (Option.some.inj hl).symm
  exact trim_told (K := Kq x) rfl (enters_of Tryz.func64 (by kernel_rfl) rfl) (fun s t w h1 h2 h3 => Any.strings_Trim_laid Tryz.lays160 (by kernel_rfl) s t w h1 h2 h3) hr
 by_cases e50 : f = 50
 ·subst e50
  obtain rfl : h = toldAtoi := (Option.some.inj hl).symm
  refine atoi_told (K := Kq x) rfl (enters_of Tryz.func50 (by kernel_rfl) rfl) (fun s w v h1 h2 => (Tryz.strconv_Atoi_ok s h1 v h2 w).mono fun e w' ⟨he, hw⟩ => ⟨he, ?_⟩) hr
  rcases hw with rfl | ⟨t, rfl⟩
  ·exact Below.refl _ _
  ·exact Lib.bytesWorld_below w 5 t
 by_cases e95 : f = 95
 ·subst e95
  obtain rfl : h = toldLen64 := (Option.some.inj hl).symm
  exact len64_told (K := Kq x) rfl (enters_of Tryz.func95 (by kernel_rfl) rfl) (fun z w h1 h2 => Tryz.bits_Len64 z w h1 h2) hr
 by_cases e94 : f = 94
 ·subst e94
  obtain rfl : h = toldL10 := (Option.some.inj hl).symm
  exact l10_told (K := Kq x) rfl (enters_of Tryz.func94 (by kernel_rfl) rfl) (fun z w h1 => Tryz.internal_strconv_log10Pow2 z h1 w) hr
 by_cases e74 : f = 74
 ·subst e74
  obtain rfl : h = toldSmall := (Option.some.inj hl).symm
  exact small_told (K := Kq x) rfl (enters_of Tryz.func74 (by kernel_rfl) rfl) (fun z w h1 => Tryz.internal_strconv_small z h1 w) hr
 have hl' : (Kp x).libv f = some h := by
  rw [← hl]
  show _ = if f == 16 then _ else _
  rw [if_neg (by simpa using e16)]
  rw [if_neg (by simpa using e20)]
  rw [if_neg (by simpa using e31)]
  rw [if_neg (by simpa using e25)]
  rw [if_neg (by simpa using e28)]
  rw [if_neg (by simpa using e47)]
  rw [if_neg (by simpa using e63)]
  rw [if_neg (by simpa using e64)]
  rw [if_neg (by simpa using e50)]
  rw [if_neg (by simpa using e95)]
  rw [if_neg (by simpa using e94)]
  rw [if_neg (by simpa using e74)]
 exact kq_of (kp_libv x f h args H r hl' hr)
theorem kq_lib (x : Value) : ∀ (f : FuncId) h args H r H', (Kq x).lib f = some h → h args H = some (r, H') → CallOk (Kq x) f args H r H' := fun f h args H r H' hl hr => by
 have hl' : (if f == 76 then some toldFmt else (Kp x).lib f) = some h := hl
 split at hl'
 ·rename_i e; obtain rfl : f = 76 := by simpa using e
  cases hl'
  exact fmt_told (K := Kq x) rfl (enters_of Tryz.func76 (by kernel_rfl) rfl) (fun blk off cap u d w h1 h2 h3 h4 => Tryz.internal_strconv_formatBase10 blk off cap u d w h1 h2 h3 h4) hr
 ·exact kq_of ((kp_ok x).lib f h args H r H' hl' hr)
theorem kq_ok (x : Value) : CfgOk (Kq x) where
 mixed := by kernel_rfl
 names := http_names_ok
 lib := kq_lib x
 libv := kq_libv x
theorem kq_glob {W : World} {x : Value} (h : Glob (Kp x) (gAll W)) : Glob (Kq x) (gAll W) := ⟨h.1, h.2, h.3⟩
end Go.Proofs
