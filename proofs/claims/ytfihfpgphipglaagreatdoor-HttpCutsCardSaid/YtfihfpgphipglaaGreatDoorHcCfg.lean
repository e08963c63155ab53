/- The http's program: what is told of Go's library by the shelf's contracts, and of Decode and Encode by their walks; and why it may be. -/
import Derived.Test.YtfihfpgphipglaaGreatDoorHcBase
import Derived.Test.YtfihfpgphipglaaGreatDoorTmTold
import Derived.Test.YtfihfpgphipglaaGreatDoorTmDrawnX
import Derived.Test.YtfihfpgphipglaaGreatDoorHcLay
import Derived.Lib.AtoiErrMem
set_option linter.unusedVariables false
set_option linter.unusedSimpArgs false
set_option linter.unusedSectionVars false
namespace Go.Proofs
open Go.Tm Go.RowKit
set_option maxRecDepth 100000
def toldDec : List AV → Option AV
 | [.str s] => if s.length < 4294967281 then some (decV s) else none
 | _ => none
noncomputable def Kq (x : Value) : Cfg := { Kp x with
 chg := fun f d => if f == 27 then (d == 89 || d == 117) else (Kp x).chg f d
 libv := fun f => if f == 16 then some toldDec else if f == 31 then some toldCut else if f == 25 then some toldIndex else if f == 28 then some toldPrefix else if f == 47 then some toldSplit
  else if f == 63 then some toldLower else if f == 64 then some toldTrim else if f == 50 then some toldAtoi else (Kp x).libv f }
theorem kq_of {x : Value} {f : FuncId} {args : List AV} {H H' : List AB} {r : AV} (h : CallOk (Kp x) f args H r H') : CallOk (Kq x) f args H r H' := fun g w rargs hg hs hv => h g w rargs ⟨hg.1, hg.2, hg.3⟩ hs hv
theorem callOk_of_tells {K : Cfg} (hk : CfgOk K) {f : FuncId} {args : List AV} {H : List AB} {Q : AV → List AB → Prop} (h : Tells K f args H Q) : ∃ r H', CallOk K f args H r H' ∧ Q r H' := by
 obtain ⟨⟨r, H'⟩, N, h1, h2⟩ := h
 exact ⟨r, H', call_ok hk N f args H [] [] r H' ⟨[], h1 N (Nat.le_refl _), by simp⟩, h2⟩
theorem dec_told {x : Value} {args : List AV} {H : List AB} {r : AV} (h : toldDec args = some r) : CallOk (Kq x) 16 args H r H := by
 unfold toldDec at h
 split at h
 ·split at h
  ·rename_i s hlt
   cases h
   obtain ⟨r, H', h1, rfl, rfl⟩ := callOk_of_tells (kp_ok x) (dec_tells s hlt H)
   exact kq_of h1
  ·cases h
 ·cases h
theorem kq_libv (x : Value) : ∀ (f : FuncId) (h : List AV → Option AV) (args : List AV) (H : List AB) (r : AV), (Kq x).libv f = some h → h args = some r → CallOk (Kq x) f args H r H := fun f h args H r hl hr => by
 have hl' : (if f == 16 then some toldDec else if f == 31 then some toldCut else if f == 25 then some toldIndex else if f == 28 then some toldPrefix else if f == 47 then some toldSplit
  else if f == 63 then some toldLower else if f == 64 then some toldTrim else if f == 50 then some toldAtoi else (Kp x).libv f) = some h := hl
 clear hl
 have h0 : (0 : Nat) ∈ (Kq x).ints := by show 0 ∈ [0]; simp
 split at hl'
 ·rename_i e; obtain rfl : f = 16 := by simpa using e
  cases hl'; exact dec_told hr
 split at hl'
 ·rename_i e; obtain rfl : f = 31 := by simpa using e
  cases hl'
  exact cut_told (K := Kq x) rfl (enters_of Tryz.func31 (by kernel_rfl) rfl) h0 (fun s t m w h1 h2 => Tryz.strings_Cut s t m w h1 h2) hr
 split at hl'
 ·rename_i e; obtain rfl : f = 25 := by simpa using e
  cases hl'
  exact index_told (K := Kq x) h0 (enters_of Tryz.func25 (by kernel_rfl) rfl) (fun s t m w h1 h2 => Tryz.strings_Index s t m w h1 h2) hr
 split at hl'
 ·rename_i e; obtain rfl : f = 28 := by simpa using e
  cases hl'
  exact prefix_told (K := Kq x) rfl (enters_of Tryz.func28 (by kernel_rfl) rfl) (fun s t w => Tryz.strings_HasPrefix s t w) hr
 split at hl'
 ·rename_i e; obtain rfl : f = 47 := by simpa using e
  cases hl'
  exact split_told (K := Kq x) (enters_of Tryz.func47 (by kernel_rfl) rfl) h0 (fun s t m w h1 h2 h3 => Tryz.strings_Split s t m w h1 h2 h3) hr
 split at hl'
 ·rename_i e; obtain rfl : f = 63 := by simpa using e
  cases hl'
  exact lower_told (K := Kq x) rfl (enters_of Tryz.func63 (by kernel_rfl) rfl) (fun s w h1 h2 => Tryz.strings_ToLower_ascii s w h1 h2) hr
 split at hl'
 ·rename_i e; obtain rfl : f = 64 := by simpa using e
  cases hl'
  exact trim_told (K := Kq x) rfl (enters_of Tryz.func64 (by kernel_rfl) rfl) (fun s t w h1 h2 h3 => Any.strings_Trim_laid Tryz.lays160 (by kernel_rfl) s t w h1 h2 h3) hr
 split at hl'
 ·rename_i e; obtain rfl : f = 50 := by simpa using e
  cases hl'
  refine atoi_told (K := Kq x) rfl (enters_of Tryz.func50 (by kernel_rfl) rfl) (fun s w v h1 h2 => (Tryz.strconv_Atoi_ok s h1 v h2 w).mono fun e w' ⟨he, hw⟩ => ⟨he, ?_⟩) hr
  rcases hw with rfl | ⟨t, rfl⟩
  ·exact Below.refl _ _
  ·exact Lib.bytesWorld_below w 5 t
 exact kq_of (kp_libv x f h args H r hl' hr)
theorem kq_ok (x : Value) : CfgOk (Kq x) where
 mixed := by kernel_rfl
 names := http_names_ok
 lib := fun f h args H r H' hl hr => kq_of (kp_ok x |>.lib f h args H r H' hl hr)
 libv := kq_libv x
theorem kq_glob {W : World} {x : Value} (h : Glob (Kp x) (gAll W)) : Glob (Kq x) (gAll W) := ⟨h.1, h.2, h.3⟩
end Go.Proofs
