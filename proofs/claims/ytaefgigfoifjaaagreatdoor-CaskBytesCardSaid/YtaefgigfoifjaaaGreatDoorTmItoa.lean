/- strconv.Itoa's parts, told: what they say; why they may be. -/
import Derived.Test.YtaefgigfoifjaaaGreatDoorTmTold
import Derived.Test.YtaefgigfoifjaaaGreatDoorTmRowB
import Derived.Lib.ItoaLen
set_option linter.unusedVariables false
set_option linter.unusedSimpArgs false
set_option linter.unusedSectionVars false
namespace Go.Tm
open Go.RowKit Go.Sort
section
variable {K : Cfg} {f : FuncId} {H : List AB}
def toldLen64 : List AV → Option AV
 | [.v (.int .u64 z)] => if 0 ≤ z ∧ z ≤ 18446744073709551615 then some (.v (.int .i64 (Lib.bitLen z.toNat))) else none
 | _ => none
def toldL10 : List AV → Option AV
 | [.v (.int .i64 z)] => if 0 ≤ z ∧ z ≤ 64 then some (.v (.int .i64 (Lib.l10 z.toNat))) else none
 | _ => none
def toldSmall : List AV → Option AV
 | [.v (.int .i64 z)] => if 0 ≤ z ∧ z < 100 then some (.str (Lib.decDigits z.toNat)) else none
 | _ => none
def digs10 (n u : Nat) : List UInt8 := (List.range n).map fun t => Lib.dg u (n - 1 - t)
def allZero : List AV → Bool
 | [] => true
 | .v (.int .u8 z) :: r => decide (z = 0) && allZero r
 | _ :: _ => false
def toldFmt : List AV → List AB → Option (AV × List AB)
 | [.ms b off len 1, .v (.int .u64 z)], H => match nth H b with
  | some (.cells tt cs) => if 0 ≤ z ∧ z.toNat < 10 ^ len ∧ z ≤ 18446744073709551615 ∧ len ≤ 20 ∧ off + len ≤ cs.length ∧ allZero ((cs.drop off).take len) = true then
    some (.tup [], setAt H b (.cells tt (putAll cs off ((digs10 len z.toNat).map u8v)))) else none
  | _ => none
 | _, _ => none
theorem allZero_at : ∀ {l : List AV}, allZero l = true → ∀ (j : Nat), j < l.length → l[j]? = some (u8v 0)
 | [], _, j, h => by simp at h
 | x :: r, h, j, hj => by
  unfold allZero at h
  split at h
  ·rename_i e; cases e
  ·rename_i z r' e
   cases e
   rw [Bool.and_eq_true, decide_eq_true_eq] at h
   obtain ⟨rfl, h⟩ := h
   cases j with
   | zero => rfl
   | succ j => simpa using allZero_at h j (by simpa using hj)
  ·cases h
section
variable (hdr : K.dr = false) (henter : ∀ (args : Array Value) (w : World), (callFunc f args).run K.P w = .ok (.enter f args) w)
include hdr henter
theorem len64_told (hcall : ∀ (x : Int) (w : World), 0 ≤ x → x ≤ 18446744073709551615 → Calls K.P f #[.int .u64 x] w fun e w' => e = .returned (.int .i64 (Lib.bitLen x.toNat)) ∧ w' = w)
  {args : List AV} {r : AV} (h : toldLen64 args = some r) : CallOk K f args H r H := by
 unfold toldLen64 at h
 split at h
 ·split at h
  ·rename_i z hz
   cases h
   refine callOk_below hdr henter fun g w rargs hg hs hv => ?_
   obtain ⟨v, rfl, hx⟩ := one_arg hv
   obtain ⟨rfl, _⟩ := vr_v hx
   exact ⟨_, .v rfl, (hcall z w hz.1 hz.2).mono fun e w' ⟨he, hw⟩ => ⟨he, hw ▸ Below.refl _ _⟩⟩
  ·cases h
 ·cases h
theorem l10_told (hcall : ∀ (x : Nat) (w : World), x ≤ 64 → Calls K.P f #[.int .i64 x] w fun e w' => e = .returned (.int .i64 (Lib.l10 x)) ∧ w' = w)
  {args : List AV} {r : AV} (h : toldL10 args = some r) : CallOk K f args H r H := by
 unfold toldL10 at h
 split at h
 ·split at h
  ·rename_i z hz
   cases h
   refine callOk_below hdr henter fun g w rargs hg hs hv => ?_
   obtain ⟨v, rfl, hx⟩ := one_arg hv
   obtain ⟨rfl, _⟩ := vr_v hx
   obtain ⟨n, rfl⟩ : ∃ n : Nat, z = n := ⟨z.toNat, by omega⟩
   exact ⟨_, .v rfl, (hcall n w (by omega)).mono fun e w' ⟨he, hw⟩ => ⟨he, hw ▸ Below.refl _ _⟩⟩
  ·cases h
 ·cases h
theorem small_told (hcall : ∀ (x : Nat) (w : World), x < 100 → Calls K.P f #[.int .i64 x] w fun e w' => e = .returned (.string ⟨(Lib.decDigits x).toArray⟩) ∧ w' = w)
  {args : List AV} {r : AV} (h : toldSmall args = some r) : CallOk K f args H r H := by
 unfold toldSmall at h
 split at h
 ·split at h
  ·rename_i z hz
   cases h
   refine callOk_below hdr henter fun g w rargs hg hs hv => ?_
   obtain ⟨v, rfl, hx⟩ := one_arg hv
   obtain ⟨rfl, _⟩ := vr_v hx
   obtain ⟨n, rfl⟩ : ∃ n : Nat, z = n := ⟨z.toNat, by omega⟩
   exact ⟨_, .str, (hcall n w (by omega)).mono fun e w' ⟨he, hw⟩ => ⟨he, hw ▸ Below.refl _ _⟩⟩
  ·cases h
 ·cases h
theorem fmt_told (hcall : ∀ (blk off cap u : Nat) (d : Array UInt8) (w : World), Holds (fun (b : UInt8) => Value.int .u8 (b.toNat : Int)) w blk off d → u < 10 ^ d.size → u < 18446744073709551616 → d.size < 4611686018427387904 →
   Calls K.P f #[.slice (some ⟨blk, off, none⟩) d.size cap, .int .u64 u] w fun e w' => e = .returned (.tuple #[]) ∧ ∃ (n v' : Nat) (dk : Array UInt8), w' = (putRow (fun (b : UInt8) => Value.int .u8 (b.toNat : Int)) w blk off dk).drewN n ∧ Lib.FmtInv d.size u 0 v' dk)
  {args : List AV} {r : AV} {H' : List AB} (h : toldFmt args H = some (r, H')) : CallOk K f args H r H' := by
 intro g w rargs hg hs hv
 unfold toldFmt at h
 split at h
 ·split at h
  ·split at h
   ·rename_i b off len z H tt cs hb hc
    cases h
    obtain ⟨h0, hlt, h64, h20, hle, hz⟩ := hc
    obtain ⟨v, u, rfl, hx, hy⟩ := two_args hv
    obtain ⟨rfl, _⟩ := vr_v hy
    rw [nth_eq] at hb
    cases hx with
    | @ms _ _ _ _ rb cap hr hn =>
     obtain ⟨n, rfl⟩ : ∃ n : Nat, z = n := ⟨z.toNat, by omega⟩
     rw [Int.toNat_natCast] at hlt
     have hget : ∀ (j : Nat) (h : j < (List.replicate len (0 : UInt8)).length), cs[off + j]? = some (u8v (List.replicate len (0 : UInt8))[j]) := fun j hj => by
      have hj' : j < len := by simpa using hj
      have := allZero_at hz j (by simp only [List.length_take, List.length_drop]; omega)
      rw [List.getElem?_take, if_pos hj', List.getElem?_drop] at this
      rw [this, List.getElem_replicate]
     obtain ⟨hH, _⟩ := hs.holdsB hb hr (List.replicate len (0 : UInt8)) (by simpa using hle) hget
     have hsz : (List.replicate len (0 : UInt8)).toArray.size = len := by simp
     have hc := hcall rb off cap n _ w hH (by rw [hsz]; exact hlt) (by omega) (by rw [hsz]; omega)
     rw [hsz] at hc
     refine .inl ⟨henter _ w, hc.mono fun e w' ⟨he, k, v', dk, hw, hinv⟩ => ?_⟩
     subst he hw
     have hdk : dk = (digs10 len n).toArray := by
      apply Array.ext
      ·rw [hinv.size]; simp [digs10]
      ·intro i h1 h2
       have := hinv.done i (by omega) (by rw [← hinv.size]; exact h1)
       rw [getElem!_pos dk i h1] at this
       rw [this]
       simp [digs10]
     have hs2 := hs.rowedB hb hr (digs10 len n) (by simpa [digs10] using hle)
     rw [← hdk] at hs2
     exact ⟨g, hs2.grow (below_drewN _ k) (fun q => by have := hg.dr q; rw [hdr] at this; cases this), .tup rfl (fun i x r hx _ => by simp at hx)⟩
   ·cases h
  ·cases h
 ·cases h
end
end
theorem Tells.lib {K : Cfg} {f : FuncId} {g : List AV → List AB → Option (AV × List AB)} {args : List AV} {H H' : List AB} {r : AV} {Q : AV → List AB → Prop} (h0 : K.libv f = none) (hf : K.lib f = some g) (hr : g args H = some (r, H')) (h : Q r H') : Tells K f args H Q := by
 refine ⟨(r, H'), 1, fun n hn => ?_, h⟩
 obtain ⟨n, rfl⟩ : ∃ j, n = j + 1 := ⟨n - 1, by omega⟩
 show aCallW K (aCall K n) (n + 1) f args H [] = _
 unfold aCallW
 simp only [h0, hf, hr]
 rfl
end Go.Tm
namespace Go.Tm
theorem op_indexAddr_rp {K : Cfg} (hs : K.sym = false) {f : FuncId} {o : Oper} {R : List AV} {own : Nat → Nat} {H : List AB} {t e : TypeId} {x i : Operand} {cs : List AV} {len sz j : Nat} {k : IntKind} {n : Int} (ho : o.op = .indexAddr t x i) (hu : K.P.underlying t = some (.array len e)) (hz : tSize K.P e = some (sz + 1)) (hx : evalO K R x = some (.rp cs)) (hi : evalO K R i = some (.v (.int k n))) (hn : n = (j : Int)) (hj : j < len) : aOp K f ⟨R, own, H⟩ o [] = some (.val (.rp (cs.drop (j * (sz + 1)))) own H, [], []) := by
 subst hn
 simp only [aOp, ho, hx, hi, aKeepE, aIndexAddr, asI, hu, hz, hs]
 refine (E.bind_nil (a := AV.rp (cs.drop (j * (sz + 1)))) ?_).trans rfl
 rw [decide_eq_true (show 0 ≤ (j : Int) ∧ (j : Int) < (len : Int) by omega)]
 refine (E.bind_nil (a := ()) rfl).trans ?_
 rw [Int.toNat_natCast]; rfl
theorem op_slice_arr {K : Cfg} (hs : K.sym = false) {f : FuncId} {o : Oper} {R : List AV} {own : Nat → Nat} {H : List AB} {t e : TypeId} {x l h : Operand} {b n a c : Nat} {tt : TypeId × Bool} {cs : List AV} {k k' : IntKind} {p q : Int} (ho : o.op = .slice t x (some l) (some h) none) (hu : K.P.underlying t = some (.array n e)) (hz : tSize K.P e = some 1) (hx : evalO K R x = some (.ptr b 0)) (hb : nth H b = some (.cells tt cs)) (hcs : n ≤ cs.length) (hl : evalO K R l = some (.v (.int k p))) (hh : evalO K R h = some (.v (.int k' q))) (hp : p = (a : Int)) (hq : q = (c : Int)) (hac : a ≤ c) (hcn : c ≤ n) (han : a < n) : aOp K f ⟨R, own, H⟩ o [] = some (.val (.ms b a (c - a) 1) own H, [], []) := by
 subst hp hq
 simp only [aOp, ho, hx, hl, hh, Option.elim, Option.map]
 have hbd : aBounds K n (some (.v (.int k (a : Int)))) (some (.v (.int k' (c : Int)))) none [] = some ((a, c, none), [], []) := by
  simp only [aBounds, optI, asI, Option.map, hs]
  refine (E.bind_nil (a := ()) (by
   show E.chk false (decide (0 ≤ (a : Int) ∧ (a : Int) ≤ (c : Int) ∧ (c : Int) ≤ (n : Int) ∧ (n : Int) ≤ (n : Int))) [] = _
   rw [decide_eq_true (by omega)]; rfl)).trans ?_
  simp; rfl
 have hsl : aSlice K H t (.ptr b 0) (some (.v (.int k (a : Int)))) (some (.v (.int k' (c : Int)))) none [] = some (.ms b a (c - a) 1, [], []) := by
  simp only [aSlice, hu, hz, hs, hb]
  refine (E.bind_nil (a := ()) (by rw [decide_eq_true (by omega)]; rfl)).trans ?_
  refine (E.bind_nil hbd).trans ?_
  simp only [Option.getD_none]
  rw [if_neg (by omega)]
  simp only [Nat.zero_add, Nat.mul_one]
  rfl
 exact (E.bind_nil hsl).trans rfl
theorem op_conv_ms {K : Cfg} {f : FuncId} {o : Oper} {R : List AV} {own : Nat → Nat} {H : List AB} {s d e : TypeId} {x : Operand} {b off len : Nat} {tt : TypeId × Bool} {cs : List AV} {bs : List UInt8} (ho : o.op = .convert s d x) (h1 : K.P.underlying s = some (.slice e)) (h2 : K.P.underlying d = some .string) (h3 : K.P.underlying e = some (.int .u8)) (hx : evalO K R x = some (.ms b off len 1)) (hb : nth H b = some (.cells tt cs)) (hle : off + len ≤ cs.length) (hbs : (cs.drop off).take len = bs.map u8v) : aOp K f ⟨R, own, H⟩ o [] = some (.val (.str bs) own H, [], []) := by
 have hm : ∀ l : List UInt8, mapO (fun y => match y with | AV.v (.int .u8 n) => some (UInt8.ofNat n.toNat) | _ => none) (l.map u8v) = some l := by
  intro l
  induction l with
  | nil => rfl
  | cons b r ih =>
   simp only [List.map_cons, mapO]
   rw [ih]
   show some (UInt8.ofNat (Int.toNat (b.toNat : Int)) :: r) = _
   rw [Int.toNat_natCast, UInt8.ofNat_toNat]
 have e1 : aUnsafe K H s d (.ms b off len 1) = none := by simp only [aUnsafe, h1, h2]
 have e2 : aConvertM K H s d (.ms b off len 1) = some (.str bs) := by
  simp only [aConvertM, h1, h2, h3, hb]
  rw [if_pos hle, hbs]
  exact congrArg (Option.map AV.str) (hm bs)
 simp only [aOp, ho, hx, aKeep, e1, e2]
 rfl
end Go.Tm
