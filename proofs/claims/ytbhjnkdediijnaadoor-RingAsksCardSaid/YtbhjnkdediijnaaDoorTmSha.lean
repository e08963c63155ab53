/- The tree machine: sha-256's feed of one block, as plain numbers. -/
import Derived.Test.YtbhjnkdediijnaaDoorTmFrame
set_option linter.unusedVariables false
set_option linter.unusedSimpArgs false
set_option linter.unusedSectionVars false
namespace Go.Tm
def shaK : List Nat := [1116352408, 1899447441, 3049323471, 3921009573, 961987163, 1508970993, 2453635748, 2870763221, 3624381080, 310598401, 607225278, 1426881987, 1925078388, 2162078206, 2614888103, 3248222580, 3835390401, 4022224774, 264347078, 604807628, 770255983, 1249150122, 1555081692, 1996064986, 2554220882, 2821834349, 2952996808, 3210313671, 3336571891, 3584528711, 113926993, 338241895, 666307205, 773529912, 1294757372, 1396182291, 1695183700, 1986661051, 2177026350, 2456956037, 2730485921, 2820302411, 3259730800, 3345764771, 3516065817, 3600352804, 4094571909, 275423344, 430227734, 506948616, 659060556, 883997877, 958139571, 1322822218, 1537002063, 1747873779, 1955562222, 2024104815, 2227730452, 2361852424, 2428436474, 2756734187, 3204031479, 3329325298]
def list64 (f : Nat → UInt8) : List UInt8 := [f 0, f 1, f 2, f 3, f 4, f 5, f 6, f 7, f 8, f 9, f 10, f 11, f 12, f 13, f 14, f 15, f 16, f 17, f 18, f 19, f 20, f 21, f 22, f 23, f 24, f 25, f 26, f 27, f 28, f 29, f 30, f 31, f 32, f 33, f 34, f 35, f 36, f 37, f 38, f 39, f 40, f 41, f 42, f 43, f 44, f 45, f 46, f 47, f 48, f 49, f 50, f 51, f 52, f 53, f 54, f 55, f 56, f 57, f 58, f 59, f 60, f 61, f 62, f 63]

section
variable (A : Ar)
def rotU (x n m : Nat) : Nat := A.or (A.shl x m) (A.shr x n)
def byU (b : UInt8) : Nat := A.cv b.toNat
def wordU (a b c d : UInt8) : Nat := A.or (A.or (A.or (A.shl (byU A a) 24) (A.shl (byU A b) 16)) (A.shl (byU A c) 8)) (byU A d)
def wordsU : List UInt8 → List Nat → List Nat
 | a :: b :: c :: d :: r, acc => wordsU r (wordU A a b c d :: acc)
 | _, acc => acc
def nthN : List Nat → Nat → Nat
 | [], _ => 0
 | x :: _, 0 => x
 | _ :: r, n + 1 => nthN r n
def revN : List Nat → List Nat → List Nat
 | [], acc => acc
 | x :: r, acc => revN r (x :: acc)
def nextU (l : List Nat) : Nat :=
 A.add (A.add (A.add (nthN l 15) (nthN l 6)) (A.xor (A.xor (rotU A (nthN l 14) 7 25) (rotU A (nthN l 14) 18 14)) (A.shr (nthN l 14) 3))) (A.xor (A.xor (rotU A (nthN l 1) 17 15) (rotU A (nthN l 1) 19 13)) (A.shr (nthN l 1) 10))
def moreU : Nat → List Nat → List Nat
 | 0, l => l
 | n + 1, l => moreU n (nextU A l :: l)
def oneU (k w e f g h : Nat) : Nat := A.add (A.add (A.add (A.add h (A.xor (A.xor (rotU A e 6 26) (rotU A e 11 21)) (rotU A e 25 7))) (A.xor (A.and e f) (A.and (A.not e) g))) k) w
def twoU (a b c : Nat) : Nat := A.add (A.xor (A.xor (rotU A a 2 30) (rotU A a 13 19)) (rotU A a 22 10)) (A.xor (A.xor (A.and a b) (A.and a c)) (A.and b c))
def roundsU : List Nat → List Nat → Nat → Nat → Nat → Nat → Nat → Nat → Nat → Nat → List Nat
 | k :: ks, w :: ws, a, b, c, d, e, f, g, h => roundsU ks ws (A.add (oneU A k w e f g h) (twoU A a b c)) a b c (A.add d (oneU A k w e f g h)) e f g
 | _, _, a, b, c, d, e, f, g, h => [a, b, c, d, e, f, g, h]
def addsU : List Nat → List Nat → List Nat
 | x :: r, y :: q => A.add x y :: addsU r q
 | _, _ => []
def feedU (a b c d e f g h : Nat) (s : List UInt8) : List Nat :=
 addsU A [a, b, c, d, e, f, g, h] (roundsU A shaK (revN (moreU A 48 (wordsU A s [])) []) a b c d e f g h)
end
def cellU (n : Nat) : AV := .v (.int .u32 (.ofNat n))
def firstOf : Option (AV × List AB) → Option (AV × AB)
 | some (r, A :: _) => some (r, A)
 | _ => none
noncomputable def readyU : List Nat → List AV → (List AV → Option (AV × List AB)) → Option (AV × List AB)
 | [], rest, k => k rest
 | x :: r, rest, k => forceN x fun x => readyU r rest fun l => k (cellU x :: l)
theorem readyU_eq : ∀ (l : List Nat) (rest : List AV) (k : List AV → Option (AV × List AB)), readyU l rest k = k (l.map cellU ++ rest)
 | [], _, _ => rfl
 | x :: r, rest, k => by simp [readyU, forceN_eq, readyU_eq r]
def unU (x : AV) : Option Nat := match x with
 | .v (.int .u32 (.ofNat n)) => some n
 | _ => none
theorem unU_ok {x : AV} {n : Nat} (h : unU x = some n) : x = cellU n := by
 unfold unU at h
 split at h
 ·cases h; rfl
 ·cases h
noncomputable def toldFeed : List AV → List AB → Option (AV × List AB)
 | [.ptr b 0, .str s], H => match nth H b with
  | some (.cells t (x0 :: x1 :: x2 :: x3 :: x4 :: x5 :: x6 :: x7 :: rest)) => match mapO unU [x0, x1, x2, x3, x4, x5, x6, x7] with
   | some [a, b', c, d, e, f, g, h] => match Nat.beq s.length 64 && AV.closedL rest with
    | true => readyU (feedU Ar.real a b' c d e f g h s) rest fun l => some (.tup [], setAt H b (.cells t l))
    | false => none
   | _ => none
  | _ => none
 | _, _ => none

theorem list64_eq {s : List UInt8} (h : s.length = 64) : s = list64 fun i => s.getD i 0 := by
 have e : (list64 fun i => s.getD i 0) = (List.range 64).map fun i => s.getD i 0 := rfl
 rw [e]
 apply List.ext_getElem?
 intro i
 by_cases hi : i < 64
 ·simp [hi, h, List.getD_eq_getElem?_getD]
 ·simp [hi, h]

theorem closed_cellU : ∀ l : List Nat, AV.closedL (l.map cellU) = true
 | [] => rfl
 | _ :: r => by simp [AV.closedL, cellU, AV.closed]; exact closed_cellU r
theorem closedL_append : ∀ {a b : List AV}, AV.closedL a = true → AV.closedL b = true → AV.closedL (a ++ b) = true
 | [], _, _, h => h
 | x :: r, b, h, h' => by
  simp only [AV.closedL, Bool.and_eq_true] at h
  simp only [List.cons_append, AV.closedL, Bool.and_eq_true]
  exact ⟨h.1, closedL_append h.2 h'⟩

theorem feed_told {K : Cfg} (hk : CfgOk K) (hs : K.sym = false) (har : K.ar = Ar.real) {n : Nat} {f : FuncId}
  (hrun : ∀ (a b c d e f' g h : Nat) (s : Nat → UInt8) (t : TypeId × Bool) (rest : List AV), firstOf (callF K n f [.ptr 0 0, .str (list64 s)] [.cells t (cellU a :: cellU b :: cellU c :: cellU d :: cellU e :: cellU f' :: cellU g :: cellU h :: rest)]) =
   some (.tup [], .cells t ((feedU Ar.real a b c d e f' g h (list64 s)).map cellU ++ rest)))
  {args : List AV} {H H' : List AB} {r : AV} (q : toldFeed args H = some (r, H')) : CallOk K f args H r H' := by
 unfold toldFeed at q
 split at q
 ·rename_i b s
  split at q
  ·rename_i t x0 x1 x2 x3 x4 x5 x6 x7 rest hb
   split at q
   ·rename_i a0 a1 a2 a3 a4 a5 a6 a7 hm
    split at q
    ·rename_i hc
     simp only [Bool.and_eq_true] at hc
     have hlen : s.length = 64 := Nat.eq_of_beq_eq_true hc.1
     rw [readyU_eq] at q
     simp only [Option.some.injEq, Prod.mk.injEq] at q
     obtain ⟨rfl, rfl⟩ := q
     have cell : ∀ (i : Nat) (x : AV) (m : Nat), [x0, x1, x2, x3, x4, x5, x6, x7][i]? = some x → [a0, a1, a2, a3, a4, a5, a6, a7][i]? = some m → x = cellU m := fun i x m p1 p2 => by
      obtain ⟨y, h1, h2⟩ := mapO_get hm i x p1
      rw [p2] at h2
      cases h2
      exact unU_ok h1
     obtain rfl := cell 0 _ _ rfl rfl
     obtain rfl := cell 1 _ _ rfl rfl
     obtain rfl := cell 2 _ _ rfl rfl
     obtain rfl := cell 3 _ _ rfl rfl
     obtain rfl := cell 4 _ _ rfl rfl
     obtain rfl := cell 5 _ _ rfl rfl
     obtain rfl := cell 6 _ _ rfl rfl
     obtain rfl := cell 7 _ _ rfl rfl
     have hr := hrun a0 a1 a2 a3 a4 a5 a6 a7 (fun i => s.getD i 0) t rest
     rw [← list64_eq hlen] at hr
     have hcl : AV.closedL ((feedU Ar.real a0 a1 a2 a3 a4 a5 a6 a7 s).map cellU ++ rest) = true := closedL_append (closed_cellU _) hc.2
     cases hx : callF K n f [.ptr 0 0, .str s] [.cells t (cellU a0 :: cellU a1 :: cellU a2 :: cellU a3 :: cellU a4 :: cellU a5 :: cellU a6 :: cellU a7 :: rest)] with
     | none => rw [hx] at hr; cases hr
     | some y =>
      obtain ⟨v, H1⟩ := y
      rw [hx] at hr
      cases H1 with
      | nil => cases hr
      | cons A tail =>
       simp only [firstOf, Option.some.injEq, Prod.mk.injEq] at hr
       obtain ⟨rfl, rfl⟩ := hr
       have hok : CallOk K f [.ptr 0 0, .str s] _ _ _ := call_ok hk n f _ _ [] [] _ _ ⟨[], callF_ok hs har n f _ _ _ hx, by simp⟩
       have hcut := hok.cut (by simp) (by rfl) (by
        show lowH 1 [AB.cells t ((feedU Ar.real a0 a1 a2 a3 a4 a5 a6 a7 s).map cellU ++ rest)] = true
        unfold lowH
        have : AB.low 1 (AB.cells t ((feedU Ar.real a0 a1 a2 a3 a4 a5 a6 a7 s).map cellU ++ rest)) = true := closed_lowL 1 hcl
        rw [this]
        rfl)
       have hcut : CallOk K f (.ptr 0 0 :: [.str s]) [.cells t (cellU a0 :: cellU a1 :: cellU a2 :: cellU a3 :: cellU a4 :: cellU a5 :: cellU a6 :: cellU a7 :: rest)] (.tup []) [.cells t ((feedU Ar.real a0 a1 a2 a3 a4 a5 a6 a7 s).map cellU ++ rest)] := hcut
       exact hcut.frame (by rfl) (closedL_append (a := [cellU a0, cellU a1, cellU a2, cellU a3, cellU a4, cellU a5, cellU a6, cellU a7]) (closed_cellU [a0, a1, a2, a3, a4, a5, a6, a7]) hc.2) hcl (by rfl) hb
    ·cases q
   ·cases q
  ·cases q
 ·cases q
end Go.Tm
