/- The tree machine: a deterministic evaluator over trees of values for the model's code, without addresses of immutable memory. No statement is proved here. -/
import Derived.Orders
import Derived.LoopN
import Derived.KernelRfl
set_option linter.unusedVariables false
set_option linter.unusedSimpArgs false
set_option linter.unusedSectionVars false
namespace Go.Tm

inductive Tail where
 | nil | unk | full | own (site ep sz : Nat)
 deriving DecidableEq, Repr, Inhabited

inductive AV where
 | v (x : Value)
 | str (s : List UInt8)
 | agg (cs : List AV)
 | sl (xs : List AV) (tl : Tail)
 | ms (b off len sz : Nat)
 | ptr (b off : Nat)
 | rp (cs : List AV)
 | map (b : Nat)
 | iface (t : TypeId) (x : AV)
 | func (fn : Fn) (first captured : List AV)
 | tup (xs : List AV)
 deriving Inhabited

inductive BT where
 | leaf (cs : List AV)
 | node (n : Nat) (l r : BT)
 deriving Inhabited

inductive AB where
 | cells (t : TypeId × Bool) (cs : List AV)
 | rope (t : TypeId × Bool) (n : Nat) (r : BT)
 | map (es : List (AV × AV × Nat)) (clock : Nat)
 | iter (s : List UInt8) (pos : Nat)
 | iterM (b : Option Nat) (since : Nat) (seen : List Nat)
 | dead
 deriving Inhabited

def AV.undef : AV := .tup []

def AV.cells : AV → List AV
 | .agg cs => cs
 | x => [x]

def AV.one : AV → Bool
 | .agg _ | .tup _ => false
 | _ => true

def flat : Value → Bool
 | .agg _ | .tuple _ => false
 | _ => true

mutual
def AV.closed : AV → Bool
 | .v _ | .str _ | .sl _ _ | .rp _ => true
 | .ms .. | .ptr .. | .map _ => false
 | .agg cs => AV.closedL cs
 | .tup cs => AV.closedL cs
 | .iface _ x => x.closed
 | .func _ f c => AV.closedL f && AV.closedL c
def AV.closedL : List AV → Bool
 | [] => true
 | x :: r => x.closed && AV.closedL r
end

mutual
def AV.bare : AV → Bool
 | .v _ | .str _ => true
 | .sl [] .nil => true
 | .agg cs => AV.bareL cs
 | .tup cs => AV.bareL cs
 | .iface _ x => x.bare
 | _ => false
def AV.bareL : List AV → Bool
 | [] => true
 | x :: r => x.bare && AV.bareL r
end

def AV.unown : AV → AV
 | .sl xs (.own _ _ _) => .sl xs .unk
 | x => x

def AV.ofV1 : Value → Option AV
 | .string s => some (.str s.data.toList)
 | .slice none 0 0 => some (.sl [] .nil)
 | x => if flat x then some (.v x) else none

def mapO {α β : Type} (f : α → Option β) : List α → Option (List β)
 | [] => some []
 | x :: r => match f x with
  | none => none
  | some y => match mapO f r with
   | none => none
   | some ys => some (y :: ys)

def AV.ofV : Value → Option AV
 | .agg ⟨cs⟩ => match mapO AV.ofV1 cs with
  | some l => some (.agg l)
  | none => none
 | .tuple ⟨[]⟩ => some (.tup [])
 | x => AV.ofV1 x

def AV.toV1 : AV → Option Value
 | .v x => some x
 | .str s => some (.string ⟨⟨s⟩⟩)
 | .sl [] .nil => some (.slice none 0 0)
 | _ => none

def AV.toV : AV → Option Value
 | .agg cs => match mapO AV.toV1 cs with
  | some l => some (.agg ⟨l⟩)
  | none => none
 | x => AV.toV1 x

/-! ### The evaluator's answers: a path of branches in, conditions out -/
abbrev E (α : Type) := List Bool → Option (α × List Bool × List Bool)

def E.pure {α : Type} (a : α) : E α := fun p => some (a, [], p)
def E.fail {α : Type} : E α := fun _ => none
def E.bind {α β : Type} (x : E α) (f : α → E β) : E β := fun p =>
 match x p with
 | none => none
 | some (a, cs, p1) => match f a p1 with
  | none => none
  | some (b, ds, p2) => some (b, cs ++ ds, p2)
instance : Monad E where
 pure := E.pure
 bind := E.bind
def E.of {α : Type} : Option α → E α
 | some a => E.pure a
 | none => E.fail
def E.chk (sym : Bool) (b : Bool) : E Unit := fun p =>
 match sym with
 | true => some ((), [b], p)
 | false => match b with
  | true => some ((), [], p)
  | false => none
def E.branch (sym : Bool) (b : Bool) : E Bool := fun p =>
 match sym with
 | true => match p with
  | [] => none
  | x :: p' => some (x, [b == x], p')
 | false => some (b, [], p)

/-! ### What is fixed -/
structure Ar where
 add : Nat → Nat → Nat
 xor : Nat → Nat → Nat
 and : Nat → Nat → Nat
 or : Nat → Nat → Nat
 shl : Nat → Nat → Nat
 shr : Nat → Nat → Nat
 not : Nat → Nat
 cv : Nat → Nat
def Ar.real : Ar where
 add x y := Nat.mod (Nat.add x y) 4294967296
 xor x y := Nat.mod (Nat.xor x y) 4294967296
 and x y := Nat.mod (Nat.land x y) 4294967296
 or x y := Nat.mod (Nat.lor x y) 4294967296
 shl x y := Nat.mod (Nat.mul x (Nat.pow 2 (match Nat.ble y 32 with | true => y | false => 32))) 4294967296
 shr x y := Nat.div x (Nat.pow 2 (match Nat.ble y 32 with | true => y | false => 32))
 not x := Nat.mod (Nat.xor (Nat.sub 4294967296 1) x) 4294967296
 cv x := Nat.mod x 4294967296
structure Cfg where
 P : Program
 /-- types whose variables are kept as trees of pieces: so many cells, these -/
 big : TypeId → Option (Nat × BT) := fun _ => none
 ar : Ar := Ar.real
 sym : Bool := false
 /-- it is told that draws are counted upwards -/
 dr : Bool := false
 /-- package-level variables that never change: their cells -/
 gl : Nat → Option (List AV) := fun _ => none
 /-- package-level variables that hold some int for good -/
 ints : List Nat := []
 /-- slices made at this slot of this function are changeable memory -/
 chg : FuncId → Nat → Bool := fun _ _ => false
 /-- a function that is called with values alone, and tells values -/
 vals : FuncId → Bool := fun _ => true
 /-- functions that are told, not run -/
 lib : FuncId → Option (List AV → List AB → Option (AV × List AB)) := fun _ => none
 /-- functions over values alone that are told, not run -/
 libv : FuncId → Option (List AV → Option AV) := fun _ => none
 /-- functions that are ranged over: what they yield, one behind the other -/
 seq : FuncId → Option (List AV → List AB → Option (List (List AV))) := fun _ => none

abbrev Orc := FuncId → List AV → List AB → E (AV × List AB)

def pureRun {α : Type} (P : Program) : Sem α → Option α
 | .pure a => some a
 | .program k => pureRun P (k P)
 | _ => none

def nth {α : Type} : List α → Nat → Option α
 | [], _ => none
 | x :: _, 0 => some x
 | _ :: r, n + 1 => nth r n

def setAt {α : Type} : List α → Nat → α → List α
 | [], _, _ => []
 | _ :: r, 0, y => y :: r
 | x :: r, n + 1, y => x :: setAt r n y

def putAll {α : Type} (cs : List α) : Nat → List α → List α
 | _, [] => cs
 | o, x :: r => putAll (setAt cs o x) (o + 1) r

/-! Trees of pieces. -/
def BT.toL : BT → List AV
 | .leaf cs => cs
 | .node _ l r => l.toL ++ r.toL
def BT.from : BT → Nat → List AV
 | .leaf cs, off => cs.drop off
 | .node m l r, off => match Nat.blt off m with
  | true => l.from off ++ r.toL
  | false => r.from (Nat.sub off m)
def BT.rd : BT → Nat → Nat → Option (List AV)
 | .leaf cs, off, n => match Nat.ble (Nat.add off n) cs.length with
  | true => some ((cs.drop off).take n)
  | false => none
 | .node m l r, off, n => match Nat.blt off m with
  | true => match Nat.ble (Nat.add off n) m with
   | true => l.rd off n
   | false => none
  | false => r.rd (Nat.sub off m) n
def BT.wr : BT → Nat → List AV → Option BT
 | .leaf cs, off, xs => match Nat.ble (Nat.add off xs.length) cs.length with
  | true => some (.leaf (putAll cs off xs))
  | false => none
 | .node m l r, off, xs => match Nat.blt off m with
  | true => match Nat.ble (Nat.add off xs.length) m with
   | true => match l.wr off xs with
    | some l' => some (.node m l' r)
    | none => none
   | false => none
  | false => match r.wr (Nat.sub off m) xs with
   | some r' => some (.node m l r')
   | none => none
def BT.wf : BT → Bool
 | .leaf _ => true
 | .node n l r => decide (l.toL.length = n) && l.wf && r.wf

def tSize (P : Program) (t : TypeId) : Option Nat := (P.info? t).map (·.size)
def tAgg (P : Program) (t : TypeId) : Option Bool :=
 match P.underlying t with
 | some (.struct _) | some (.array _ _) => some true
 | some _ => some false
 | none => none
def allOne (cs : List AV) : Bool := cs.all AV.one

def tZero (P : Program) (t : TypeId) : Option AV :=
 match P.info? t with
 | some i => match i.zero.bind AV.ofV with
  | some z => if allOne z.cells then some z else none
  | none => none
 | none => none

def zEq : AV → AV → Bool
 | .v (.int k n), .v (.int k' m) => decide (k = k') && decide (n = m)
 | .v (.bool a), .v (.bool b) => a == b
 | .v (.map none), .v (.map none) => true
 | .v (.pointer none), .v (.pointer none) => true
 | .sl [] .nil, .sl [] .nil => true
 | .str a, .str b => a == b
 | _, _ => false
def zEqL : List AV → List AV → Bool
 | [], [] => true
 | x :: r, y :: q => match zEq x y with
  | true => zEqL r q
  | false => false
 | _, _ => false
def bigOk (P : Program) (t : TypeId) (n : Nat) (r : BT) : Bool :=
 match tZero P t with
 | some z => decide (r.toL.length = n) && r.wf && zEqL r.toL z.cells
 | none => false
def newBlk (P : Program) (big : Option (Nat × BT)) (t : TypeId) (z : AV) : AB :=
 match big with
 | none => .cells (t, true) z.cells
 | some x => match bigOk P t x.1 x.2 with
  | true => .rope (t, true) x.1 x.2
  | false => .cells (t, true) z.cells

def takeVar (P : Program) (t : TypeId) (cs : List AV) : Option AV :=
 match tAgg P t, tSize P t with
 | some true, some n => if n ≤ cs.length then some (.agg (cs.take n)) else none
 | some false, some _ => match cs with
  | x :: _ => some x
  | [] => none
 | _, _ => none

def elOf (sz : Nat) (cs : List AV) : AV :=
 match sz with
 | 1 => cs.headD .undef
 | _ => .agg (cs.take sz)

def chunk (sz : Nat) : Nat → List AV → List AV
 | 0, _ => []
 | n + 1, cs => elOf sz cs :: chunk sz n (cs.drop sz)

structure St where
 regs : List AV
 own : Nat → Nat
 H : List AB
 deriving Inhabited

inductive AN where
 | val (x : AV) (own : Nat → Nat) (H : List AB)
 | skip (H : List AB)
 | call (f : FuncId) (args : List AV)

def AV.isUndef : AV → Bool
 | .tup [] => true
 | _ => false

variable (K : Cfg)

def evalO (regs : List AV) : Operand → Option AV
 | .tmp t => nth regs t
 | .const x => AV.ofV x
 | .global g => (K.gl g).map AV.rp
 | .func f => some (.func (.func f) [] [])

def deref (H : List AB) : AV → Option (List AV)
 | .ptr b off => match nth H b with
  | some (.cells _ cs) => some (cs.drop off)
  | some (.rope _ _ r) => some (r.from off)
  | _ => none
 | .rp cs => some cs
 | _ => none

def aLoad (H : List AB) (t : TypeId) (a : AV) : Option AV :=
 match deref H a with
 | some cs => takeVar K.P t cs
 | none => none

def aStore (H : List AB) (t : TypeId) (a x : AV) : Option (List AB) :=
 match a, tSize K.P t with
 | .ptr b off, some n => match nth H b with
  | some (.cells e cs) =>
   if x.cells.length = n ∧ off + n ≤ cs.length ∧ allOne x.cells = true then some (setAt H b (.cells e (putAll cs off (x.unown.cells)))) else none
  | some (.rope e m r) =>
   if x.cells.length = n ∧ allOne x.cells = true then match r.wr off x.unown.cells with
    | some r' => some (setAt H b (.rope e m r'))
    | none => none
   else none
  | _ => none
 | _, _ => none

def aEq (t : TypeId) (x y : AV) : Option Bool :=
 match x, y with
 | .v a, .v b => match pureRun K.P (Op.equal t a b) with
  | some r => some r
  | none => none
 | .str a, .str b => match K.P.underlying t with
  | some .string => some (a == b)
  | _ => none
 | _, _ => none

def afill (place : Nat → Option (Nat × Nat)) (cells : List AV) : List (Nat × AV) → Option (List AV)
 | [] => some cells
 | (i, x) :: rest => match place i with
  | none => none
  | some (off, size) =>
   if x.cells.length = size ∧ off + size ≤ cells.length ∧ allOne x.cells = true then afill place (putAll cells off x.unown.cells) rest else none

def aBuild (t : TypeId) (parts : List (Nat × AV)) : Option AV :=
 match tZero K.P t, K.P.underlying t with
 | some z, some (.struct fields) => match mapO (fun f : Field => (tSize K.P f.type).map fun n => (f.offset, n)) fields.toList with
  | some places => (afill (nth places) z.cells parts).map .agg
  | none => none
 | some z, some (.array _ elem) => match tSize K.P elem with
  | some n => (afill (fun i => some (i * n, n)) z.cells parts).map .agg
  | none => none
 | _, _ => none

def rep (zero : List AV) : Nat → List AV
 | 0 => []
 | n + 1 => zero ++ rep zero n

def aBuildSlice (isMut : Bool) (own : Nat → Nat) (H : List AB) (t : TypeId) (len : Nat) (parts : List (Nat × AV)) : Option AN :=
 match K.P.underlying t with
 | some (.slice elem) => match tSize K.P elem, tZero K.P elem with
  | some n, some z =>
   if n = 0 ∨ len * n > 2 ^ 24 ∨ z.cells.length ≠ n then none else
   match afill (fun i => some (i * n, n)) (rep z.cells len) parts with
   | none => none
   | some cs => match isMut with
    | true => some (.val (.ms H.length 0 len n) own (H ++ [.cells (elem, true) cs]))
    | false => if AV.closedL cs then some (.val (.sl (chunk n len cs) .full) own H) else none
  | _, _ => none
 | _ => none

def asI : AV → Option (IntKind × Int)
 | .v (.int k n) => some (k, n)
 | _ => none

def aIndexAddr (t : TypeId) (x i : AV) : E AV :=
 match asI i, K.P.underlying t, x with
 | some (_, i), some (.array len elem), .ptr b off => match tSize K.P elem with
  | some (n + 1) => do E.chk K.sym (decide (0 ≤ i ∧ i < len)); pure (.ptr b (off + i.toNat * (n + 1)))
  | _ => E.fail
 | some (_, i), some (.array len elem), .rp cs => match tSize K.P elem with
  | some (n + 1) => do E.chk K.sym (decide (0 ≤ i ∧ i < len)); pure (.rp (cs.drop (i.toNat * (n + 1))))
  | _ => E.fail
 | some (_, i), some (.slice elem), .ms b off len sz => match tSize K.P elem with
  | some (n + 1) => do
   E.chk K.sym (decide (n + 1 = sz))
   E.chk K.sym (decide (0 ≤ i ∧ i < len)); pure (.ptr b (off + i.toNat * sz))
  | _ => E.fail
 | some (_, i), some (.slice elem), .sl xs _ => match tSize K.P elem with
  | some (n + 1) => do
   E.chk K.sym (decide (0 ≤ i ∧ i < xs.length))
   let el ← E.of (nth xs i.toNat)
   E.chk K.sym (decide (el.cells.length = n + 1))
   pure (.rp el.cells)
  | _ => E.fail
 | _, _, _ => E.fail

def aIndex (t : TypeId) (x i : AV) : E AV :=
 match asI i, K.P.underlying t, x with
 | some (_, i), some (.array len elem), .agg cs => match tSize K.P elem with
  | some n => do E.chk K.sym (decide (0 ≤ i ∧ i < len)); E.of (takeVar K.P elem (cs.drop (i.toNat * n)))
  | none => E.fail
 | some (_, i), some .string, .str s => do
  E.chk K.sym (decide (0 ≤ i ∧ i < s.length))
  let b ← E.of (nth s i.toNat)
  pure (.v (.int .u8 b.toNat))
 | _, _, _ => E.fail

def aField (t : TypeId) (x : AV) (f : Nat) : Option AV :=
 match K.P.underlying t, x with
 | some (.struct fields), .agg cs => match fields[f]? with
  | some fd => takeVar K.P fd.type (cs.drop fd.offset)
  | none => none
 | _, _ => none

def aFieldAddr (t : TypeId) (x : AV) (f : Nat) : Option AV :=
 match K.P.underlying t with
 | some (.struct fields) => match fields[f]? with
  | some fd => match tSize K.P fd.type, x with
   | some (_ + 1), .ptr b off => some (.ptr b (off + fd.offset))
   | some (_ + 1), .rp cs => some (.rp (cs.drop fd.offset))
   | _, _ => none
  | none => none
 | _ => none

def optI : Option AV → Option (Option Int)
 | none => some none
 | some x => (asI x).map fun p => some p.2

def aBounds (len : Nat) (lo hi mx : Option AV) : E (Nat × Nat × Option Nat) :=
 match optI lo, optI hi, optI mx with
 | some lo, some hi, some mx => do
  E.chk K.sym (decide (0 ≤ lo.getD 0 ∧ lo.getD 0 ≤ hi.getD len ∧ hi.getD len ≤ mx.getD len ∧ mx.getD len ≤ len))
  match mx, hi with
  | some _, none => E.fail
  | mx, hi => pure ((lo.getD 0).toNat, (hi.getD len).toNat, mx.map Int.toNat)
 | _, _, _ => E.fail

def cutTail (tl : Tail) (len l h : Nat) (m : Option Nat) : Tail :=
 match tl with
 | .nil => .nil
 | tl => match m with
  | some m => if m = h then .full else .unk
  | none => match tl with
   | .full => if h = len then .full else .unk
   | tl => if l = 0 ∧ h = len then tl else .unk

def aSlice (H : List AB) (t : TypeId) (x : AV) (lo hi mx : Option AV) : E AV :=
 match K.P.underlying t, x with
 | some .string, .str s => match mx with
  | none => do
   let (l, h, _) ← aBounds K s.length lo hi none
   pure (.str ((s.take h).drop l))
  | some _ => E.fail
 | some (.slice elem), .sl xs tl => match tSize K.P elem with
  | some n => do
   E.chk K.sym (xs.all fun y => y.cells.length == n)
   let (l, h, m) ← aBounds K xs.length lo hi mx
   pure (.sl ((xs.take h).drop l) (cutTail tl xs.length l h m))
  | none => E.fail
 | some (.slice elem), .ms b off len sz => match tSize K.P elem with
  | some n => do
   E.chk K.sym (decide (n = sz))
   let (l, h, m) ← aBounds K len lo hi mx
   if l = m.getD len then pure (.sl [] .unk) else pure (.ms b (off + l * sz) (h - l) sz)
  | none => E.fail
 | some (.array n elem), .ptr b off => match tSize K.P elem, nth H b with
  | some (sz + 1), some (.cells _ cs) => do
   E.chk K.sym (decide (off + n * (sz + 1) ≤ cs.length))
   let (l, h, m) ← aBounds K n lo hi mx
   if l = m.getD n then pure (.sl [] .unk) else pure (.ms b (off + l * (sz + 1)) (h - l) (sz + 1))
  | some (sz + 1), some (.rope _ len _) => do
   E.chk K.sym (decide (off + n * (sz + 1) ≤ len))
   let (l, h, m) ← aBounds K n lo hi mx
   if l = m.getD n then pure (.sl [] .unk) else pure (.ms b (off + l * (sz + 1)) (h - l) (sz + 1))
  | _, _ => E.fail
 | _, _ => E.fail

def asEls (H : List AB) (sz : Nat) : AV → Option (List AV)
 | .sl xs _ => if xs.all fun y => y.cells.length == sz then some xs else none
 | .ms b off len s => match nth H b with
  | some (.cells _ cs) => if s = sz ∧ 0 < sz ∧ off + len * sz ≤ cs.length then some (chunk sz len ((cs.drop off).take (len * sz))) else none
  | some (.rope _ n r) => if s = sz ∧ 0 < sz ∧ off + len * sz ≤ n then some (chunk sz len ((r.from off).take (len * sz))) else none
  | _ => none
 | .str s => if sz = 1 then some (s.map fun b => .v (.int .u8 b.toNat)) else none
 | _ => none

def roomOk (n bytes : Nat) : Bool := decide (n * bytes ≤ 140737488355328 ∧ n ≤ 9223372036854775807)

def aAppend (f : FuncId) (site : Nat) (own : Nat → Nat) (H : List AB) (t : TypeId) (s x : AV) : E AN :=
 match K.P.underlying t with
 | some (.slice elem) => match K.P.info? elem, tSize K.P elem, tZero K.P elem with
  | some info, some (n + 1), some z => match asEls H (n + 1) x, z.cells.length == n + 1 with
   | none, _ => E.fail
   | some _, false => E.fail
   | some ys, true => do
    match s with
    | .sl xs tl => do
     E.chk K.sym (roomOk (xs.length + ys.length) info.bytes)
     E.chk K.sym (xs.all fun y => y.cells.length == n + 1)
     match K.chg f site with
     | false => do
      E.chk K.sym (AV.closedL (ys.flatMap AV.cells))
      E.chk K.sym (match tl with | .own st ep sz => own st == ep && ep != 0 && sz == n + 1 | .unk => ys.isEmpty | _ => true)
      match ys with
      | [] => pure (.val (.sl xs tl) own H)
      | _ =>
       let own' : Nat → Nat := match tl with
        | .own st _ _ => fun i => if i = site then own site + 1 else if i = st then own st + 1 else own i
        | _ => fun i => if i = site then own site + 1 else own i
       pure (.val (.sl (xs ++ ys) (.own site (own site + 1) (n + 1))) own' H)
     | true => do
      E.chk K.sym (match tl with | .nil | .full => true | _ => false)
      match ys with
      | [] => pure (.val (.sl xs tl) own H)
      | _ => pure (.val (.ms H.length 0 (xs.length + ys.length) (n + 1)) own (H ++ [AB.cells (elem, false) (xs.flatMap AV.cells ++ ys.flatMap AV.cells)]))
    | .ms b off len sz => match nth H b with
     | some (.cells tt cs) => do
      E.chk K.sym (decide (tt.1 = elem))
      E.chk K.sym (decide (sz = n + 1))
      E.chk K.sym (decide (off = 0 ∧ cs.length = len * sz))
      E.chk K.sym (roomOk (len + ys.length) info.bytes)
      match ys with
      | [] => pure (.val (.ms b off len sz) own H)
      | _ => pure (.val (.ms H.length 0 (len + ys.length) sz) own (setAt H b .dead ++ [.cells (elem, false) (cs ++ ys.flatMap AV.cells)]))
     | _ => E.fail
    | _ => E.fail
  | _, _, _ => E.fail
 | _ => E.fail

def aLen (t : TypeId) (H : List AB) (x : AV) : Option AV :=
 match K.P.underlying t, x with
 | some .string, .str s => some (.v (goInt s.length))
 | some (.array n _), _ => some (.v (goInt n))
 | some (.slice _), .sl xs _ => some (.v (goInt xs.length))
 | some (.slice _), .ms _ _ len _ => some (.v (goInt len))
 | some (.map _ _), .v (.map none) => some (.v (goInt 0))
 | some (.map _ _), .map b => match nth H b with
  | some (.map es _) => some (.v (goInt es.length))
  | _ => none
 | _, _ => none

def aBytesLess : List UInt8 → List UInt8 → Bool := Op.bytesLess

def aStrOp (op : BinOp) (x y : List UInt8) : E AV :=
 match op with
 | .add => do E.chk K.sym (decide (x.length + y.length ≤ 9223372036854775807)); pure (.str (x ++ y))
 | .eql => pure (.v (.bool (x == y)))
 | .neq => pure (.v (.bool (!(x == y))))
 | .lss => pure (.v (.bool (Op.bytesLess x y)))
 | .leq => pure (.v (.bool (Op.bytesLess x y || x == y)))
 | .gtr => pure (.v (.bool !(Op.bytesLess x y || x == y)))
 | .geq => pure (.v (.bool !(Op.bytesLess x y)))
 | _ => E.fail

def aNilEq (t : TypeId) (x y : AV) : Option Bool :=
 match K.P.underlying t, x, y with
 | some (.slice _), .sl [] .nil, .sl _ tl => some (tl == .nil)
 | some (.slice _), .sl _ tl, .sl [] .nil => some (tl == .nil)
 | some (.slice _), .sl [] .nil, .ms .. => some false
 | some (.slice _), .ms .., .sl [] .nil => some false
 | some (.map _ _), .map _, .v (.map none) => some false
 | some (.map _ _), .v (.map none), .map _ => some false
 | some (.pointer e), .ptr b o, .ptr b' o' => match tSize K.P e with
  | some (_ + 1) => if b = b' then some (o == o') else none
  | _ => none
 | some (.pointer _), .ptr .., .v (.pointer none) => some false
 | some (.pointer _), .rp .., .v (.pointer none) => some false
 | some (.pointer _), .v (.pointer none), .ptr .. => some false
 | some (.pointer _), .v (.pointer none), .rp .. => some false
 | some (.func _ _ _), .func .., .v .nilFunc => some false
 | some (.func _ _ _), .v .nilFunc, .func .. => some false
 | some (.interface _), .iface .., .v .nilIface => some false
 | some (.interface _), .v .nilIface, .iface .. => some false
 | _, _, _ => none

def aBinOp (op : BinOp) (t : TypeId) (xo yo : Operand) (x y : AV) : E AV :=
 match x, y with
 | .str a, .str b => aStrOp K op a b
 | .v a, .v b => match pureRun K.P (do eqGuard op t xo yo a b; binOp op t a b) with
  | some r => if flat r then pure (.v r) else E.fail
  | none => E.fail
 | .agg _, .agg _ => match x.toV, y.toV with
  | some a, some b => match pureRun K.P (do eqGuard op t xo yo a b; binOp op t a b) with
   | some r => if flat r then pure (.v r) else E.fail
   | none => E.fail
  | _, _ => E.fail
 | .iface tx (.v a), .iface ty (.v b) => match pureRun K.P (do eqGuard op t xo yo (.iface tx a) (.iface ty b); binOp op t (.iface tx a) (.iface ty b)) with
  | some r => if flat r then pure (.v r) else E.fail
  | none => E.fail
 | x, y => match op, aNilEq K t x y with
  | .eql, some b => pure (.v (.bool b))
  | .neq, some b => pure (.v (.bool !b))
  | _, _ => E.fail

def aUnOp (op : UnOp) (x : AV) : Option AV :=
 match x with
 | .v a => match pureRun K.P (Op.unary op a) with
  | some r => if flat r then some (.v r) else none
  | none => none
 | _ => none

def aConvert (src dst : TypeId) (x : AV) : Option AV :=
 match K.P.underlying src, K.P.underlying dst, x with
 | some .string, some .string, .str s => some (.str s)
 | some (.int _), some .string, .v (.int _ n) => some (.str (Utf8.encode n).data.toList)
 | some (.int _), some (.int k), .v (.int _ n) => some (.v (.int k (k.wrap n)))
 | some .string, some (.slice e), .str s => match K.P.underlying e with
  | some (.int .u8) => some (.sl (s.map fun b => .v (.int .u8 b.toNat)) .unk)
  | _ => none
 | some (.slice e), some .string, .sl xs _ => match K.P.underlying e with
  | some (.int .u8) => (mapO (fun y => match y with | AV.v (.int .u8 n) => some (UInt8.ofNat n.toNat) | _ => none) xs).map .str
  | _ => none
 | _, _, _ => none

def aConvertM (H : List AB) (src dst : TypeId) (x : AV) : Option AV :=
 match K.P.underlying src, K.P.underlying dst, x with
 | some (.slice e), some .string, .ms b off len 1 => match K.P.underlying e, nth H b with
  | some (.int .u8), some (.cells _ cs) => if off + len ≤ cs.length then (mapO (fun y => match y with | AV.v (.int .u8 n) => some (UInt8.ofNat n.toNat) | _ => none) ((cs.drop off).take len)).map .str else none
  | _, _ => none
 | _, _, _ => none

def aMinMax (isMax : Bool) : List AV → Option AV
 | .v (.int k x) :: rest => go k x rest
 | _ => none
where
 go (k : IntKind) (x : Int) : List AV → Option AV
  | [] => some (.v (.int k x))
  | .v (.int _ y) :: rest => go k (if isMax then (if y > x then y else x) else (if y < x then y else x)) rest
  | _ => none

def aExtract (i : Nat) : AV → Option AV
 | .tup xs => nth xs i
 | _ => none

def aCopy (H : List AB) (t : TypeId) (d x : AV) : Option (AV × List AB) :=
 match K.P.underlying t with
 | some (.slice elem) => match tSize K.P elem with
  | some n => match asEls H n x with
   | none => none
   | some ys => match d with
    | .sl [] _ => some (.v (goInt 0), H)
    | .ms b off len sz => match nth H b with
     | some (.cells e cs) =>
      let zs := (ys.take (min ys.length len)).flatMap AV.cells
      if sz = n ∧ off + len * sz ≤ cs.length then
       some (.v (goInt (min ys.length len : Nat)), setAt H b (.cells e (putAll cs off zs)))
      else none
     | _ => none
    | _ => none
  | none => none
 | _ => none

def aClear (H : List AB) (t : TypeId) (d : AV) : Option (List AB) :=
 match K.P.underlying t, d with
 | some (.slice _), .ms _ _ 0 _ => some H
 | some (.slice elem), .ms b off (len + 1) sz => match nth H b, tZero K.P elem with
  | some (.cells e cs), some z =>
   if z.cells.length = sz ∧ 0 < sz ∧ off + (len + 1) * sz ≤ cs.length then some (setAt H b (.cells e (putAll cs off (rep z.cells (len + 1))))) else none
  | _, _ => none
 | some (.slice _), .sl [] _ => some H
 | some (.map _ _), .map b => match nth H b with
  | some (.map _ clock) => some (setAt H b (.map [] clock))
  | _ => none
 | _, _ => none

def aKeyEq (x y : AV) : Option Bool :=
 match x, y with
 | .str a, .str b => some (a == b)
 | .v (.int k a), .v (.int k' b) => if k = k' then some (a == b) else none
 | .v (.bool a), .v (.bool b) => some (a == b)
 | _, _ => none

def aFind (k : AV) : List (AV × AV × Nat) → Nat → Option (Option (Nat × AV × Nat))
 | [], _ => some none
 | (k', x, b) :: r, i => match aKeyEq k k' with
  | some true => some (some (i, x, b))
  | some false => aFind k r (i + 1)
  | none => none

def aKeyOk (t : TypeId) (k : AV) : Bool :=
 match K.P.underlying t, k with
 | some (.int _), .v (.int _ _) => true
 | some .string, .str _ => true
 | some .bool, .v (.bool _) => true
 | _, _ => false

def aLook (es : List (AV × AV × Nat)) (k : AV) (et : TypeId) (ok : Bool) : Option AV :=
 match aFind k es 0 with
 | some (some (_, x, _)) => some (if ok then .tup [x, .v (.bool true)] else x)
 | some none => match tZero K.P et with
  | some z => some (if ok then .tup [z, .v (.bool false)] else z)
  | none => none
 | none => none

def aLookup (H : List AB) (t : TypeId) (m k : AV) (ok : Bool) : Option AV :=
 match K.P.underlying t with
 | some (.map kt et) => match aKeyOk K kt k with
  | true => match m with
   | .v (.map none) => aLook K [] k et ok
   | .map b => match nth H b with
    | some (.map es _) => aLook K es k et ok
    | _ => none
   | _ => none
  | false => none
 | _ => none

def aMapUpdate (H : List AB) (t : TypeId) (m k x : AV) : Option (List AB) :=
 match K.P.underlying t, m with
 | some (.map kt _), .map b => match nth H b, aKeyOk K kt k with
  | some (.map es clock), true => match aFind k es 0 with
   | some (some (i, _, born)) => some (setAt H b (.map (setAt es i (k, x.unown, born)) clock))
   | some none => some (setAt H b (.map (es ++ [(k, x.unown, clock)]) (clock + 1)))
   | none => none
  | _, _ => none
 | _, _ => none

def aMapEntry (H : List AB) (t : TypeId) (m k : AV) : Option (AV × List AB) :=
 match K.P.underlying t, m with
 | some (.map kt et), .map b => match nth H b, aKeyOk K kt k with
  | some (.map es clock), true => match aFind k es 0, tZero K.P et with
   | some (some (_, x, born)), _ => some (.tup [x, .v (goInt born)], H)
   | some none, some z => some (.tup [z, .v (goInt clock)], setAt H b (.map (es ++ [(k, z, clock)]) (clock + 1)))
   | _, _ => none
  | _, _ => none
 | _, _ => none

def aBorn (n : Int) (x : AV) : List (AV × AV × Nat) → Option (List (AV × AV × Nat))
 | [] => none
 | (k, y, b) :: r => if (b : Int) == n then some ((k, x, b) :: r) else match aBorn n x r with
  | some r => some ((k, y, b) :: r)
  | none => none

def aEntryStore (H : List AB) (m stamp x : AV) : Option (List AB) :=
 match m, asI stamp with
 | .map b, some (_, n) => match nth H b with
  | some (.map es clock) => match aBorn n x.unown es with
   | some es => some (setAt H b (.map es clock))
   | none => none
  | _ => none
 | _, _ => none

def aDelete (H : List AB) (t : TypeId) (m k : AV) : Option (List AB) :=
 match K.P.underlying t, m with
 | some (.map kt _), .v (.map none) => if aKeyOk K kt k then some H else none
 | some (.map kt _), .map b => match nth H b, aKeyOk K kt k with
  | some (.map es clock), true => match aFind k es 0 with
   | some (some (i, _, _)) => some (setAt H b (.map (es.take i ++ es.drop (i + 1)) clock))
   | some none => some H
   | none => none
  | _, _ => none
 | _, _ => none

def aMakeSlice (isMut : Bool) (site : Nat) (own : Nat → Nat) (H : List AB) (t : TypeId) (len cap : AV) : Option AN :=
 match K.P.underlying t, asI len, asI cap with
 | some (.slice elem), some (_, l), some (_, c) => match K.P.info? elem, tZero K.P elem, tSize K.P elem with
  | some info, some z, some (n + 1) =>
   if 0 ≤ l ∧ l ≤ c ∧ c.toNat * info.bytes ≤ 140737488355328 ∧ c ≤ 9223372036854775807 ∧ z.cells.length = n + 1 then
    match isMut with
    | true => some (.val (.ms H.length 0 l.toNat (n + 1)) own (H ++ [.cells (elem, false) (rep z.cells l.toNat)]))
    | false => if AV.closedL z.cells then some (.val (.sl (List.replicate l.toNat z) (.own site (own site + 1) (n + 1))) (fun i => if i = site then own site + 1 else own i) H) else none
   else none
  | _, _, _ => none
 | _, _, _ => none

def aNext (H : List AB) (it : AV) (isString : Bool) : Option (AV × List AB) :=
 match it, isString with
 | .ptr b 0, true => match nth H b with
  | some (.iter s pos) =>
   if pos < s.length then
    let r := Utf8.decode ⟨⟨s⟩⟩ pos
    some (.tup [.v (.bool true), .v (goInt pos), .v (.int .i32 r.1)], setAt H b (.iter s (pos + r.2)))
   else some (.tup [.v (.bool false)], H)
  | _ => none
 | .ptr b 0, false => match nth H b with
  | some (.iterM none _ _) => some (.tup [.v (.bool false)], H)
  | some (.iterM (some m) since seen) => match nth H m with
   | some (.map es clock) =>
    if clock = since then match es.filter fun e => !seen.contains e.2.2 with
     | [] => some (.tup [.v (.bool false)], H)
     | [e] => some (.tup [.v (.bool true), e.1, e.2.1], setAt H b (.iterM (some m) since (seen ++ [e.2.2])))
     | _ => none
    else none
   | _ => none
  | _ => none
 | _, _ => none

def aEntry (H : List AB) (it : AV) : Option AV :=
 match it with
 | .ptr b 0 => match nth H b with
  | some (.iterM (some m) since seen) => match nth H m, seen.getLast? with
   | some (.map es clock), some st => if clock = since then match es.find? (fun e => e.2.2 == st) with
     | some e => some (.tup [e.1, e.2.1])
     | none => none
    else none
   | _, _ => none
  | _ => none
 | _ => none

def aUnsafe (H : List AB) (src dst : TypeId) (x : AV) : Option AV :=
 match K.P.underlying src, K.P.underlying dst, x with
 | some (.pointer t), some .unsafePointer, .ptr b off => match nth H b, tSize K.P t with
  | some (.cells _ cs), some (_ + 1) => if off < cs.length then some (.ptr b off) else none
  | _, _ => none
 | some .unsafePointer, some (.pointer u), .ptr b off => match nth H b, tSize K.P u with
  | some (.cells (e, true) cs), some (_ + 1) => if liesAt K.P K.P.depth e (cs.length / K.P.cellsOf e) off u 1 then some (.ptr b off) else none
  | _, _ => none
 | _, _, _ => none

def asBytes : List AV → Option (List UInt8)
 | [] => some []
 | .v (.int .u8 n) :: r => match asBytes r with
  | some l => some (n.toNat.toUInt8 :: l)
  | none => none
 | _ => none

def aUnsafeString (H : List AB) (u : TypeId) (p n : AV) : Option (AV × List AB) :=
 match p, asI n with
 | .v (.pointer none), some (_, 0) => some (.str [], H)
 | .ptr _ _, some (_, 0) => some (.str [], H)
 | .ptr b off, some (_, n) => match nth H b with
  | some (.cells tt cs) =>
   if off = 0 ∧ 0 < n ∧ n.toNat ≤ cs.length ∧ n ≤ 9223372036854775807 ∧ tt.1 = u ∧ K.P.cellsOf u = 1 then match asBytes (cs.take n.toNat) with
    | some l => some (.str l, setAt H b .dead)
    | none => none
   else none
  | _ => none
 | _, _ => none

def aMethod (t : TypeId) (x : AV) (name : String) : Option (FuncId × AV) :=
 match K.P.info? t with
 | some info => match info.methods.toList.find? (fun m => m.name == name) with
  | some m => match m.path.isEmpty, m.func, K.P.underlying t with
   | true, some (f, true), some (.pointer _) => some (f, x)
   | true, some (_, false), some (.pointer _) => none
   | true, some (f, false), some _ => some (f, x)
   | _, _, _ => none
  | none => none
 | none => none

def aTypeAssert (x : AV) (asserted : TypeId) (ok : Bool) : Option AV :=
 match K.P.underlying asserted, x with
 | some (.interface want), .iface t _ => match K.P.info? t with
  | some i => match Instr.missingMethod want i.methods with
   | none => some (if ok then .tup [x, .v (.bool true)] else x)
   | some _ => none
  | none => none
 | some (.interface _), .v .nilIface => none
 | some _, .iface t v => if t = asserted then some (if ok then .tup [v, .v (.bool true)] else v) else
   (if ok then (tZero K.P asserted).map fun z => .tup [z, .v (.bool false)] else none)
 | some _, .v .nilIface => if ok then (tZero K.P asserted).map fun z => .tup [z, .v (.bool false)] else none
 | _, _ => none

def aKeep (s : St) (x : Option AV) : E AN := match x with
 | some x => pure (.val x.unown s.own s.H)
 | none => E.fail

def aKeepE (s : St) (x : E AV) : E AN := do let x ← x; pure (.val x.unown s.own s.H)

def aBuiltin (f : FuncId) (s : St) (site : Nat) (b : Builtin) (ts : List TypeId) (args : List AV) : E AN :=
 match b, ts, args with
 | .append, [t, t2], [a, x] => match K.P.underlying t2 with
  | some (.slice _) => aAppend K f site s.own s.H t a x
  | some .string => aAppend K f site s.own s.H t a x
  | _ => E.fail
 | .len, t :: _, [a] => aKeep s (aLen K t s.H a)
 | .cap, t :: _, [.sl [] .nil] => match K.P.underlying t with
  | some (.slice _) => pure (.val (.v (goInt 0)) s.own s.H)
  | _ => E.fail
 | .copy, [t, _], [a, x] => match aCopy K s.H t a x with
  | some (r, H) => pure (.val r.unown s.own H)
  | none => E.fail
 | .clear, [t], [a] => match aClear K s.H t a with
  | some H => pure (.val .undef s.own H)
  | none => E.fail
 | .delete, t :: _, [a, k] => match aDelete K s.H t a k with
  | some H => pure (.val .undef s.own H)
  | none => E.fail
 | .unsafeSliceData, _, [.sl [] .nil] => pure (.val (.v (.pointer none)) s.own s.H)
 | .unsafeSliceData, _, [.ms b off (l + 1) _] => pure (.val (.ptr b off) s.own s.H)
 | .unsafeString, t :: _, [p, n] => match K.P.underlying t with
  | some (.pointer u) => match aUnsafeString K s.H u p n with
   | some (r, H) => pure (.val r.unown s.own H)
   | none => E.fail
  | _ => E.fail
 | .max, _, args => aKeep s (aMinMax true args)
 | .min, _, args => aKeep s (aMinMax false args)
 | _, _, _ => E.fail

def aOp (f : FuncId) (s : St) (o : Oper) : E AN :=
 let ev := evalO K s.regs
 let keep := aKeep s
 let keepE := aKeepE s
 match o.op with
 | .move x | .assign x => match ev x with
  | some x => pure (.val x s.own s.H)
  | none => E.fail
 | .pick c a b => match ev c, ev a, ev b with
  | some (.v (.bool c)), some a, some b => do
   let t ← E.branch K.sym c
   pure (.val (if t then a else b) s.own s.H)
  | _, _, _ => E.fail
 | .alloc elem => match tZero K.P elem with
  | some z => pure (.val (.ptr s.H.length 0) s.own (s.H ++ [newBlk K.P (K.big elem) elem z]))
  | none => E.fail
 | .box elem x => match ev x with
  | some x => if allOne x.cells then pure (.val (.ptr s.H.length 0) s.own (s.H ++ [.cells (elem, true) x.unown.cells])) else E.fail
  | none => E.fail
 | .build t parts => match mapO (fun p : Nat × Operand => (ev p.2).map fun x => (p.1, x)) parts.toList with
  | some ps => keep (aBuild K t ps)
  | none => E.fail
 | .buildSlice t len parts => match mapO (fun p : Nat × Operand => (ev p.2).map fun x => (p.1, x)) parts.toList with
  | some ps => E.of (aBuildSlice K (K.chg f (o.dst.getD 0)) s.own s.H t len ps)
  | none => E.fail
 | .load t a => match ev a with
  | some a => keep (aLoad K s.H t a)
  | none => E.fail
 | .store t a x => match ev a, ev x with
  | some a, some x => match aStore K s.H t a x with
   | some H => pure (.skip H)
   | none => E.fail
  | _, _ => E.fail
 | .nilCheck x => match ev x with
  | some (.ptr b i) => pure (.val (.ptr b i) s.own s.H)
  | some (.rp cs) => pure (.val (.rp cs) s.own s.H)
  | some (.iface t y) => pure (.val (.iface t y) s.own s.H)
  | some (.func (.func g) a b) => pure (.val (.func (.func g) a b) s.own s.H)
  | _ => E.fail
 | .binOp op t x y _ => match ev x, ev y with
  | some a, some b => keepE (aBinOp K op t x y a b)
  | _, _ => E.fail
 | .unOp op _ x => match ev x with
  | some x => keep (aUnOp K op x)
  | none => E.fail
 | .convert a b x => match ev x with
  | some x => keep (match aUnsafe K s.H a b x with | some y => some y | none => match aConvertM K s.H a b x with | some y => some y | none => aConvert K a b x)
  | none => E.fail
 | .makeMap _ none => pure (.val (.map s.H.length) s.own (s.H ++ [.map [] 0]))
 | .makeMap t (some r) => match ev r, K.P.underlying t with
  | some (.v (.int _ _)), some (.map _ _) => pure (.val (.map s.H.length) s.own (s.H ++ [.map [] 0]))
  | _, _ => E.fail
 | .makeSlice t l c => match ev l, ev c with
  | some l, some c => E.of (aMakeSlice K (K.chg f (o.dst.getD 0)) (o.dst.getD 0) s.own s.H t l c)
  | _, _ => E.fail
 | .lookup t m k ok => match ev m, ev k with
  | some m, some k => keep (aLookup K s.H t m k ok)
  | _, _ => E.fail
 | .mapUpdate t m k x | .insert t m k x => match ev m, ev k, ev x with
  | some m, some k, some x => match aMapUpdate K s.H t m k x with
   | some H => pure (.skip H)
   | none => E.fail
  | _, _, _ => E.fail
 | .mapEntry t m k => match ev m, ev k with
  | some m, some k => match aMapEntry K s.H t m k with
   | some (r, H) => pure (.val r.unown s.own H)
   | none => E.fail
  | _, _ => E.fail
 | .entryStore _ m st x => match ev m, ev st, ev x with
  | some m, some st, some x => match aEntryStore s.H m st x with
   | some H => pure (.skip H)
   | none => E.fail
  | _, _, _ => E.fail
 | .range t x => match ev x, K.P.underlying t with
  | some (.str l), some .string => pure (.val (.ptr s.H.length 0) s.own (s.H ++ [.iter l 0]))
  | some (.v (.map none)), some (.map _ _) => pure (.val (.ptr s.H.length 0) s.own (s.H ++ [.iterM none 0 []]))
  | some (.map b), some (.map _ _) => match nth s.H b with
   | some (.map _ clock) => pure (.val (.ptr s.H.length 0) s.own (s.H ++ [.iterM (some b) clock []]))
   | _ => E.fail
  | _, _ => E.fail
 | .next it isStr => match ev it with
  | some it => match aNext s.H it isStr with
   | some (r, H) => pure (.val r.unown s.own H)
   | none => E.fail
  | none => E.fail
 | .entry it => match ev it with
  | some it => keep (aEntry s.H it)
  | none => E.fail
 | .typeAssert x _ t ok => match ev x with
  | some x => keep (aTypeAssert K x t ok)
  | none => E.fail
 | .makeInterface t x => match ev x, K.P.underlying t with
  | some _, some (.interface _) => E.fail
  | some x, some _ => pure (.val (.iface t x.unown) s.own s.H)
  | _, _ => E.fail
 | .makeFunc fn first captured => match mapO ev first.toList, mapO ev captured.toList with
  | some a, some b => pure (.val (.func fn (a.map AV.unown) (b.map AV.unown)) s.own s.H)
  | _, _ => E.fail
 | .slice t x lo hi mx => match ev x, lo.elim (some none) (fun a => (ev a).map some), hi.elim (some none) (fun a => (ev a).map some), mx.elim (some none) (fun a => (ev a).map some) with
  | some x, some lo, some hi, some mx => do let r ← aSlice K s.H t x lo hi mx; pure (.val r s.own s.H)
  | _, _, _, _ => E.fail
 | .fieldAddr t x i => match ev x with
  | some x => keep (aFieldAddr K t x i)
  | none => E.fail
 | .field t x i => match ev x with
  | some x => keep (aField K t x i)
  | none => E.fail
 | .indexAddr t x i => match ev x, ev i with
  | some x, some i => keepE (aIndexAddr K t x i)
  | _, _ => E.fail
 | .index t x i => match ev x, ev i with
  | some x, some i => keepE (aIndex K t x i)
  | _, _ => E.fail
 | .extract t i => match ev t with
  | some t => keep (aExtract i t)
  | none => E.fail
 | .call c => match mapO ev c.args.toList with
  | none => E.fail
  | some args => match c.callee with
   | .builtin b => aBuiltin K f s (o.dst.getD 0) b c.argTypes.toList args
   | .invoke r name => match ev r with
    | some (.iface t x) => match aMethod K t x name with
     | some (g, x) => pure (.call g ((x :: args).map AV.unown))
     | none => E.fail
    | _ => E.fail
   | .value g => match ev g with
    | some (.func (.func g) first captured) => pure (.call g ((first ++ args ++ captured).map AV.unown))
    | _ => E.fail
 | _ => E.fail

def putReg (regs : List AV) (dst : Option Tmp) (x : AV) : List AV :=
 match dst with
 | some d => setAt regs d x
 | none => regs

def aYield (regs : List AV) (ops : Array Oper) (j : Nat) : Option Bool :=
 match (ops[j]?).bind (·.dst) with
 | some d => match nth regs d with
  | some (.v (.bool b)) => some b
  | _ => none
 | none => none

def aDo (call : Orc) (f : FuncId) (o : Oper) (s : St) : E St := do
 match ← aOp K f s o with
 | .val x own H => pure { regs := putReg s.regs o.dst x, own, H }
 | .skip H => pure { s with regs := putReg s.regs o.dst .undef, H }
 | .call g args => do
  let (r, H) ← call g args s.H
  pure { regs := putReg s.regs o.dst r.unown, own := s.own, H }

def aList (call : Orc) (f : FuncId) (ops : Array Oper) : List Oper → St → E St
 | [], s => pure s
 | o :: rest, s => match o.guard with
  | none => do let s ← aDo K call f o s; aList call f ops rest s
  | some (j, want) => match aYield s.regs ops j with
   | none => aList call f ops rest { s with regs := putReg s.regs o.dst .undef }
   | some b => do
    let t ← E.branch K.sym (b == want)
    if t then do let s ← aDo K call f o s; aList call f ops rest s
    else aList call f ops rest { s with regs := putReg s.regs o.dst .undef }

/-! ### Regions whose order is drawn -/
mutual
def same : AV → AV → Bool
 | .v (.int k n), .v (.int k' n') => k == k' && n == n'
 | .v (.bool a), .v (.bool b) => a == b
 | .v (.pointer none), .v (.pointer none) => true
 | .v .nilIface, .v .nilIface => true
 | .v .nilFunc, .v .nilFunc => true
 | .v (.map none), .v (.map none) => true
 | .str s, .str t => s == t
 | .agg a, .agg b => sameL a b
 | .sl a t, .sl b u => t == u && sameL a b
 | .ms a b c d, .ms a' b' c' d' => a == a' && b == b' && c == c' && d == d'
 | .ptr a b, .ptr a' b' => a == a' && b == b'
 | .rp a, .rp b => sameL a b
 | .map a, .map b => a == b
 | .iface t x, .iface u y => t == u && same x y
 | .func (.func f) a b, .func (.func f') a' b' => f == f' && sameL a a' && sameL b b'
 | .tup a, .tup b => sameL a b
 | _, _ => false
def sameL : List AV → List AV → Bool
 | [], [] => true
 | x :: r, y :: q => same x y && sameL r q
 | _, _ => false
end

def isPure (f : FuncId) (args : List AV) : Bool :=
 match K.libv f with
 | some _ => true
 | none => match K.lib f with
  | some _ => false
  | none => K.vals f && AV.closedL args

def touch (f : FuncId) (o : Oper) : Nat :=
 match o.op with
 | .move _ | .assign _ | .pick .. | .build .. | .nilCheck _ | .binOp .. | .unOp .. | .makeInterface .. | .makeFunc .. | .fieldAddr .. | .field .. | .indexAddr .. | .index .. | .typeAssert .. | .extract .. => 0
 | .buildSlice .. => if K.chg f (o.dst.getD 0) then 2 else 0
 | .load .. | .lookup .. | .slice .. | .entry _ | .convert .. => 1
 | .call { callee := .builtin .len, .. } | .call { callee := .builtin .min, .. } | .call { callee := .builtin .max, .. } | .call { callee := .builtin .unsafeSliceData, .. } => 1
 | .call { callee := .invoke .., .. } | .call { callee := .value _, .. } => 3
 | _ => 2

structure Tr where
 i : Nat
 o : Oper
 bef : Nat
 s : St
 s' : St
 x : AV
 k : Nat
 run : Bool

def namesOf (ops : Array Oper) (o : Oper) : List Nat :=
 o.dst.toList ++ (match o.guard with
  | some (j, _) => ((ops[j]?).bind (·.dst)).toList
  | none => []) ++ o.op.operands.toList.filterMap fun | .tmp t => some t | _ => none

def befOf (befs : List Nat) : List Edge → Nat → Option Nat
 | [], m => some m
 | e :: r, m => match Region.binds .any e with
  | true => match nth befs e.on with
   | some b => befOf befs r (m ||| 2 ^ e.on ||| b)
   | none => none
  | false => befOf befs r m

def aTrDo (call : Orc) (f : FuncId) (i : Nat) (o : Oper) (bef : Nat) (s : St) : E Tr := do
 match ← aOp K f s o with
 | .val x own H => pure { i, o, bef, s, s' := { regs := putReg s.regs o.dst x, own, H }, x, k := Nat.min (touch K f o) 2, run := true }
 | .skip H => pure { i, o, bef, s, s' := { regs := putReg s.regs o.dst .undef, own := s.own, H }, x := .undef, k := 2, run := true }
 | .call g args => do
  let (r, H) ← call g args s.H
  pure { i, o, bef, s, s' := { regs := putReg s.regs o.dst r.unown, own := s.own, H }, x := r.unown, k := if touch K f o == 3 && isPure K g args then 0 else 2, run := true }

def aTrSkip (i : Nat) (o : Oper) (bef : Nat) (s : St) : Tr :=
 { i, o, bef, s, s' := { s with regs := putReg s.regs o.dst .undef }, x := .undef, k := 0, run := false }

def aTr (call : Orc) (f : FuncId) (ops : Array Oper) (i : Nat) (o : Oper) (bef : Nat) (s : St) : E Tr :=
 match o.guard with
 | none => aTrDo K call f i o bef s
 | some (j, want) => match aYield s.regs ops j with
  | none => pure (aTrSkip i o bef s)
  | some b => do
   let t ← E.branch K.sym (b == want)
   if t then aTrDo K call f i o bef s else pure (aTrSkip i o bef s)

def aFit (f : FuncId) (t : Tr) (H : List AB) : E Unit := do
 match ← aOp K f { t.s with H } t.o with
 | .val x _ _ => E.chk K.sym (same x t.x)
 | _ => E.fail

def apartTr (ops : Array Oper) (a b : Tr) : Bool :=
 (match a.o.dst with | some d => !(namesOf ops b.o).contains d | none => true) && (match b.o.dst with | some d => !(namesOf ops a.o).contains d | none => true)

def aPair (f : FuncId) (ops : Array Oper) (a b : Tr) : E Unit :=
 match b.bef.testBit a.i with
 | true => pure ()
 | false => do
  E.chk false (apartTr ops a b)
  match a.k, b.k with
  | 0, _ => pure ()
  | _, 0 => pure ()
  | 1, 1 => pure ()
  | 1, 2 => do aFit K f a b.s.H; aFit K f a b.s'.H
  | 2, 1 => do aFit K f b a.s.H; aFit K f b a.s'.H
  | _, _ => E.fail

def aPairs (f : FuncId) (ops : Array Oper) : List Tr → Tr → E Unit
 | [], _ => pure ()
 | a :: r, b => do aPair K f ops a b; aPairs f ops r b

def aDrawn (call : Orc) (f : FuncId) (ops : Array Oper) : List Oper → List Nat → List Tr → St → E St
 | [], _, _, s => pure s
 | o :: rest, befs, acc, s => match befOf befs o.after.toList 0 with
  | none => E.fail
  | some m => do
   let t ← aTr K call f ops acc.length o m s
   aPairs K f ops acc t
   aDrawn call f ops rest (befs ++ [m]) (acc ++ [t]) t.s'

inductive AX where
 | normal | exit (id : Nat) | ret
 deriving DecidableEq, Repr, Inhabited

def iter (body : St → E (AX × St)) : Nat → St → E (AX × St)
 | 0, _ => E.fail
 | k + 1, s => do
  let (e, s) ← body s
  match e with
  | .normal => iter body k s
  | e => pure (e, s)

def roundy : Code → Bool
 | .region _ ops _ => ops.toList.all fun o => match o.op with | .defer _ => false | _ => true
 | .seq a b => roundy a && roundy b
 | .cond _ a b => roundy a && roundy b
 | .block _ a => roundy a
 | .loop a => roundy a
 | .skip => true
 | .exit _ => true
 | .ret => true
 | _ => false
def simpleA : Code → Bool
 | .region _ _ false => true
 | .seq a b => simpleA a && simpleA b
 | .skip => true
 | _ => false
def putAt : List AV → List Nat → List AV → List AV
 | regs, p :: ps, x :: xs => putAt (setAt regs p x.unown) ps xs
 | regs, _, _ => regs
def aSeq (f : AV) (H : List AB) : Option (List (List AV)) :=
 match f with
 | .func (.func g) [] cap => match K.seq g with
  | some q => q cap H
  | none => none
 | _ => none
def seqRounds (round : St → E (AX × List AB)) (regs : List AV) (ps : List Nat) : List (List AV) → List AB → E (AX × List AB)
 | [], H => pure (.normal, H)
 | x :: r, H => do
  E.chk false (decide (x.length = ps.length))
  let (e, H) ← round { regs := putAt regs ps x, own := fun _ => 0, H }
  match e with
  | .normal => seqRounds round regs ps r H
  | e => pure (e, H)

def aCode (call : Orc) (f : FuncId) (k : Nat) : Code → St → E (AX × St)
 | .skip, s => pure (.normal, s)
 | .region _ ops false, s => do let s ← aList K call f ops ops.toList s; pure (.normal, s)
 | .region _ ops true, s => do let s ← aDrawn K call f ops ops.toList [] [] s; pure (.normal, s)
 | .seq a b, s => do
  let (e, s) ← aCode call f k a s
  match e with
  | .normal => aCode call f k b s
  | e => pure (e, s)
 | .cond c a b, s => match evalO K s.regs c with
  | some (.v (.bool t)) => do
   let t ← E.branch K.sym t
   if t then aCode call f k a s else aCode call f k b s
  | _ => E.fail
 | .block id a, s => do
  let (e, s) ← aCode call f k a s
  match e with
  | .exit i => if i = id then pure (.normal, s) else pure (.exit i, s)
  | e => pure (e, s)
 | .loop a, s => iter (aCode call f k a) k s
 | .exit id, s => pure (.exit id, s)
 | .ret, s => pure (.ret, s)
 | .rangeFunc g ps assign body, s => match (evalO K s.regs g).bind fun x => aSeq K x s.H with
  | some xss => match simpleA assign && roundy assign && roundy body with
   | true => do
    let (e, H) ← seqRounds (fun s1 => do
     let (e, s1) ← aCode call f k assign s1
     match e with
     | .normal => do
      let (e, s2) ← aCode call f k body { regs := s1.regs.map AV.unown, own := fun _ => 0, H := s1.H }
      pure (e, s2.H)
     | _ => E.fail) (s.regs.map AV.unown) ps.toList xss s.H
    pure (e, { regs := s.regs.map AV.unown, own := fun _ => 0, H })
   | false => E.fail
  | none => E.fail
 | _, _ => E.fail

def aResult (H : List AB) (regs : List AV) : ResultVar → Option AV
 | .tmp t => nth regs t
 | .cell a t => match nth regs a with
  | some a => (aLoad K H t a).map AV.unown
  | none => none

def aResults (H : List AB) (regs : List AV) (rs : List ResultVar) : Option AV :=
 match mapO (aResult K H regs) rs with
 | some [x] => some x
 | some xs => some (.tup xs)
 | none => none

def snap (H : List AB) : Nat → AV → Option AV
 | 0, x => if x.closed then some x else none
 | n + 1, x => match x with
  | .ms b off len sz => match nth H b with
   | some (.cells _ cs) => if off + len * sz ≤ cs.length ∧ 0 < sz then match mapO (snap H n) ((cs.drop off).take (len * sz)) with
     | some c => if AV.closedL c && allOne c then some (.sl (chunk sz len c) .unk) else none
     | none => none
    else none
   | some (.rope _ m r) => if off + len * sz ≤ m ∧ 0 < sz then match mapO (snap H n) ((r.from off).take (len * sz)) with
     | some c => if AV.closedL c && allOne c then some (.sl (chunk sz len c) .unk) else none
     | none => none
    else none
   | _ => none
  | .ptr b off => match nth H b with
   | some (.cells _ cs) => match mapO (snap H n) (cs.drop off) with
    | some c => if AV.closedL c && allOne c then some (.rp c) else none
    | none => none
   | _ => none
  | .iface t x => match snap H n x with
   | some y => some (.iface t y)
   | none => none
  | .agg cs => match mapO (snap H n) cs with
   | some c => some (.agg c)
   | none => none
  | .tup cs => match mapO (snap H n) cs with
   | some c => some (.tup c)
   | none => none
  | x => if x.closed then some x else none

def aBody (call : Orc) (k : Nat) (f : FuncId) (args : List AV) (H : List AB) : E (AV × List AB) :=
 match K.P.funcs[f]? with
 | none => E.fail
 | some fn => match fn.body with
  | none => E.fail
  | some c => do
   let (e, s) ← aCode K call f k c { regs := args.map AV.unown ++ List.replicate (fn.ntmps - args.length) .undef, own := fun _ => 0, H }
   match e with
   | .exit _ => E.fail
   | _ => do let r ← E.of (aResults K s.H s.regs fn.results.toList); pure (r, s.H)

def aCallW (call : Orc) (k : Nat) (f : FuncId) (args : List AV) (H : List AB) : E (AV × List AB) :=
 match K.libv f with
 | some g => match g args with
  | some r => pure (r, H)
  | none => E.fail
 | none => match K.lib f with
 | some g => E.of (g args H)
 | none => match K.vals f && AV.closedL args with
 | true => do
  let (r, H') ← aBody K call k f args []
  let r ← E.of (snap H' 6 r)
  match r.closed with
  | true => pure (r, H)
  | false => E.fail
 | false => aBody K call k f args H

def aCall : Nat → Orc
 | 0 => fun _ _ _ => E.fail
 | n + 1 => aCallW K (aCall n) (n + 1)

end Go.Tm
