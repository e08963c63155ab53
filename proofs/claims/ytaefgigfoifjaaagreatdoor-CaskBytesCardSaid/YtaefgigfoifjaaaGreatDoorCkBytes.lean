/- CaskBytes: the law's body tells true. -/
import Derived.Test.YtaefgigfoifjaaaGreatDoorCkFile
set_option linter.unusedVariables false
set_option linter.unusedSimpArgs false
set_option linter.unusedSectionVars false
namespace Go.Proofs.Ck
open Go.Tm
set_option maxRecDepth 100000
/-! What is parsed of a record that was written twice. -/
theorem parse_twice {x : Chg} {s : Bs} (h : recordP x = (s, 0)) : parseP (s ++ s) = ([x.norm, x.norm], 2 * s.length, 0) := by
 obtain ⟨rfl, hk0, hk, hv, hb⟩ := record_read h
 have hnk : x.norm.key.length ≤ 255 := hk
 have hnv : x.norm.value.length ≤ 60000 := by
  unfold Chg.norm
  cases hd : x.dead with
  | true => simp
  | false => simpa [hd] using hv hd
 have hch : changeR (bodyB x) = (x.norm, ⟨[], 0⟩) := by
  cases hd : x.dead with
  | false => exact changeR_bodyB (by omega) (by have := hv hd; omega)
  | true =>
   unfold changeR bodyB
   rw [textR_textB (by omega)]
   simp only
   rw [flagR_flagB]
   simp only [hd, if_true]
   simp [Chg.norm, hd]
 have hbad : ¬ badC x.norm ⟨[], 0⟩ := by
  unfold badC doneR
  rintro (q | q | q | q)
  ·simp at q
  ·exact hk0 q
  ·omega
  ·omega
 have hne : ∀ r : Bs, frameB (bodyB x) ++ r ≠ [] := fun r q => by
  have := congrArg List.length q
  simp [frameB, textB, fourB] at this
 have hun : ∀ r : Bs, unframeP (frameB (bodyB x) ++ r) = (bodyB x, (frameB (bodyB x)).length, 0) := fun r => unframe_frame hb r
 have step : ∀ (r : Bs) (p : Nat) (out : List Chg), parseGo (frameB (bodyB x) ++ r) p out = parseGo r (p + (frameB (bodyB x)).length) (out ++ [x.norm]) := fun r p out => by
  rw [parseGo, if_neg (hne r), dif_pos (by rw [hun])]
  simp only [hun, hch]
  rw [if_neg hbad, List.drop_left]
 unfold parseP
 rw [step]
 have := step [] (0 + (frameB (bodyB x)).length) ([] ++ [x.norm])
 rw [List.append_nil] at this
 rw [this, parseGo, if_pos rfl]
 simp only [List.nil_append, List.cons_append]
 congr 2
 omega
/-! Changes compared. -/
theorem ba_refl (a : ByteArray) : (a == a) = true := by
 show (a.data == a.data) = true
 simp
theorem pureRun_bind {P : Program} {α β : Type} (x : Sem α) (f : α → Sem β) : pureRun P (x >>= f) = (pureRun P x).bind fun a => pureRun P (f a) := by
 induction x with
 | pure a => rfl
 | program k ih => exact ih P
 | _ => rfl
theorem und23 : ∃ f0 f1 f2 : Field, pureRun Tryz.prog (underlying 23) = some (.struct #[f0, f1, f2]) ∧ (f0.name ≠ "_" ∧ f0.type = 9 ∧ f0.offset = 0) ∧ (f1.name ≠ "_" ∧ f1.type = 9 ∧ f1.offset = 1) ∧ f2.name ≠ "_" ∧ f2.type = 4 ∧ f2.offset = 2 := ⟨_, _, _, rfl, by decide, by decide, by decide⟩
theorem equal9 (a b : ByteArray) (d : Nat) : pureRun Tryz.prog (Op.equalIn (d + 1) 9 (.string a) (.string b)) = some (a == b) := rfl
theorem equal4 (a b : Bool) (d : Nat) : pureRun Tryz.prog (Op.equalIn (d + 1) 4 (.bool a) (.bool b)) = some (a == b) := rfl
theorem part0 (a b : ByteArray) (c : Bool) : pureRun Tryz.prog (part 9 #[Value.string a, Value.string b, .bool c] 0) = some (.string a) := by kernel_rfl
theorem part1 (a b : ByteArray) (c : Bool) : pureRun Tryz.prog (part 9 #[Value.string a, Value.string b, .bool c] 1) = some (.string b) := by kernel_rfl
theorem part2 (a b : ByteArray) (c : Bool) : pureRun Tryz.prog (part 4 #[Value.string a, Value.string b, .bool c] 2) = some (.bool c) := by kernel_rfl
theorem no23 : Tryz.prog.stoodInHeld 23 = false := by kernel_rfl
theorem equal23 (a b : ByteArray) (c : Bool) (d : Nat) : pureRun Tryz.prog (Op.equalIn (d + 2) 23 (.agg #[.string a, .string b, .bool c]) (.agg #[.string a, .string b, .bool c])) = some true := by
 obtain ⟨f0, f1, f2, h, ⟨n0, t0, o0⟩, ⟨n1, t1, o1⟩, n2, t2, o2⟩ := und23
 unfold Op.equalIn
 rw [pureRun_bind, h]
 simp only [Option.bind_some]
 rw [pureRun_bind, show pureRun Tryz.prog program = some Tryz.prog from rfl]
 simp only [Option.bind_some, no23, Bool.false_eq_true, if_false]
 rw [pureRun_bind]
 have e : pureRun Tryz.prog (forIn #[f0, f1, f2] ((none : Option Bool), ()) fun f __s =>
        if f.name ≠ "_" then do
         let __do_lift ← part f.type #[Value.string a, Value.string b, .bool c] f.offset
         let __do_lift_1 ← part f.type #[Value.string a, Value.string b, .bool c] f.offset
         let __do_lift ← Op.equalIn (d + 1) f.type __do_lift __do_lift_1
         if (!__do_lift) = true then pure (ForInStep.done (some false, ()))
          else pure (ForInStep.yield (none, ()))
        else pure (ForInStep.yield (none, ()))) = some (none, ()) := by
  have pp : ∀ (α : Type) (z : α), pureRun Tryz.prog (pure z : Sem α) = some z := fun _ _ => rfl
  rw [← Array.forIn_toList]
  simp only [List.forIn_cons, List.forIn_nil, pureRun_bind, n0, n1, n2, t0, t1, t2, o0, o1, o2, ne_eq, not_false_eq_true, if_true, part0, part1, part2, equal9, equal4, Option.bind_some, ba_refl, beq_self_eq_true, Bool.not_true, Bool.false_eq_true, if_false, pp]
 rw [e]
 rfl
theorem guard23 (p q : Operand) (a b : ByteArray) (c : Bool) : pureRun Tryz.prog (eqGuard .eql 23 p q (.agg #[.string a, .string b, .bool c]) (.agg #[.string a, .string b, .bool c])) = some () := by kernel_rfl
theorem chg_eq (p q : Operand) (x : Chg) : aBinOp Kk .eql 23 p q (chgV x) (chgV x) [] = some (.v (.bool true), [], []) := by
 have e : pureRun Tryz.prog (do eqGuard .eql 23 p q (.agg ⟨[.string ⟨⟨x.key⟩⟩, .string ⟨⟨x.value⟩⟩, .bool x.dead]⟩) (.agg ⟨[.string ⟨⟨x.key⟩⟩, .string ⟨⟨x.value⟩⟩, .bool x.dead]⟩); binOp .eql 23 (.agg ⟨[.string ⟨⟨x.key⟩⟩, .string ⟨⟨x.value⟩⟩, .bool x.dead]⟩) (.agg ⟨[.string ⟨⟨x.key⟩⟩, .string ⟨⟨x.value⟩⟩, .bool x.dead]⟩)) = some (.bool true) := by
  rw [pureRun_bind, guard23]
  simp only [Option.bind_some]
  show pureRun Tryz.prog (Op.equal 23 _ _ >>= fun r => pure (Value.bool r)) = _
  rw [pureRun_bind]
  unfold Op.equal Op.maxDepth
  rw [equal23 _ _ _ 9998]
  rfl
 show (match some (Value.agg ⟨[.string ⟨⟨x.key⟩⟩, .string ⟨⟨x.value⟩⟩, .bool x.dead]⟩), some (Value.agg ⟨[.string ⟨⟨x.key⟩⟩, .string ⟨⟨x.value⟩⟩, .bool x.dead]⟩) with
   | some a, some b => match pureRun Kk.P (do eqGuard .eql 23 p q a b; binOp .eql 23 a b) with
    | some r => if flat r then (pure (.v r) : E AV) else E.fail
    | none => E.fail
   | _, _ => E.fail) [] = _
 simp only
 rw [show pureRun Kk.P _ = _ from e]
 rfl
theorem u29 : Kk.P.underlying 29 = some (.slice 23) := Tryz.underlying29
theorem sz23 : tSize Kk.P 23 = some 3 := by kernel_rfl
theorem take23 (x : Chg) (r : List AV) : takeVar Kk.P 23 (.str x.key :: .str x.value :: .v (.bool x.dead) :: r) = some (chgV x) := takeT_ok (K := Kk) rfl
theorem bytes_tells (name : Bs) (n : Int) (x : Chg) (h1 : name.length < 281474976710656) (h2 : x.key.length < 281474976710656) (h3 : x.value.length < 281474976710656) (H : List AB) : Tells Kk 3 [.str name, i64v n, chgV x] H fun r H' => H' = H ∧ r = .v (.bool true) := by
 refine Tells.vals (c := _) Tryz.func3 rfl (args' := [.str name, i64v n, chgV x]) (m := 99) rfl rfl rfl rfl rfl ?_
 obtain ⟨k, v, dd⟩ := x
 (repeat(first|with_reducible refine jZ ?_|(with_reducible apply jW;refine jX (by first|(simp only [j0,jU];rfl)|rfl) ?_)|with_reducible apply jE|with_reducible refine jP (by decide) ?_|(with_reducible apply jQ;first|refine kR rfl rfl ?_|refine kT rfl rfl ?_)|((first|((with_reducible apply kv);rfl)|((with_reducible apply ky);rfl;rfl)|((with_reducible apply kz);rfl;rfl)|((with_reducible apply kl);rfl;assumption;rfl;(first|assumption|rfl)));refine jT (by first|(simp only [j0,jU];rfl)|rfl) ?_)))
 refine kB rfl rfl rfl ?_
 rintro b H1 hb hH hn
 clear hb hH
 have hn' : nth H1 b = some (.cells (23, true) [.str k, .str v, .v (.bool dd)]) := hn
 clear hn
 (repeat(first|with_reducible refine jZ ?_|(with_reducible apply jW;refine jX (by first|(simp only [j0,jU];rfl)|rfl) ?_)|with_reducible apply jE|with_reducible refine jP (by decide) ?_|(with_reducible apply jQ;first|refine kR rfl rfl ?_|refine kT rfl rfl ?_)|((first|((with_reducible apply kv);rfl)|((with_reducible apply ky);rfl;rfl)|((with_reducible apply kz);rfl;rfl)|((with_reducible apply kl);rfl;assumption;rfl;(first|assumption|rfl)));refine jT (by first|(simp only [j0,jU];rfl)|rfl) ?_)))
 refine kC rfl rfl (Tells.libv (g := toldTrue) (r := .v (.bool true)) rfl rfl ?_)
 (repeat(first|with_reducible refine jZ ?_|(with_reducible apply jW;refine jX (by first|(simp only [j0,jU];rfl)|rfl) ?_)|with_reducible apply jE|with_reducible refine jP (by decide) ?_|(with_reducible apply jQ;first|refine kR rfl rfl ?_|refine kT rfl rfl ?_)|((first|((with_reducible apply kv);rfl)|((with_reducible apply ky);rfl;rfl)|((with_reducible apply kz);rfl;rfl)|((with_reducible apply kl);rfl;assumption;rfl;(first|assumption|rfl)));refine jT (by first|(simp only [j0,jU];rfl)|rfl) ?_)))
 refine kC rfl rfl ((record_tells k v dd h2 h3 _).mono ?_)
 rintro r2 H2 ⟨rfl, rfl⟩
 (repeat(first|with_reducible refine jZ ?_|(with_reducible apply jW;refine jX (by first|(simp only [j0,jU];rfl)|rfl) ?_)|with_reducible apply jE|with_reducible refine jP (by decide) ?_|(with_reducible apply jQ;first|refine kR rfl rfl ?_|refine kT rfl rfl ?_)|((first|((with_reducible apply kv);rfl)|((with_reducible apply ky);rfl;rfl)|((with_reducible apply kz);rfl;rfl)|((with_reducible apply kl);rfl;assumption;rfl;(first|assumption|rfl)));refine jT (by first|(simp only [j0,jU];rfl)|rfl) ?_)))
 refine kC rfl rfl ((record2_tells k v dd h2 h3 _).mono ?_)
 rintro r3 H3 ⟨rfl, rfl⟩
 rcases hrec : recordP ⟨k, v, dd⟩ with ⟨s, e⟩
 (repeat(first|with_reducible refine jZ ?_|(with_reducible apply jW;refine jX (by first|(simp only [j0,jU];rfl)|rfl) ?_)|with_reducible apply jE|with_reducible refine jP (by decide) ?_|(with_reducible apply jQ;first|refine kR rfl rfl ?_|refine kT rfl rfl ?_)|((first|((with_reducible apply kv);rfl)|((with_reducible apply ky);rfl;rfl)|((with_reducible apply kz);rfl;rfl)|((with_reducible apply kl);rfl;assumption;rfl;(first|assumption|rfl)));refine jT (by first|(simp only [j0,jU];rfl)|rfl) ?_)))
 rw [show (!(s == s)) = false by simp]
 (repeat(first|with_reducible refine jZ ?_|(with_reducible apply jW;refine jX (by first|(simp only [j0,jU];rfl)|rfl) ?_)|with_reducible apply jE|with_reducible refine jP (by decide) ?_|(with_reducible apply jQ;first|refine kR rfl rfl ?_|refine kT rfl rfl ?_)|((first|((with_reducible apply kv);rfl)|((with_reducible apply ky);rfl;rfl)|((with_reducible apply kz);rfl;rfl)|((with_reducible apply kl);rfl;assumption;rfl;(first|assumption|rfl)));refine jT (by first|(simp only [j0,jU];rfl)|rfl) ?_)))
 rw [bnqI (x := (e : Int)) (y := e) rfl]
 (repeat(first|with_reducible refine jZ ?_|(with_reducible apply jW;refine jX (by first|(simp only [j0,jU];rfl)|rfl) ?_)|with_reducible apply jE|with_reducible refine jP (by decide) ?_|(with_reducible apply jQ;first|refine kR rfl rfl ?_|refine kT rfl rfl ?_)|((first|((with_reducible apply kv);rfl)|((with_reducible apply ky);rfl;rfl)|((with_reducible apply kz);rfl;rfl)|((with_reducible apply kl);rfl;assumption;rfl;(first|assumption|rfl)));refine jT (by first|(simp only [j0,jU];rfl)|rfl) ?_)))
 refine kC rfl rfl ((file_tells name n h1 _).mono ?_)
 rintro r4 H4 ⟨rfl, rfl⟩
 (repeat(first|with_reducible refine jZ ?_|(with_reducible apply jW;refine jX (by first|(simp only [j0,jU];rfl)|rfl) ?_)|with_reducible apply jE|with_reducible refine jP (by decide) ?_|(with_reducible apply jQ;first|refine kR rfl rfl ?_|refine kT rfl rfl ?_)|((first|((with_reducible apply kv);rfl)|((with_reducible apply ky);rfl;rfl)|((with_reducible apply kz);rfl;rfl)|((with_reducible apply kl);rfl;assumption;rfl;(first|assumption|rfl)));refine jT (by first|(simp only [j0,jU];rfl)|rfl) ?_)))
 refine kC rfl rfl ((file2_tells name n h1 _).mono ?_)
 rintro r5 H5 ⟨rfl, rfl⟩
 (repeat(first|with_reducible refine jZ ?_|(with_reducible apply jW;refine jX (by first|(simp only [j0,jU];rfl)|rfl) ?_)|with_reducible apply jE|with_reducible refine jP (by decide) ?_|(with_reducible apply jQ;first|refine kR rfl rfl ?_|refine kT rfl rfl ?_)|((first|((with_reducible apply kv);rfl)|((with_reducible apply ky);rfl;rfl)|((with_reducible apply kz);rfl;rfl)|((with_reducible apply kl);rfl;assumption;rfl;(first|assumption|rfl)));refine jT (by first|(simp only [j0,jU];rfl)|rfl) ?_)))
 rw [show (!(fileP name n == fileP name n)) = false by simp]
 (repeat(first|with_reducible refine jZ ?_|(with_reducible apply jW;refine jX (by first|(simp only [j0,jU];rfl)|rfl) ?_)|with_reducible apply jE|with_reducible refine jP (by decide) ?_|(with_reducible apply jQ;first|refine kR rfl rfl ?_|refine kT rfl rfl ?_)|((first|((with_reducible apply kv);rfl)|((with_reducible apply ky);rfl;rfl)|((with_reducible apply kz);rfl;rfl)|((with_reducible apply kl);rfl;assumption;rfl;(first|assumption|rfl)));refine jT (by first|(simp only [j0,jU];rfl)|rfl) ?_)))
 by_cases he : e = 0
 ·subst he
  rw [show (((0 : Nat) : Int) != 0) = false from rfl]
  have hs : s.length < 70000 := by
   obtain ⟨rfl, _, _, _, hb⟩ := record_read hrec
   have := textB_len (s := bodyB ⟨k, v, dd⟩) (by omega)
   unfold frameB; rw [List.length_append]; show _ + 4 < _; omega
  have htw := parse_twice hrec
  (repeat(first|with_reducible refine jZ ?_|(with_reducible apply jW;refine jX (by first|(simp only [j0,jU];rfl)|rfl) ?_)|with_reducible apply jE|with_reducible refine jP (by decide) ?_|(with_reducible apply jQ;first|refine kR rfl rfl ?_|refine kT rfl rfl ?_)|((first|((with_reducible apply kv);rfl)|((with_reducible apply ky);rfl;rfl)|((with_reducible apply kz);rfl;rfl)|((with_reducible apply kl);rfl;assumption;rfl;(first|assumption|rfl)));refine jT (by first|(simp only [j0,jU];rfl)|rfl) ?_)))
  refine ka rfl rfl (by omega) ?_
  (repeat(first|with_reducible refine jZ ?_|(with_reducible apply jW;refine jX (by first|(simp only [j0,jU];rfl)|rfl) ?_)|with_reducible apply jE|with_reducible refine jP (by decide) ?_|(with_reducible apply jQ;first|refine kR rfl rfl ?_|refine kT rfl rfl ?_)|((first|((with_reducible apply kv);rfl)|((with_reducible apply ky);rfl;rfl)|((with_reducible apply kz);rfl;rfl)|((with_reducible apply kl);rfl;assumption;rfl;(first|assumption|rfl)));refine jT (by first|(simp only [j0,jU];rfl)|rfl) ?_)))
  refine kC rfl rfl ((parse_tells (s ++ s) (by simp; omega) (by simp; omega) _).mono ?_)
  rintro r6 H6 ⟨rfl, tl, rfl⟩
  rw [htw]
  (repeat(first|with_reducible refine jZ ?_|(with_reducible apply jW;refine jX (by first|(simp only [j0,jU];rfl)|rfl) ?_)|with_reducible apply jE|with_reducible refine jP (by decide) ?_|(with_reducible apply jQ;first|refine kR rfl rfl ?_|refine kT rfl rfl ?_)|((first|((with_reducible apply kv);rfl)|((with_reducible apply ky);rfl;rfl)|((with_reducible apply kz);rfl;rfl)|((with_reducible apply kl);rfl;assumption;rfl;(first|assumption|rfl)));refine jT (by first|(simp only [j0,jU];rfl)|rfl) ?_)))
  simp only [unown_sl]
  generalize tl.un = tl
  refine Wc.midQ (fun st => nth st.H b = some (.cells (23, true) (chgV (Chg.norm ⟨k, v, dd⟩)).cells) ∧ ∃ d : Nat → AV, st.regs = (d 0 :: d 1 :: d 2 :: d 3 :: d 4 :: .ptr b 0 :: d 6 :: .v (.bool true) :: .str s :: d 9 :: d 10 :: d 11 :: .sl ([Chg.norm ⟨k, v, dd⟩, Chg.norm ⟨k, v, dd⟩].map chgV) tl :: i64v ((2 * s.length : Nat) : Int) :: i64v ((0 : Nat) : Int) :: d 15 :: d 16 :: d 17 :: d 18 :: d 19 :: d 20 :: d 21 :: d 22 :: d 23 :: d 24 :: d 25 :: d 26 :: d 27 :: d 28 :: d 29 :: d 30 :: d 31 :: d 32 :: d 33 :: d 34 :: d 35 :: d 36 :: d 37 :: d 38 :: d 39 :: d 40 :: d 41 :: d 42 :: d 43 :: d 44 :: d 45 :: d 46 :: d 47 :: d 48 :: d 49 :: d 50 :: d 51 :: d 52 :: d 53 :: d 54 :: d 55 :: d 56 :: d 57 :: d 58 :: d 59 :: d 60 :: d 61 :: d 62 :: d 63 :: d 64 :: d 65 :: d 66 :: d 67 :: d 68 :: d 69 :: d 70 :: d 71 :: d 72 :: d 73 :: d 74 :: d 75 :: d 76 :: d 77 :: d 78 :: d 79 :: d 80 :: d 81 :: d 82 :: d 83 :: d 84 :: d 85 :: d 86 :: d 87 :: d 88 :: d 89 :: d 90 :: d 91 :: d 92 :: d 93 :: d 94 :: d 95 :: d 96 :: d 97 :: d 98 :: d 99 :: d 100 :: d 101 :: [])) ?_ ?_
  ·cases dd with
   | true =>
    (repeat(first|with_reducible refine jZ ?_|(with_reducible apply jW;refine jX (by first|(simp only [j0,jU];rfl)|rfl) ?_)|with_reducible apply jE|with_reducible refine jP (by decide) ?_|(with_reducible apply jQ;first|refine kR rfl rfl ?_|refine kT rfl rfl ?_)|((first|((with_reducible apply kv);rfl)|((with_reducible apply ky);rfl;rfl)|((with_reducible apply kz);rfl;rfl)|((with_reducible apply kl);rfl;assumption;rfl;(first|assumption|rfl)));refine jT (by first|(simp only [j0,jU];rfl)|rfl) ?_)))
    refine kS (cs' := [.str k, .str [], .v (.bool true)]) rfl rfl rfl hn' rfl rfl rfl rfl rfl ?_
    rintro H7 _ hn7 _ _
    (repeat(first|with_reducible refine jZ ?_|(with_reducible apply jW;refine jX (by first|(simp only [j0,jU];rfl)|rfl) ?_)|with_reducible apply jE|with_reducible refine jP (by decide) ?_|(with_reducible apply jQ;first|refine kR rfl rfl ?_|refine kT rfl rfl ?_)|((first|((with_reducible apply kv);rfl)|((with_reducible apply ky);rfl;rfl)|((with_reducible apply kz);rfl;rfl)|((with_reducible apply kl);rfl;assumption;rfl;(first|assumption|rfl)));refine jT (by first|(simp only [j0,jU];rfl)|rfl) ?_)))
    exact ⟨rfl, hn7, dead_of rfl⟩
   | false =>
    (repeat(first|with_reducible refine jZ ?_|(with_reducible apply jW;refine jX (by first|(simp only [j0,jU];rfl)|rfl) ?_)|with_reducible apply jE|with_reducible refine jP (by decide) ?_|(with_reducible apply jQ;first|refine kR rfl rfl ?_|refine kT rfl rfl ?_)|((first|((with_reducible apply kv);rfl)|((with_reducible apply ky);rfl;rfl)|((with_reducible apply kz);rfl;rfl)|((with_reducible apply kl);rfl;assumption;rfl;(first|assumption|rfl)));refine jT (by first|(simp only [j0,jU];rfl)|rfl) ?_)))
    exact ⟨rfl, hn', dead_of rfl⟩
  ·rintro regs own H7 ⟨hn7, d, rfl⟩
   simp only at hn7
   generalize Chg.norm ⟨k, v, dd⟩ = y at *
   (repeat(first|with_reducible refine jZ ?_|(with_reducible apply jW;refine jX (by first|(simp only [j0,jU];rfl)|rfl) ?_)|with_reducible apply jE|with_reducible refine jP (by decide) ?_|(with_reducible apply jQ;first|refine kR rfl rfl ?_|refine kT rfl rfl ?_)|((first|((with_reducible apply kv);rfl)|((with_reducible apply ky);rfl;rfl)|((with_reducible apply kz);rfl;rfl)|((with_reducible apply kl);rfl;assumption;rfl;(first|assumption|rfl)));refine jT (by first|(simp only [j0,jU];rfl)|rfl) ?_)))
   refine Wc.drawn rfl (by kernel_rfl) ?_
   (repeat (with_reducible refine Wd.id ?_; first | refine Wd.nil ?_ | (refine Wd.not rfl rfl rfl rfl rfl ?_; refine Wd.norm (by first | (simp only [setAt]; rfl) | rfl) ?_) | ((first | refine Wd.go0 rfl rfl ?_ | refine Wd.go1 rfl rfl rfl rfl ?_); (first | refine Wy.val rfl (op_move rfl rfl) rfl ?_ | refine Wy.val rfl (op_assign rfl rfl) rfl ?_ | refine Wy.val rfl (op_bin rfl rfl rfl rfl rfl) rfl ?_ | refine Wy.val rfl (op_un rfl rfl rfl rfl) rfl ?_ | refine Wy.val rfl (op_pick_t rfl rfl rfl rfl rfl rfl) rfl ?_ | refine Wy.val rfl (op_pick_f rfl rfl rfl rfl rfl rfl) rfl ?_ | refine Wy.val rfl (op_len_sl rfl rfl (by first | with_reducible exact u29 | with_reducible exact u9) rfl) rfl ?_ | refine Wy.val rfl (op_len_str rfl rfl (by first | with_reducible exact u29 | with_reducible exact u9) rfl) rfl ?_); refine Wd.norm (by first | (simp only [setAt]; rfl) | rfl) ?_)))
   rw [show IntKind.i64.wrap (2 * (s.length : Int)) = ((2 * s.length : Nat) : Int) by rw [IntKind.wrap_i64]; omega, eqI (x := ((2 * s.length : Nat) : Int)) rfl]
   (repeat (with_reducible refine Wd.id ?_; first | refine Wd.nil ?_ | (refine Wd.not rfl rfl rfl rfl rfl ?_; refine Wd.norm (by first | (simp only [setAt]; rfl) | rfl) ?_) | ((first | refine Wd.go0 rfl rfl ?_ | refine Wd.go1 rfl rfl rfl rfl ?_); (first | refine Wy.val rfl (op_move rfl rfl) rfl ?_ | refine Wy.val rfl (op_assign rfl rfl) rfl ?_ | refine Wy.val rfl (op_bin rfl rfl rfl rfl rfl) rfl ?_ | refine Wy.val rfl (op_un rfl rfl rfl rfl) rfl ?_ | refine Wy.val rfl (op_pick_t rfl rfl rfl rfl rfl rfl) rfl ?_ | refine Wy.val rfl (op_pick_f rfl rfl rfl rfl rfl rfl) rfl ?_ | refine Wy.val rfl (op_len_sl rfl rfl (by first | with_reducible exact u29 | with_reducible exact u9) rfl) rfl ?_ | refine Wy.val rfl (op_len_str rfl rfl (by first | with_reducible exact u29 | with_reducible exact u9) rfl) rfl ?_); refine Wd.norm (by first | (simp only [setAt]; rfl) | rfl) ?_)))
   ((first | refine Wd.go0 rfl rfl ?_ | refine Wd.go1 rfl rfl rfl rfl ?_); refine Wy.val rfl (op_indexAddr_sl (sz := 2) (j := 0) (el := chgV y) rfl rfl u29 sz23 rfl rfl rfl rfl rfl) rfl ?_; refine Wd.norm (by first | (simp only [setAt]; rfl) | rfl) ?_)
   ((first | refine Wd.go0 rfl rfl ?_ | refine Wd.go1 rfl rfl rfl rfl ?_); refine Wy.val rfl (op_load_rp rfl rfl (take23 y [])) rfl ?_; refine Wd.norm (by first | (simp only [setAt]; rfl) | rfl) ?_)
   ((first | refine Wd.go0 rfl rfl ?_ | refine Wd.go1 rfl rfl rfl rfl ?_); refine Wy.val rfl (op_load_ptr rfl rfl hn7 (take23 y [])) rfl ?_; refine Wd.norm (by first | (simp only [setAt]; rfl) | rfl) ?_)
   ((first | refine Wd.go0 rfl rfl ?_ | refine Wd.go1 rfl rfl rfl rfl ?_); refine Wy.val rfl (op_binv rfl rfl rfl (chg_eq _ _ y)) rfl ?_; refine Wd.norm (by first | (simp only [setAt]; rfl) | rfl) ?_)
   (repeat (with_reducible refine Wd.id ?_; first | refine Wd.nil ?_ | (refine Wd.not rfl rfl rfl rfl rfl ?_; refine Wd.norm (by first | (simp only [setAt]; rfl) | rfl) ?_) | ((first | refine Wd.go0 rfl rfl ?_ | refine Wd.go1 rfl rfl rfl rfl ?_); (first | refine Wy.val rfl (op_move rfl rfl) rfl ?_ | refine Wy.val rfl (op_assign rfl rfl) rfl ?_ | refine Wy.val rfl (op_bin rfl rfl rfl rfl rfl) rfl ?_ | refine Wy.val rfl (op_un rfl rfl rfl rfl) rfl ?_ | refine Wy.val rfl (op_pick_t rfl rfl rfl rfl rfl rfl) rfl ?_ | refine Wy.val rfl (op_pick_f rfl rfl rfl rfl rfl rfl) rfl ?_ | refine Wy.val rfl (op_len_sl rfl rfl (by first | with_reducible exact u29 | with_reducible exact u9) rfl) rfl ?_ | refine Wy.val rfl (op_len_str rfl rfl (by first | with_reducible exact u29 | with_reducible exact u9) rfl) rfl ?_); refine Wd.norm (by first | (simp only [setAt]; rfl) | rfl) ?_)))
   ((first | refine Wd.go0 rfl rfl ?_ | refine Wd.go1 rfl rfl rfl rfl ?_); refine Wy.val rfl (op_indexAddr_sl (sz := 2) (j := 1) (el := chgV y) rfl rfl u29 sz23 rfl rfl rfl rfl rfl) rfl ?_; refine Wd.norm (by first | (simp only [setAt]; rfl) | rfl) ?_)
   ((first | refine Wd.go0 rfl rfl ?_ | refine Wd.go1 rfl rfl rfl rfl ?_); refine Wy.val rfl (op_load_rp rfl rfl (take23 y [])) rfl ?_; refine Wd.norm (by first | (simp only [setAt]; rfl) | rfl) ?_)
   ((first | refine Wd.go0 rfl rfl ?_ | refine Wd.go1 rfl rfl rfl rfl ?_); refine Wy.val rfl (op_load_ptr rfl rfl hn7 (take23 y [])) rfl ?_; refine Wd.norm (by first | (simp only [setAt]; rfl) | rfl) ?_)
   ((first | refine Wd.go0 rfl rfl ?_ | refine Wd.go1 rfl rfl rfl rfl ?_); refine Wy.val rfl (op_binv rfl rfl rfl (chg_eq _ _ y)) rfl ?_; refine Wd.norm (by first | (simp only [setAt]; rfl) | rfl) ?_)
   (repeat (with_reducible refine Wd.id ?_; first | refine Wd.nil ?_ | (refine Wd.not rfl rfl rfl rfl rfl ?_; refine Wd.norm (by first | (simp only [setAt]; rfl) | rfl) ?_) | ((first | refine Wd.go0 rfl rfl ?_ | refine Wd.go1 rfl rfl rfl rfl ?_); (first | refine Wy.val rfl (op_move rfl rfl) rfl ?_ | refine Wy.val rfl (op_assign rfl rfl) rfl ?_ | refine Wy.val rfl (op_bin rfl rfl rfl rfl rfl) rfl ?_ | refine Wy.val rfl (op_un rfl rfl rfl rfl) rfl ?_ | refine Wy.val rfl (op_pick_t rfl rfl rfl rfl rfl rfl) rfl ?_ | refine Wy.val rfl (op_pick_f rfl rfl rfl rfl rfl rfl) rfl ?_ | refine Wy.val rfl (op_len_sl rfl rfl (by first | with_reducible exact u29 | with_reducible exact u9) rfl) rfl ?_ | refine Wy.val rfl (op_len_str rfl rfl (by first | with_reducible exact u29 | with_reducible exact u9) rfl) rfl ?_); refine Wd.norm (by first | (simp only [setAt]; rfl) | rfl) ?_)))
   (repeat(first|with_reducible refine jZ ?_|(with_reducible apply jW;refine jX (by first|(simp only [j0,jU];rfl)|rfl) ?_)|with_reducible apply jE|with_reducible refine jP (by decide) ?_|(with_reducible apply jQ;first|refine kR rfl rfl ?_|refine kT rfl rfl ?_)|((first|((with_reducible apply kv);rfl)|((with_reducible apply ky);rfl;rfl)|((with_reducible apply kz);rfl;rfl)|((with_reducible apply kl);rfl;assumption;rfl;(first|assumption|rfl)));refine jT (by first|(simp only [j0,jU];rfl)|rfl) ?_)))
   exact EndQ.ret rfl ⟨_, rfl, rfl, by trivial, rfl⟩
 ·rw [bneI (x := (e : Int)) (y := 0) (by omega)]
  have hs : s = [] := by
   unfold recordP at hrec
   split at hrec
   ·simp at hrec; exact hrec.1
   ·split at hrec
    ·simp at hrec; exact hrec.1
    ·simp at hrec; exact absurd hrec.2.symm he
  subst hs
  (repeat(first|with_reducible refine jZ ?_|(with_reducible apply jW;refine jX (by first|(simp only [j0,jU];rfl)|rfl) ?_)|with_reducible apply jE|with_reducible refine jP (by decide) ?_|(with_reducible apply jQ;first|refine kR rfl rfl ?_|refine kT rfl rfl ?_)|((first|((with_reducible apply kv);rfl)|((with_reducible apply ky);rfl;rfl)|((with_reducible apply kz);rfl;rfl)|((with_reducible apply kl);rfl;assumption;rfl;(first|assumption|rfl)));refine jT (by first|(simp only [j0,jU];rfl)|rfl) ?_)))
  exact EndQ.ret rfl ⟨_, rfl, rfl, by trivial, rfl⟩
end Go.Proofs.Ck
