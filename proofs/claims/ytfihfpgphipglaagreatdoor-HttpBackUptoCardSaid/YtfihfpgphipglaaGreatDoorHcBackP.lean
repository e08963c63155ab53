/- A call's text is the next request of a stream that begins with it: plain. -/
import Derived.Test.YtfihfpgphipglaaGreatDoorHcText
import Derived.Test.YtfihfpgphipglaaGreatDoorHcC
set_option linter.unusedVariables false
set_option linter.unusedSimpArgs false
set_option linter.unusedSectionVars false
namespace Go.Proofs.Hc
open Go.Tm
set_option maxRecDepth 100000
theorem idx_clean {t z : Bs} {c : UInt8} {t' : Bs} (ht : t = c :: t') (hz : t.isPrefixOf z = true) : ∀ {x : Bs}, c ∉ x → Lib.index (x ++ z) t = (x.length : Int)
 | [], _ => by
  cases z with
  | nil => rw [ht] at hz; cases hz
  | cons y q => rw [List.nil_append, index_cons, if_pos hz]; rfl
 | a :: x, h => by
  have ha : c ≠ a := fun e => h (by simp [e])
  have hx : c ∉ x := fun e => h (by simp [e])
  have ih := idx_clean ht hz hx
  rw [List.cons_append, index_cons, if_neg (by rw [ht]; simp [List.isPrefixOf, ha]), ih]
  rw [if_neg (by simp), List.length_cons]; omega
theorem idx_none {c : UInt8} : ∀ {x : Bs}, c ∉ x → Lib.index x [c] = -1
 | [], _ => rfl
 | a :: x, h => by
  have ha : c ≠ a := fun e => h (by simp [e])
  rw [index_cons, if_neg (by simp [List.isPrefixOf, ha]), idx_none (fun e => h (by simp [e]))]
  rfl
theorem cut_clean {a b : Bs} {c : UInt8} (h : c ∉ a) : Lib.cut (a ++ c :: b) [c] = (a, b, true) := by
 have hi := idx_clean (t := [c]) (z := c :: b) rfl (by simp [List.isPrefixOf]) h
 unfold Lib.cut
 rw [hi, if_pos (by omega)]
 simp
theorem cut_none {a : Bs} {c : UInt8} (h : c ∉ a) : Lib.cut a [c] = (a, [], false) := by
 unfold Lib.cut
 rw [idx_none h, if_neg (by decide)]
theorem split_cons {a b : Bs} {c : UInt8} (h : c ∉ a) : Lib.split (a ++ c :: b) [c] = a :: Lib.split b [c] := by
 have hi := idx_clean (t := [c]) (z := c :: b) rfl (by simp [List.isPrefixOf]) h
 unfold Lib.split
 rw [Lib.count_one, Lib.count_one, List.count_append, List.count_eq_zero_of_not_mem h, List.count_cons_self, Nat.zero_add, Lib.splitK, hi, if_neg (by simp)]
 simp
theorem split_one {a : Bs} {c : UInt8} (h : c ∉ a) : Lib.split a [c] = [a] := by
 unfold Lib.split
 rw [Lib.count_one, List.count_eq_zero_of_not_mem h]
 rfl
def encOk (c : Nat) : Bool := letter c || digit c || decide (c = 45) || decide (c = 46) || decide (c = 95) || decide (c = 126) || decide (c = 37)
theorem encOk_runs : ((List.range 256).all fun c => (encB (UInt8.ofNat c)).all fun b => encOk b.toNat) = true := by kernel_rfl
theorem enc_ok {s : Bs} {b : UInt8} (h : b ∈ enc s) : encOk b.toNat = true := by
 unfold enc at h
 obtain ⟨c, _, hb⟩ := List.mem_flatMap.1 h
 have := all_byte encOk_runs c.toNat_lt
 rw [UInt8.ofNat_toNat] at this
 exact List.all_eq_true.1 this b hb
theorem ok_runs : ((List.range 256).all fun c => !encOk c || (seenB c && !decide (c = 13) && !decide (c = 32) && !decide (c = 38) && !decide (c = 47) && !decide (c = 61) && !decide (c = 63))) = true := by kernel_rfl
theorem ok_not {b : UInt8} (h : encOk b.toNat = true) : seenB b.toNat = true ∧ b.toNat ≠ 13 ∧ b.toNat ≠ 32 ∧ b.toNat ≠ 38 ∧ b.toNat ≠ 47 ∧ b.toNat ≠ 61 ∧ b.toNat ≠ 63 := by
 have := all_byte ok_runs b.toNat_lt
 rw [h] at this
 simp only [Bool.not_true, Bool.false_or, Bool.and_eq_true, Bool.not_eq_true', decide_eq_false_iff_not] at this
 obtain ⟨⟨⟨⟨⟨⟨h1, h2⟩, h3⟩, h4⟩, h5⟩, h6⟩, h7⟩ := this
 exact ⟨h1, h2, h3, h4, h5, h6, h7⟩
def tgOk (b : UInt8) : Prop := encOk b.toNat = true ∨ b = 47 ∨ b = 63 ∨ b = 38 ∨ b = 61
theorem tg_seen {b : UInt8} (h : tgOk b) : seenB b.toNat = true ∧ b ≠ 13 ∧ b ≠ 32 := by
 rcases h with h | rfl | rfl | rfl | rfl
 ·have := ok_not h
  exact ⟨this.1, fun e => by subst e; exact this.2.1 rfl, fun e => by subst e; exact this.2.2.1 rfl⟩
 all_goals exact ⟨by decide, by decide, by decide⟩
theorem path_ok : ∀ {l : List Bs} {b : UInt8}, b ∈ pathText l → encOk b.toNat = true ∨ b = 47
 | [], b, h => by cases h
 | p :: r, b, h => by
  simp only [pathText, List.mem_cons, List.mem_append] at h
  rcases h with h | h | h
  ·exact .inr h
  ·exact .inl (enc_ok h)
  ·exact path_ok h
theorem query_ok : ∀ {l : List Hd} {f : Bool} {b : UInt8}, b ∈ qText f l → tgOk b
 | [], _, b, h => by cases h
 | p :: r, f, b, h => by
  simp only [qText, List.mem_cons, List.mem_append] at h
  rcases h with h | h | h | h | h
  ·cases f
   ·exact .inr (.inr (.inr (.inl (by simpa using h))))
   ·exact .inr (.inr (.inl (by simpa using h)))
  ·exact .inl (enc_ok h)
  ·exact .inr (.inr (.inr (.inr h)))
  ·exact .inl (enc_ok h)
  ·exact query_ok h
theorem enc_no {s : Bs} (k : UInt8) (hk : k.toNat = 47 ∨ k.toNat = 61 ∨ k.toNat = 38 ∨ k.toNat = 63) : k ∉ enc s := fun h => by
 have := ok_not (enc_ok h)
 omega
theorem split_path : ∀ (r : List Bs) (a : Bs), 47 ∉ a → Lib.split (a ++ pathText r) [47] = a :: r.map enc
 | [], a, h => by rw [pathText, List.append_nil, split_one h]; rfl
 | p :: r, a, h => by rw [pathText, split_cons h, split_path r (enc p) (enc_no 47 (.inl rfl))]; rfl
def pairText (h : Hd) : Bs := enc h.1 ++ 61 :: enc h.2
theorem pair_no {h : Hd} : (38 : UInt8) ∉ pairText h := fun q => by
 unfold pairText at q
 rcases List.mem_append.1 q with q | q
 ·exact enc_no 38 (.inr (.inr (.inl rfl))) q
 ·rcases List.mem_cons.1 q with q | q
  ·exact absurd q (by decide)
  ·exact enc_no 38 (.inr (.inr (.inl rfl))) q
theorem split_query : ∀ (r : List Hd) (a : Bs), 38 ∉ a → Lib.split (a ++ qText false r) [38] = a :: r.map pairText
 | [], a, h => by rw [qText, List.append_nil, split_one h]; rfl
 | p :: r, a, h => by
  have e : qText false (p :: r) = 38 :: (pairText p ++ qText false r) := by simp [qText, pairText]
  rw [e, split_cons h, split_query r (pairText p) pair_no]; rfl
theorem decAll_enc : ∀ l : List Bs, decAll (l.map enc) = some l
 | [] => rfl
 | p :: r => by simp only [List.map_cons, decAll, dec_enc, decAll_enc r]
theorem decPairs_enc : ∀ l : List Hd, decPairs (l.map pairText) = some l
 | [] => rfl
 | p :: r => by
  have hc : Lib.cut (pairText p) [61] = (enc p.1, enc p.2, true) := cut_clean (enc_no 61 (.inr (.inl rfl)))
  simp only [List.map_cons, decPairs, hc, dec_enc, decPairs_enc r]
def FOk (f : First) : Prop := f.method ≠ [] ∧ f.method.length ≤ 16 ∧ allB capB f.method = true ∧ f.path ≠ []
theorem cap_no {m : Bs} (h : allB capB m = true) {b : UInt8} (hb : b ∈ m) : b ≠ 32 ∧ b ≠ 13 := by
 unfold allB at h
 have := List.all_eq_true.1 h b hb
 have h2 : 65 ≤ b.toNat ∧ b.toNat ≤ 90 := by simpa [capB] using this
 exact ⟨fun e => by subst e; exact absurd h2.1 (by decide), fun e => by subst e; exact absurd h2.1 (by decide)⟩
theorem tg_all {f : First} : ∀ b ∈ pathText f.path ++ qText true f.query, tgOk b := fun b hb => by
 rcases List.mem_append.1 hb with hb | hb
 ·rcases path_ok hb with h | h
  ·exact .inl h
  ·exact .inr (.inl h)
 ·exact query_ok hb
theorem first_line {f : First} (hf : FOk f) : firstP (lineText f ++ 32 :: version) = some f := by
 obtain ⟨h1, h2, h3, h4⟩ := hf
 obtain ⟨tg, htg⟩ : ∃ tg, tg = pathText f.path ++ qText true f.query := ⟨_, rfl⟩
 have hall : ∀ b ∈ tg, tgOk b := by rw [htg]; exact tg_all
 have hc1 : Lib.cut (lineText f ++ 32 :: version) [32] = (f.method, tg ++ 32 :: version, true) := by
  have : lineText f ++ 32 :: version = f.method ++ 32 :: (tg ++ 32 :: version) := by unfold lineText; rw [← htg]; simp
  rw [this]
  exact cut_clean fun h => (cap_no h3 h).1 rfl
 have hc2 : Lib.cut (tg ++ 32 :: version) [32] = (tg, version, true) := cut_clean fun h => (tg_seen (hall _ h)).2.2 rfl
 have em : methodOf (lineText f ++ 32 :: version) = f.method := by unfold methodOf; rw [hc1]
 have et : targetOf (lineText f ++ 32 :: version) = tg := by unfold targetOf; rw [hc1]; simp only; rw [hc2]
 have ee : endOf (lineText f ++ 32 :: version) = version := by unfold endOf; rw [hc1]; simp only; rw [hc2]
 obtain ⟨p, r, hpr⟩ : ∃ p r, f.path = p :: r := by cases hp : f.path with
  | nil => exact absurd hp h4
  | cons p r => exact ⟨p, r, rfl⟩
 have hpre : Lib.hasPrefix tg [47] = true := by rw [htg, hpr]; rfl
 have hseen : allB seenB tg = true := by
  unfold allB
  rw [List.all_eq_true]
  exact fun b hb => (tg_seen (hall b hb)).1
 have hbad : lineBad (lineText f ++ 32 :: version) = false := by
  unfold lineBad
  rw [em, et, ee, h3, hpre, hseen, decide_eq_false (by omega), show (f.method == []) = false by simp [h1]]
  rfl
 have hno63 : (63 : UInt8) ∉ pathText f.path := fun h => by
  rcases path_ok h with h | h
  ·exact (ok_not h).2.2.2.2.2.2 rfl
  ·exact absurd h (by decide)
 have hdrop : (pathText f.path).drop 1 = enc p ++ pathText r := by rw [hpr]; rfl
 have hpath : decAll (Lib.split ((pathText f.path).drop 1) [47]) = some f.path := by
  rw [hdrop, split_path r (enc p) (enc_no 47 (.inl rfl))]
  have := decAll_enc (p :: r)
  rw [hpr]; exact this
 unfold firstP
 rw [if_neg (by rw [hbad]; simp)]
 cases hq : f.query with
 | nil =>
  have hcut : Lib.cut tg [63] = (pathText f.path, [], false) := by
   rw [htg, hq]
   simp only [qText, List.append_nil]
   exact cut_none hno63
  have ep : pathOf (lineText f ++ 32 :: version) = pathText f.path := by unfold pathOf; rw [et, hcut]
  have eq : queryOf (lineText f ++ 32 :: version) = [] := by unfold queryOf; rw [et, hcut]
  have eqp : queryParts (lineText f ++ 32 :: version) = [] := by unfold queryParts; rw [eq, if_pos rfl]
  rw [ep, eqp, hpath, em]
  simp only [decPairs]
  rw [← hq]
 | cons h q =>
  have e : qText true (h :: q) = 63 :: (pairText h ++ qText false q) := by simp [qText, pairText]
  have hcut : Lib.cut tg [63] = (pathText f.path, pairText h ++ qText false q, true) := by
   rw [htg, hq, e]
   exact cut_clean hno63
  have ep : pathOf (lineText f ++ 32 :: version) = pathText f.path := by unfold pathOf; rw [et, hcut]
  have eq : queryOf (lineText f ++ 32 :: version) = pairText h ++ qText false q := by unfold queryOf; rw [et, hcut]
  have eqp : queryParts (lineText f ++ 32 :: version) = (h :: q).map pairText := by
   unfold queryParts
   rw [eq, if_neg (by unfold pairText; simp), split_query q (pairText h) pair_no]
   rfl
  rw [ep, eqp, hpath, em, decPairs_enc]
  simp only
  rw [← hq]
/-! The length's digits. -/
theorem dig_nat {d : Nat} (h : d < 10) : (UInt8.ofNat (48 + d)).toNat = 48 + d := by rw [UInt8.toNat_ofNat']; omega
theorem digits_ok : ∀ (n u : Nat), u = n → ∀ b ∈ Lib.decDigits u, 48 ≤ b.toNat ∧ b.toNat ≤ 57 := by
 intro n
 induction n using Nat.strongRecOn with
 | ind n ih =>
  intro u hu b hb
  rw [Lib.decDigits] at hb
  split at hb
  ·rename_i h
   have : b = UInt8.ofNat (48 + u) := by simpa using hb
   rw [this, dig_nat h]; omega
  ·rename_i h
   rcases List.mem_append.1 hb with hb | hb
   ·exact ih (u / 10) (by omega) _ rfl b hb
   ·have : b = UInt8.ofNat (48 + u % 10) := by simpa using hb
    rw [this, dig_nat (Nat.mod_lt _ (by omega))]
    have := Nat.mod_lt u (show 10 > 0 by omega)
    omega
theorem decFrom_append : ∀ (l r : Bs) (acc : Nat), Lib.decFrom acc (l ++ r) = (Lib.decFrom acc l).bind fun m => Lib.decFrom m r
 | [], r, acc => rfl
 | c :: l, r, acc => by
  rw [List.cons_append, Lib.decFrom, Lib.decFrom]
  cases Lib.digitVal c with
  | none => rfl
  | some d => exact decFrom_append l r _
theorem digitVal_of {d : Nat} (h : d < 10) : Lib.digitVal (UInt8.ofNat (48 + d)) = some d := by
 unfold Lib.digitVal
 rw [dig_nat h, if_pos (by omega)]
 congr 1; omega
theorem decFrom_digits : ∀ (n u : Nat), u = n → Lib.decFrom 0 (Lib.decDigits u) = some u := by
 intro n
 induction n using Nat.strongRecOn with
 | ind n ih =>
  intro u hu
  rw [Lib.decDigits]
  split
  ·rename_i h
   rw [Lib.decFrom, digitVal_of h]
   simp [Lib.decFrom]
  ·rename_i h
   rw [decFrom_append, ih (u / 10) (by omega) _ rfl]
   simp only [Option.bind_some]
   rw [Lib.decFrom, digitVal_of (Nat.mod_lt _ (by omega))]
   simp only [Lib.decFrom]
   congr 1; omega
theorem digits_ne (u : Nat) : Lib.decDigits u ≠ [] := by
 have := Lib.decDigits_length u
 have h2 := Lib.nDigits_pos u
 intro e
 rw [e] at this
 simp at this
 omega
theorem lenOf_digits (u : Nat) : lenOf (Lib.decDigits u) = u := by
 unfold lenOf Lib.decNat
 rw [if_neg (by have := digits_ne u; simp [this]), decFrom_digits u u rfl]
 rfl
theorem nd_bound : ∀ (k u : Nat), u < 10 ^ (k + 1) → Lib.nDigits u ≤ k + 1
 | 0, u, h => by rw [Lib.nDigits_small (by simpa using h)]; omega
 | k + 1, u, h => by
  by_cases hu : u < 10
  ·rw [Lib.nDigits_small hu]; omega
  ·rw [Lib.nDigits_big hu]
   have := nd_bound k (u / 10) (by rw [Nat.pow_succ] at h; omega)
   omega
theorem digits_len {u : Nat} (h : u < 1000000000) : (Lib.decDigits u).length ≤ 9 := by
 rw [Lib.decDigits_length]
 exact nd_bound 8 u (by simpa using h)
theorem digits_clean {u : Nat} (k : UInt8) (hk : k.toNat < 48 ∨ 57 < k.toNat) : k ∉ Lib.decDigits u := fun h => by
 have := digits_ok u u rfl k h
 omega
theorem digits_allB (u : Nat) : allB digit (Lib.decDigits u) = true := by
 unfold allB
 rw [List.all_eq_true]
 intro b hb
 have := digits_ok u u rfl b hb
 simp [digit]; omega
theorem dropWhile_none {p : UInt8 → Bool} {l : Bs} (h : ∀ b ∈ l, p b = false) : l.dropWhile p = l := by
 cases l with
 | nil => rfl
 | cons a r => rw [List.dropWhile_cons, h a (by simp)]; rfl
theorem trim_digits (u : Nat) : Lib.trimS (32 :: Lib.decDigits u) [32, 9] = Lib.decDigits u := by
 have hp : ∀ b ∈ Lib.decDigits u, ([32, 9] : Bs).contains b = false := fun b hb => by
  have := digits_ok u u rfl b hb
  have h1 : b ≠ 32 := fun e => by subst e; exact absurd this.1 (by decide)
  have h2 : b ≠ 9 := fun e => by subst e; exact absurd this.1 (by decide)
  simp [h1, h2]
 unfold Lib.trimS Lib.trimRightS Lib.trimLeftS
 have hr : (32 :: Lib.decDigits u).reverse.dropWhile (fun b => ([32, 9] : Bs).contains b) = (32 :: Lib.decDigits u).reverse := by
  obtain ⟨c, l, hcl⟩ : ∃ c l, (Lib.decDigits u).reverse = c :: l := by cases h : (Lib.decDigits u).reverse with
   | nil => exact absurd (by simpa using h) (digits_ne u)
   | cons c l => exact ⟨c, l, rfl⟩
  rw [List.reverse_cons, hcl, List.cons_append, List.dropWhile_cons, hp c (by rw [← List.mem_reverse, hcl]; simp)]
  rfl
 rw [hr, List.reverse_reverse, List.dropWhile_cons, show (([32, 9] : Bs).contains 32) = true by decide]
 simp only [if_true]
 exact dropWhile_none hp
theorem header_line (u : Nat) : headerP (clText ++ Lib.decDigits u) = some (clen, Lib.decDigits u) := by
 have hc : Lib.cut (clText ++ Lib.decDigits u) [58] = (clen, 32 :: Lib.decDigits u, true) := by
  have : clText ++ Lib.decDigits u = clen ++ 58 :: (32 :: Lib.decDigits u) := rfl
  rw [this]
  exact cut_clean (by decide)
 have hv : allB valueB (32 :: Lib.decDigits u) = true := by
  unfold allB
  rw [List.all_eq_true]
  intro b hb
  rcases List.mem_cons.1 hb with rfl | hb
  ·decide
  ·have := digits_ok u u rfl b hb
   simp [valueB]; omega
 have hbad : headerBad (clText ++ Lib.decDigits u) = false := by
  unfold headerBad
  rw [hc]
  simp only [hv]
  rfl
 unfold headerP
 rw [if_neg (by rw [hbad]; simp), hc]
 simp only [trim_digits]
 rfl
theorem head_text (f : First) (bd rest : Bs) (hb : bd.length < 1000000000) : headP f (clText ++ (Lib.decDigits bd.length ++ (crlf2 ++ (bd ++ rest)))) = if bd.length > 30000 then .broke 413 else .got ⟨f, [(clen, Lib.decDigits bd.length)], bd⟩ rest := by
 obtain ⟨hd, hhd⟩ : ∃ hd, hd = clText ++ Lib.decDigits bd.length := ⟨_, rfl⟩
 have hlen := digits_len hb
 have hhl : hd.length = 16 + (Lib.decDigits bd.length).length := by rw [hhd, List.length_append]; rfl
 have hno : (13 : UInt8) ∉ hd := fun h => by
  rw [hhd] at h
  rcases List.mem_append.1 h with h | h
  ·revert h; decide
  ·exact digits_clean 13 (.inl (by decide)) h
 have e0 : clText ++ (Lib.decDigits bd.length ++ (crlf2 ++ (bd ++ rest))) = hd ++ (crlf2 ++ (bd ++ rest)) := by rw [hhd]; simp
 rw [e0]
 have hidx : Lib.index (hd ++ (crlf2 ++ (bd ++ rest))) crlf2 = (hd.length : Int) := idx_clean (t := crlf2) (c := 13) rfl (by
  rw [List.isPrefixOf_iff_prefix]; exact List.prefix_append _ _) hno
 have hpre : Lib.hasPrefix (hd ++ (crlf2 ++ (bd ++ rest))) crlf = false := by rw [hhd]; rfl
 unfold headP
 rw [if_neg (by rw [hpre]; simp), hidx, if_neg (by omega), if_neg (by omega), Int.toNat_natCast]
 have e1 : (hd ++ (crlf2 ++ (bd ++ rest))).take (hd.length + 2) = hd ++ crlf := by
  rw [List.take_append, List.take_of_length_le (by omega), show hd.length + 2 - hd.length = 2 by omega]
  rfl
 have e2 : (hd ++ (crlf2 ++ (bd ++ rest))).drop (hd.length + 2 + 2) = bd ++ rest := by
  rw [List.drop_append, List.drop_eq_nil_of_le (by omega), show hd.length + 2 + 2 - hd.length = 4 by omega]
  rfl
 have hcut : Lib.cut (hd ++ crlf) crlf = (hd, [], true) := by
  have hi := idx_clean (t := crlf) (z := crlf) (c := 13) (x := hd) rfl (by decide) hno
  unfold Lib.cut
  rw [hi, if_pos (by omega), Int.toNat_natCast, List.take_left, List.drop_eq_nil_of_le (by simp)]
 have hne : hd ++ crlf ≠ [] := by simp [crlf]
 have hh : headersP (hd ++ crlf) [] 0 false = if bd.length > 30000 then .bad 413 else .ok [(clen, Lib.decDigits bd.length)] bd.length := by
  rw [heads_step hne, hcut]
  simp only
  rw [hhd, header_line]
  simp only
  rw [if_neg (by decide), if_pos trivial, if_neg (by
   unfold lenBad
   rw [digits_allB, decide_eq_false (by omega), show (Lib.decDigits bd.length == []) = false by simp [digits_ne]]
   decide), lenOf_digits, heads_nil]
  rfl
 unfold bodyP
 rw [e1, e2, hh]
 split
 ·rename_i st h
  split at h
  ·rename_i hgt
   cases h
   rw [if_pos hgt]
  ·cases h
 ·rename_i l n h
  split at h
  ·cases h
  ·rename_i hgt
   cases h
   rw [if_neg hgt, if_neg (by simp), List.take_left, List.drop_left]
theorem next_text {f : First} (hf : FOk f) (hl : (lineText f).length ≤ 2039) (bd rest : Bs) (hb : bd.length < 1000000000) : nextP (textP f bd ++ rest) = if bd.length > 30000 then .broke 413 else .got ⟨f, [(clen, Lib.decDigits bd.length)], bd⟩ rest := by
 obtain ⟨ln, hln⟩ : ∃ ln, ln = lineText f ++ 32 :: version := ⟨_, rfl⟩
 have e0 : textP f bd ++ rest = ln ++ (crlf ++ (clText ++ (Lib.decDigits bd.length ++ (crlf2 ++ (bd ++ rest))))) := by
  unfold textP
  rw [hln, show verText = 32 :: (version ++ crlf) from rfl]
  simp
 have hno : (13 : UInt8) ∉ ln := fun h => by
  rw [hln] at h
  unfold lineText at h
  rcases List.mem_append.1 h with h | h
  ·rcases List.mem_append.1 h with h | h
   ·exact (cap_no hf.2.2.1 h).2 rfl
   ·rcases List.mem_cons.1 h with h | h
    ·exact absurd h (by decide)
    ·exact (tg_seen (tg_all _ h)).2.1 rfl
  ·revert h; decide
 have hll : ln.length ≤ 2048 := by rw [hln, List.length_append]; simp only [List.length_cons, version]; simp; omega
 have hidx : Lib.index (ln ++ (crlf ++ (clText ++ (Lib.decDigits bd.length ++ (crlf2 ++ (bd ++ rest)))))) crlf = (ln.length : Int) := idx_clean (t := crlf) (c := 13) rfl (by
  rw [List.isPrefixOf_iff_prefix]; exact List.prefix_append _ _) hno
 rw [e0]
 unfold nextP
 rw [hidx, if_neg (by omega), if_neg (by omega), Int.toNat_natCast, List.take_left]
 have hfp : firstP ln = some f := by rw [hln]; exact first_line hf
 rw [hfp]
 simp only
 have e2 : (ln ++ (crlf ++ (clText ++ (Lib.decDigits bd.length ++ (crlf2 ++ (bd ++ rest)))))).drop (ln.length + 2) = clText ++ (Lib.decDigits bd.length ++ (crlf2 ++ (bd ++ rest))) := by
  rw [List.drop_append, List.drop_eq_nil_of_le (by omega), show ln.length + 2 - ln.length = 2 by omega]
  rfl
 rw [e2]
 exact head_text f bd rest hb
end Go.Proofs.Hc
