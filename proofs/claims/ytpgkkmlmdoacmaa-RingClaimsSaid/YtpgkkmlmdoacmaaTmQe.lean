/- RgP3, RgP4, RgP5, RgPlain2, RgP7, joined. -/
import Derived.Test.YtpgkkmlmdoacmaaRgPlain
set_option linter.unusedVariables false
set_option linter.unusedSimpArgs false
set_option linter.unusedSectionVars false
section
namespace Go.Proofs.RgPlain
open Go.Lib Go.Sort
/-! Sums. -/
theorem sum_congr {α : Type} {f g : α → Int} : ∀ {l : List α}, (∀ x ∈ l, f x = g x) → (l.map f).sum = (l.map g).sum
 | [], _ => rfl
 | x :: r, h => by simp only [List.map_cons, List.sum_cons]; rw [h x (by simp), sum_congr fun y hy => h y (by simp [hy])]
theorem sum_le {α : Type} {f g : α → Int} : ∀ {l : List α}, (∀ x ∈ l, f x ≤ g x) → (l.map f).sum ≤ (l.map g).sum
 | [], _ => Int.le_refl _
 | x :: r, h => by
  simp only [List.map_cons, List.sum_cons]
  have h1 := h x (by simp)
  have h2 := sum_le (f := f) (g := g) (l := r) fun y hy => h y (by simp [hy])
  omega
theorem sum_add {α : Type} (f g : α → Int) : ∀ (l : List α), (l.map fun x => f x + g x).sum = (l.map f).sum + (l.map g).sum
 | [] => rfl
 | x :: r => by simp only [List.map_cons, List.sum_cons]; rw [sum_add f g r]; omega
theorem sum_const {α : Type} (c : Int) : ∀ (l : List α), (l.map fun _ => c).sum = l.length * c
 | [] => by simp
 | x :: r => by simp only [List.map_cons, List.sum_cons, List.length_cons]; rw [sum_const c r, Int.natCast_add, Int.add_mul]; omega
theorem sum_perm {α : Type} {f : α → Int} {l m : List α} (h : l.Perm m) : (l.map f).sum = (m.map f).sum := by
 induction h with
 | nil => rfl
 | cons x _ ih => simp only [List.map_cons, List.sum_cons, ih]
 | swap x y l => simp only [List.map_cons, List.sum_cons]; omega
 | trans _ _ h1 h2 => exact h1.trans h2
theorem sum_pos {α : Type} {f : α → Int} : ∀ {l : List α}, 0 < (l.map f).sum → ∃ x ∈ l, 0 < f x
 | [], h => by simp at h
 | x :: r, h => by
  simp only [List.map_cons, List.sum_cons] at h
  by_cases hx : 0 < f x
  ·exact ⟨x, by simp, hx⟩
  ·obtain ⟨y, hy, h2⟩ := sum_pos (f := f) (l := r) (by omega)
   exact ⟨y, by simp [hy], h2⟩
theorem sum_one (a : Int) (c : Int) : ∀ (l : List Int), l.Nodup → (l.map fun n => if a = n then c else 0).sum = if a ∈ l then c else 0
 | [], _ => by simp
 | x :: r, h => by
  rw [List.nodup_cons] at h
  simp only [List.map_cons, List.sum_cons]
  rw [sum_one a c r h.2]
  by_cases e : a = x
  ·subst e; simp [h.1]
  ·simp [e]
theorem sum_count {L : List Int} (hL : L.Nodup) : ∀ (x : List Int), (L.map fun n => (x.count n : Int)).sum = (x.countP fun a => decide (a ∈ L) : Nat)
 | [] => by simp only [List.count_nil, List.countP_nil]; rw [sum_const]; simp
 | a :: r => by
  have h : (L.map fun n => ((a :: r).count n : Int)).sum = (L.map fun n => (r.count n : Int) + (if a = n then 1 else 0)).sum := sum_congr fun n _ => by
   rw [List.count_cons]
   by_cases e : a = n
   ·subst e; simp
   ·have : (a == n) = false := by simpa using e
    simp [this, e]
  rw [h, sum_add, sum_count hL r, sum_one a 1 L hL, List.countP_cons]
  by_cases e : a ∈ L <;> simp [e]
/-! Members. -/
theorem mem_compact (zs : List Int) (n : Int) : n ∈ compact zs ↔ n ∈ zs := by
 unfold compact compactUpTo
 rw [List.mem_map]
 constructor
 ·rintro ⟨j, hj, rfl⟩
  rw [List.mem_filter, List.mem_range] at hj
  rw [getElem!_pos _ _ (by simpa using hj.1)]
  simp
 ·intro h
  obtain ⟨j, hj, rfl⟩ := List.mem_iff_getElem.1 h
  clear h
  induction j using Nat.strongRecOn with
  | ind j ih =>
   by_cases hk : keeps zs.toArray j = true
   ·exact ⟨j, by rw [List.mem_filter, List.mem_range]; exact ⟨hj, hk⟩, by rw [getElem!_pos _ _ (by simpa using hj)]; simp⟩
   ·have h1 : ¬ (j = 0 ∨ zs.toArray[j]! ≠ zs.toArray[j - 1]!) := by simpa [keeps] using hk
    have h2 : zs.toArray[j]! = zs.toArray[j - 1]! := Classical.byContradiction fun q => h1 (.inr q)
    have h3 : j ≠ 0 := fun q => h1 (.inl q)
    rw [getElem!_pos _ _ (by simpa using hj), getElem!_pos _ _ (by simp; omega)] at h2
    simp only [List.getElem_toArray] at h2
    obtain ⟨i, q1, q2⟩ := ih (j - 1) (by omega) (by omega)
    exact ⟨i, q1, q2.trans h2.symm⟩
theorem compact_sorted (zs : List Int) (h : zs.Pairwise (· ≤ ·)) : (compact zs).Pairwise (· < ·) := by
 unfold compact compactUpTo
 rw [List.pairwise_map]
 have hr : ((List.range zs.length).filter (keeps zs.toArray)).Pairwise fun a b => a < b := (List.pairwise_lt_range).sublist List.filter_sublist
 refine List.Pairwise.imp_of_mem ?_ hr
 intro a b ha hb hab
 rw [List.mem_filter, List.mem_range] at ha hb
 rw [getElem!_pos _ _ (by simpa using ha.1), getElem!_pos _ _ (by simpa using hb.1)]
 simp only [List.getElem_toArray]
 have hk : b = 0 ∨ zs.toArray[b]! ≠ zs.toArray[b - 1]! := by simpa [keeps] using hb.2
 have hne : zs.toArray[b]! ≠ zs.toArray[b - 1]! := by
  rcases hk with q | q
  ·omega
  ·exact q
 rw [getElem!_pos _ _ (by simpa using hb.1), getElem!_pos _ _ (by have := hb.1; simp; omega)] at hne
 simp only [List.getElem_toArray] at hne
 have h1 : zs[b - 1]'(by omega) ≤ zs[b] := List.pairwise_iff_getElem.1 h _ _ _ _ (by omega)
 have h2 : zs[a] ≤ zs[b - 1]'(by omega) := by
  by_cases e : a = b - 1
  ·subst e; exact Int.le_refl _
  ·exact List.pairwise_iff_getElem.1 h _ _ _ _ (by omega)
 omega
theorem mem_those (ms : List Int) (n : Int) : n ∈ those ms ↔ 0 < n ∧ n ∈ ms := by
 unfold those
 rw [mem_compact, List.mem_mergeSort, List.mem_filter]
 simp [and_comm]
theorem those_sorted (ms : List Int) : (those ms).Pairwise (· < ·) := by
 unfold those
 refine compact_sorted _ ?_
 have h := List.pairwise_mergeSort (le := fun x y : Int => decide (x ≤ y)) (fun a b c h1 h2 => by simp at *; omega) (fun a b => by simp; omega) (ms.filter fun n => decide (0 < n))
 exact h.imp fun h => by simpa using h
theorem those_nodup (ms : List Int) : (those ms).Nodup := (those_sorted ms).imp fun h => by omega
theorem those_nil_iff (ms : List Int) : those ms = [] ↔ (ms.filter fun n => decide (0 < n)) = [] := by
 rw [List.eq_nil_iff_forall_not_mem, List.eq_nil_iff_forall_not_mem]
 constructor
 ·intro h n hn
  rw [List.mem_filter] at hn
  exact h n ((mem_those ms n).2 ⟨by simpa using hn.2, hn.1⟩)
 ·intro h n hn
  have := (mem_those ms n).1 hn
  exact h n (by rw [List.mem_filter]; exact ⟨this.2, by simpa using this.1⟩)
theorem cnt_eq (o : List Int) (ho : o.length = 8) (n : Int) (hn : 0 < n) : cnt o n = o.count n := by
 have h : ∀ k, k ≤ 8 → (ownedTo o n k).length = (o.take k).count n := by
  intro k
  induction k with
  | zero => intro _; simp [ownedTo]
  | succ k ih =>
   intro hk
   have hlt : k < o.length := by omega
   rw [ownedTo_succ, List.take_add_one, List.getElem?_eq_getElem hlt, List.count_append]
   have hg : o.getD k 0 = o[k] := by rw [List.getD_eq_getElem?_getD, List.getElem?_eq_getElem hlt]; rfl
   by_cases e : o[k] = n
   ·have : isOwn o n k = true := by unfold isOwn; rw [hg, decide_eq_true hn, decide_eq_true e]; rfl
    rw [if_pos this, List.length_append, ih (by omega)]
    simp [e]
   ·have : isOwn o n k = false := by unfold isOwn; rw [hg, decide_eq_false e, Bool.and_false]
    rw [this]
    simp only [Bool.false_eq_true, if_false]
    rw [ih (by omega)]
    simp [e]
 unfold cnt owned
 rw [h 8 (Nat.le_refl _), List.take_of_length_le (by omega)]
end Go.Proofs.RgPlain
end
section
namespace Go.Proofs.RgPlain
open Go.Lib Go.Sort
def quota (k : Nat) (S : List Int) (n : Int) : Int := if n ∈ S then ((8 / k : Nat) : Int) + (if S.idxOf n < 8 % k then 1 else 0) else 0
theorem startL_eq (k : Nat) : ∀ (S : List Int) (i : Nat) (φ : Int → Int) (n : Int), S.Nodup → startL k S i φ n = if n ∈ S then ((8 / k : Nat) : Int) + (if i + S.idxOf n < 8 % k then 1 else 0) else φ n
 | [], i, φ, n, _ => by simp [startL]
 | m :: r, i, φ, n, h => by
  rw [List.nodup_cons] at h
  simp only [startL]
  rw [startL_eq k r (i + 1) _ n h.2]
  by_cases e : n = m
  ·subst e
   rw [if_neg h.1, if_pos List.mem_cons_self, List.idxOf_cons_self, Nat.add_zero]
   by_cases hi : i < 8 % k
   ·rw [if_pos hi, if_pos hi]; simp [upd]
   ·rw [if_neg hi, if_neg hi]; simp [upd]
  ·by_cases hn : n ∈ r
   ·rw [if_pos hn, if_pos (List.mem_cons_of_mem _ hn)]
    have : (m :: r).idxOf n = r.idxOf n + 1 := by
     rw [List.idxOf_cons]
     have : (m == n) = false := by simpa using fun q : m = n => e q.symm
     rw [this]; rfl
    rw [this, show i + (r.idxOf n + 1) = i + 1 + r.idxOf n by omega]
   ·rw [if_neg hn, if_neg (show ¬ n ∈ m :: r by simp [e, hn])]
    by_cases hi : i < 8 % k
    ·rw [if_pos hi]; simp [upd, e]
    ·rw [if_neg hi]; simp [upd, e]
theorem startL_quota (k : Nat) (S : List Int) (h : S.Nodup) : startL k S 0 (fun _ => 0) = quota k S := by
 funext n
 rw [startL_eq k S 0 _ n h]
 simp only [Nat.zero_add]
 rfl
theorem sum_idx (g : Nat → Int) : ∀ (S : List Int) (i : Nat), S.Nodup → (S.map fun n => g (i + S.idxOf n)).sum = ((List.range S.length).map fun j => g (i + j)).sum
 | [], _, _ => rfl
 | m :: r, i, h => by
  rw [List.nodup_cons] at h
  rw [List.length_cons, List.range_succ_eq_map]
  simp only [List.map_cons, List.sum_cons, List.idxOf_cons_self]
  congr 1
  rw [List.map_map]
  have h1 := sum_idx g r (i + 1) h.2
  have h2 : (r.map fun n => g (i + (m :: r).idxOf n)).sum = (r.map fun n => g (i + 1 + r.idxOf n)).sum := sum_congr fun n hn => by
   have e : m ≠ n := fun q => h.1 (q ▸ hn)
   rw [List.idxOf_cons]
   have : (m == n) = false := by simpa using e
   rw [this]
   simp only [cond_false]
   congr 1; omega
  rw [h2, h1]
  apply sum_congr
  intro j _
  show g (i + 1 + j) = g (i + (j + 1))
  congr 1; omega
theorem sum_below (r : Nat) : ∀ m, ((List.range m).map fun j => if j < r then (1 : Int) else 0).sum = (min m r : Nat)
 | 0 => by simp
 | m + 1 => by
  rw [List.range_succ, List.map_append, List.sum_append, sum_below r m]
  simp only [List.map_cons, List.map_nil, List.sum_cons, List.sum_nil]
  split <;> omega
theorem quota_sum (S : List Int) (h : S.Nodup) (h0 : S ≠ []) : (S.map (quota S.length S)).sum = 8 := by
 have hk : 0 < S.length := List.length_pos_iff.2 h0
 have e : (S.map (quota S.length S)).sum = (S.map fun n => ((8 / S.length : Nat) : Int) + (if 0 + S.idxOf n < 8 % S.length then 1 else 0)).sum := sum_congr fun n hn => by
  unfold quota; rw [if_pos hn, Nat.zero_add]
 rw [e, sum_add, sum_const, sum_idx (fun j => if j < 8 % S.length then (1 : Int) else 0) S 0 h]
 simp only [Nat.zero_add]
 rw [sum_below]
 have h1 := Nat.div_add_mod 8 S.length
 have h2 : 8 % S.length < S.length := Nat.mod_lt _ hk
 rw [Nat.min_eq_right (by omega)]
 rw [← Int.natCast_mul, ← Int.natCast_add]
 rw [h1]; rfl
theorem quota_nonneg (k : Nat) (S : List Int) (n : Int) : 0 ≤ quota k S n := by
 unfold quota
 have : (0 : Int) ≤ ((8 / k : Nat) : Int) := Int.natCast_nonneg _
 generalize ((8 / k : Nat) : Int) = v at this
 split
 ·split <;> omega
 ·omega
theorem keep_phi : ∀ (l : List Int) (p : Nat) (φ : Int → Int) (out op : List Int), (∀ n, 0 ≤ φ n) → ∀ n, (keep l p φ out op).1 n = max (φ n - l.count n) 0
 | [], p, φ, out, op, h, n => by
  have := h n
  simp only [keep, List.count_nil]; omega
 | m :: r, p, φ, out, op, h, n => by
  simp only [keep]
  have hm := h m
  have hn := h n
  rw [List.count_cons]
  split
  ·rename_i hle
   rw [keep_phi r (p + 1) φ out _ h n]
   by_cases e : m = n
   ·subst e; simp; omega
   ·have : (m == n) = false := by simpa using e
    simp [this]
  ·rename_i hle
   rw [keep_phi r (p + 1) _ _ op (fun j => by unfold upd; split; omega; exact h j) n]
   by_cases e : m = n
   ·subst e; simp [upd]; omega
   ·have : (m == n) = false := by simpa using e
    simp only [this, upd]
    rw [if_neg (fun q => e q.symm)]
    simp
theorem keep_all : ∀ (l : List Int) (p : Nat) (φ : Int → Int) (out op : List Int), (∀ n ∈ l, (l.count n : Int) ≤ φ n) → p + l.length ≤ out.length → (keep l p φ out op).2.1 = out.take p ++ l ++ out.drop (p + l.length) ∧ (keep l p φ out op).2.2 = op
 | [], p, φ, out, op, _, h => by simp [keep]
 | m :: r, p, φ, out, op, hc, h => by
  simp only [keep]
  have hm := hc m (by simp)
  rw [List.count_cons_self] at hm
  rw [if_neg (by omega)]
  simp only [List.length_cons] at h
  obtain ⟨h1, h2⟩ := keep_all r (p + 1) (upd φ m (φ m - 1)) (out.set p m) op (fun n hn => by
   have := hc n (by simp [hn])
   rw [List.count_cons] at this
   unfold upd
   by_cases e : n = m
   ·subst e; simp at this; simp; omega
   ·have e' : (m == n) = false := by simpa using fun q : m = n => e q.symm
    rw [e'] at this
    rw [if_neg e]
    simpa using this) (by rw [List.length_set]; omega)
  refine ⟨?_, h2⟩
  rw [h1]
  apply List.ext_getElem?
  intro k
  simp only [List.length_cons]
  by_cases k1 : k < p
  ·rw [List.append_assoc, List.append_assoc, List.getElem?_append_left (by simp; omega), List.getElem?_append_left (by simp; omega), List.getElem?_take, List.getElem?_take, if_pos (by omega), if_pos k1, List.getElem?_set_ne (by omega)]
  ·by_cases k2 : k = p
   ·subst k2
    rw [List.append_assoc, List.append_assoc, List.getElem?_append_left (by simp; omega), List.getElem?_take, if_pos (by omega), List.getElem?_set_self (by omega), List.getElem?_append_right (by simp; omega)]
    have : k - (out.take k).length = 0 := by simp; omega
    rw [this]; rfl
   ·have e1 : ((out.set p m).take (p + 1)).length = p + 1 := by simp; omega
    have e2 : (out.take p).length = p := by simp; omega
    rw [List.append_assoc, List.append_assoc, List.getElem?_append_right (l₁ := (out.set p m).take (p + 1)) (by rw [e1]; omega), List.getElem?_append_right (l₁ := out.take p) (by rw [e2]; omega), e1, e2, List.cons_append]
    obtain ⟨j, hj⟩ : ∃ j, k = p + 1 + j := ⟨k - (p + 1), by omega⟩
    subst hj
    rw [show p + 1 + j - (p + 1) = j by omega, show p + 1 + j - p = j + 1 by omega, List.getElem?_cons_succ]
    congr 2
    rw [List.drop_set_of_lt (by omega)]
    congr 1; omega
theorem keep_low : ∀ (l : List Int) (p : Nat) (φ : Int → Int) (out op : List Int) (i : Nat), i < p → (keep l p φ out op).2.1[i]? = out[i]?
 | [], _, _, _, _, _, _ => rfl
 | m :: r, p, φ, out, op, i, h => by
  simp only [keep]
  split
  ·exact keep_low r (p + 1) φ out _ i (by omega)
  ·rw [keep_low r (p + 1) _ _ op i (by omega), List.getElem?_set_ne (by omega)]
theorem keep_keeps : ∀ (l : List Int) (p : Nat) (φ : Int → Int) (out op : List Int) (j : Nat) (hj : j < l.length), p + l.length ≤ out.length → (l.count l[j] : Int) ≤ φ l[j] → (keep l p φ out op).2.1[p + j]? = some l[j]
 | [], _, _, _, _, j, hj, _, _ => by simp at hj
 | m :: r, p, φ, out, op, 0, hj, hl, hc => by
  simp only [List.getElem_cons_zero, List.count_cons_self] at hc
  simp only [List.length_cons] at hl
  simp only [keep]
  rw [if_neg (by omega)]
  exact (keep_low r (p + 1) _ (out.set p m) op p (by omega)).trans (by rw [List.getElem?_set_self (by omega)]; rfl)
 | m :: r, p, φ, out, op, j + 1, hj, hl, hc => by
  have hj' : j < r.length := by simpa using hj
  simp only [List.getElem_cons_succ, List.count_cons] at hc
  simp only [List.length_cons] at hl
  simp only [keep, List.getElem_cons_succ]
  rw [show p + (j + 1) = p + 1 + j by omega]
  split
  ·exact keep_keeps r (p + 1) φ out _ j hj' (by omega) (by split at hc <;> omega)
  ·refine keep_keeps r (p + 1) _ (out.set p m) op j hj' (by rw [List.length_set]; omega) ?_
   unfold upd
   by_cases e : r[j] = m
   ·rw [if_pos e]
    rw [e] at hc ⊢
    simp at hc
    omega
   ·rw [if_neg e]
    have : (m == r[j]) = false := by simpa using fun q : m = r[j] => e q.symm
    rw [this] at hc
    simpa using hc
structure Inv (q : Int → Int) (L : List Int) (φ : Int → Int) (out : List Int) : Prop where
 len : out.length = 8
 sum : ∀ n, n ≠ 0 → (out.count n : Int) + φ n = q n
 low : ∀ n, 0 ≤ φ n
 mem : ∀ n, 0 < φ n → n ∈ L
 out : ∀ x ∈ out, x = 0 ∨ x ∈ L
theorem count_set_new {out : List Int} {p : Nat} {n : Int} (hp : p < out.length) (h0 : out[p] = 0) (m : Int) (hm : m ≠ 0) : (out.set p n).count m = out.count m + (if n = m then 1 else 0) := by
 have h := List.count_set (l := out) (i := p) (a := n) (b := m) hp
 rw [h, h0]
 have : ((0 : Int) == m) = false := by simpa using fun q : (0 : Int) = m => hm q.symm
 rw [this]
 by_cases e : n = m
 ·subst e; simp
 ·have e' : (n == m) = false := by simpa using e
  simp [e', e]
theorem Inv.take {q : Int → Int} {L : List Int} {φ : Int → Int} {out : List Int} (h : Inv q L φ out) (h0L : (0 : Int) ∉ L) {p : Nat} {n : Int} (hp : p < 8) (h0 : out[p]'(by rw [h.len]; exact hp) = 0) (hn : 0 < φ n) : Inv q L (upd φ n (φ n - 1)) (out.set p n) := by
 have hnL := h.mem n hn
 have hn0 : n ≠ 0 := fun e => h0L (e ▸ hnL)
 refine ⟨by rw [List.length_set]; exact h.len, fun m hm => ?_, fun m => ?_, fun m hm => ?_, fun x hx => ?_⟩
 ·have := h.sum m hm
  rw [count_set_new (by rw [h.len]; exact hp) h0 m hm]
  unfold upd
  by_cases e : m = n
  ·subst e; simp; omega
  ·rw [if_neg e, if_neg (fun q => e q.symm)]; simpa using this
 ·have := h.low m
  unfold upd; split <;> omega
 ·unfold upd at hm
  split at hm
  ·rename_i e; subst e; exact hnL
  ·exact h.mem m hm
 ·rcases List.mem_or_eq_of_mem_set hx with hx | rfl
  ·exact h.out x hx
  ·exact .inr hnL
end Go.Proofs.RgPlain
end
section
namespace Go.Proofs.RgPlain
open Go.Lib Go.Sort
theorem getD_get {l : List Int} {i : Nat} (h : i < l.length) : l.getD i 0 = l[i] := by rw [List.getD_eq_getElem?_getD, List.getElem?_eq_getElem h]; rfl
theorem getD_set_same {l : List Int} {i : Nat} (h : i < l.length) (x : Int) : (l.set i x).getD i 0 = x := by rw [List.getD_eq_getElem?_getD, List.getElem?_set_self h]; rfl
theorem getD_set_ne {l : List Int} {i j : Nat} (h : j ≠ i) (x : Int) : (l.set i x).getD j 0 = l.getD j 0 := by rw [List.getD_eq_getElem?_getD, List.getElem?_set_ne (Ne.symm h), ← List.getD_eq_getElem?_getD]
theorem keep_inv {q : Int → Int} {L : List Int} (h0L : (0 : Int) ∉ L) : ∀ (l : List Int) (p : Nat) (φ : Int → Int) (out op : List Int), p + l.length = 8 → Inv q L φ out → (∀ i, p ≤ i → i < 8 → out.getD i 0 = 0) → (∀ x ∈ op, ∃ i : Nat, x = i ∧ i < p ∧ out.getD i 0 = 0) → op.Nodup → (∀ i : Nat, i < p → out.getD i 0 = 0 → (i : Int) ∈ op) →
  Inv q L (keep l p φ out op).1 (keep l p φ out op).2.1 ∧ (∀ x ∈ (keep l p φ out op).2.2, ∃ i : Nat, x = i ∧ i < 8 ∧ (keep l p φ out op).2.1.getD i 0 = 0) ∧ (keep l p φ out op).2.2.Nodup ∧ (∀ i : Nat, i < 8 → (keep l p φ out op).2.1.getD i 0 = 0 → (i : Int) ∈ (keep l p φ out op).2.2) ∧
  (∀ i, i < p → (keep l p φ out op).2.1.getD i 0 = out.getD i 0) ∧ ∀ i, i < l.length → (keep l p φ out op).2.1.getD (p + i) 0 = 0 ∨ (keep l p φ out op).2.1.getD (p + i) 0 = l.getD i 0
 | [], p, φ, out, op, hp, hi, hz, ho, hn, hc => by
  have hp8 : p = 8 := by simpa using hp
  subst hp8
  simp only [keep]
  exact ⟨hi, ho, hn, hc, fun _ _ => trivial, fun i h => by simp at h⟩
 | m :: r, p, φ, out, op, hp, hi, hz, ho, hn, hc => by
  simp only [List.length_cons] at hp
  have hlt : p < out.length := by rw [hi.len]; omega
  have hzp := hz p (Nat.le_refl _) (by omega)
  simp only [keep]
  split
  ·obtain ⟨a1, a2, a3, a4, a5, a6⟩ := keep_inv h0L r (p + 1) φ out (op ++ [(p : Int)]) (by omega) hi (fun i h1 h2 => hz i (by omega) h2) (fun x hx => by
    simp at hx
    rcases hx with hx | rfl
    ·obtain ⟨i, h1, h2, h3⟩ := ho x hx
     exact ⟨i, h1, by omega, h3⟩
    ·exact ⟨p, rfl, by omega, hzp⟩) (by
    rw [List.nodup_append]
    refine ⟨hn, by simp, fun a ha b hb => ?_⟩
    simp at hb
    subst hb
    obtain ⟨i, h1, h2, _⟩ := ho a ha
    omega) (fun i h1 h2 => by
    by_cases e : i = p
    ·subst e; simp
    ·simp [hc i (by omega) h2])
   refine ⟨a1, a2, a3, a4, fun i h => a5 i (by omega), fun i h => ?_⟩
   cases i with
   | zero => left; exact (a5 p (by omega)).trans hzp
   | succ i =>
    have := a6 i (by simpa using h)
    rw [show p + (i + 1) = p + 1 + i by omega]
    simpa using this
  ·rename_i hle
   have hn0 : 0 < φ m := by omega
   have hm0 : m ≠ 0 := fun e => h0L (e ▸ hi.mem m hn0)
   have ht := hi.take h0L (p := p) (by omega) (by rw [← getD_get hlt]; exact hzp) hn0
   obtain ⟨a1, a2, a3, a4, a5, a6⟩ := keep_inv h0L r (p + 1) (upd φ m (φ m - 1)) (out.set p m) op (by omega) ht (fun i h1 h2 => by rw [getD_set_ne (by omega)]; exact hz i (by omega) h2) (fun x hx => by
    obtain ⟨i, h1, h2, h3⟩ := ho x hx
    exact ⟨i, h1, by omega, by rw [getD_set_ne (by omega)]; exact h3⟩) hn (fun i h1 h2 => by
    by_cases e : i = p
    ·subst e
     rw [getD_set_same hlt] at h2
     exact absurd h2 hm0
    ·rw [getD_set_ne e] at h2
     exact hc i (by omega) h2)
   refine ⟨a1, a2, a3, a4, fun i h => by rw [a5 i (by omega), getD_set_ne (by omega)], fun i h => ?_⟩
   cases i with
   | zero => right; exact (a5 p (by omega)).trans (getD_set_same hlt m)
   | succ i =>
    have := a6 i (by simpa using h)
    rw [show p + (i + 1) = p + 1 + i by omega]
    simpa using this
theorem give_spec (p : Nat) : ∀ (l : List Int) (φ : Int → Int) (out : List Int), (∃ n ∈ l, 0 < φ n) → ∃ n ∈ l, 0 < φ n ∧ give p l φ out = (upd φ n (φ n - 1), out.set p n)
 | [], _, _, h => by obtain ⟨n, hn, _⟩ := h; simp at hn
 | m :: r, φ, out, h => by
  simp only [give]
  split
  ·rename_i hle
   obtain ⟨n, hn, h0⟩ := h
   have : n ∈ r := by
    simp at hn
    rcases hn with rfl | hn
    ·omega
    ·exact hn
   obtain ⟨n', h1, h2, h3⟩ := give_spec p r φ out ⟨n, this, h0⟩
   exact ⟨n', by simp [h1], h2, h3⟩
  ·exact ⟨m, by simp, by omega, rfl⟩
theorem Inv.some {q : Int → Int} {L : List Int} {φ : Int → Int} {out : List Int} (h : Inv q L φ out) (hL : L.Nodup) (h0L : (0 : Int) ∉ L) (hq : (L.map q).sum = 8) : (L.map φ).sum = 8 - (out.countP fun a => decide (a ∈ L) : Nat) := by
 have h1 : (L.map q).sum = (L.map fun n => (out.count n : Int) + φ n).sum := sum_congr fun n hn => (h.sum n fun e => h0L (e ▸ hn)).symm
 rw [sum_add, sum_count hL] at h1
 have h2 : (L.map fun x => φ x).sum = (L.map φ).sum := rfl
 omega
theorem Inv.free {q : Int → Int} {L : List Int} {φ : Int → Int} {out : List Int} (h : Inv q L φ out) (hL : L.Nodup) (h0L : (0 : Int) ∉ L) (hq : (L.map q).sum = 8) {i : Nat} (hi : i < 8) (h0 : out.getD i 0 = 0) : ∃ n ∈ L, 0 < φ n := by
 refine sum_pos (l := L) ?_
 rw [h.some hL h0L hq]
 have hlt : i < out.length := by rw [h.len]; exact hi
 have hle := List.countP_le_length (p := fun a => decide (a ∈ L)) (l := out)
 have hne : (out.countP fun a => decide (a ∈ L)) ≠ out.length := by
  rw [Ne, List.countP_eq_length]
  intro hall
  have := hall out[i] (List.getElem_mem _)
  rw [← getD_get hlt, h0] at this
  exact h0L (by simpa using this)
 have := h.len
 omega
theorem fill_inv {q : Int → Int} {L : List Int} (hL : L.Nodup) (h0L : (0 : Int) ∉ L) (hq : (L.map q).sum = 8) : ∀ (op : List Int) (φ : Int → Int) (out : List Int), Inv q L φ out → (∀ x ∈ op, ∃ i : Nat, x = i ∧ i < 8 ∧ out.getD i 0 = 0) → op.Nodup → (∀ i : Nat, i < 8 → out.getD i 0 = 0 → (i : Int) ∈ op) →
  ∃ ψ, Inv q L ψ (fill L op φ out) ∧ ∀ i, i < 8 → (fill L op φ out).getD i 0 ≠ 0 ∧ (out.getD i 0 ≠ 0 → (fill L op φ out).getD i 0 = out.getD i 0) ∧ (out.getD i 0 = 0 → 0 < φ ((fill L op φ out).getD i 0))
 | [], φ, out, hi, _, _, hc => ⟨φ, hi, fun i h => ⟨fun e => by have := hc i h e; simp at this, fun _ => rfl, fun e => by have := hc i h e; simp at this⟩⟩
 | x :: r, φ, out, hi, ho, hn, hc => by
  obtain ⟨p, rfl, hp, h0⟩ := ho x (by simp)
  rw [List.nodup_cons] at hn
  have hlt : p < out.length := by rw [hi.len]; exact hp
  obtain ⟨n, hnL, hn0, hg⟩ := give_spec p L φ out (hi.free hL h0L hq hp h0)
  have hnn : n ≠ 0 := fun e => h0L (e ▸ hnL)
  simp only [fill, Int.toNat_natCast, hg]
  have ht := hi.take h0L hp (by rw [← getD_get hlt]; exact h0) hn0
  obtain ⟨ψ, h1, h2⟩ := fill_inv hL h0L hq r (upd φ n (φ n - 1)) (out.set p n) ht (fun y hy => by
   obtain ⟨i, e, hi8, hz⟩ := ho y (by simp [hy])
   refine ⟨i, e, hi8, ?_⟩
   have : i ≠ p := fun q => hn.1 (by rw [← q, ← e]; exact hy)
   rw [getD_set_ne this]; exact hz) hn.2 (fun i h hz => by
   by_cases e : i = p
   ·subst e; rw [getD_set_same hlt] at hz; exact absurd hz hnn
   ·rw [getD_set_ne e] at hz
    have := hc i h hz
    simp at this
    rcases this with q | q
    ·exact absurd (by omega) e
    ·exact q)
  refine ⟨ψ, h1, fun i h => ?_⟩
  obtain ⟨b1, b2, b3⟩ := h2 i h
  refine ⟨b1, fun hz => ?_, fun hz => ?_⟩
  ·by_cases e : i = p
   ·subst e; exact absurd h0 hz
   ·rw [getD_set_ne e] at b2
    exact b2 hz
  ·by_cases e : i = p
   ·subst e
    rw [b2 (by rw [getD_set_same hlt]; exact hnn), getD_set_same hlt]
    exact hn0
   ·rw [getD_set_ne e] at b3
    have := b3 hz
    generalize (fill L r (upd φ n (φ n - 1)) (out.set p n)).getD i 0 = v at *
    unfold upd at this
    split at this
    ·rename_i e2; rw [e2]; omega
    ·exact this
structure Claimed (o L S c : List Int) : Prop where
 len : c.length = 8
 keeps : ∀ i, i < 8 → o.getD i 0 ≠ 0 → (o.count (o.getD i 0) : Int) ≤ quota L.length S (o.getD i 0) → c.getD i 0 = o.getD i 0
 mem : ∀ i, i < 8 → c.getD i 0 ∈ L
 count : ∀ n ∈ L, (c.count n : Int) = quota L.length S n
 kept : ∃ ok : List Int, ok.length = 8 ∧ (∀ x ∈ ok, x = 0 ∨ x ∈ L) ∧ (∀ n ∈ L, (ok.count n : Int) = min (quota L.length S n) (o.count n)) ∧ (∀ i, i < 8 → ok.getD i 0 ≠ 0 → ok.getD i 0 = o.getD i 0 ∧ c.getD i 0 = o.getD i 0) ∧ ∀ i, i < 8 → ok.getD i 0 = 0 → (o.count (c.getD i 0) : Int) < quota L.length S (c.getD i 0)
theorem claimed (o ms : List Int) (ho : o.length = 8) (hne : those ms ≠ []) : Claimed o (those ms) ((those ms).mergeSort (leO o)) (claim o ms) := by
 have hL := those_nodup ms
 have h0L : (0 : Int) ∉ those ms := fun h => by have := (mem_those ms 0).1 h; omega
 have hpm := List.mergeSort_perm (those ms) (leO o)
 unfold claim
 rw [if_neg hne]
 generalize those ms = L at *
 generalize L.mergeSort (leO o) = S at *
 have hS : S.Nodup := hpm.nodup_iff.2 hL
 have hSl : S.length = L.length := hpm.length_eq
 have hSm : ∀ n, n ∈ S ↔ n ∈ L := fun n => hpm.mem_iff
 have hSne : S ≠ [] := fun e => hne (by rw [e] at hSl; exact List.length_eq_zero_iff.1 hSl.symm)
 have hq : (L.map (quota L.length S)).sum = 8 := by
  rw [sum_perm hpm.symm, ← hSl]
  exact quota_sum S hS hSne
 simp only
 rw [startL_quota _ _ hS]
 have hqn := fun n => quota_nonneg L.length S n
 have hqm : ∀ n, 0 < quota L.length S n → n ∈ L := fun n h => by
  unfold quota at h
  split at h
  ·rename_i e; exact (hSm n).1 e
  ·omega
 have hzc : ∀ n : Int, n ≠ 0 → zeros.count n = 0 := fun n hn => by
  unfold zeros
  rw [List.count_replicate]
  have : ((0 : Int) == n) = false := by simpa using fun q : (0 : Int) = n => hn q.symm
  simp [this]
 have hz : ∀ i, zeros.getD i 0 = 0 := fun i => by
  unfold zeros
  rw [List.getD_eq_getElem?_getD, List.getElem?_replicate]
  split <;> rfl
 have hi0 : Inv (quota L.length S) L (quota L.length S) zeros := ⟨rfl, fun n hn => by rw [hzc n hn]; simp, hqn, hqm, fun x hx => .inl (List.eq_of_mem_replicate hx)⟩
 obtain ⟨a1, a2, a3, a4, a5, a6⟩ := keep_inv h0L o 0 (quota L.length S) zeros [] (by omega) hi0 (fun i _ _ => hz i) (by simp) List.nodup_nil (fun i h => by omega)
 have hphi := keep_phi o 0 (quota L.length S) zeros [] hqn
 have hkk := fun j hj => keep_keeps o 0 (quota L.length S) zeros [] j hj (by rw [ho]; exact Nat.le_refl _)
 generalize keep o 0 (quota L.length S) zeros [] = K at *
 obtain ⟨φ, ok, op⟩ := K
 simp only at *
 obtain ⟨ψ, b1, b2⟩ := fill_inv hL h0L hq op φ ok a1 a2 a3 a4
 have hlen := b1.len
 have hmem : ∀ i, i < 8 → (fill L op φ ok).getD i 0 ∈ L := fun i h => by
  have hne := (b2 i h).1
  rw [getD_get (by omega)] at hne ⊢
  rcases b1.out _ (List.getElem_mem (by omega : i < (fill L op φ ok).length)) with q | q
  ·exact absurd q hne
  ·exact q
 refine ⟨hlen, fun i h hne0 hle => ?_, hmem, fun n hn => ?_, ok, a1.len, a1.out, fun n hn => ?_, fun i h hz => ?_, fun i h hz => ?_⟩
 ·have hio : i < o.length := by omega
  rw [getD_get hio] at hle hne0 ⊢
  have hk := hkk i hio hle
  rw [Nat.zero_add] at hk
  have hok : ok.getD i 0 = o[i] := by rw [List.getD_eq_getElem?_getD, hk]; rfl
  exact ((b2 i h).2.1 (by rw [hok]; exact hne0)).trans hok
 ·have hn0 : n ≠ 0 := fun e => h0L (e ▸ hn)
  have hsum := b1.some hL h0L hq
  have hall : ((fill L op φ ok).countP fun a => decide (a ∈ L)) = (fill L op φ ok).length := by
   rw [List.countP_eq_length]
   intro a ha
   obtain ⟨i, hi, rfl⟩ := List.mem_iff_getElem.1 ha
   have := hmem i (by omega)
   rw [getD_get hi] at this
   exact decide_eq_true this
  rw [hall, hlen] at hsum
  have hz : ψ n = 0 := by
   have h1 := b1.low n
   by_cases e : ψ n = 0
   ·exact e
   ·exfalso
    have hge : ∀ (l : List Int), n ∈ l → ψ n ≤ (l.map ψ).sum := by
     intro l
     induction l with
     | nil => intro h; simp at h
     | cons a r ih =>
      intro h
      simp only [List.map_cons, List.sum_cons]
      have hs : 0 ≤ (r.map ψ).sum := by
       have := sum_le (f := fun _ => 0) (g := ψ) (l := r) fun x _ => b1.low x
       rw [sum_const] at this; omega
      simp at h
      rcases h with rfl | h
      ·omega
      ·have := ih h; have := b1.low a; omega
    have := hge L hn
    omega
  have := b1.sum n hn0
  omega
 ·have hn0 : n ≠ 0 := fun e => h0L (e ▸ hn)
  have h1 := a1.sum n hn0
  have h2 := hphi n
  have h3 := hqn n
  omega
 ·have h1 : ok.getD i 0 = o.getD i 0 := by
   rcases a6 i (by omega) with q | q
   ·rw [Nat.zero_add] at q; exact absurd q hz
   ·rw [Nat.zero_add] at q; exact q
  exact ⟨h1, ((b2 i h).2.1 hz).trans h1⟩
 ·have h1 := (b2 i h).2.2 hz
  have h2 := hphi ((fill L op φ ok).getD i 0)
  omega
end Go.Proofs.RgPlain
end
section
namespace Go.Proofs.RgPlain
def agree (c o : List Int) : Nat → Nat
 | 0 => 0
 | k + 1 => agree c o k + (if c.getD k 0 = o.getD k 0 then 1 else 0)
theorem agree_le (c o : List Int) : ∀ k, agree c o k ≤ k
 | 0 => Nat.le_refl _
 | k + 1 => by have := agree_le c o k; unfold agree; split <;> omega
theorem claim_none (o ms : List Int) (h : (ms.filter fun n => decide (0 < n)) = []) : claim o ms = zeros := by
 unfold claim
 rw [if_pos ((those_nil_iff ms).2 h)]
theorem claim_len (o ms : List Int) (ho : o.length = 8) : (claim o ms).length = 8 := by
 by_cases h : those ms = []
 ·unfold claim; rw [if_pos h]; rfl
 ·exact (claimed o ms ho h).len
theorem quota_two (k : Nat) (S : List Int) (n : Int) (h : n ∈ S) : quota k S n = ((8 / k : Nat) : Int) ∨ quota k S n = ((8 / k : Nat) : Int) + 1 := by
 unfold quota
 rw [if_pos h]
 split
 ·exact .inr rfl
 ·exact .inl (by omega)
theorem spread_in (o : List Int) (t : Int) : ∀ (l : List Int) (i : Nat) (a b : Int), (∀ n ∈ l, t ≤ cnt o n ∧ (cnt o n : Int) ≤ t + 1) → (i = 0 ∧ l ≠ [] ∨ (t ≤ a ∧ a ≤ t + 1 ∧ t ≤ b ∧ b ≤ t + 1)) → t ≤ (spread o l i a b).1 ∧ (spread o l i a b).2 ≤ t + 1
 | [], i, a, b, _, h => by
  rcases h with ⟨_, h⟩ | h
  ·exact absurd rfl h
  ·simp only [spread]; omega
 | n :: r, i, a, b, hc, h => by
  simp only [spread]
  have hn := hc n (by simp)
  refine spread_in o t r (i + 1) _ _ (fun m hm => hc m (by simp [hm])) (.inr ?_)
  by_cases hi : i = 0
  ·simp only [if_pos hi]; omega
  ·simp only [if_neg hi]
   rcases h with ⟨h, _⟩ | h
   ·exact absurd h hi
   ·omega
theorem spread_bound (o : List Int) : ∀ (l : List Int) (i : Nat) (a b : Int), (i ≠ 0 → (spread o l i a b).1 ≤ a ∧ b ≤ (spread o l i a b).2) ∧ ∀ n ∈ l, (spread o l i a b).1 ≤ cnt o n ∧ (cnt o n : Int) ≤ (spread o l i a b).2
 | [], i, a, b => ⟨fun _ => ⟨Int.le_refl _, Int.le_refl _⟩, fun n h => by simp at h⟩
 | n :: r, i, a, b => by
  obtain ⟨h1, h2⟩ := spread_bound o r (i + 1) (if i = 0 then cnt o n else min a (cnt o n)) (if i = 0 then cnt o n else max b (cnt o n))
  have h1 := h1 (by omega)
  simp only [spread]
  refine ⟨fun hi => ?_, fun m hm => ?_⟩
  ·simp only [if_neg hi] at h1 ⊢
   omega
  ·simp at hm
   rcases hm with rfl | hm
   ·by_cases hi : i = 0
    ·simp only [if_pos hi] at h1 ⊢; omega
    ·simp only [if_neg hi] at h1 ⊢; omega
   ·exact h2 m hm
theorem sort_mem (L : List Int) (o : List Int) (n : Int) : n ∈ L.mergeSort (leO o) ↔ n ∈ L := (List.mergeSort_perm _ _).mem_iff
theorem claim_even (o ms : List Int) (ho : o.length = 8) : balanced (claim o ms) ms = true := by
 by_cases h : those ms = []
 ·unfold claim balanced
  rw [if_pos h, h]
  simp [zeros, spread]
 ·have hc := claimed o ms ho h
  unfold balanced
  have hbad : ((claim o ms).any fun n => (decide (0 < n) && !decide (n ∈ those ms)) || (decide (n ≤ 0) && decide (0 < (those ms).length))) = false := by
   rw [List.any_eq_false]
   intro x hx
   obtain ⟨i, hi, rfl⟩ := List.mem_iff_getElem.1 hx
   have hm := hc.mem i (by rw [← hc.len]; exact hi)
   rw [getD_get hi] at hm
   have hp := ((mem_those ms _).1 hm).1
   have hp' : ¬ (claim o ms)[i] ≤ 0 := by omega
   simp only [decide_eq_true hm, decide_eq_false hp']; simp
  rw [hbad]
  simp only [Bool.false_eq_true, if_false]
  have := spread_in (claim o ms) ((8 / (those ms).length : Nat) : Int) (those ms) 0 0 0 (fun n hn => by
   have hp := ((mem_those ms n).1 hn).1
   rw [cnt_eq _ hc.len n hp, hc.count n hn]
   rcases quota_two (those ms).length _ n ((sort_mem (those ms) o n).2 hn) with q | q <;> omega) (.inl ⟨rfl, h⟩)
  exact decide_eq_true (by omega)
theorem prefix_count (P : Int → Bool) : ∀ (S : List Int), S.Pairwise (fun a b => P b = true → P a = true) → S.Nodup → ∀ n ∈ S, (S.idxOf n < S.countP P ↔ P n = true)
 | [], _, _, n, h => by simp at h
 | m :: r, hs, hn, n, h => by
  rw [List.pairwise_cons] at hs
  rw [List.nodup_cons] at hn
  rw [List.countP_cons]
  have ih := prefix_count P r hs.2 hn.2
  by_cases hm : P m = true
  ·rw [if_pos hm]
   by_cases e : n = m
   ·subst e; rw [List.idxOf_cons_self]; simp [hm]
   ·have hnr : n ∈ r := by simpa [e] using h
    have : (m :: r).idxOf n = r.idxOf n + 1 := by
     rw [List.idxOf_cons]
     have : (m == n) = false := by simpa using fun q : m = n => e q.symm
     rw [this]; rfl
    rw [this, ← ih n hnr]
    omega
  ·rw [if_neg hm, Nat.add_zero]
   have hz : r.countP P = 0 := by
    rw [List.countP_eq_zero]
    intro a ha q
    exact hm (hs.1 a ha q)
   rw [hz]
   have : P n ≠ true := by
    by_cases e : n = m
    ·subst e; exact hm
    ·have hnr : n ∈ r := by simpa [e] using h
     exact fun q => hm (hs.1 n hnr q)
   simp [this]
theorem sorted_by (o : List Int) (ho : o.length = 8) (L : List Int) (hL : ∀ n ∈ L, 0 < n) (t : Nat) : (L.mergeSort (leO o)).Pairwise fun a b => decide (t + 1 ≤ o.count b) = true → decide (t + 1 ≤ o.count a) = true := by
 refine (List.pairwise_mergeSort (leO_trans o) (leO_total o) L).imp_of_mem ?_
 intro a b ha hb hab h
 have h1 := hL a ((sort_mem L o a).1 ha)
 have h2 := hL b ((sort_mem L o b).1 hb)
 unfold leO at hab
 rw [cnt_eq o ho a h1, cnt_eq o ho b h2] at hab
 simp at hab h ⊢
 omega
theorem count_bonus (f : Int → Int) (t : Nat) (k : Nat) (L : List Int) (hk : L.length = k) (h0 : 0 < k) (hs : (L.map f).sum = 8) (h : ∀ n ∈ L, f n = t ∨ f n = (t : Int) + 1) (hlt : ∃ n ∈ L, f n = t) : t = 8 / k ∧ L.countP (fun n => decide ((t : Int) + 1 ≤ f n)) = 8 % k := by
 have e : (L.map f).sum = (L.map fun n => (t : Int) + (if decide ((t : Int) + 1 ≤ f n) = true then 1 else 0)).sum := sum_congr fun n hn => by
  rcases h n hn with q | q
  ·rw [q, if_neg (by rw [decide_eq_true_eq]; omega)]; omega
  ·rw [q, if_pos (by rw [decide_eq_true_eq]; omega)]
 rw [sum_add, sum_const] at e
 have e2 : ∀ (l : List Int), (l.map fun n => if decide ((t : Int) + 1 ≤ f n) = true then (1 : Int) else 0).sum = (l.countP (fun n => decide ((t : Int) + 1 ≤ f n)) : Nat) := by
  intro l
  induction l with
  | nil => rfl
  | cons a r ih => simp only [List.map_cons, List.sum_cons, List.countP_cons, ih]; split <;> omega
 rw [e2, hs, hk] at e
 have hle : L.countP (fun n => decide ((t : Int) + 1 ≤ f n)) < k := by
  rw [← hk]
  obtain ⟨n, hn, q⟩ := hlt
  refine Nat.lt_of_le_of_ne List.countP_le_length fun hq => ?_
  rw [List.countP_eq_length] at hq
  have := of_decide_eq_true (hq n hn)
  omega
 generalize L.countP (fun n => decide ((t : Int) + 1 ≤ f n)) = j at *
 have e' : k * t + j = 8 := by
  have : ((k * t + j : Nat) : Int) = 8 := by rw [Int.natCast_add, Int.natCast_mul]; omega
  omega
 have := Nat.div_mod_unique (a := 8) (b := k) (c := j) (d := t) h0
 have hu := this.2 ⟨by omega, hle⟩
 exact ⟨hu.1.symm, hu.2.symm⟩
theorem count_sum (c L : List Int) (hL : L.Nodup) (hc : c.length = 8) (hm : ∀ i, i < 8 → c.getD i 0 ∈ L) : (L.map fun n => (c.count n : Int)).sum = 8 := by
 rw [sum_count hL]
 have : (c.countP fun a => decide (a ∈ L)) = c.length := by
  rw [List.countP_eq_length]
  intro a ha
  obtain ⟨i, hi, rfl⟩ := List.mem_iff_getElem.1 ha
  have := hm i (by omega)
  rw [getD_get hi] at this
  exact decide_eq_true this
 rw [this, hc]; rfl
theorem quota_self (c L : List Int) (hL : L.Nodup) (hp : ∀ n ∈ L, 0 < n) (hne : L ≠ []) (hc : c.length = 8) (hm : ∀ i, i < 8 → c.getD i 0 ∈ L) (t : Nat) (h : ∀ n ∈ L, c.count n = t ∨ c.count n = t + 1) (hlt : ∃ n ∈ L, c.count n = t) : ∀ n ∈ L, quota L.length (L.mergeSort (leO c)) n = c.count n := by
 intro n hn
 have hk : 0 < L.length := List.length_pos_iff.2 hne
 obtain ⟨h1, h2⟩ := count_bonus (fun n => (c.count n : Int)) t L.length L rfl hk (count_sum c L hL hc hm) (fun m hm => by
  rcases h m hm with q | q
  ·left; show (c.count m : Int) = t; rw [q]
  ·right; show (c.count m : Int) = t + 1; rw [q]; rfl) (by obtain ⟨m, hm, q⟩ := hlt; exact ⟨m, hm, by show (c.count m : Int) = t; rw [q]⟩)
 have hpm := List.mergeSort_perm L (leO c)
 have hcp : (L.mergeSort (leO c)).countP (fun n => decide (t + 1 ≤ c.count n)) = 8 % L.length := by
  rw [hpm.countP_eq, ← h2]
  apply List.countP_congr
  intro x _
  simp only [decide_eq_true_eq]
  omega
 have hpre := prefix_count (fun n => decide (t + 1 ≤ c.count n)) (L.mergeSort (leO c)) (sorted_by c hc L hp t) (hpm.nodup_iff.2 hL) n ((sort_mem L c n).2 hn)
 rw [hcp] at hpre
 unfold quota
 rw [if_pos ((sort_mem L c n).2 hn), ← h1]
 rcases h n hn with q | q
 ·rw [if_neg (by rw [hpre]; simp [q])]; omega
 ·rw [if_pos (by rw [hpre]; simp [q])]; omega
theorem claim_again (o ms : List Int) (ho : o.length = 8) : claim (claim o ms) ms = claim o ms := by
 by_cases h : those ms = []
 ·unfold claim; rw [if_pos h, if_pos h]
 ·have hc := claimed o ms ho h
  have hL := those_nodup ms
  have hp : ∀ n ∈ those ms, 0 < n := fun n hn => ((mem_those ms n).1 hn).1
  generalize claim o ms = c at hc ⊢
  have hk : 0 < (those ms).length := List.length_pos_iff.2 h
  have htwo : ∀ n ∈ those ms, c.count n = 8 / (those ms).length ∨ c.count n = 8 / (those ms).length + 1 := fun n hn => by
   have := hc.count n hn
   rcases quota_two (those ms).length _ n ((sort_mem (those ms) o n).2 hn) with q | q <;> omega
  have hsum := count_sum c (those ms) hL hc.len hc.mem
  have hlt : ∃ n ∈ those ms, c.count n = 8 / (those ms).length := by
   refine Classical.byContradiction fun hno => ?_
   have hall : ∀ n ∈ those ms, c.count n = 8 / (those ms).length + 1 := fun n hn => by
    rcases htwo n hn with q | q
    ·exact absurd ⟨n, hn, q⟩ hno
    ·exact q
   have e : ((those ms).map fun n => (c.count n : Int)).sum = ((those ms).map fun _ => ((8 / (those ms).length : Nat) : Int) + 1).sum := sum_congr fun n hn => by rw [hall n hn]; omega
   rw [hsum, sum_const] at e
   have h1 := Nat.div_add_mod 8 (those ms).length
   have h2 : 8 % (those ms).length < (those ms).length := Nat.mod_lt _ hk
   have e' : (((those ms).length * (8 / (those ms).length) + (those ms).length : Nat) : Int) = 8 := by rw [Int.natCast_add, Int.natCast_mul]; rw [Int.mul_add] at e; omega
   omega
  have hq := quota_self c (those ms) hL hp h hc.len hc.mem _ htwo hlt
  have hcm : ∀ n ∈ c, n ∈ those ms := fun n hn => by
   obtain ⟨i, hi, rfl⟩ := List.mem_iff_getElem.1 hn
   have := hc.mem i (by rw [← hc.len]; exact hi)
   rwa [getD_get hi] at this
  unfold claim
  rw [if_neg h]
  simp only
  rw [startL_quota _ _ ((List.mergeSort_perm _ _).nodup_iff.2 hL)]
  obtain ⟨k1, k2⟩ := keep_all c 0 (quota (those ms).length ((those ms).mergeSort (leO c))) zeros [] (fun n hn => by rw [hq n (hcm n hn)]; exact Int.le_refl _) (by rw [hc.len]; decide)
  rw [k2]
  simp only [fill]
  rw [k1, hc.len]
  simp [zeros]
theorem agree_ge (c o ok : List Int) (hl : ok.length = 8) (h : ∀ i, i < 8 → ok.getD i 0 ≠ 0 → c.getD i 0 = o.getD i 0) : ∀ k, k ≤ 8 → ((ok.take k).countP fun x => decide (x ≠ 0)) ≤ agree c o k
 | 0, _ => by simp [agree]
 | k + 1, hk => by
  have ih := agree_ge c o ok hl h k (by omega)
  have hlt : k < ok.length := by omega
  rw [List.take_add_one, List.getElem?_eq_getElem hlt, List.countP_append]
  have hk' := h k (by omega)
  rw [getD_get hlt] at hk'
  simp only [Option.toList_some, List.countP_cons, List.countP_nil, agree]
  by_cases e : ok[k] = 0
  ·rw [if_neg (show ¬ decide (ok[k] ≠ 0) = true by simp [e])]; omega
  ·rw [if_pos (decide_eq_true e), if_pos (hk' e)]; omega
theorem agree_zip (d o : List Int) (hd : d.length = 8) (ho : o.length = 8) : ∀ k, k ≤ 8 → agree d o k = ((d.take k).zip (o.take k)).countP fun p => decide (p.1 = p.2)
 | 0, _ => by simp [agree]
 | k + 1, hk => by
  have h1 : k < d.length := by omega
  have h2 : k < o.length := by omega
  rw [List.take_add_one, List.getElem?_eq_getElem h1, List.take_add_one, List.getElem?_eq_getElem h2, List.zip_append (by simp; omega), List.countP_append, ← agree_zip d o hd ho k (by omega)]
  simp only [agree, getD_get h1, getD_get h2, Option.toList_some, List.zip_cons_cons, List.zip_nil_left, List.countP_cons, List.countP_nil, decide_eq_true_eq]
  omega
theorem sum_zip {L : List Int} (hL : L.Nodup) : ∀ (z : List (Int × Int)), (∀ p ∈ z, p.1 ∈ L) → (L.map fun n => (z.count (n, n) : Int)).sum = (z.countP fun p => decide (p.1 = p.2) : Nat)
 | [], _ => by simp only [List.count_nil, List.countP_nil]; rw [sum_const]; simp
 | (a, b) :: r, h => by
  have ha := h (a, b) (by simp)
  simp only at ha
  have e : (L.map fun n => (((a, b) :: r).count (n, n) : Int)).sum = (L.map fun n => (r.count (n, n) : Int) + (if a = n then (if a = b then 1 else 0) else 0)).sum := sum_congr fun n _ => by
   rw [List.count_cons]
   by_cases e1 : a = n
   ·subst e1
    by_cases e2 : a = b
    ·subst e2; simp
    ·have : ((a, b) == (a, a)) = false := by simpa using fun q : b = a => e2 q.symm
     simp [this, e2]
   ·have : ((a, b) == (n, n)) = false := by simp [e1]
    simp [this, e1]
  rw [e, sum_add, sum_zip hL r fun p hp => h p (by simp [hp]), sum_one a _ L hL, if_pos ha, List.countP_cons]
  by_cases e2 : a = b <;> simp [e2]
theorem least (f : Int → Nat) : ∀ (L : List Int), L ≠ [] → ∃ n ∈ L, ∀ m ∈ L, f n ≤ f m
 | [], h => absurd rfl h
 | [a], _ => ⟨a, by simp, fun m hm => by simp at hm; subst hm; exact Nat.le_refl _⟩
 | a :: b :: r, _ => by
  obtain ⟨n, hn, h⟩ := least f (b :: r) (by simp)
  by_cases e : f a ≤ f n
  ·refine ⟨a, by simp, fun m hm => ?_⟩
   rcases List.mem_cons.1 hm with rfl | hm
   ·exact Nat.le_refl _
   ·exact Nat.le_trans e (h m hm)
  ·refine ⟨n, List.mem_cons_of_mem _ hn, fun m hm => ?_⟩
   rcases List.mem_cons.1 hm with rfl | hm
   ·omega
   ·exact h m hm
theorem sum_countP (L : List Int) (P : Int → Bool) : (L.map fun n => if P n = true then (1 : Int) else 0).sum = (L.countP P : Nat) := by
 induction L with
 | nil => rfl
 | cons a r ih => simp only [List.map_cons, List.sum_cons, List.countP_cons, ih]; split <;> omega
theorem claim_most (o ms d : List Int) (ho : o.length = 8) (hd : d.length = 8) (hin : ∀ x ∈ d, x ∈ ms.filter fun n => decide (0 < n)) (hb : balanced d ms = true) : agree d o 8 ≤ agree (claim o ms) o 8 := by
 have hdL : ∀ x ∈ d, x ∈ those ms := fun x hx => by
  have := hin x hx
  rw [List.mem_filter] at this
  exact (mem_those ms x).2 ⟨by simpa using this.2, this.1⟩
 have hne : those ms ≠ [] := fun e => by
  have h0 : 0 < d.length := by omega
  have := hdL d[0] (List.getElem_mem _)
  rw [e] at this
  simp at this
 have hc := claimed o ms ho hne
 have hL := those_nodup ms
 have hp : ∀ n ∈ those ms, 0 < n := fun n hn => ((mem_those ms n).1 hn).1
 have hdif : ∀ n ∈ those ms, ∀ m ∈ those ms, d.count n ≤ d.count m + 1 := fun n hn m hm => by
  unfold balanced at hb
  split at hb
  ·cases hb
  ·have hb' := of_decide_eq_true hb
   have b1 := (spread_bound d (those ms) 0 0 0).2 n hn
   have b2 := (spread_bound d (those ms) 0 0 0).2 m hm
   rw [cnt_eq d hd n (hp n hn)] at b1
   rw [cnt_eq d hd m (hp m hm)] at b2
   omega
 obtain ⟨ok, k1, k2, k3, k4, _⟩ := hc.kept
 have h0L : (0 : Int) ∉ those ms := fun h => by have := hp 0 h; omega
 generalize claim o ms = c at *
 generalize those ms = L at *
 have hk : 0 < L.length := List.length_pos_iff.2 hne
 obtain ⟨n0, hn0, hmin⟩ := least (fun n => d.count n) L hne
 obtain ⟨t, ht⟩ : ∃ t, d.count n0 = t := ⟨_, rfl⟩
 have htwo : ∀ n ∈ L, d.count n = t ∨ d.count n = t + 1 := fun n hn => by
  have h1 : d.count n0 ≤ d.count n := hmin n hn
  have h2 := hdif n hn n0 hn0
  omega
 have hdg : ∀ i, i < 8 → d.getD i 0 ∈ L := fun i hi => by rw [getD_get (by omega)]; exact hdL _ (List.getElem_mem _)
 obtain ⟨t1, t2⟩ := count_bonus (fun n => (d.count n : Int)) t L.length L rfl hk (count_sum d L hL hd hdg) (fun m hm => by
  rcases htwo m hm with q | q
  ·left; show (d.count m : Int) = t; rw [q]
  ·right; show (d.count m : Int) = t + 1; rw [q]; rfl) ⟨n0, hn0, by show (d.count n0 : Int) = t; rw [ht]⟩
 -- those who agree with d
 have hlhs : (agree d o 8 : Int) ≤ (L.map fun n => (min t (o.count n) : Nat) + (if (decide (t + 1 ≤ d.count n) && decide (t + 1 ≤ o.count n)) = true then (1 : Int) else 0)).sum := by
  rw [agree_zip d o hd ho 8 (Nat.le_refl _), List.take_of_length_le (by omega), List.take_of_length_le (by omega), ← sum_zip hL (d.zip o) fun p hp => hdL _ (List.of_mem_zip hp).1]
  refine sum_le fun n hn => ?_
  have h1 : (d.zip o).count (n, n) ≤ d.count n := by
   have := List.count_le_count_map (l := d.zip o) (f := Prod.fst) (x := (n, n))
   rwa [List.map_fst_zip (by omega)] at this
  have h2 : (d.zip o).count (n, n) ≤ o.count n := by
   have := List.count_le_count_map (l := d.zip o) (f := Prod.snd) (x := (n, n))
   rwa [List.map_snd_zip (by omega)] at this
  rcases htwo n hn with q | q
  ·split <;> omega
  ·by_cases e : t + 1 ≤ o.count n
   ·rw [if_pos (by simp [q, e])]; omega
   ·rw [if_neg (by simp [e])]; omega
 -- those who agree with the claim
 have hrhs : (L.map fun n => (min t (o.count n) : Nat) + (if (decide (((t : Nat) : Int) + 1 ≤ quota L.length (L.mergeSort (leO o)) n) && decide (t + 1 ≤ o.count n)) = true then (1 : Int) else 0)).sum ≤ agree c o 8 := by
  have h1 := agree_ge c o ok k1 (fun i hi hz => (k4 i hi hz).2) 8 (Nat.le_refl _)
  rw [List.take_of_length_le (by omega)] at h1
  have h2 : (ok.countP fun x => decide (x ≠ 0)) = ok.countP fun a => decide (a ∈ L) := by
   apply List.countP_congr
   intro x hx
   simp only [decide_eq_true_eq]
   rcases k2 x hx with rfl | q
   ·simp [h0L]
   ·exact ⟨fun _ => q, fun _ e => h0L (e ▸ q)⟩
  rw [h2] at h1
  have h3 := sum_count hL ok
  refine Int.le_trans ?_ (Int.ofNat_le.2 h1)
  rw [← h3]
  refine sum_le fun n hn => ?_
  rw [k3 n hn]
  have hq := quota_two L.length (L.mergeSort (leO o)) n ((sort_mem L o n).2 hn)
  rw [← t1] at hq
  rcases hq with q | q
  ·rw [q, if_neg (by simp; omega)]; omega
  ·by_cases e : t + 1 ≤ o.count n
   ·rw [q, if_pos (by simp [e])]; omega
   ·rw [q, if_neg (by simp [e])]; omega
 rw [sum_add] at hlhs hrhs
 -- the bonus
 have hS : (L.mergeSort (leO o)).Nodup := (List.mergeSort_perm _ _).nodup_iff.2 hL
 have hpre := prefix_count (fun n => decide (t + 1 ≤ o.count n)) (L.mergeSort (leO o)) (sorted_by o ho L hp t) hS
 have hu : (L.mergeSort (leO o)).countP (fun n => decide (t + 1 ≤ o.count n)) = L.countP (fun n => decide (t + 1 ≤ o.count n)) := (List.mergeSort_perm _ _).countP_eq _
 rw [hu] at hpre
 have hb1 : (L.map fun n => if (decide (t + 1 ≤ d.count n) && decide (t + 1 ≤ o.count n)) = true then (1 : Int) else 0).sum ≤ (min (8 % L.length) (L.countP (fun n => decide (t + 1 ≤ o.count n))) : Nat) := by
  have e1 : (L.map fun n => if (decide (t + 1 ≤ d.count n) && decide (t + 1 ≤ o.count n)) = true then (1 : Int) else 0).sum ≤ (L.map fun n => if decide (((t : Nat) : Int) + 1 ≤ (d.count n : Int)) = true then (1 : Int) else 0).sum := sum_le fun n _ => by
   by_cases q : t + 1 ≤ d.count n
   ·rw [if_pos (show decide (((t : Nat) : Int) + 1 ≤ (d.count n : Int)) = true from decide_eq_true (by omega))]; split <;> omega
   ·rw [if_neg (by simp [q])]; split <;> omega
  have e2 : (L.map fun n => if (decide (t + 1 ≤ d.count n) && decide (t + 1 ≤ o.count n)) = true then (1 : Int) else 0).sum ≤ (L.map fun n => if decide (t + 1 ≤ o.count n) = true then (1 : Int) else 0).sum := sum_le fun n _ => by
   by_cases q : t + 1 ≤ o.count n
   ·rw [if_pos (show decide (t + 1 ≤ o.count n) = true from decide_eq_true q)]; split <;> omega
   ·rw [if_neg (by simp [q])]; split <;> omega
  rw [sum_countP L (fun n => decide (((t : Nat) : Int) + 1 ≤ (d.count n : Int))), t2] at e1
  rw [sum_countP L (fun n => decide (t + 1 ≤ o.count n))] at e2
  omega
 have hb2 : (L.map fun n => if (decide (((t : Nat) : Int) + 1 ≤ quota L.length (L.mergeSort (leO o)) n) && decide (t + 1 ≤ o.count n)) = true then (1 : Int) else 0).sum = (min (8 % L.length) (L.countP (fun n => decide (t + 1 ≤ o.count n))) : Nat) := by
  rw [sum_perm (List.mergeSort_perm L (leO o)).symm]
  have e : ((L.mergeSort (leO o)).map fun n => if (decide (((t : Nat) : Int) + 1 ≤ quota L.length (L.mergeSort (leO o)) n) && decide (t + 1 ≤ o.count n)) = true then (1 : Int) else 0).sum = ((L.mergeSort (leO o)).map fun n => if 0 + (L.mergeSort (leO o)).idxOf n < min (8 % L.length) (L.countP (fun n => decide (t + 1 ≤ o.count n))) then (1 : Int) else 0).sum := sum_congr fun n hn => by
   have h1 := hpre n hn
   have h2 : ((t : Nat) : Int) + 1 ≤ quota L.length (L.mergeSort (leO o)) n ↔ (L.mergeSort (leO o)).idxOf n < 8 % L.length := by
    unfold quota
    rw [if_pos hn, ← t1]
    split <;> omega
   congr 1
   rw [Bool.and_eq_true, decide_eq_true_eq, h2, ← h1, Nat.zero_add]
   apply propext
   omega
  rw [e, sum_idx (fun j => if j < min (8 % L.length) (L.countP (fun n => decide (t + 1 ≤ o.count n))) then (1 : Int) else 0) _ 0 hS]
  simp only [Nat.zero_add]
  rw [sum_below, (List.mergeSort_perm L (leO o)).length_eq]
  rw [Nat.min_eq_right (Nat.le_trans (Nat.min_le_left _ _) (Nat.le_of_lt (Nat.mod_lt 8 hk)))]
 exact Int.ofNat_le.1 (Int.le_trans hlhs (Int.le_trans (Int.add_le_add_left (Int.le_trans hb1 (Int.le_of_eq hb2.symm)) _) hrhs))
end Go.Proofs.RgPlain
end
section
namespace Go.Proofs.RgPlain
open Go.Lib Go.Sort Go.Proofs
def aheadOf (o : List Int) (n m : Int) : Bool := decide (cnt o n < cnt o m) || (decide (cnt o m = cnt o n) && decide (m < n))
def aheadN (o l : List Int) (n : Int) : Nat := l.countP (aheadOf o n)
def quotaR (o l : List Int) (n : Int) : Int := if aheadN o l n < 8 % l.length then ((8 / l.length : Nat) : Int) + 1 else ((8 / l.length : Nat) : Int)
def fillR (l : List Int) : List Nat → (Int → Int) → List Int → List Int
 | [], _, out => out
 | p :: r, φ, out => if out.getD p 0 = 0 then fillR l r (give p l φ out).1 (give p l φ out).2 else fillR l r φ out
def claimR (o l : List Int) : List Int :=
 if l = [] then zeros else
 fillR l (List.range 8) (keep o 0 (fun n => if n ∈ l then quotaR o l n else 0) zeros []).1 (keep o 0 (fun n => if n ∈ l then quotaR o l n else 0) zeros []).2.1
def oddC (o : List Int) (k : Nat) (n : Int) : Bool := decide (cnt o n ≠ 8 / k) && decide (cnt o n ≠ (8 + k - 1) / k)
def cntSum (o l : List Int) : Nat := (l.map (cnt o)).sum
def balR (o l : List Int) : Bool := if l.any (oddC o l.length) then false else if l = [] then !(o.any fun n => decide (0 < n)) else decide (cntSum o l = 8)
theorem idx_ne {a n : Int} {r : List Int} (h : a ≠ n) : (a :: r).idxOf n = r.idxOf n + 1 := by
 rw [List.idxOf_cons, show (a == n) = false by simpa using h]; rfl
theorem idx_ahead (o : List Int) : ∀ (S : List Int), S.Pairwise (fun a b => aheadOf o b a = true ∧ aheadOf o a b = false) → ∀ n ∈ S, S.idxOf n = S.countP (aheadOf o n)
 | [], _, n, h => by simp at h
 | a :: r, hs, n, h => by
  rw [List.pairwise_cons] at hs
  have hself : aheadOf o n n = false := by simp [aheadOf]
  by_cases e : a = n
  ·subst e
   have h0 : r.countP (aheadOf o a) = 0 := List.countP_eq_zero.2 fun m hm => by rw [(hs.1 m hm).2]; simp
   rw [List.idxOf_cons_self, List.countP_cons_of_neg (by rw [hself]; simp), h0]
  ·have hn : n ∈ r := by
    rcases List.mem_cons.1 h with q | q
    ·exact absurd q.symm e
    ·exact q
   rw [idx_ne e, List.countP_cons_of_pos (hs.1 n hn).1, idx_ahead o r hs.2 n hn]
theorem sort_strict (o L : List Int) (hL : L.Nodup) : (L.mergeSort (leO o)).Pairwise (fun a b => aheadOf o b a = true ∧ aheadOf o a b = false) := by
 have h1 := List.pairwise_mergeSort (leO_trans o) (leO_total o) L
 have h2 : (L.mergeSort (leO o)).Nodup := (List.mergeSort_perm _ _).nodup_iff.2 hL
 refine List.Pairwise.imp ?_ (h1.and h2)
 rintro a b ⟨h, hne⟩
 unfold leO at h
 unfold aheadOf
 simp at h hne ⊢
 omega
theorem quota_same (o L : List Int) (hL : L.Nodup) : (fun n => if n ∈ L then quotaR o L n else 0) = quota L.length (L.mergeSort (leO o)) := by
 funext n
 unfold quota
 by_cases h : n ∈ L
 ·rw [if_pos h, if_pos ((sort_mem L o n).2 h), idx_ahead o _ (sort_strict o L hL) n ((sort_mem L o n).2 h), (List.mergeSort_perm L (leO o)).countP_eq]
  unfold quotaR aheadN
  split <;> simp
 ·rw [if_neg h, if_neg fun q => h ((sort_mem L o n).1 q)]
theorem give_ne (p : Nat) : ∀ (l : List Int) (φ : Int → Int) (out : List Int) (j : Nat), j ≠ p → (give p l φ out).2.getD j 0 = out.getD j 0
 | [], _, _, _, _ => rfl
 | n :: r, φ, out, j, h => by
  unfold give
  split
  ·exact give_ne p r φ out j h
  ·exact getD_set_ne h n
theorem fill_same (l : List Int) : ∀ (R : List Nat) (φ : Int → Int) (out : List Int), R.Nodup → fillR l R φ out = fill l ((R.filter fun i => decide (out.getD i 0 = 0)).map fun i : Nat => (i : Int)) φ out
 | [], _, _, _ => rfl
 | p :: r, φ, out, h => by
  rw [List.nodup_cons] at h
  by_cases e : out.getD p 0 = 0
  ·rw [List.filter_cons_of_pos (by simpa using e), List.map_cons]
   simp only [fillR, fill, Int.toNat_natCast]
   rw [if_pos e, fill_same l r _ _ h.2]
   congr 2
   exact List.filter_congr fun i hi => by rw [give_ne p l φ out i (fun q => h.1 (q ▸ hi))]
  ·rw [List.filter_cons_of_neg (by simpa using e)]
   simp only [fillR]
   rw [if_neg e, fill_same l r _ _ h.2]
theorem keep_getD (l : List Int) (p : Nat) (φ : Int → Int) (out op : List Int) (i : Nat) (h : i < p) : (keep l p φ out op).2.1.getD i 0 = out.getD i 0 := by
 rw [List.getD_eq_getElem?_getD, keep_low l p φ out op i h, ← List.getD_eq_getElem?_getD]
theorem keep_open : ∀ (l : List Int) (p : Nat) (φ : Int → Int) (out op : List Int), p + l.length ≤ out.length → (∀ i, p ≤ i → out.getD i 0 = 0) → (∀ n, 0 < φ n → n ≠ 0) →
  (keep l p φ out op).2.2 = op ++ ((List.range' p l.length).filter fun i => decide ((keep l p φ out op).2.1.getD i 0 = 0)).map fun i : Nat => (i : Int)
 | [], _, _, _, _, _, _, _ => by simp [keep]
 | n :: r, p, φ, out, op, hl, hz, hφ => by
  rw [List.length_cons, List.range'_succ]
  rw [List.length_cons] at hl
  by_cases e : φ n ≤ 0
  ·simp only [keep, if_pos e]
   rw [List.filter_cons_of_pos (by rw [keep_getD _ _ _ _ _ _ (by omega), hz p (Nat.le_refl _)]; rfl), keep_open r (p + 1) φ out (op ++ [(p : Int)]) (by omega) (fun i hi => hz i (by omega)) hφ]
   simp
  ·simp only [keep, if_neg e]
   have hn : n ≠ 0 := hφ n (by omega)
   rw [List.filter_cons_of_neg (by rw [keep_getD _ _ _ _ _ _ (by omega), getD_set_same (by omega)]; simpa using hn)]
   refine keep_open r (p + 1) _ _ op (by rw [List.length_set]; omega) (fun i hi => by rw [getD_set_ne (by omega)]; exact hz i (by omega)) fun m hm => ?_
   unfold upd at hm
   split at hm
   ·rename_i q; rw [q]; exact hn
   ·exact hφ m hm
theorem claim_same (o ms : List Int) (ho : o.length = 8) : claimR o (those ms) = claim o ms := by
 have hp : ∀ n ∈ those ms, 0 < n := fun n hn => ((mem_those ms n).1 hn).1
 have hL := those_nodup ms
 unfold claim claimR
 generalize those ms = L at *
 by_cases h : L = []
 ·rw [if_pos h, if_pos h]
 ·rw [if_neg h, if_neg h, quota_same o L hL, startL_quota _ _ ((List.mergeSort_perm _ _).nodup_iff.2 hL)]
  have h1 := keep_open o 0 (quota L.length (L.mergeSort (leO o))) zeros [] (by rw [ho]; exact Nat.le_refl _) (fun i _ => by
   unfold zeros
   rw [List.getD_eq_getElem?_getD, List.getElem?_replicate]
   split <;> rfl) fun n hn => by
    have : n ∈ L := by
     refine (sort_mem L o n).1 ?_
     unfold quota at hn
     split at hn
     ·assumption
     ·omega
    have := hp n this
    omega
  simp only
  rw [h1, ho, fill_same _ _ _ _ List.nodup_range, List.range_eq_range', List.nil_append]
theorem sum_cast (o : List Int) : ∀ L : List Int, ((cntSum o L : Nat) : Int) = (L.map fun n => (cnt o n : Int)).sum
 | [] => rfl
 | n :: r => by
  have := sum_cast o r
  unfold cntSum at *
  simp only [List.map_cons, List.sum_cons]
  omega
theorem bal_same (o ms : List Int) (ho : o.length = 8) : balR o (those ms) = balanced o ms := by
 have hp : ∀ n ∈ those ms, 0 < n := fun n hn => ((mem_those ms n).1 hn).1
 have hL := those_nodup ms
 unfold balR balanced
 generalize those ms = L at *
 by_cases h : L = []
 ·subst h
  simp [spread]
  by_cases q : ∃ n ∈ o, 0 < n
  ·rw [decide_eq_true q]
   obtain ⟨n, hn, h0⟩ := q
   exact List.any_eq_true.2 ⟨n, hn, decide_eq_true h0⟩
  ·rw [decide_eq_false q]
   exact List.any_eq_false.2 fun n hn h0 => q ⟨n, hn, of_decide_eq_true h0⟩
 ·have hk : 0 < L.length := List.length_pos_iff.2 h
  rw [if_neg h]
  have hsum : ((cntSum o L : Nat) : Int) = (o.countP fun a => decide (a ∈ L) : Nat) := by
   rw [sum_cast, ← sum_count hL o]
   exact sum_congr fun n hn => by rw [cnt_eq o ho n (hp n hn)]
  by_cases hb : (o.any fun n => (decide (0 < n) && !decide (n ∈ L)) || (decide (n ≤ 0) && decide (0 < L.length))) = true
  ·rw [if_pos hb]
   obtain ⟨n, hn, hbad⟩ := List.any_eq_true.1 hb
   have hnin : n ∉ L := by
    intro q
    have := hp n q
    have h' : ¬ n ≤ 0 := by omega
    rw [decide_eq_true q, decide_eq_false h'] at hbad
    simp at hbad
   have hlt : o.countP (fun a => decide (a ∈ L)) < 8 := by
    rw [← ho]
    refine Nat.lt_of_le_of_ne List.countP_le_length fun q => ?_
    have := List.countP_eq_length.1 q n hn
    exact hnin (of_decide_eq_true this)
   have h8 : ¬ cntSum o L = 8 := by omega
   rw [decide_eq_false h8]
   simp
  ·rw [if_neg hb]
   have hin : ∀ n ∈ o, n ∈ L := by
    intro n hn
    by_cases q : n ∈ L
    ·exact q
    ·refine absurd (List.any_eq_true.2 ⟨n, hn, ?_⟩) hb
     rw [decide_eq_false q, decide_eq_true hk]
     by_cases h0 : 0 < n
     ·simp [h0]
     ·simp [h0]; omega
   have h8 : cntSum o L = 8 := by
    have : o.countP (fun a => decide (a ∈ L)) = o.length := List.countP_eq_length.2 fun n hn => decide_eq_true (hin n hn)
    omega
   rw [decide_eq_true h8]
   have hs8 : (L.map fun n => (cnt o n : Int)).sum = 8 := by rw [← sum_cast, h8]; rfl
   by_cases hodd : L.any (oddC o L.length) = true
   ·rw [if_pos hodd]
    refine (decide_eq_false fun q => ?_).symm
    obtain ⟨n, hn, hle⟩ := least (cnt o) L h
    have hsb := (spread_bound o L 0 0 0).2
    have hn1 := (hsb n hn).1
    have htwo : ∀ m ∈ L, (cnt o m : Int) = (cnt o n : Nat) ∨ (cnt o m : Int) = ((cnt o n : Nat) : Int) + 1 := fun m hm => by
     have := (hsb m hm).2
     have := hle m hm
     omega
    obtain ⟨ht, hc⟩ := count_bonus (fun m => (cnt o m : Int)) (cnt o n) L.length L rfl hk hs8 htwo ⟨n, hn, rfl⟩
    obtain ⟨m, hm, ho2⟩ := List.any_eq_true.1 hodd
    unfold oddC at ho2
    rw [Bool.and_eq_true, decide_eq_true_eq, decide_eq_true_eq] at ho2
    rcases htwo m hm with e | e
    ·exact ho2.1 (by omega)
    ·have hpos : 0 < 8 % L.length := by
      rw [← hc]
      exact List.countP_pos_iff.2 ⟨m, hm, by simp [e]⟩
     refine ho2.2 ?_
     have hdm := Nat.div_add_mod 8 L.length
     have hml := Nat.mod_lt 8 hk
     have : (8 + L.length - 1) / L.length = cnt o n + 1 := by
      refine Nat.div_eq_of_lt_le ?_ ?_
      ·rw [Nat.add_mul, Nat.one_mul, ht, Nat.mul_comm]
       generalize L.length * (8 / L.length) = w at *
       omega
      ·rw [Nat.add_mul, Nat.add_mul, Nat.one_mul, ht, Nat.mul_comm (8 / L.length)]
       generalize L.length * (8 / L.length) = w at *
       omega
     rw [this]; omega
   ·rw [if_neg hodd]
    refine (decide_eq_true ?_).symm
    have hceil : (8 + L.length - 1) / L.length ≤ 8 / L.length + 1 := by
     have hdm := Nat.div_add_mod 8 L.length
     have hml := Nat.mod_lt 8 hk
     refine Nat.le_of_lt_succ (Nat.div_lt_of_lt_mul ?_)
     rw [Nat.mul_succ, Nat.mul_succ]
     generalize L.length * (8 / L.length) = w at *
     omega
    have hfloor : 8 / L.length ≤ (8 + L.length - 1) / L.length := Nat.div_le_div_right (by omega)
    have := spread_in o ((8 / L.length : Nat) : Int) L 0 0 0 (fun n hn => by
     have hq : ¬ oddC o L.length n = true := fun q => hodd (List.any_eq_true.2 ⟨n, hn, q⟩)
     unfold oddC at hq
     generalize 8 / L.length = a at *
     generalize (8 + L.length - 1) / L.length = b at *
     simp at hq
     by_cases e : cnt o n = a
     ·omega
     ·have := hq e; omega) (.inl ⟨rfl, h⟩)
    omega
end Go.Proofs.RgPlain
end
