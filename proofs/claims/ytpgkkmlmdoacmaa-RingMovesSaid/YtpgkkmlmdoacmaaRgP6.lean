/- The ring's claims, plain: what moves when a member comes or goes. No program here. -/
import Derived.Test.YtpgkkmlmdoacmaaTmQe
import Derived.Lib.RowBridge
set_option linter.unusedVariables false
set_option linter.unusedSimpArgs false
set_option linter.unusedSectionVars false
namespace Go.Proofs.RgPlain
theorem mem_transfers {a b : List Int} {x : Int × Int × Int} (h : x ∈ transfers a b) : ∃ i : Nat, i < 8 ∧ x = ((i : Int), a.getD i 0, b.getD i 0) ∧ a.getD i 0 ≠ b.getD i 0 := by
  unfold transfers transfersTo at h
  obtain ⟨i, hi, rfl⟩ := List.mem_map.1 h
  rw [List.mem_filter, List.mem_range] at hi
  refine ⟨i, hi.1, rfl, ?_⟩
  have := hi.2
  unfold moves at this
  rw [Bool.and_eq_true] at this
  exact of_decide_eq_true this.1
/-- How a claim's counts stand. -/
theorem claim_two {o L S c : List Int} (h : Claimed o L S c) (hS : ∀ n, n ∈ S ↔ n ∈ L) : ∀ n ∈ L, c.count n = 8 / L.length ∨ c.count n = 8 / L.length + 1 := fun n hn => by
  have := h.count n hn
  rcases quota_two L.length S n ((hS n).2 hn) with q | q <;> omega
theorem claim_least {o L S c : List Int} (h : Claimed o L S c) (hS : ∀ n, n ∈ S ↔ n ∈ L) (hL : L.Nodup) (hne : L ≠ []) : ∃ n ∈ L, c.count n = 8 / L.length := by
  have hk : 0 < L.length := List.length_pos_iff.2 hne
  refine Classical.byContradiction fun hno => ?_
  have hall : ∀ n ∈ L, c.count n = 8 / L.length + 1 := fun n hn => by
    rcases claim_two h hS n hn with q | q
    · exact absurd ⟨n, hn, q⟩ hno
    · exact q
  have hsum := count_sum c L hL h.len h.mem
  have e : (L.map fun n => (c.count n : Int)).sum = (L.map fun _ => ((8 / L.length : Nat) : Int) + 1).sum := sum_congr fun n hn => by rw [hall n hn]; omega
  rw [hsum, sum_const] at e
  have h1 := Nat.div_add_mod 8 L.length
  have h2 : 8 % L.length < L.length := Nat.mod_lt _ hk
  have e' : ((L.length * (8 / L.length) + L.length : Nat) : Int) = 8 := by rw [Int.natCast_add, Int.natCast_mul]; rw [Int.mul_add] at e; omega
  omega
/-- How many have one more. -/
theorem claim_bonus {o L S c : List Int} (h : Claimed o L S c) (hS : ∀ n, n ∈ S ↔ n ∈ L) (hL : L.Nodup) (hne : L ≠ []) : L.countP (fun n => decide (8 / L.length + 1 ≤ c.count n)) = 8 % L.length := by
  obtain ⟨m, hm, hmc⟩ := claim_least h hS hL hne
  have hk : 0 < L.length := List.length_pos_iff.2 hne
  obtain ⟨_, h2⟩ := count_bonus (fun n => (c.count n : Int)) (8 / L.length) L.length L rfl hk (count_sum c L hL h.len h.mem) (fun n hn => by
    rcases claim_two h hS n hn with q | q
    · left; show (c.count n : Int) = _; rw [q]
    · right; show (c.count n : Int) = _; rw [q]; rfl) ⟨m, hm, by show (c.count m : Int) = _; rw [hmc]⟩
  rw [← h2]
  apply List.countP_congr
  intro x _
  simp only [decide_eq_true_eq]
  omega
theorem small_steps (k : Nat) (h1 : 1 ≤ k) (h6 : k ≤ 6) : 8 / (k + 1) < 8 / k ∨ (8 / (k + 1) = 8 / k ∧ 8 % (k + 1) ≤ 8 % k) := by
  match k, h1, h6 with
  | 1, _, _ => decide
  | 2, _, _ => decide
  | 3, _, _ => decide
  | 4, _, _ => decide
  | 5, _, _ => decide
  | 6, _, _ => decide
section
variable {ms : List Int} {more : Int}
theorem moves_to (h1 : ∀ n ∈ ms, 0 < n ∧ n ≠ more) (hm : 0 < more) (hne : ms ≠ []) (h6 : ms.length ≤ 6) : (∀ x ∈ transfers (claim zeros ms) (claim (claim zeros ms) (ms ++ [more])), x.2.2 = more) ∧ ∀ x ∈ transfers (claim (claim zeros ms) (ms ++ [more])) (claim (claim (claim zeros ms) (ms ++ [more])) ms), x.2.1 = more := by
  have hLne : those ms ≠ [] := by
    intro e
    cases ms with
    | nil => exact hne rfl
    | cons n r =>
      have := (mem_those (n :: r) n).2 ⟨(h1 n (by simp)).1, by simp⟩
      rw [e] at this
      simp at this
  have hL := those_nodup ms
  have hL2 := those_nodup (ms ++ [more])
  have hmem : ∀ n, n ∈ those (ms ++ [more]) ↔ n ∈ those ms ∨ n = more := fun n => by
    rw [mem_those, mem_those, List.mem_append, List.mem_singleton]
    constructor
    · rintro ⟨a, b | b⟩
      · exact .inl ⟨a, b⟩
      · exact .inr b
    · rintro (⟨a, b⟩ | rfl)
      · exact ⟨a, .inl b⟩
      · exact ⟨hm, .inr rfl⟩
  have hmoreL : more ∉ those ms := fun h => (h1 more ((mem_those ms more).1 h).2).2 rfl
  have hperm : (those (ms ++ [more])).Perm (more :: those ms) := (List.perm_ext_iff_of_nodup hL2 (List.nodup_cons.2 ⟨hmoreL, hL⟩)).2 fun n => by
    rw [hmem, List.mem_cons]; exact or_comm
  have hlen2 : (those (ms ++ [more])).length = (those ms).length + 1 := by rw [hperm.length_eq, List.length_cons]
  have hL2ne : those (ms ++ [more]) ≠ [] := fun e => by rw [e] at hlen2; simp at hlen2
  have ha := claimed zeros ms rfl hLne
  have hb := claimed (claim zeros ms) (ms ++ [more]) ha.len hL2ne
  have hc := claimed (claim (claim zeros ms) (ms ++ [more])) ms hb.len hLne
  have hp : ∀ n ∈ those ms, 0 < n := fun n hn => ((mem_those ms n).1 hn).1
  have hp2 : ∀ n ∈ those (ms ++ [more]), 0 < n := fun n hn => ((mem_those _ n).1 hn).1
  have hk1 : 1 ≤ (those ms).length := List.length_pos_iff.2 hLne
  have hk6 : (those ms).length ≤ 6 := by
    have h2 := Go.Lib.compact_length_le ((ms.filter fun n => decide (0 < n)).mergeSort fun x y => decide (x ≤ y))
    have h3 : ((ms.filter fun n => decide (0 < n)).mergeSort fun x y => decide (x ≤ y)).length = (ms.filter fun n => decide (0 < n)).length := (List.mergeSort_perm _ _).length_eq
    have h4 := List.length_filter_le (fun n => decide (0 < n)) ms
    unfold those
    omega
  have hss := small_steps _ hk1 hk6
  generalize hA : claim zeros ms = a at *
  generalize hB : claim a (ms ++ [more]) = b at *
  generalize claim b ms = c at *
  have hmorea : a.count more = 0 := by
    rw [List.count_eq_zero]
    intro h
    obtain ⟨i, hi, e⟩ := List.mem_iff_getElem.1 h
    have := ha.mem i (by rw [← ha.len]; exact hi)
    rw [getD_get hi, e] at this
    exact hmoreL this
  -- what each may have when one more has come
  have hS2 := fun n => sort_mem (those (ms ++ [more])) a n
  have hcp2 : ((those (ms ++ [more])).mergeSort (leO a)).countP (fun n => decide (8 / (those ms).length + 1 ≤ a.count n)) = 8 % (those ms).length := by
    rw [(List.mergeSort_perm _ _).countP_eq, hperm.countP_eq, List.countP_cons, claim_bonus ha (fun n => sort_mem _ _ n) hL hLne, hmorea]
    simp
  have hpre := prefix_count (fun n => decide (8 / (those ms).length + 1 ≤ a.count n)) _ (sorted_by a ha.len (those (ms ++ [more])) hp2 (8 / (those ms).length)) ((List.mergeSort_perm _ _).nodup_iff.2 hL2)
  rw [hcp2] at hpre
  have hle : ∀ n ∈ those ms, quota (those (ms ++ [more])).length ((those (ms ++ [more])).mergeSort (leO a)) n ≤ a.count n := fun n hn => by
    have hn2 : n ∈ (those (ms ++ [more])).mergeSort (leO a) := (hS2 n).2 ((hmem n).2 (.inl hn))
    have h2 := hpre n hn2
    have h3 := claim_two ha (fun n => sort_mem _ _ n) n hn
    unfold quota
    rw [if_pos hn2, hlen2]
    simp only [decide_eq_true_eq] at h2
    generalize ((those (ms ++ [more])).mergeSort (leO a)).idxOf n = j at *
    generalize 8 / (those ms).length = t at *
    generalize 8 / ((those ms).length + 1) = t2 at *
    generalize 8 % (those ms).length = r at *
    generalize 8 % ((those ms).length + 1) = r2 at *
    split <;> omega
  have hm1 : ∀ i, i < 8 → a.getD i 0 ≠ b.getD i 0 → b.getD i 0 = more := fun i hi hne => by
    obtain ⟨ok, _, _, _, k4, k5⟩ := hb.kept
    by_cases hz : ok.getD i 0 = 0
    · have hlt := k5 i hi hz
      rcases (hmem _).1 (hb.mem i hi) with q | q
      · have := hle _ q; omega
      · exact q
    · exact absurd (k4 i hi hz).2.symm hne
  refine ⟨fun x hx => ?_, fun x hx => ?_⟩
  · obtain ⟨i, hi, rfl, hne⟩ := mem_transfers hx
    exact hm1 i hi hne
  · obtain ⟨i, hi, rfl, hne⟩ := mem_transfers hx
    rcases (hmem _).1 (hb.mem i hi) with q | q
    · exfalso
      refine hne (hc.keeps i hi (by have := hp _ q; omega) ?_).symm
      -- who stays may have all that it has
      generalize b.getD i 0 = n at *
      have hcb := hb.count n ((hmem n).2 (.inl q))
      rw [hlen2] at hcb
      have hn3 : n ∈ (those ms).mergeSort (leO b) := (sort_mem _ _ n).2 q
      have hbound : ((those ms).mergeSort (leO b)).countP (fun n => decide (8 / ((those ms).length + 1) + 1 ≤ b.count n)) ≤ 8 % ((those ms).length + 1) := by
        have h2 := claim_bonus hb (fun n => sort_mem _ _ n) hL2 hL2ne
        rw [hlen2] at h2
        rw [(List.mergeSort_perm _ _).countP_eq, ← h2, hperm.countP_eq, List.countP_cons]
        omega
      have hpre3 := prefix_count (fun n => decide (8 / ((those ms).length + 1) + 1 ≤ b.count n)) _ (sorted_by b hb.len (those ms) hp (8 / ((those ms).length + 1))) ((List.mergeSort_perm _ _).nodup_iff.2 hL) n hn3
      have htwo := claim_two hb (fun n => sort_mem _ _ n) n ((hmem n).2 (.inl q))
      rw [hlen2] at htwo
      simp only [decide_eq_true_eq] at hpre3
      unfold quota
      rw [if_pos hn3]
      generalize ((those ms).mergeSort (leO b)).idxOf n = j at *
      generalize ((those ms).mergeSort (leO b)).countP (fun n => decide (8 / ((those ms).length + 1) + 1 ≤ b.count n)) = u at *
      generalize 8 / (those ms).length = t at *
      generalize 8 / ((those ms).length + 1) = t2 at *
      generalize 8 % (those ms).length = r at *
      generalize 8 % ((those ms).length + 1) = r2 at *
      split <;> omega
    · exact q
end
end Go.Proofs.RgPlain
