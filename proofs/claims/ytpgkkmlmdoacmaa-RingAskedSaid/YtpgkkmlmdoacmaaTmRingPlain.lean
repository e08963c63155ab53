/- A part of the proof: the tree machine and its use. -/
set_option linter.unusedVariables false
set_option linter.unusedSimpArgs false
set_option linter.unusedSectionVars false
/- RingAsked's plain law: of a list of unlike nodes the first are asked, or the next ones that are up for them. -/
namespace Go.Proofs.RingPlain

def goP : List Int → List Int → List Int
  | acc, [] => acc
  | acc, n :: r => if 0 < n ∧ n ∉ acc then goP (acc ++ [n]) r else goP acc r
theorem goP_nodup : ∀ (l acc : List Int), acc.Nodup → (goP acc l).Nodup
  | [], acc, h => h
  | n :: r, acc, h => by
    unfold goP
    split
    · rename_i hc
      refine goP_nodup r _ ?_
      rw [List.nodup_append]
      exact ⟨h, by simp, fun a ha b hb e => hc.2 (by simp at hb; subst hb; exact e ▸ ha)⟩
    · exact goP_nodup r _ h
theorem goP_len : ∀ (l acc : List Int), (goP acc l).length ≤ acc.length + l.length
  | [], acc => by simp [goP]
  | n :: r, acc => by
    unfold goP
    split
    · have := goP_len r (acc ++ [n]); simp at this ⊢; omega
    · have := goP_len r acc; simp at this ⊢; omega

def sloppy (up : List Int) : List Int → List Int → List (Int × Int)
  | [], _ => []
  | x :: f, rest => if x ∈ up then (x, x) :: sloppy up f rest else match rest with
    | [] => sloppy up f []
    | r :: rs => (r, x) :: sloppy up f rs

theorem sloppy_len (up : List Int) : ∀ (f r : List Int), (sloppy up f r).length = min f.length (f.countP (· ∈ up) + r.length)
  | [], r => by simp [sloppy]
  | x :: f, r => by
    unfold sloppy
    by_cases hx : x ∈ up
    · rw [if_pos hx, List.countP_cons]
      have := sloppy_len up f r
      simp [hx, this]; omega
    · rw [if_neg hx, List.countP_cons]
      cases r with
      | nil =>
        have := sloppy_len up f []
        have hc := List.countP_le_length (p := fun x => decide (x ∈ up)) (l := f)
        simp [hx, this] at hc ⊢; omega
      | cons y rs =>
        have := sloppy_len up f rs
        simp [hx, this]; omega
theorem sloppy_mem (up : List Int) : ∀ (f r : List Int) (t : Int × Int), t ∈ sloppy up f r → t.2 ∈ f ∧ ((t.1 = t.2 ∧ t.1 ∈ up) ∨ t.1 ∈ r)
  | [], r, t, h => by simp [sloppy] at h
  | x :: f, r, t, h => by
    unfold sloppy at h
    by_cases hx : x ∈ up
    · rw [if_pos hx] at h
      rcases List.mem_cons.1 h with rfl | h
      · exact ⟨by simp, .inl ⟨rfl, hx⟩⟩
      · have := sloppy_mem up f r t h
        exact ⟨by simp [this.1], this.2⟩
    · rw [if_neg hx] at h
      cases r with
      | nil =>
        have := sloppy_mem up f [] t h
        exact ⟨by simp [this.1], this.2⟩
      | cons y rs =>
        rcases List.mem_cons.1 h with rfl | h
        · exact ⟨by simp, .inr (by simp)⟩
        · have := sloppy_mem up f rs t h
          exact ⟨by simp [this.1], this.2.imp id fun q => by simp [q]⟩
theorem sloppy_fst (up : List Int) : ∀ (f r : List Int), f.Nodup → r.Nodup → (∀ x ∈ f, x ∉ r) → ((sloppy up f r).map (·.1)).Nodup
  | [], r, _, _, _ => by simp [sloppy]
  | x :: f, r, hf, hr, hd => by
    have hf' := List.nodup_cons.1 hf
    unfold sloppy
    by_cases hx : x ∈ up
    · rw [if_pos hx]
      refine List.nodup_cons.2 ⟨fun q => ?_, sloppy_fst up f r hf'.2 hr fun y hy => hd y (by simp [hy])⟩
      obtain ⟨t, ht, e⟩ := List.mem_map.1 q
      have := sloppy_mem up f r t ht
      have e : t.1 = x := e
      rcases this.2 with ⟨e', _⟩ | h
      · exact hf'.1 (by rw [← e, e']; exact this.1)
      · exact hd x (by simp) (by rw [← e]; exact h)
    · rw [if_neg hx]
      cases r with
      | nil => exact sloppy_fst up f [] hf'.2 hr fun y hy => by simp
      | cons y rs =>
        have hr' := List.nodup_cons.1 hr
        refine List.nodup_cons.2 ⟨fun q => ?_, sloppy_fst up f rs hf'.2 hr'.2 fun z hz q => hd z (by simp [hz]) (by simp [q])⟩
        obtain ⟨t, ht, e⟩ := List.mem_map.1 q
        have := sloppy_mem up f rs t ht
        have e : t.1 = y := e
        rcases this.2 with ⟨e', _⟩ | h
        · exact hd y (by rw [← e, e']; simp [this.1]) (by simp)
        · exact hr'.1 (by rw [← e]; exact h)
theorem sloppy_snd (up : List Int) : ∀ (f r : List Int), ((sloppy up f r).map (·.2)).Sublist f
  | [], r => by simp [sloppy]
  | x :: f, r => by
    unfold sloppy
    by_cases hx : x ∈ up
    · rw [if_pos hx]; exact (sloppy_snd up f r).cons_cons x
    · rw [if_neg hx]
      cases r with
      | nil => exact (sloppy_snd up f []).cons x
      | cons y rs => exact (sloppy_snd up f rs).cons_cons x
/-- What the law asks. -/
theorem asked (up W : List Int) (hW : W.Nodup) (k : Nat) :
    let first := W.take k
    let l := sloppy up first ((W.drop k).filter (· ∈ up))
    l.length = min first.length (W.countP (· ∈ up)) ∧ (∀ t ∈ l, t.1 ∈ up ∧ t.2 ∈ first ∧ (t.1 ∈ first ↔ t.1 = t.2)) ∧ (l.map (·.1)).Nodup ∧ (l.map (·.2)).Nodup := by
  intro first l
  have hsplit : W = first ++ W.drop k := (List.take_append_drop k W).symm
  have hn : (first ++ W.drop k).Nodup := by rw [← hsplit]; exact hW
  have hna := List.nodup_append.1 hn
  have hdis : ∀ x ∈ first, x ∉ (W.drop k).filter (· ∈ up) := fun x hx q => hna.2.2 x hx x (List.mem_filter.1 q).1 rfl
  refine ⟨?_, fun t ht => ?_, sloppy_fst up first _ hna.1 (hna.2.1.filter _) hdis, (sloppy_snd up first _).nodup hna.1⟩
  · rw [show l.length = _ from sloppy_len up first _]
    have : W.countP (fun x => decide (x ∈ up)) = first.countP (fun x => decide (x ∈ up)) + ((W.drop k).filter (fun x => decide (x ∈ up))).length := by
      conv => lhs; rw [hsplit]
      rw [List.countP_append, List.countP_eq_length_filter (l := W.drop k)]
    rw [this]
  · have h := sloppy_mem up first _ t ht
    rcases h.2 with ⟨e, hu⟩ | hr
    · exact ⟨hu, h.1, by rw [e]; simp [h.1]⟩
    · have hr' := List.mem_filter.1 hr
      refine ⟨by simpa using hr'.2, h.1, ⟨fun q => absurd hr (hdis _ q), fun e => by rw [e]; exact h.1⟩⟩
end Go.Proofs.RingPlain
