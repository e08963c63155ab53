/- RingPlain, RsWalk, RsPrim, RsSl, RsSloppy, joined. -/
import Derived.Test.YtbhjnkdediijnaaDoorRxA
import Derived.Test.YtbhjnkdediijnaaDoorRxB
import Derived.Test.YtbhjnkdediijnaaDoorRsDel
import Derived.Test.YtbhjnkdediijnaaDoorTmStep
set_option linter.unusedVariables false
set_option linter.unusedSimpArgs false
set_option linter.unusedSectionVars false
section
namespace Go.Proofs.RingPlain

def goP : List Int → List Int → List Int
 | acc, [] => acc
 | acc, n :: r => if 0 < n ∧ n ∉ acc then goP (acc ++ [n]) r else goP acc r
theorem goP_nodup : ∀ (l acc : List Int), acc.Nodup → (goP acc l).Nodup
 | [], acc, h => h
 | n :: r, acc, h => by
  unfold goP
  split
  ·rename_i hc
   refine goP_nodup r _ ?_
   rw [List.nodup_append]
   exact ⟨h, by simp, fun a ha b hb e => hc.2 (by simp at hb; subst hb; exact e ▸ ha)⟩
  ·exact goP_nodup r _ h
theorem goP_len : ∀ (l acc : List Int), (goP acc l).length ≤ acc.length + l.length
 | [], acc => by simp [goP]
 | n :: r, acc => by
  unfold goP
  split
  ·have := goP_len r (acc ++ [n]); simp at this ⊢; omega
  ·have := goP_len r acc; simp at this ⊢; omega

def sloppy (up : List Int) : List Int → List Int → List (Int × Int)
 | [], _ => []
 | x :: f, rest => if x ∈ up then (x, x) :: sloppy up f rest else match rest with
  | [] => sloppy up f []
  | r :: rs => (r, x) :: sloppy up f rs

theorem sloppy_len (up : List Int) : ∀ (f r : List Int), (sloppy up f r).length = min f.length (f.countP (· ∈ up) + r.length)
 | [], r => by simp [sloppy]
 | x :: f, r => by
  unfold sloppy
  by_cases hx : x ∈ up
  ·rw [if_pos hx, List.countP_cons]
   have := sloppy_len up f r
   simp [hx, this]; omega
  ·rw [if_neg hx, List.countP_cons]
   cases r with
   | nil =>
    have := sloppy_len up f []
    have hc := List.countP_le_length (p := fun x => decide (x ∈ up)) (l := f)
    simp [hx, this] at hc ⊢; omega
   | cons y rs =>
    have := sloppy_len up f rs
    simp [hx, this]; omega
theorem sloppy_mem (up : List Int) : ∀ (f r : List Int) (t : Int × Int), t ∈ sloppy up f r → t.2 ∈ f ∧ ((t.1 = t.2 ∧ t.1 ∈ up) ∨ t.1 ∈ r)
 | [], r, t, h => by simp [sloppy] at h
 | x :: f, r, t, h => by
  unfold sloppy at h
  by_cases hx : x ∈ up
  ·rw [if_pos hx] at h
   rcases List.mem_cons.1 h with rfl | h
   ·exact ⟨by simp, .inl ⟨rfl, hx⟩⟩
   ·have := sloppy_mem up f r t h
    exact ⟨by simp [this.1], this.2⟩
  ·rw [if_neg hx] at h
   cases r with
   | nil =>
    have := sloppy_mem up f [] t h
    exact ⟨by simp [this.1], this.2⟩
   | cons y rs =>
    rcases List.mem_cons.1 h with rfl | h
    ·exact ⟨by simp, .inr (by simp)⟩
    ·have := sloppy_mem up f rs t h
     exact ⟨by simp [this.1], this.2.imp id fun q => by simp [q]⟩
theorem sloppy_fst (up : List Int) : ∀ (f r : List Int), f.Nodup → r.Nodup → (∀ x ∈ f, x ∉ r) → ((sloppy up f r).map (·.1)).Nodup
 | [], r, _, _, _ => by simp [sloppy]
 | x :: f, r, hf, hr, hd => by
  have hf' := List.nodup_cons.1 hf
  unfold sloppy
  by_cases hx : x ∈ up
  ·rw [if_pos hx]
   refine List.nodup_cons.2 ⟨fun q => ?_, sloppy_fst up f r hf'.2 hr fun y hy => hd y (by simp [hy])⟩
   obtain ⟨t, ht, e⟩ := List.mem_map.1 q
   have := sloppy_mem up f r t ht
   have e : t.1 = x := e
   rcases this.2 with ⟨e', _⟩ | h
   ·exact hf'.1 (by rw [← e, e']; exact this.1)
   ·exact hd x (by simp) (by rw [← e]; exact h)
  ·rw [if_neg hx]
   cases r with
   | nil => exact sloppy_fst up f [] hf'.2 hr fun y hy => by simp
   | cons y rs =>
    have hr' := List.nodup_cons.1 hr
    refine List.nodup_cons.2 ⟨fun q => ?_, sloppy_fst up f rs hf'.2 hr'.2 fun z hz q => hd z (by simp [hz]) (by simp [q])⟩
    obtain ⟨t, ht, e⟩ := List.mem_map.1 q
    have := sloppy_mem up f rs t ht
    have e : t.1 = y := e
    rcases this.2 with ⟨e', _⟩ | h
    ·exact hd y (by rw [← e, e']; simp [this.1]) (by simp)
    ·exact hr'.1 (by rw [← e]; exact h)
theorem sloppy_snd (up : List Int) : ∀ (f r : List Int), ((sloppy up f r).map (·.2)).Sublist f
 | [], r => by simp [sloppy]
 | x :: f, r => by
  unfold sloppy
  by_cases hx : x ∈ up
  ·rw [if_pos hx]; exact (sloppy_snd up f r).cons_cons x
  ·rw [if_neg hx]
   cases r with
   | nil => exact (sloppy_snd up f []).cons x
   | cons y rs => exact (sloppy_snd up f rs).cons_cons x
theorem asked (up W : List Int) (hW : W.Nodup) (k : Nat) :
  let first := W.take k
  let l := sloppy up first ((W.drop k).filter (· ∈ up))
  l.length = min first.length (W.countP (· ∈ up)) ∧ (∀ t ∈ l, t.1 ∈ up ∧ t.2 ∈ first ∧ (t.1 ∈ first ↔ t.1 = t.2)) ∧ (l.map (·.1)).Nodup ∧ (l.map (·.2)).Nodup := by
 intro first l
 have hsplit : W = first ++ W.drop k := (List.take_append_drop k W).symm
 have hn : (first ++ W.drop k).Nodup := by rw [← hsplit]; exact hW
 have hna := List.nodup_append.1 hn
 have hdis : ∀ x ∈ first, x ∉ (W.drop k).filter (· ∈ up) := fun x hx q => hna.2.2 x hx x (List.mem_filter.1 q).1 rfl
 refine ⟨?_, fun t ht => ?_, sloppy_fst up first _ hna.1 (hna.2.1.filter _) hdis, (sloppy_snd up first _).nodup hna.1⟩
 ·rw [show l.length = _ from sloppy_len up first _]
  have : W.countP (fun x => decide (x ∈ up)) = first.countP (fun x => decide (x ∈ up)) + ((W.drop k).filter (fun x => decide (x ∈ up))).length := by
   conv => lhs; rw [hsplit]
   rw [List.countP_append, List.countP_eq_length_filter (l := W.drop k)]
  rw [this]
 ·have h := sloppy_mem up first _ t ht
  rcases h.2 with ⟨e, hu⟩ | hr
  ·exact ⟨hu, h.1, by rw [e]; simp [h.1]⟩
  ·have hr' := List.mem_filter.1 hr
   refine ⟨by simpa using hr'.2, h.1, ⟨fun q => absurd hr (hdis _ q), fun e => by rw [e]; exact h.1⟩⟩
end Go.Proofs.RingPlain
end
section
namespace Go.Proofs
open Go.Tm Go.Proofs.RingPlain
set_option maxRecDepth 100000
theorem goP_snoc (n : Int) : ∀ (l acc : List Int), goP acc (l ++ [n]) = if 0 < n ∧ n ∉ goP acc l then goP acc l ++ [n] else goP acc l
 | [], acc => by simp only [List.nil_append, goP]; rfl
 | x :: r, acc => by
  simp only [List.cons_append, goP]
  split
  ·exact goP_snoc n r _
  ·exact goP_snoc n r _
def rot (o : List Int) (p : Int) : List Int := (List.range 8).map fun i => o.getD (((max p 0) % 8).toNat + i) 0
def rotI (o : List Int) (p : Int) (i : Nat) : Int := o.getD ((((max p 0) % 8).toNat + i) % 8) 0
def owners (o : List Int) (p : Int) (i : Nat) : List Int := goP [] ((List.range i).map (rotI o p))
theorem owners_succ (o : List Int) (p : Int) (i : Nat) : owners o p (i + 1) = if 0 < rotI o p i ∧ rotI o p i ∉ owners o p i then owners o p i ++ [rotI o p i] else owners o p i := by
 unfold owners
 rw [List.range_succ, List.map_append]
 exact goP_snoc _ _ _
theorem owners_len (o : List Int) (p : Int) (i : Nat) : (owners o p i).length ≤ i := by
 have := goP_len ((List.range i).map (rotI o p)) []
 simpa [owners] using this
theorem place (p : Int) (i : Nat) (hi : i < 8) : (IntKind.i64.wrap ((if (0 : Int) > p then 0 else p).tmod 8 + (i : Int))).tmod 8 = (((((max p 0) % 8).toNat + i) % 8 : Nat) : Int) := by
 have e : (if (0 : Int) > p then 0 else p) = max p 0 := by split <;> omega
 have t : (max p 0).tmod 8 = (max p 0) % 8 := Int.tmod_eq_emod_of_nonneg (by omega)
 have w : IntKind.i64.wrap ((max p 0) % 8 + (i : Int)) = (max p 0) % 8 + (i : Int) := by
  simp only [IntKind.wrap, IntKind.bits, IntKind.signed]
  simp
  omega
 rw [e, t, w, Int.tmod_eq_emod_of_nonneg (by omega)]
 omega
set_option maxHeartbeats 4000000 in
theorem walk_tells (o : List Int) (ho : o.length = 8) (p : Int) (H : List AB) : Tells Kz 17 [.agg (o.map i64), i64 p] H fun r H' => Made H H' r (owners o p 8) := by
 refine Tells.mem (c := _) Tryd.func17 rfl (args' := [.agg (o.map i64), i64 p]) (m := 31) rfl rfl rfl rfl rfl ?_
 refine jh ?_
 refine ji ?_
 refine ja rfl rfl (op_box rfl rfl (by simp [AV.cells, allOne, AV.one])) ?_
 (repeat (first | with_reducible refine jh ?_ | with_reducible refine ji ?_ | with_reducible refine jl ?_ | (with_reducible refine jj ?_; refine jk (by first | (simp only [setAt, enter, List.replicate, List.cons_append, List.nil_append]; rfl) | rfl) ?_) | with_reducible refine jm ?_ | with_reducible refine jn ?_ | with_reducible refine jo ?_ | with_reducible refine jp ?_ | with_reducible refine jq ?_ | with_reducible refine jr ?_ | with_reducible refine js ?_ | with_reducible refine jt ?_ | with_reducible refine ju ?_ | with_reducible refine jx (by decide) ?_ | with_reducible refine jv ?_ | with_reducible refine jw ?_ | (with_reducible refine Wo.id ?_; first | refine ja rfl rfl (jc rfl rfl) ?_ | refine ja rfl rfl (je rfl rfl) ?_ | refine ja rfl rfl (jd rfl rfl rfl rfl rfl) ?_ | refine ja rfl rfl (jf rfl rfl rfl rfl) ?_ | refine ja rfl rfl (jg rfl rfl (by first | with_reducible exact u24 | with_reducible exact u3 | with_reducible exact u23) rfl) ?_ | refine ja rfl rfl (jQ rfl rfl (by first | with_reducible exact u24 | with_reducible exact u3 | with_reducible exact u23) rfl) ?_)))
 refine Wc.regs (R' := (.agg (o.map i64) :: i64 p :: .ptr H.length 0 :: .undef :: .sl [] .nil :: .sl [] .nil :: .undef :: .undef :: i64 0 :: .undef :: .undef :: .undef :: .undef :: .undef :: .undef :: .undef :: .undef :: .undef :: .undef :: .undef :: .undef :: .undef :: .undef :: .undef :: .undef :: .undef :: .undef :: .undef :: .undef :: .undef :: .undef :: .undef :: .undef :: [])) rfl ?_
 refine Wc.inv (fun m s => ∃ i : Nat, m = 8 - i ∧ i ≤ 8 ∧ ∃ x, Made (H ++ [.cells (23, true) (o.map i64)]) s.H x (owners o p i) ∧ ∃ d : Nat → AV, s.regs = (.agg (o.map i64) :: i64 p :: .ptr H.length 0 :: d 3 :: d 4 :: x :: d 6 :: d 7 :: i64 i :: d 9 :: d 10 :: d 11 :: d 12 :: d 13 :: d 14 :: d 15 :: d 16 :: d 17 :: d 18 :: d 19 :: d 20 :: d 21 :: d 22 :: d 23 :: d 24 :: d 25 :: d 26 :: d 27 :: d 28 :: d 29 :: d 30 :: d 31 :: d 32 :: [])) 8 ?_ ?_
 ·exact ⟨0, by omega, by omega, .sl [] .nil, ⟨.inl ⟨rfl, rfl⟩, Nat.le_refl _, fun _ _ => rfl⟩, dead_of rfl⟩
 ·rintro m regs own H1 ⟨i, rfl, hi, x, hm, d, rfl⟩
  (repeat (first | with_reducible refine jh ?_ | with_reducible refine ji ?_ | with_reducible refine jl ?_ | (with_reducible refine jj ?_; refine jk (by first | (simp only [setAt, enter, List.replicate, List.cons_append, List.nil_append]; rfl) | rfl) ?_) | with_reducible refine jm ?_ | with_reducible refine jn ?_ | with_reducible refine jo ?_ | with_reducible refine jp ?_ | with_reducible refine jq ?_ | with_reducible refine jr ?_ | with_reducible refine js ?_ | with_reducible refine jt ?_ | with_reducible refine ju ?_ | with_reducible refine jx (by decide) ?_ | with_reducible refine jv ?_ | with_reducible refine jw ?_ | (with_reducible refine Wo.id ?_; first | refine ja rfl rfl (jc rfl rfl) ?_ | refine ja rfl rfl (je rfl rfl) ?_ | refine ja rfl rfl (jd rfl rfl rfl rfl rfl) ?_ | refine ja rfl rfl (jf rfl rfl rfl rfl) ?_ | refine ja rfl rfl (jg rfl rfl (by first | with_reducible exact u24 | with_reducible exact u3 | with_reducible exact u23) rfl) ?_ | refine ja rfl rfl (jQ rfl rfl (by first | with_reducible exact u24 | with_reducible exact u3 | with_reducible exact u23) rfl) ?_)))
  refine Wc.cond rfl rfl (fun h => ?_) (fun h => ?_)
  ·have hlt : i < 8 := by have := of_decide_eq_true h; omega
   (repeat (first | with_reducible refine jh ?_ | with_reducible refine ji ?_ | with_reducible refine jl ?_ | (with_reducible refine jj ?_; refine jk (by first | (simp only [setAt, enter, List.replicate, List.cons_append, List.nil_append]; rfl) | rfl) ?_) | with_reducible refine jm ?_ | with_reducible refine jn ?_ | with_reducible refine jo ?_ | with_reducible refine jp ?_ | with_reducible refine jq ?_ | with_reducible refine jr ?_ | with_reducible refine js ?_ | with_reducible refine jt ?_ | with_reducible refine ju ?_ | with_reducible refine jx (by decide) ?_ | with_reducible refine jv ?_ | with_reducible refine jw ?_ | (with_reducible refine Wo.id ?_; first | refine ja rfl rfl (jc rfl rfl) ?_ | refine ja rfl rfl (je rfl rfl) ?_ | refine ja rfl rfl (jd rfl rfl rfl rfl rfl) ?_ | refine ja rfl rfl (jf rfl rfl rfl rfl) ?_ | refine ja rfl rfl (jg rfl rfl (by first | with_reducible exact u24 | with_reducible exact u3 | with_reducible exact u23) rfl) ?_ | refine ja rfl rfl (jQ rfl rfl (by first | with_reducible exact u24 | with_reducible exact u3 | with_reducible exact u23) rfl) ?_)))
   refine ja rfl rfl (op_max2 rfl rfl rfl rfl) ?_
   (repeat (first | with_reducible refine jh ?_ | with_reducible refine ji ?_ | with_reducible refine jl ?_ | (with_reducible refine jj ?_; refine jk (by first | (simp only [setAt, enter, List.replicate, List.cons_append, List.nil_append]; rfl) | rfl) ?_) | with_reducible refine jm ?_ | with_reducible refine jn ?_ | with_reducible refine jo ?_ | with_reducible refine jp ?_ | with_reducible refine jq ?_ | with_reducible refine jr ?_ | with_reducible refine js ?_ | with_reducible refine jt ?_ | with_reducible refine ju ?_ | with_reducible refine jx (by decide) ?_ | with_reducible refine jv ?_ | with_reducible refine jw ?_ | (with_reducible refine Wo.id ?_; first | refine ja rfl rfl (jc rfl rfl) ?_ | refine ja rfl rfl (je rfl rfl) ?_ | refine ja rfl rfl (jd rfl rfl rfl rfl rfl) ?_ | refine ja rfl rfl (jf rfl rfl rfl rfl) ?_ | refine ja rfl rfl (jg rfl rfl (by first | with_reducible exact u24 | with_reducible exact u3 | with_reducible exact u23) rfl) ?_ | refine ja rfl rfl (jQ rfl rfl (by first | with_reducible exact u24 | with_reducible exact u3 | with_reducible exact u23) rfl) ?_)))
   have hbox : nth H1 H.length = some (.cells (23, true) (o.map i64)) := (hm.2.2 H.length (by simp)).trans (nth_app _ _)
   have hjl : (((max p 0) % 8).toNat + i) % 8 < 8 := by omega
   refine ja rfl rfl (op_indexAddr_arr (sz := 0) rfl rfl u23 sz3 rfl rfl (place p i hlt) hjl) ?_
   refine ja rfl rfl (op_load_ptr (v := i64 (rotI o p i)) rfl rfl hbox ?_) ?_
   ·have hlen : 0 + (((max p 0) % 8).toNat + i) % 8 * (0 + 1) < (o.map i64).length := by rw [List.length_map, ho]; omega
    rw [List.drop_eq_getElem_cons hlen]
    refine (take_one ag3 sz3).trans ?_
    simp only [rotI, List.getElem_map, Nat.zero_add, Nat.mul_one]
    rw [List.getD_eq_getElem?_getD, List.getElem?_eq_getElem (by rw [ho]; exact hjl)]
    rfl
   (repeat (first | with_reducible refine jh ?_ | with_reducible refine ji ?_ | with_reducible refine jl ?_ | (with_reducible refine jj ?_; refine jk (by first | (simp only [setAt, enter, List.replicate, List.cons_append, List.nil_append]; rfl) | rfl) ?_) | with_reducible refine jm ?_ | with_reducible refine jn ?_ | with_reducible refine jo ?_ | with_reducible refine jp ?_ | with_reducible refine jq ?_ | with_reducible refine jr ?_ | with_reducible refine js ?_ | with_reducible refine jt ?_ | with_reducible refine ju ?_ | with_reducible refine jx (by decide) ?_ | with_reducible refine jv ?_ | with_reducible refine jw ?_ | (with_reducible refine Wo.id ?_; first | refine ja rfl rfl (jc rfl rfl) ?_ | refine ja rfl rfl (je rfl rfl) ?_ | refine ja rfl rfl (jd rfl rfl rfl rfl rfl) ?_ | refine ja rfl rfl (jf rfl rfl rfl rfl) ?_ | refine ja rfl rfl (jg rfl rfl (by first | with_reducible exact u24 | with_reducible exact u3 | with_reducible exact u23) rfl) ?_ | refine ja rfl rfl (jQ rfl rfl (by first | with_reducible exact u24 | with_reducible exact u3 | with_reducible exact u23) rfl) ?_)))
   have hsucc := owners_succ o p i
   have hlen := owners_len o p i
   by_cases hn : 0 < rotI o p i
   ·refine jB rfl rfl rfl (by simp [hn]) ?_
    (repeat (first | with_reducible refine jh ?_ | with_reducible refine ji ?_ | with_reducible refine jl ?_ | (with_reducible refine jj ?_; refine jk (by first | (simp only [setAt, enter, List.replicate, List.cons_append, List.nil_append]; rfl) | rfl) ?_) | with_reducible refine jm ?_ | with_reducible refine jn ?_ | with_reducible refine jo ?_ | with_reducible refine jp ?_ | with_reducible refine jq ?_ | with_reducible refine jr ?_ | with_reducible refine js ?_ | with_reducible refine jt ?_ | with_reducible refine ju ?_ | with_reducible refine jx (by decide) ?_ | with_reducible refine jv ?_ | with_reducible refine jw ?_ | (with_reducible refine Wo.id ?_; first | refine ja rfl rfl (jc rfl rfl) ?_ | refine ja rfl rfl (je rfl rfl) ?_ | refine ja rfl rfl (jd rfl rfl rfl rfl rfl) ?_ | refine ja rfl rfl (jf rfl rfl rfl rfl) ?_ | refine ja rfl rfl (jg rfl rfl (by first | with_reducible exact u24 | with_reducible exact u3 | with_reducible exact u23) rfl) ?_ | refine ja rfl rfl (jQ rfl rfl (by first | with_reducible exact u24 | with_reducible exact u3 | with_reducible exact u23) rfl) ?_)))
    refine jB rfl rfl rfl (by simp [hn]) ?_
    (repeat (first | with_reducible refine jh ?_ | with_reducible refine ji ?_ | with_reducible refine jl ?_ | (with_reducible refine jj ?_; refine jk (by first | (simp only [setAt, enter, List.replicate, List.cons_append, List.nil_append]; rfl) | rfl) ?_) | with_reducible refine jm ?_ | with_reducible refine jn ?_ | with_reducible refine jo ?_ | with_reducible refine jp ?_ | with_reducible refine jq ?_ | with_reducible refine jr ?_ | with_reducible refine js ?_ | with_reducible refine jt ?_ | with_reducible refine ju ?_ | with_reducible refine jx (by decide) ?_ | with_reducible refine jv ?_ | with_reducible refine jw ?_ | (with_reducible refine Wo.id ?_; first | refine ja rfl rfl (jc rfl rfl) ?_ | refine ja rfl rfl (je rfl rfl) ?_ | refine ja rfl rfl (jd rfl rfl rfl rfl rfl) ?_ | refine ja rfl rfl (jf rfl rfl rfl rfl) ?_ | refine ja rfl rfl (jg rfl rfl (by first | with_reducible exact u24 | with_reducible exact u3 | with_reducible exact u23) rfl) ?_ | refine ja rfl rfl (jQ rfl rfl (by first | with_reducible exact u24 | with_reducible exact u3 | with_reducible exact u23) rfl) ?_)))
    refine jB rfl rfl rfl (by simp [hn]) ?_
    refine Wo.doCall rfl rfl (op_call (args := [x, i64 (rotI o p i)]) rfl rfl) ?_
    rw [show List.map AV.unown [x, i64 (rotI o p i)] = [x, i64 (rotI o p i)] by simp only [List.map, hm.view.unown]; rfl]
    refine (contains_tells (owners o p i) (rotI o p i) _ hm.view (by omega)).mono ?_
    rintro r H2 ⟨rfl, rfl⟩
    refine jB rfl rfl rfl (by simp [hn]) ?_
    (repeat (first | with_reducible refine jh ?_ | with_reducible refine ji ?_ | with_reducible refine jl ?_ | (with_reducible refine jj ?_; refine jk (by first | (simp only [setAt, enter, List.replicate, List.cons_append, List.nil_append]; rfl) | rfl) ?_) | with_reducible refine jm ?_ | with_reducible refine jn ?_ | with_reducible refine jo ?_ | with_reducible refine jp ?_ | with_reducible refine jq ?_ | with_reducible refine jr ?_ | with_reducible refine js ?_ | with_reducible refine jt ?_ | with_reducible refine ju ?_ | with_reducible refine jx (by decide) ?_ | with_reducible refine jv ?_ | with_reducible refine jw ?_ | (with_reducible refine Wo.id ?_; first | refine ja rfl rfl (jc rfl rfl) ?_ | refine ja rfl rfl (je rfl rfl) ?_ | refine ja rfl rfl (jd rfl rfl rfl rfl rfl) ?_ | refine ja rfl rfl (jf rfl rfl rfl rfl) ?_ | refine ja rfl rfl (jg rfl rfl (by first | with_reducible exact u24 | with_reducible exact u3 | with_reducible exact u23) rfl) ?_ | refine ja rfl rfl (jQ rfl rfl (by first | with_reducible exact u24 | with_reducible exact u3 | with_reducible exact u23) rfl) ?_)))
    refine ja rfl rfl (jy rfl (by simp [hn]) rfl rfl rfl rfl) ?_
    (repeat (first | with_reducible refine jh ?_ | with_reducible refine ji ?_ | with_reducible refine jl ?_ | (with_reducible refine jj ?_; refine jk (by first | (simp only [setAt, enter, List.replicate, List.cons_append, List.nil_append]; rfl) | rfl) ?_) | with_reducible refine jm ?_ | with_reducible refine jn ?_ | with_reducible refine jo ?_ | with_reducible refine jp ?_ | with_reducible refine jq ?_ | with_reducible refine jr ?_ | with_reducible refine js ?_ | with_reducible refine jt ?_ | with_reducible refine ju ?_ | with_reducible refine jx (by decide) ?_ | with_reducible refine jv ?_ | with_reducible refine jw ?_ | (with_reducible refine Wo.id ?_; first | refine ja rfl rfl (jc rfl rfl) ?_ | refine ja rfl rfl (je rfl rfl) ?_ | refine ja rfl rfl (jd rfl rfl rfl rfl rfl) ?_ | refine ja rfl rfl (jf rfl rfl rfl rfl) ?_ | refine ja rfl rfl (jg rfl rfl (by first | with_reducible exact u24 | with_reducible exact u3 | with_reducible exact u23) rfl) ?_ | refine ja rfl rfl (jQ rfl rfl (by first | with_reducible exact u24 | with_reducible exact u3 | with_reducible exact u23) rfl) ?_)))
    refine Wc.cond rfl rfl (fun hc => ?_) (fun hc => ?_)
    ·have hnot : rotI o p i ∉ owners o p i := by simpa using hc
     rw [if_pos ⟨hn, hnot⟩] at hsucc
     (repeat (first | with_reducible refine jh ?_ | with_reducible refine ji ?_ | with_reducible refine jl ?_ | (with_reducible refine jj ?_; refine jk (by first | (simp only [setAt, enter, List.replicate, List.cons_append, List.nil_append]; rfl) | rfl) ?_) | with_reducible refine jm ?_ | with_reducible refine jn ?_ | with_reducible refine jo ?_ | with_reducible refine jp ?_ | with_reducible refine jq ?_ | with_reducible refine jr ?_ | with_reducible refine js ?_ | with_reducible refine jt ?_ | with_reducible refine ju ?_ | with_reducible refine jx (by decide) ?_ | with_reducible refine jv ?_ | with_reducible refine jw ?_ | (with_reducible refine Wo.id ?_; first | refine ja rfl rfl (jc rfl rfl) ?_ | refine ja rfl rfl (je rfl rfl) ?_ | refine ja rfl rfl (jd rfl rfl rfl rfl rfl) ?_ | refine ja rfl rfl (jf rfl rfl rfl rfl) ?_ | refine ja rfl rfl (jg rfl rfl (by first | with_reducible exact u24 | with_reducible exact u3 | with_reducible exact u23) rfl) ?_ | refine ja rfl rfl (jQ rfl rfl (by first | with_reducible exact u24 | with_reducible exact u3 | with_reducible exact u23) rfl) ?_)))
     refine ja rfl rfl (op_buildSlice rfl rfl rfl (build_one u24 sz3 z3 rfl rfl rfl rfl rfl)) ?_
     obtain ⟨info, hinfo, hbytes⟩ := in3
     obtain ⟨hm1, hm2, hm3⟩ := hm
     rcases hm1 with ⟨hnil, rfl⟩ | ⟨b, rfl, hb1, hb2⟩
     ·refine ja rfl rfl (op_append_new rfl rfl rfl rfl u24 u24 hinfo sz3 z3 rfl rfl rfl (.inl rfl) rfl rfl (by simp) (by simp [roomOk, hbytes])) ?_
      (repeat (first | with_reducible refine jh ?_ | with_reducible refine ji ?_ | with_reducible refine jl ?_ | (with_reducible refine jj ?_; refine jk (by first | (simp only [setAt, enter, List.replicate, List.cons_append, List.nil_append]; rfl) | rfl) ?_) | with_reducible refine jm ?_ | with_reducible refine jn ?_ | with_reducible refine jo ?_ | with_reducible refine jp ?_ | with_reducible refine jq ?_ | with_reducible refine jr ?_ | with_reducible refine js ?_ | with_reducible refine jt ?_ | with_reducible refine ju ?_ | with_reducible refine jx (by decide) ?_ | with_reducible refine jv ?_ | with_reducible refine jw ?_ | (with_reducible refine Wo.id ?_; first | refine ja rfl rfl (jc rfl rfl) ?_ | refine ja rfl rfl (je rfl rfl) ?_ | refine ja rfl rfl (jd rfl rfl rfl rfl rfl) ?_ | refine ja rfl rfl (jf rfl rfl rfl rfl) ?_ | refine ja rfl rfl (jg rfl rfl (by first | with_reducible exact u24 | with_reducible exact u3 | with_reducible exact u23) rfl) ?_ | refine ja rfl rfl (jQ rfl rfl (by first | with_reducible exact u24 | with_reducible exact u3 | with_reducible exact u23) rfl) ?_)))
      refine LoopQ.normal (8 - (i + 1)) (by omega) ⟨i + 1, rfl, by omega, .ms H2.length 0 1 1, ?_, dead_of ?_⟩
      ·rw [hsucc, hnil]
       exact Made.new _ hm2 hm3
      ·rw [w64 (by omega)]; rfl
     ·refine ja rfl rfl (op_append_ms rfl rfl rfl rfl u24 u24 hinfo sz3 z3 rfl rfl hb2 (by simp) rfl rfl (by simp) (by simp [roomOk, hbytes]; omega)) ?_
      (repeat (first | with_reducible refine jh ?_ | with_reducible refine ji ?_ | with_reducible refine jl ?_ | (with_reducible refine jj ?_; refine jk (by first | (simp only [setAt, enter, List.replicate, List.cons_append, List.nil_append]; rfl) | rfl) ?_) | with_reducible refine jm ?_ | with_reducible refine jn ?_ | with_reducible refine jo ?_ | with_reducible refine jp ?_ | with_reducible refine jq ?_ | with_reducible refine jr ?_ | with_reducible refine js ?_ | with_reducible refine jt ?_ | with_reducible refine ju ?_ | with_reducible refine jx (by decide) ?_ | with_reducible refine jv ?_ | with_reducible refine jw ?_ | (with_reducible refine Wo.id ?_; first | refine ja rfl rfl (jc rfl rfl) ?_ | refine ja rfl rfl (je rfl rfl) ?_ | refine ja rfl rfl (jd rfl rfl rfl rfl rfl) ?_ | refine ja rfl rfl (jf rfl rfl rfl rfl) ?_ | refine ja rfl rfl (jg rfl rfl (by first | with_reducible exact u24 | with_reducible exact u3 | with_reducible exact u23) rfl) ?_ | refine ja rfl rfl (jQ rfl rfl (by first | with_reducible exact u24 | with_reducible exact u3 | with_reducible exact u23) rfl) ?_)))
      refine LoopQ.normal (8 - (i + 1)) (by omega) ⟨i + 1, rfl, by omega, .ms H2.length 0 ((owners o p i).length + 1) 1, ?_, dead_of ?_⟩
      ·rw [hsucc]
       exact Made.more _ hb1 hm2 hm3
      ·rw [w64 (by omega)]; rfl
    ·have hin : rotI o p i ∈ owners o p i := by simpa using hc
     rw [if_neg (fun q => q.2 hin)] at hsucc
     (repeat (first | with_reducible refine jh ?_ | with_reducible refine ji ?_ | with_reducible refine jl ?_ | (with_reducible refine jj ?_; refine jk (by first | (simp only [setAt, enter, List.replicate, List.cons_append, List.nil_append]; rfl) | rfl) ?_) | with_reducible refine jm ?_ | with_reducible refine jn ?_ | with_reducible refine jo ?_ | with_reducible refine jp ?_ | with_reducible refine jq ?_ | with_reducible refine jr ?_ | with_reducible refine js ?_ | with_reducible refine jt ?_ | with_reducible refine ju ?_ | with_reducible refine jx (by decide) ?_ | with_reducible refine jv ?_ | with_reducible refine jw ?_ | (with_reducible refine Wo.id ?_; first | refine ja rfl rfl (jc rfl rfl) ?_ | refine ja rfl rfl (je rfl rfl) ?_ | refine ja rfl rfl (jd rfl rfl rfl rfl rfl) ?_ | refine ja rfl rfl (jf rfl rfl rfl rfl) ?_ | refine ja rfl rfl (jg rfl rfl (by first | with_reducible exact u24 | with_reducible exact u3 | with_reducible exact u23) rfl) ?_ | refine ja rfl rfl (jQ rfl rfl (by first | with_reducible exact u24 | with_reducible exact u3 | with_reducible exact u23) rfl) ?_)))
     refine LoopQ.normal (8 - (i + 1)) (by omega) ⟨i + 1, rfl, by omega, x, by rw [hsucc]; exact hm, dead_of ?_⟩
     rw [w64 (by omega)]; rfl
   ·rw [if_neg (fun q => hn q.1)] at hsucc
    refine jC rfl rfl rfl rfl (by simp [hn]) ?_
    refine jC rfl rfl rfl rfl (by simp [hn]) ?_
    refine jC rfl rfl rfl rfl (by simp [hn]) ?_
    refine jC rfl rfl rfl rfl (by simp [hn]) ?_
    refine ja rfl rfl (jz rfl (by simp [hn]) rfl rfl rfl rfl) ?_
    (repeat (first | with_reducible refine jh ?_ | with_reducible refine ji ?_ | with_reducible refine jl ?_ | (with_reducible refine jj ?_; refine jk (by first | (simp only [setAt, enter, List.replicate, List.cons_append, List.nil_append]; rfl) | rfl) ?_) | with_reducible refine jm ?_ | with_reducible refine jn ?_ | with_reducible refine jo ?_ | with_reducible refine jp ?_ | with_reducible refine jq ?_ | with_reducible refine jr ?_ | with_reducible refine js ?_ | with_reducible refine jt ?_ | with_reducible refine ju ?_ | with_reducible refine jx (by decide) ?_ | with_reducible refine jv ?_ | with_reducible refine jw ?_ | (with_reducible refine Wo.id ?_; first | refine ja rfl rfl (jc rfl rfl) ?_ | refine ja rfl rfl (je rfl rfl) ?_ | refine ja rfl rfl (jd rfl rfl rfl rfl rfl) ?_ | refine ja rfl rfl (jf rfl rfl rfl rfl) ?_ | refine ja rfl rfl (jg rfl rfl (by first | with_reducible exact u24 | with_reducible exact u3 | with_reducible exact u23) rfl) ?_ | refine ja rfl rfl (jQ rfl rfl (by first | with_reducible exact u24 | with_reducible exact u3 | with_reducible exact u23) rfl) ?_)))
    refine Wc.cond rfl rfl (fun hc => by cases hc) (fun _ => ?_)
    (repeat (first | with_reducible refine jh ?_ | with_reducible refine ji ?_ | with_reducible refine jl ?_ | (with_reducible refine jj ?_; refine jk (by first | (simp only [setAt, enter, List.replicate, List.cons_append, List.nil_append]; rfl) | rfl) ?_) | with_reducible refine jm ?_ | with_reducible refine jn ?_ | with_reducible refine jo ?_ | with_reducible refine jp ?_ | with_reducible refine jq ?_ | with_reducible refine jr ?_ | with_reducible refine js ?_ | with_reducible refine jt ?_ | with_reducible refine ju ?_ | with_reducible refine jx (by decide) ?_ | with_reducible refine jv ?_ | with_reducible refine jw ?_ | (with_reducible refine Wo.id ?_; first | refine ja rfl rfl (jc rfl rfl) ?_ | refine ja rfl rfl (je rfl rfl) ?_ | refine ja rfl rfl (jd rfl rfl rfl rfl rfl) ?_ | refine ja rfl rfl (jf rfl rfl rfl rfl) ?_ | refine ja rfl rfl (jg rfl rfl (by first | with_reducible exact u24 | with_reducible exact u3 | with_reducible exact u23) rfl) ?_ | refine ja rfl rfl (jQ rfl rfl (by first | with_reducible exact u24 | with_reducible exact u3 | with_reducible exact u23) rfl) ?_)))
    refine LoopQ.normal (8 - (i + 1)) (by omega) ⟨i + 1, rfl, by omega, x, by rw [hsucc]; exact hm, dead_of ?_⟩
    rw [w64 (by omega)]; rfl
  ·have h8 : i = 8 := by have := of_decide_eq_false h; omega
   subst h8
   (repeat (first | with_reducible refine jh ?_ | with_reducible refine ji ?_ | with_reducible refine jl ?_ | (with_reducible refine jj ?_; refine jk (by first | (simp only [setAt, enter, List.replicate, List.cons_append, List.nil_append]; rfl) | rfl) ?_) | with_reducible refine jm ?_ | with_reducible refine jn ?_ | with_reducible refine jo ?_ | with_reducible refine jp ?_ | with_reducible refine jq ?_ | with_reducible refine jr ?_ | with_reducible refine js ?_ | with_reducible refine jt ?_ | with_reducible refine ju ?_ | with_reducible refine jx (by decide) ?_ | with_reducible refine jv ?_ | with_reducible refine jw ?_ | (with_reducible refine Wo.id ?_; first | refine ja rfl rfl (jc rfl rfl) ?_ | refine ja rfl rfl (je rfl rfl) ?_ | refine ja rfl rfl (jd rfl rfl rfl rfl rfl) ?_ | refine ja rfl rfl (jf rfl rfl rfl rfl) ?_ | refine ja rfl rfl (jg rfl rfl (by first | with_reducible exact u24 | with_reducible exact u3 | with_reducible exact u23) rfl) ?_ | refine ja rfl rfl (jQ rfl rfl (by first | with_reducible exact u24 | with_reducible exact u3 | with_reducible exact u23) rfl) ?_)))
   refine EndQ.ret (r := x) rfl ?_
   obtain ⟨hm1, hm2, hm3⟩ := hm
   have hm2' : H.length + 1 ≤ H1.length := by simpa using hm2
   refine ⟨?_, Nat.le_trans (Nat.le_succ _) hm2', fun k hk => (hm3 k (by simp; omega)).trans (nth_app_lt _ _ _ hk)⟩
   rcases hm1 with q | ⟨b, rfl, hb1, hb2⟩
   ·exact .inl q
   ·exact .inr ⟨b, rfl, by simp at hb1; omega, hb2⟩
end Go.Proofs
end
section
namespace Go.Proofs
open Go.Tm Go.Proofs.RingPlain
set_option maxRecDepth 100000
section
variable {K : Cfg} {f : FuncId} {o : Oper} {R : List AV} {own : Nat → Nat} {H : List AB}
theorem op_slice_hi_nil (hs : K.sym = false) {t e : TypeId} {x l : Operand} {k : IntKind} {n : Int} {sz : Nat} {tl : Tail} (ho : o.op = .slice t x none (some l) none) (hu : K.P.underlying t = some (.slice e)) (hz : tSize K.P e = some sz) (hx : evalO K R x = some (.sl [] tl)) (hl : evalO K R l = some (.v (.int k n))) (hn : n = 0) : aOp K f ⟨R, own, H⟩ o [] = some (.val (AV.sl [] (cutTail tl 0 0 0 none)) own H, [], []) := by
 subst hn
 simp only [aOp, ho, hx, hl, Option.elim, Option.map]
 have h : aSlice K H t (.sl [] tl) none (some (.v (.int k 0))) none [] = some (.sl [] (cutTail tl 0 0 0 none), [], []) := by
  simp only [aSlice, hu, hz, hs]
  refine (E.bind_nil (a := ()) rfl).trans ?_
  refine (E.bind_nil (a := (0, 0, none)) ?_).trans rfl
  simp only [aBounds, optI, asI, Option.map, hs]
  exact (E.bind_nil (a := ()) rfl).trans rfl
 exact (E.bind_nil h).trans rfl
end
set_option maxHeartbeats 4000000 in
theorem prim_tells (o : List Int) (ho : o.length = 8) (p n : Int) (H : List AB) : Tells Kz 6 [.agg (o.map i64), i64 p, i64 n] H fun r H' => (∃ tl, r = .sl (((owners o p 8).take (max n 0).toNat).map i64) tl ∧ tl.un = tl) ∧ H' = H := by
 have hcl : AV.closedL [.agg (o.map i64), i64 p, i64 n] = true := by simp [AV.closedL, AV.closed, closedL_ints]
 refine Tells.vals (c := _) Tryd.func6 rfl (args' := [.agg (o.map i64), i64 p, i64 n]) (m := 15) rfl rfl rfl rfl (by rw [hcl]; rfl) ?_
 refine jh ?_
 refine ji ?_
 refine ja rfl rfl (op_box rfl rfl (allOne_ints o)) ?_
 (repeat (first | with_reducible refine jh ?_ | with_reducible refine ji ?_ | with_reducible refine jl ?_ | (with_reducible refine jj ?_; refine jk (by first | (simp only [setAt, enter, List.replicate, List.cons_append, List.nil_append]; rfl) | rfl) ?_) | with_reducible refine jm ?_ | with_reducible refine jn ?_ | with_reducible refine jo ?_ | with_reducible refine jp ?_ | with_reducible refine jq ?_ | with_reducible refine jr ?_ | with_reducible refine js ?_ | with_reducible refine jt ?_ | with_reducible refine ju ?_ | with_reducible refine jx (by decide) ?_ | with_reducible refine jv ?_ | with_reducible refine jw ?_ | (with_reducible refine Wo.id ?_; first | refine ja rfl rfl (jc rfl rfl) ?_ | refine ja rfl rfl (je rfl rfl) ?_ | refine ja rfl rfl (jd rfl rfl rfl rfl rfl) ?_ | refine ja rfl rfl (jf rfl rfl rfl rfl) ?_ | refine ja rfl rfl (jg rfl rfl (by first | with_reducible exact u24 | with_reducible exact u3 | with_reducible exact u23) rfl) ?_ | refine ja rfl rfl (jQ rfl rfl (by first | with_reducible exact u24 | with_reducible exact u3 | with_reducible exact u23) rfl) ?_)))
 refine ja rfl rfl (op_load_ptr (v := .agg (o.map i64)) rfl rfl rfl ?_) ?_
 ·refine (take_agg ag23 sz23 (by show 8 ≤ (List.map i64 o).length; rw [List.length_map, ho]; exact Nat.le_refl _)).trans ?_
  show some (AV.agg ((o.map i64).take 8)) = _
  rw [List.take_of_length_le (by rw [List.length_map, ho]; exact Nat.le_refl _)]
 (repeat (first | with_reducible refine jh ?_ | with_reducible refine ji ?_ | with_reducible refine jl ?_ | (with_reducible refine jj ?_; refine jk (by first | (simp only [setAt, enter, List.replicate, List.cons_append, List.nil_append]; rfl) | rfl) ?_) | with_reducible refine jm ?_ | with_reducible refine jn ?_ | with_reducible refine jo ?_ | with_reducible refine jp ?_ | with_reducible refine jq ?_ | with_reducible refine jr ?_ | with_reducible refine js ?_ | with_reducible refine jt ?_ | with_reducible refine ju ?_ | with_reducible refine jx (by decide) ?_ | with_reducible refine jv ?_ | with_reducible refine jw ?_ | (with_reducible refine Wo.id ?_; first | refine ja rfl rfl (jc rfl rfl) ?_ | refine ja rfl rfl (je rfl rfl) ?_ | refine ja rfl rfl (jd rfl rfl rfl rfl rfl) ?_ | refine ja rfl rfl (jf rfl rfl rfl rfl) ?_ | refine ja rfl rfl (jg rfl rfl (by first | with_reducible exact u24 | with_reducible exact u3 | with_reducible exact u23) rfl) ?_ | refine ja rfl rfl (jQ rfl rfl (by first | with_reducible exact u24 | with_reducible exact u3 | with_reducible exact u23) rfl) ?_)))
 refine Wo.doCall rfl rfl (op_call (args := [.agg (o.map i64), i64 p]) rfl rfl) ?_
 refine (walk_tells o ho p _).mono ?_
 rintro x H' hm
 have hv := hm.view
 have hlen8 := owners_len o p 8
 rw [hv.unown]
 (repeat (first | with_reducible refine jh ?_ | with_reducible refine ji ?_ | with_reducible refine jl ?_ | (with_reducible refine jj ?_; refine jk (by first | (simp only [setAt, enter, List.replicate, List.cons_append, List.nil_append]; rfl) | rfl) ?_) | with_reducible refine jm ?_ | with_reducible refine jn ?_ | with_reducible refine jo ?_ | with_reducible refine jp ?_ | with_reducible refine jq ?_ | with_reducible refine jr ?_ | with_reducible refine js ?_ | with_reducible refine jt ?_ | with_reducible refine ju ?_ | with_reducible refine jx (by decide) ?_ | with_reducible refine jv ?_ | with_reducible refine jw ?_ | (with_reducible refine Wo.id ?_; first | refine ja rfl rfl (jc rfl rfl) ?_ | refine ja rfl rfl (je rfl rfl) ?_ | refine ja rfl rfl (jd rfl rfl rfl rfl rfl) ?_ | refine ja rfl rfl (jf rfl rfl rfl rfl) ?_ | refine ja rfl rfl (jg rfl rfl (by first | with_reducible exact u24 | with_reducible exact u3 | with_reducible exact u23) rfl) ?_ | refine ja rfl rfl (jQ rfl rfl (by first | with_reducible exact u24 | with_reducible exact u3 | with_reducible exact u23) rfl) ?_)))
 refine ja rfl rfl (op_max2 rfl rfl rfl rfl) ?_
 (repeat (first | with_reducible refine jh ?_ | with_reducible refine ji ?_ | with_reducible refine jl ?_ | (with_reducible refine jj ?_; refine jk (by first | (simp only [setAt, enter, List.replicate, List.cons_append, List.nil_append]; rfl) | rfl) ?_) | with_reducible refine jm ?_ | with_reducible refine jn ?_ | with_reducible refine jo ?_ | with_reducible refine jp ?_ | with_reducible refine jq ?_ | with_reducible refine jr ?_ | with_reducible refine js ?_ | with_reducible refine jt ?_ | with_reducible refine ju ?_ | with_reducible refine jx (by decide) ?_ | with_reducible refine jv ?_ | with_reducible refine jw ?_ | (with_reducible refine Wo.id ?_; first | refine ja rfl rfl (jc rfl rfl) ?_ | refine ja rfl rfl (je rfl rfl) ?_ | refine ja rfl rfl (jd rfl rfl rfl rfl rfl) ?_ | refine ja rfl rfl (jf rfl rfl rfl rfl) ?_ | refine ja rfl rfl (jg rfl rfl (by first | with_reducible exact u24 | with_reducible exact u3 | with_reducible exact u23) rfl) ?_ | refine ja rfl rfl (jQ rfl rfl (by first | with_reducible exact u24 | with_reducible exact u3 | with_reducible exact u23) rfl) ?_)))
 refine ja rfl rfl (op_len_view hv rfl rfl u24 rfl) ?_
 refine ja rfl rfl (op_min2 rfl rfl rfl rfl) ?_
 have hmin : (if ((owners o p 8).length : Int) < (if (0 : Int) > n then 0 else n) then ((owners o p 8).length : Int) else (if (0 : Int) > n then 0 else n)) = ((min (max n 0).toNat (owners o p 8).length : Nat) : Int) := by
  split <;> split at * <;> omega
 have htake : (owners o p 8).take (max n 0).toNat = (owners o p 8).take (min (max n 0).toNat (owners o p 8).length) := by
  by_cases h : (max n 0).toNat ≤ (owners o p 8).length
  ·rw [Nat.min_eq_left h]
  ·rw [Nat.min_eq_right (by omega), List.take_of_length_le (by omega), List.take_length]
 rw [htake]
 generalize hk : min (max n 0).toNat (owners o p 8).length = k at *
 have hkl : k ≤ (owners o p 8).length := by omega
 rcases hm.1 with ⟨hnil, rfl⟩ | ⟨b, rfl, hb1, hb2⟩
 ·have hk0 : k = 0 := by rw [hnil] at hkl; simpa using hkl
  refine ja rfl rfl (op_slice_hi_nil rfl rfl u24 sz3 rfl rfl (hmin.trans (by rw [hk0]; rfl))) ?_
  (repeat (first | with_reducible refine jh ?_ | with_reducible refine ji ?_ | with_reducible refine jl ?_ | (with_reducible refine jj ?_; refine jk (by first | (simp only [setAt, enter, List.replicate, List.cons_append, List.nil_append]; rfl) | rfl) ?_) | with_reducible refine jm ?_ | with_reducible refine jn ?_ | with_reducible refine jo ?_ | with_reducible refine jp ?_ | with_reducible refine jq ?_ | with_reducible refine jr ?_ | with_reducible refine js ?_ | with_reducible refine jt ?_ | with_reducible refine ju ?_ | with_reducible refine jx (by decide) ?_ | with_reducible refine jv ?_ | with_reducible refine jw ?_ | (with_reducible refine Wo.id ?_; first | refine ja rfl rfl (jc rfl rfl) ?_ | refine ja rfl rfl (je rfl rfl) ?_ | refine ja rfl rfl (jd rfl rfl rfl rfl rfl) ?_ | refine ja rfl rfl (jf rfl rfl rfl rfl) ?_ | refine ja rfl rfl (jg rfl rfl (by first | with_reducible exact u24 | with_reducible exact u3 | with_reducible exact u23) rfl) ?_ | refine ja rfl rfl (jQ rfl rfl (by first | with_reducible exact u24 | with_reducible exact u3 | with_reducible exact u23) rfl) ?_)))
  refine EndQ.ret rfl ⟨.sl [] .nil, rfl, rfl, ⟨.nil, by rw [hk0]; rfl, rfl⟩, rfl⟩
 ·refine ja rfl rfl (op_slice_hi_ms rfl rfl u24 sz3 rfl rfl hmin hkl) ?_
  by_cases h0 : 0 = (owners o p 8).length
  ·rw [if_pos h0]
   have hk0 : k = 0 := by omega
   (repeat (first | with_reducible refine jh ?_ | with_reducible refine ji ?_ | with_reducible refine jl ?_ | (with_reducible refine jj ?_; refine jk (by first | (simp only [setAt, enter, List.replicate, List.cons_append, List.nil_append]; rfl) | rfl) ?_) | with_reducible refine jm ?_ | with_reducible refine jn ?_ | with_reducible refine jo ?_ | with_reducible refine jp ?_ | with_reducible refine jq ?_ | with_reducible refine jr ?_ | with_reducible refine js ?_ | with_reducible refine jt ?_ | with_reducible refine ju ?_ | with_reducible refine jx (by decide) ?_ | with_reducible refine jv ?_ | with_reducible refine jw ?_ | (with_reducible refine Wo.id ?_; first | refine ja rfl rfl (jc rfl rfl) ?_ | refine ja rfl rfl (je rfl rfl) ?_ | refine ja rfl rfl (jd rfl rfl rfl rfl rfl) ?_ | refine ja rfl rfl (jf rfl rfl rfl rfl) ?_ | refine ja rfl rfl (jg rfl rfl (by first | with_reducible exact u24 | with_reducible exact u3 | with_reducible exact u23) rfl) ?_ | refine ja rfl rfl (jQ rfl rfl (by first | with_reducible exact u24 | with_reducible exact u3 | with_reducible exact u23) rfl) ?_)))
   refine EndQ.ret rfl ⟨.sl [] .unk, rfl, rfl, ⟨.unk, by rw [hk0]; rfl, rfl⟩, rfl⟩
  ·rw [if_neg h0]
   (repeat (first | with_reducible refine jh ?_ | with_reducible refine ji ?_ | with_reducible refine jl ?_ | (with_reducible refine jj ?_; refine jk (by first | (simp only [setAt, enter, List.replicate, List.cons_append, List.nil_append]; rfl) | rfl) ?_) | with_reducible refine jm ?_ | with_reducible refine jn ?_ | with_reducible refine jo ?_ | with_reducible refine jp ?_ | with_reducible refine jq ?_ | with_reducible refine jr ?_ | with_reducible refine js ?_ | with_reducible refine jt ?_ | with_reducible refine ju ?_ | with_reducible refine jx (by decide) ?_ | with_reducible refine jv ?_ | with_reducible refine jw ?_ | (with_reducible refine Wo.id ?_; first | refine ja rfl rfl (jc rfl rfl) ?_ | refine ja rfl rfl (je rfl rfl) ?_ | refine ja rfl rfl (jd rfl rfl rfl rfl rfl) ?_ | refine ja rfl rfl (jf rfl rfl rfl rfl) ?_ | refine ja rfl rfl (jg rfl rfl (by first | with_reducible exact u24 | with_reducible exact u3 | with_reducible exact u23) rfl) ?_ | refine ja rfl rfl (jQ rfl rfl (by first | with_reducible exact u24 | with_reducible exact u3 | with_reducible exact u23) rfl) ?_)))
   have hlt : ((owners o p 8).take k).length = k := by rw [List.length_take]; omega
   refine EndQ.ret (r := .ms b 0 k 1) rfl ⟨.sl (((owners o p 8).take k).map i64) .unk, ?_, rfl, ⟨.unk, rfl, rfl⟩, rfl⟩
   have := snap_ms (xs := (owners o p 8).take k) (off := 0) hb2 (by rw [List.length_map, hlt]; omega) (fun j hj => by
    have hj' : j < (owners o p 8).length := by omega
    rw [Nat.zero_add, List.getElem?_map, List.getElem?_eq_getElem hj', List.getElem_take]; rfl)
   rwa [hlt] at this
end Go.Proofs
end
section
namespace Go.Proofs
open Go.Tm Go.Proofs.RingPlain
set_option maxRecDepth 100000
abbrev tgt (t : Int × Int) : AV := .agg [i64 t.1, i64 t.2]
theorem u38 : Kz.P.underlying 31 = some (.slice 35) := Tryd.underlying31
theorem b43 (x y : Int) : aBuild Kz 35 [(0, i64 x), (1, i64 y)] = some (.agg [i64 x, i64 y]) := by kernel_rfl
theorem bs38 (own : Nat → Nat) (H : List AB) (x y : Int) : aBuildSlice Kz false own H 31 1 [(0, .agg [i64 x, i64 y])] = some (.val (.sl [.agg [i64 x, i64 y]] .full) own H) := by kernel_rfl
theorem z43 : tZero Kz.P 35 = some (.agg [i64 0, i64 0]) := by kernel_rfl
theorem sz43 : tSize Kz.P 35 = some 2 := by kernel_rfl
theorem in43 : ∃ info, Kz.P.info? 35 = some info ∧ info.bytes = 16 := by
 have h : (Kz.P.info? 35).map (·.bytes) = some 16 := by kernel_rfl
 obtain ⟨i, h1, h2⟩ := Option.map_eq_some_iff.1 h
 exact ⟨i, h1, h2⟩
set_option maxHeartbeats 4000000 in
theorem deleteF_nil_tells (p : Int → Bool) (g : FuncId) (cl : List AV) (hcl : cl.map AV.unown = cl) (H : List AB) (tl : Tail) (htl : tl.un = tl) (hp : ∀ y, Tells Kz g (i64 y :: cl) H fun r H' => r = .v (.bool (p y)) ∧ H' = H) :
  Tells Kz 19 [.sl [] tl, .func (.func g) [] cl] H fun r H' => r = .sl [] tl ∧ H' = H := by
 have hv : View H (.sl [] tl) [] := .inl ⟨tl, rfl, htl⟩
 refine Tells.mem (c := _) Tryd.func19 rfl (args' := [.sl [] tl, .func (.func g) [] cl]) (m := 40) (by simp only [List.map, hv.unown]; rfl) rfl rfl rfl rfl ?_
 (repeat (first | with_reducible refine jh ?_ | with_reducible refine ji ?_ | with_reducible refine jl ?_ | (with_reducible refine jj ?_; refine jk (by first | (simp only [setAt, enter, List.replicate, List.cons_append, List.nil_append]; rfl) | rfl) ?_) | with_reducible refine jm ?_ | with_reducible refine jn ?_ | with_reducible refine jo ?_ | with_reducible refine jp ?_ | with_reducible refine jq ?_ | with_reducible refine jr ?_ | with_reducible refine js ?_ | with_reducible refine jt ?_ | with_reducible refine ju ?_ | with_reducible refine jx (by decide) ?_ | with_reducible refine jv ?_ | with_reducible refine jw ?_ | (with_reducible refine Wo.id ?_; first | refine ja rfl rfl (jc rfl rfl) ?_ | refine ja rfl rfl (je rfl rfl) ?_ | refine ja rfl rfl (jd rfl rfl rfl rfl rfl) ?_ | refine ja rfl rfl (jf rfl rfl rfl rfl) ?_ | refine ja rfl rfl (jg rfl rfl (by first | with_reducible exact u24 | with_reducible exact u3) rfl) ?_ | refine ja rfl rfl (jQ rfl rfl (by first | with_reducible exact u24 | with_reducible exact u3) rfl) ?_)))
 refine Wo.doCall rfl rfl (op_call (args := [.sl [] tl, .func (.func g) [] cl]) rfl rfl) ?_
 rw [show List.map AV.unown [.sl [] tl, .func (.func g) [] cl] = [.sl [] tl, .func (.func g) [] cl] by simp only [List.map, hv.unown]; rfl]
 refine (indexF_tells [] p g cl hcl H hv (by simp) hp).mono ?_
 rintro r H0 ⟨rfl, rfl⟩
 (repeat (first | with_reducible refine jh ?_ | with_reducible refine ji ?_ | with_reducible refine jl ?_ | (with_reducible refine jj ?_; refine jk (by first | (simp only [setAt, enter, List.replicate, List.cons_append, List.nil_append]; rfl) | rfl) ?_) | with_reducible refine jm ?_ | with_reducible refine jn ?_ | with_reducible refine jo ?_ | with_reducible refine jp ?_ | with_reducible refine jq ?_ | with_reducible refine jr ?_ | with_reducible refine js ?_ | with_reducible refine jt ?_ | with_reducible refine ju ?_ | with_reducible refine jx (by decide) ?_ | with_reducible refine jv ?_ | with_reducible refine jw ?_ | (with_reducible refine Wo.id ?_; first | refine ja rfl rfl (jc rfl rfl) ?_ | refine ja rfl rfl (je rfl rfl) ?_ | refine ja rfl rfl (jd rfl rfl rfl rfl rfl) ?_ | refine ja rfl rfl (jf rfl rfl rfl rfl) ?_ | refine ja rfl rfl (jg rfl rfl (by first | with_reducible exact u24 | with_reducible exact u3) rfl) ?_ | refine ja rfl rfl (jQ rfl rfl (by first | with_reducible exact u24 | with_reducible exact u3) rfl) ?_)))
 refine Wc.cond rfl rfl (fun _ => ?_) (fun h => by cases h)
 (repeat (first | with_reducible refine jh ?_ | with_reducible refine ji ?_ | with_reducible refine jl ?_ | (with_reducible refine jj ?_; refine jk (by first | (simp only [setAt, enter, List.replicate, List.cons_append, List.nil_append]; rfl) | rfl) ?_) | with_reducible refine jm ?_ | with_reducible refine jn ?_ | with_reducible refine jo ?_ | with_reducible refine jp ?_ | with_reducible refine jq ?_ | with_reducible refine jr ?_ | with_reducible refine js ?_ | with_reducible refine jt ?_ | with_reducible refine ju ?_ | with_reducible refine jx (by decide) ?_ | with_reducible refine jv ?_ | with_reducible refine jw ?_ | (with_reducible refine Wo.id ?_; first | refine ja rfl rfl (jc rfl rfl) ?_ | refine ja rfl rfl (je rfl rfl) ?_ | refine ja rfl rfl (jd rfl rfl rfl rfl rfl) ?_ | refine ja rfl rfl (jf rfl rfl rfl rfl) ?_ | refine ja rfl rfl (jg rfl rfl (by first | with_reducible exact u24 | with_reducible exact u3) rfl) ?_ | refine ja rfl rfl (jQ rfl rfl (by first | with_reducible exact u24 | with_reducible exact u3) rfl) ?_)))
 exact EndQ.ret rfl ⟨rfl, rfl⟩
end Go.Proofs
end
section
namespace Go.Proofs
open Go.Tm Go.Proofs.RingPlain
set_option maxRecDepth 100000
def firsts (o : List Int) (p n : Int) : List Int := (owners o p 8).take (max n 0).toNat
def others (o : List Int) (p n : Int) (ups : List Int) : List Int := ((owners o p 8).drop (firsts o p n).length).filter fun y => !(!decide (y ∈ ups))
theorem cut_tells (o : List Int) (p n : Int) (ups : List Int) (tl : Tail) (htl : tl.un = tl) (hl : ups.length < 2^62) (B H1 : List AB) (x : AV) (hB : B.length = 2) (hm : Made B H1 x (owners o p 8)) (h1 : nth H1 1 = some (.cells (24, true) [.sl (ups.map i64) tl])) :
  ∃ v, (∀ (f : FuncId) (op : Oper) (R : List AV) (own : Nat → Nat) (a l : Operand), op.op = .slice 24 a (some l) none none → evalO Kz R a = some x → evalO Kz R l = some (.v (.int .i64 (((firsts o p n).length : Nat) : Int))) → aOp Kz f ⟨R, own, H1⟩ op [] = some (.val v own H1, [], [])) ∧ v.unown = v ∧
   Tells Kz 19 [v, .func (.func 20) [] [.ptr 1 0]] H1 fun r H' => View H' r (others o p n ups) ∧ nth H' 1 = some (.cells (24, true) [.sl (ups.map i64) tl]) := by
 have hk : (firsts o p n).length ≤ (owners o p 8).length := by unfold firsts; rw [List.length_take]; omega
 have hlen8 := owners_len o p 8
 have hup : ∀ H2, nth H2 1 = some (.cells (24, true) [.sl (ups.map i64) tl]) → ∀ y, Tells Kz 20 (i64 y :: [.ptr 1 0]) H2 fun r H' => r = .v (.bool (!decide (y ∈ ups))) ∧ H' = H2 := fun H2 h2 y => notUp_tells ups y H2 1 _ tl htl h2 hl
 have hnil : ∀ tl' : Tail, tl'.un = tl' → others o p n ups = [] → Tells Kz 19 [.sl [] tl', .func (.func 20) [] [.ptr 1 0]] H1 fun r H' => View H' r (others o p n ups) ∧ nth H' 1 = some (.cells (24, true) [.sl (ups.map i64) tl]) := fun tl' ht' ho => by
  refine (deleteF_nil_tells (fun y => !decide (y ∈ ups)) 20 [.ptr 1 0] rfl H1 tl' ht' (hup H1 h1)).mono ?_
  rintro r H' ⟨rfl, rfl⟩
  rw [ho]
  exact ⟨.inl ⟨tl', rfl, ht'⟩, h1⟩
 rcases hm.1 with ⟨h0, rfl⟩ | ⟨b, rfl, hb1, hb2⟩
 ·have hf : (firsts o p n).length = 0 := by rw [h0] at hk; simpa using hk
  refine ⟨.sl [] .nil, fun f op R own a l ho ha hl' => op_slice_lo_nil rfl ho u24 sz3 ha hl' (by rw [hf]; rfl), rfl, hnil .nil rfl ?_⟩
  unfold others; rw [h0]; simp
 ·by_cases he : (firsts o p n).length = (owners o p 8).length
  ·refine ⟨.sl [] .unk, fun f op R own a l ho ha hl' => ?_, rfl, hnil .unk rfl ?_⟩
   ·have := op_slice_lo_ms (f := f) (own := own) (H := H1) (K := Kz) rfl ho u24 sz3 ha hl' rfl hk
    rwa [if_pos he] at this
   ·unfold others; rw [he]; simp
  ·refine ⟨.ms b (firsts o p n).length ((owners o p 8).drop (firsts o p n).length).length 1, fun f op R own a l ho ha hl' => ?_, rfl, ?_⟩
   ·have := op_slice_lo_ms (f := f) (own := own) (H := H1) (K := Kz) rfl ho u24 sz3 ha hl' rfl hk
    rw [if_neg he, Nat.zero_add, Nat.mul_one] at this
    rw [this, List.length_drop]
   ·have hd : ((owners o p 8).drop (firsts o p n).length).length = (owners o p 8).length - (firsts o p n).length := List.length_drop
    refine (deleteF_tells ((owners o p 8).drop (firsts o p n).length) (fun y => !decide (y ∈ ups)) 20 [.ptr 1 0] rfl H1 b (firsts o p n).length _ _ hb2 (by rw [hd, List.length_map]; omega) (fun j hj => ?_) (by omega) (fun H2 h2 => hup H2 ((h2 1 (by omega)).trans h1))).mono ?_
    ·rw [List.getElem?_map, List.getElem?_eq_getElem (by omega), List.getElem_drop]; rfl
    ·rintro r H' ⟨h2, h3, _⟩
     exact ⟨h2, (h3 1 (by omega)).trans h1⟩
theorem Wo.append_own {K : Cfg} {f : FuncId} {ops : Array Oper} {Q : AX → St → Prop} {R : List AV} {own : Nat → Nat} {H : List AB} {l : List Oper} {o : Oper} (hs : K.sym = false) {t t2 e d : TypeId} {a x : Operand} {ts : Array TypeId} {xs ys : List AV} {tl u : Tail} {info : TypeInfo} {z : AV} {n : Nat} (hgd : o.guard = none) (hd : o.dst = some d) (ho : o.op = .call { callee := .builtin .append, args := #[a, x], argTypes := ts }) (ht : ts.toList = [t, t2]) (hu : K.P.underlying t = some (.slice e)) (hu2 : K.P.underlying t2 = some (.slice e))
  (hi : K.P.info? e = some info) (hz : tSize K.P e = some (n + 1)) (h0 : tZero K.P e = some z) (hz1 : z.cells.length = n + 1) (hg : K.chg f d = false) (ha : evalO K R a = some (.sl xs tl)) (htl : tl = .nil ∨ ∃ st, tl = .own st (own st) (n + 1) ∧ own st ≠ 0) (hx : evalO K R x = some (.sl ys u)) (hxs : xs.all (fun y => y.cells.length == n + 1) = true) (hy : ys.all (fun y => y.cells.length == n + 1) = true) (hne : ys ≠ []) (hcl : AV.closedL (ys.flatMap AV.cells) = true) (hr : roomOk (xs.length + ys.length) info.bytes = true)
  (h : ∀ own', own' d = own d + 1 → Wo K f ops l (setAt R d (.sl (xs ++ ys) (.own d (own d + 1) (n + 1)))) own' H Q) : Wo K f ops (o :: l) R own H Q := by
 obtain ⟨own', h1, h2⟩ := op_append_own (f := f) (H := H) hs ho hd ht hu hu2 hi hz h0 hz1 hg ha htl hx hxs hy hne hcl hr
 exact ja hgd hd h1 (h own' h2)
theorem cut1 (H : List AB) (x : AV) (y : Int) (ys : List Int) (hv : View H x (y :: ys)) : ∃ v, (∀ (f : FuncId) (op : Oper) (R : List AV) (own : Nat → Nat) (a l : Operand), op.op = .slice 24 a (some l) none none → evalO Kz R a = some x → evalO Kz R l = some (.v (.int .i64 1)) → aOp Kz f ⟨R, own, H⟩ op [] = some (.val v own H, [], [])) ∧ View H v ys := by
 rcases hv with ⟨tl, rfl, htl⟩ | ⟨b, off, tt, cs, rfl, hb, hle, hc⟩
 ·refine ⟨.sl (ys.map i64) (cutTail tl (ys.length + 1) 1 (ys.length + 1) none), fun f op R own a l ho ha hl => ?_, .inl ⟨_, rfl, by cases tl <;> simp [cutTail, Tail.un]⟩⟩
  simp only [aOp, ho, ha, hl, Option.elim, Option.map]
  have hbd : aBounds Kz ((y :: ys).map i64).length (some (.v (.int .i64 1))) none none [] = some ((1, ((y :: ys).map i64).length, none), [], []) := by
   simp only [aBounds, optI, asI, Option.map]
   refine (E.bind_nil (a := ()) (by
    show E.chk false (decide (0 ≤ (1 : Int) ∧ (1 : Int) ≤ ((((y :: ys).map i64).length : Nat) : Int) ∧ ((((y :: ys).map i64).length : Nat) : Int) ≤ ((((y :: ys).map i64).length : Nat) : Int) ∧ ((((y :: ys).map i64).length : Nat) : Int) ≤ ((((y :: ys).map i64).length : Nat) : Int))) [] = _
    rw [decide_eq_true (by simp; omega)]; rfl)).trans ?_
   simp; rfl
  have h : aSlice Kz H 24 (.sl ((y :: ys).map i64) tl) (some (.v (.int .i64 1))) none none [] = some (.sl (ys.map i64) (cutTail tl (ys.length + 1) 1 (ys.length + 1) none), [], []) := by
   simp only [aSlice, u24, sz3]
   refine (E.bind_nil (a := ()) (by
    show E.chk false _ [] = _
    rw [show (((y :: ys).map i64).all fun y => y.cells.length == 1) = true by simp [AV.cells]]; rfl)).trans ?_
   refine (E.bind_nil hbd).trans ?_
   rw [List.take_length, List.length_map]; rfl
  exact (E.bind_nil h).trans rfl
 ·by_cases he : 1 = (y :: ys).length
  ·have hys : ys = [] := by cases ys with | nil => rfl | cons a b => simp at he
   refine ⟨.sl [] .unk, fun f op R own a l ho ha hl => ?_, .inl ⟨.unk, by rw [hys]; rfl, rfl⟩⟩
   have := op_slice_lo_ms (f := f) (own := own) (H := H) (K := Kz) (j := 1) rfl ho u24 sz3 ha hl rfl (by simp)
   rwa [if_pos he] at this
  ·refine ⟨.ms b (off + 1) ys.length 1, fun f op R own a l ho ha hl => ?_, .inr ⟨b, off + 1, tt, cs, rfl, hb, by simp at hle; omega, fun j hj => ?_⟩⟩
   ·have := op_slice_lo_ms (f := f) (own := own) (H := H) (K := Kz) (j := 1) rfl ho u24 sz3 ha hl rfl (by simp)
    rw [if_neg he] at this
    simpa using this
   ·have := hc (j + 1) (by simpa using hj)
    rw [show off + 1 + j = off + (j + 1) by omega, this]; rfl
set_option maxHeartbeats 8000000 in
theorem sloppy_tells (o : List Int) (ho : o.length = 8) (p n : Int) (ups : List Int) (tl : Tail) (htl : tl.un = tl) (hl : ups.length < 2^62) (H : List AB) : Tells Kz 10 [.agg (o.map i64), i64 p, i64 n, .sl (ups.map i64) tl] H fun r H' => (∃ t', r = .sl ((sloppy ups (firsts o p n) (others o p n ups)).map tgt) t') ∧ H' = H := by
 have hcl : AV.closedL [.agg (o.map i64), i64 p, i64 n, .sl (ups.map i64) tl] = true := by simp [AV.closedL, AV.closed, closedL_ints]
 refine Tells.vals (c := _) Tryd.func10 rfl (args' := [.agg (o.map i64), i64 p, i64 n, .sl (ups.map i64) tl]) (m := 54) (by simp only [List.map, unown_sl, htl]; rfl) rfl rfl rfl (by rw [hcl]; rfl) ?_
 refine jh ?_
 refine ji ?_
 refine ja rfl rfl (op_box rfl rfl (allOne_ints o)) ?_
 refine ja rfl rfl (op_box rfl rfl rfl) ?_
 rw [unown_sl, htl]
 (repeat (first | with_reducible refine jh ?_ | with_reducible refine ji ?_ | with_reducible refine jl ?_ | (with_reducible refine jj ?_; refine jk (by first | (simp only [setAt, enter, List.replicate, List.cons_append, List.nil_append]; rfl) | rfl) ?_) | with_reducible refine jm ?_ | with_reducible refine jn ?_ | with_reducible refine jo ?_ | with_reducible refine jp ?_ | with_reducible refine jq ?_ | with_reducible refine jr ?_ | with_reducible refine js ?_ | with_reducible refine jt ?_ | with_reducible refine ju ?_ | with_reducible refine jx (by decide) ?_ | with_reducible refine jv ?_ | with_reducible refine jw ?_ | (with_reducible refine Wo.id ?_; first | refine ja rfl rfl (jc rfl rfl) ?_ | refine ja rfl rfl (je rfl rfl) ?_ | refine ja rfl rfl (jd rfl rfl rfl rfl rfl) ?_ | refine ja rfl rfl (jf rfl rfl rfl rfl) ?_ | refine ja rfl rfl (jg rfl rfl (by first | with_reducible exact u24 | with_reducible exact u3 | with_reducible exact u23) rfl) ?_ | refine ja rfl rfl (jQ rfl rfl (by first | with_reducible exact u24 | with_reducible exact u3 | with_reducible exact u23) rfl) ?_)))
 have hload : takeVar Kz.P 23 ((o.map i64).drop 0) = some (.agg (o.map i64)) := by
  refine (take_agg ag23 sz23 (by show 8 ≤ (List.map i64 o).length; rw [List.length_map, ho]; exact Nat.le_refl _)).trans ?_
  show some (AV.agg ((o.map i64).take 8)) = _
  rw [List.take_of_length_le (by rw [List.length_map, ho]; exact Nat.le_refl _)]
 refine ja rfl rfl (op_load_ptr (v := .agg (o.map i64)) rfl rfl rfl hload) ?_
 (repeat (first | with_reducible refine jh ?_ | with_reducible refine ji ?_ | with_reducible refine jl ?_ | (with_reducible refine jj ?_; refine jk (by first | (simp only [setAt, enter, List.replicate, List.cons_append, List.nil_append]; rfl) | rfl) ?_) | with_reducible refine jm ?_ | with_reducible refine jn ?_ | with_reducible refine jo ?_ | with_reducible refine jp ?_ | with_reducible refine jq ?_ | with_reducible refine jr ?_ | with_reducible refine js ?_ | with_reducible refine jt ?_ | with_reducible refine ju ?_ | with_reducible refine jx (by decide) ?_ | with_reducible refine jv ?_ | with_reducible refine jw ?_ | (with_reducible refine Wo.id ?_; first | refine ja rfl rfl (jc rfl rfl) ?_ | refine ja rfl rfl (je rfl rfl) ?_ | refine ja rfl rfl (jd rfl rfl rfl rfl rfl) ?_ | refine ja rfl rfl (jf rfl rfl rfl rfl) ?_ | refine ja rfl rfl (jg rfl rfl (by first | with_reducible exact u24 | with_reducible exact u3 | with_reducible exact u23) rfl) ?_ | refine ja rfl rfl (jQ rfl rfl (by first | with_reducible exact u24 | with_reducible exact u3 | with_reducible exact u23) rfl) ?_)))
 refine Wo.doCall rfl rfl (op_call (args := [.agg (o.map i64), i64 p, i64 n]) rfl rfl) ?_
 refine (prim_tells o ho p n _).mono ?_
 rintro r1 H1 ⟨⟨tl1, rfl, htl1⟩, rfl⟩
 rw [unown_sl, htl1]
 (repeat (first | with_reducible refine jh ?_ | with_reducible refine ji ?_ | with_reducible refine jl ?_ | (with_reducible refine jj ?_; refine jk (by first | (simp only [setAt, enter, List.replicate, List.cons_append, List.nil_append]; rfl) | rfl) ?_) | with_reducible refine jm ?_ | with_reducible refine jn ?_ | with_reducible refine jo ?_ | with_reducible refine jp ?_ | with_reducible refine jq ?_ | with_reducible refine jr ?_ | with_reducible refine js ?_ | with_reducible refine jt ?_ | with_reducible refine ju ?_ | with_reducible refine jx (by decide) ?_ | with_reducible refine jv ?_ | with_reducible refine jw ?_ | (with_reducible refine Wo.id ?_; first | refine ja rfl rfl (jc rfl rfl) ?_ | refine ja rfl rfl (je rfl rfl) ?_ | refine ja rfl rfl (jd rfl rfl rfl rfl rfl) ?_ | refine ja rfl rfl (jf rfl rfl rfl rfl) ?_ | refine ja rfl rfl (jg rfl rfl (by first | with_reducible exact u24 | with_reducible exact u3 | with_reducible exact u23) rfl) ?_ | refine ja rfl rfl (jQ rfl rfl (by first | with_reducible exact u24 | with_reducible exact u3 | with_reducible exact u23) rfl) ?_)))
 refine ja rfl rfl (op_load_ptr (v := .agg (o.map i64)) rfl rfl rfl hload) ?_
 (repeat (first | with_reducible refine jh ?_ | with_reducible refine ji ?_ | with_reducible refine jl ?_ | (with_reducible refine jj ?_; refine jk (by first | (simp only [setAt, enter, List.replicate, List.cons_append, List.nil_append]; rfl) | rfl) ?_) | with_reducible refine jm ?_ | with_reducible refine jn ?_ | with_reducible refine jo ?_ | with_reducible refine jp ?_ | with_reducible refine jq ?_ | with_reducible refine jr ?_ | with_reducible refine js ?_ | with_reducible refine jt ?_ | with_reducible refine ju ?_ | with_reducible refine jx (by decide) ?_ | with_reducible refine jv ?_ | with_reducible refine jw ?_ | (with_reducible refine Wo.id ?_; first | refine ja rfl rfl (jc rfl rfl) ?_ | refine ja rfl rfl (je rfl rfl) ?_ | refine ja rfl rfl (jd rfl rfl rfl rfl rfl) ?_ | refine ja rfl rfl (jf rfl rfl rfl rfl) ?_ | refine ja rfl rfl (jg rfl rfl (by first | with_reducible exact u24 | with_reducible exact u3 | with_reducible exact u23) rfl) ?_ | refine ja rfl rfl (jQ rfl rfl (by first | with_reducible exact u24 | with_reducible exact u3 | with_reducible exact u23) rfl) ?_)))
 refine Wo.doCall rfl rfl (op_call (args := [.agg (o.map i64), i64 p]) rfl rfl) ?_
 refine (walk_tells o ho p _).mono ?_
 rintro x H1 hm
 obtain ⟨v23, hop, hun, hdel⟩ := cut_tells o p n ups tl htl hl _ H1 x rfl hm (hm.2.2 1 (Nat.le_of_ble_eq_true rfl))
 rw [hm.view.unown]
 (repeat (first | with_reducible refine jh ?_ | with_reducible refine ji ?_ | with_reducible refine jl ?_ | (with_reducible refine jj ?_; refine jk (by first | (simp only [setAt, enter, List.replicate, List.cons_append, List.nil_append]; rfl) | rfl) ?_) | with_reducible refine jm ?_ | with_reducible refine jn ?_ | with_reducible refine jo ?_ | with_reducible refine jp ?_ | with_reducible refine jq ?_ | with_reducible refine jr ?_ | with_reducible refine js ?_ | with_reducible refine jt ?_ | with_reducible refine ju ?_ | with_reducible refine jx (by decide) ?_ | with_reducible refine jv ?_ | with_reducible refine jw ?_ | (with_reducible refine Wo.id ?_; first | refine ja rfl rfl (jc rfl rfl) ?_ | refine ja rfl rfl (je rfl rfl) ?_ | refine ja rfl rfl (jd rfl rfl rfl rfl rfl) ?_ | refine ja rfl rfl (jf rfl rfl rfl rfl) ?_ | refine ja rfl rfl (jg rfl rfl (by first | with_reducible exact u24 | with_reducible exact u3 | with_reducible exact u23) rfl) ?_ | refine ja rfl rfl (jQ rfl rfl (by first | with_reducible exact u24 | with_reducible exact u3 | with_reducible exact u23) rfl) ?_)))
 refine ja rfl rfl (hop _ _ _ _ _ _ rfl rfl (by simp only [firsts]; rw [← List.length_map (f := i64)]; rfl)) ?_
 refine ja rfl rfl (op_makeFunc rfl rfl rfl) ?_
 refine Wo.doCall rfl rfl (op_call (args := [v23, .func (.func 20) [] [.ptr 1 0]]) rfl rfl) ?_
 rw [show List.map AV.unown [v23, .func (.func 20) [] [.ptr 1 0]] = [v23, .func (.func 20) [] [.ptr 1 0]] by simp only [List.map, hun]; rfl]
 refine hdel.mono ?_
 rintro rx0 H2 ⟨hrx0, h2⟩
 rw [hrx0.unown]
 (repeat (first | with_reducible refine jh ?_ | with_reducible refine ji ?_ | with_reducible refine jl ?_ | (with_reducible refine jj ?_; refine jk (by first | (simp only [setAt, enter, List.replicate, List.cons_append, List.nil_append]; rfl) | rfl) ?_) | with_reducible refine jm ?_ | with_reducible refine jn ?_ | with_reducible refine jo ?_ | with_reducible refine jp ?_ | with_reducible refine jq ?_ | with_reducible refine jr ?_ | with_reducible refine js ?_ | with_reducible refine jt ?_ | with_reducible refine ju ?_ | with_reducible refine jx (by decide) ?_ | with_reducible refine jv ?_ | with_reducible refine jw ?_ | (with_reducible refine Wo.id ?_; first | refine ja rfl rfl (jc rfl rfl) ?_ | refine ja rfl rfl (je rfl rfl) ?_ | refine ja rfl rfl (jd rfl rfl rfl rfl rfl) ?_ | refine ja rfl rfl (jf rfl rfl rfl rfl) ?_ | refine ja rfl rfl (jg rfl rfl (by first | with_reducible exact u24 | with_reducible exact u3 | with_reducible exact u23) rfl) ?_ | refine ja rfl rfl (jQ rfl rfl (by first | with_reducible exact u24 | with_reducible exact u3 | with_reducible exact u23) rfl) ?_)))
 have hvf : View H2 (.sl ((firsts o p n).map i64) tl1) (firsts o p n) := .inl ⟨tl1, rfl, htl1⟩
 have hvu : View H2 (.sl (ups.map i64) tl) ups := .inl ⟨tl, rfl, htl⟩
 have hfl : (firsts o p n).length ≤ 8 := by
  have := owners_len o p 8
  unfold firsts; rw [List.length_take]; omega
 obtain ⟨info, hinfo, hbytes⟩ := in43
 refine Wc.inv (fun M s => ∃ (i : Nat) (rem : List Int) (outs : List (Int × Int)) (rx : AV) (tlo : Tail), M = (firsts o p n).length - i ∧ i ≤ (firsts o p n).length ∧ outs.length ≤ i ∧ s.H = H2 ∧ View H2 rx rem ∧ (tlo = .nil ∨ ∃ st, tlo = .own st (s.own st) (1 + 1) ∧ s.own st ≠ 0) ∧ sloppy ups (firsts o p n) (others o p n ups) = outs ++ sloppy ups ((firsts o p n).drop i) rem ∧ ∃ d : Nat → AV, s.regs = (d 0 :: d 1 :: d 2 :: d 3 :: d 4 :: d 5 :: d 6 :: .ptr 1 0 :: d 8 :: d 9 :: rx :: .sl (outs.map tgt) tlo :: d 12 :: d 13 :: d 14 :: d 15 :: d 16 :: d 17 :: d 18 :: d 19 :: d 20 :: d 21 :: d 22 :: d 23 :: d 24 :: d 25 :: .sl ((firsts o p n).map i64) tl1 :: .v (goInt ((firsts o p n).map i64).length) :: i64 i :: d 29 :: d 30 :: d 31 :: d 32 :: d 33 :: d 34 :: d 35 :: d 36 :: d 37 :: d 38 :: d 39 :: d 40 :: d 41 :: d 42 :: d 43 :: d 44 :: d 45 :: d 46 :: d 47 :: d 48 :: d 49 :: d 50 :: d 51 :: d 52 :: d 53 :: d 54 :: d 55 :: d 56 :: d 57 :: [])) (firsts o p n).length ?_ ?_
 ·exact ⟨0, _, [], rx0, .nil, rfl, by omega, by simp, rfl, hrx0, .inl rfl, by simp, dead_of rfl⟩
 ·rintro M regs own H3 ⟨i, rem, outs, rx, tlo, rfl, hi, hol, rfl, hrx, htlo, hsl, d, rfl⟩
  have hall : (outs.map tgt).all (fun y => y.cells.length == 1 + 1) = true := by simp [AV.cells]
  (repeat (first | with_reducible refine jh ?_ | with_reducible refine ji ?_ | with_reducible refine jl ?_ | (with_reducible refine jj ?_; refine jk (by first | (simp only [setAt, enter, List.replicate, List.cons_append, List.nil_append]; rfl) | rfl) ?_) | with_reducible refine jm ?_ | with_reducible refine jn ?_ | with_reducible refine jo ?_ | with_reducible refine jp ?_ | with_reducible refine jq ?_ | with_reducible refine jr ?_ | with_reducible refine js ?_ | with_reducible refine jt ?_ | with_reducible refine ju ?_ | with_reducible refine jx (by decide) ?_ | with_reducible refine jv ?_ | with_reducible refine jw ?_ | (with_reducible refine Wo.id ?_; first | refine ja rfl rfl (jc rfl rfl) ?_ | refine ja rfl rfl (je rfl rfl) ?_ | refine ja rfl rfl (jd rfl rfl rfl rfl rfl) ?_ | refine ja rfl rfl (jf rfl rfl rfl rfl) ?_ | refine ja rfl rfl (jg rfl rfl (by first | with_reducible exact u24 | with_reducible exact u3 | with_reducible exact u23) rfl) ?_ | refine ja rfl rfl (jQ rfl rfl (by first | with_reducible exact u24 | with_reducible exact u3 | with_reducible exact u23) rfl) ?_)))
  refine Wc.cond rfl rfl (fun h => ?_) (fun h => ?_)
  ·have hlt : i < (firsts o p n).length := by simpa [goInt] using h
   have hdrop := List.drop_eq_getElem_cons hlt
   (repeat (first | with_reducible refine jh ?_ | with_reducible refine ji ?_ | with_reducible refine jl ?_ | (with_reducible refine jj ?_; refine jk (by first | (simp only [setAt, enter, List.replicate, List.cons_append, List.nil_append]; rfl) | rfl) ?_) | with_reducible refine jm ?_ | with_reducible refine jn ?_ | with_reducible refine jo ?_ | with_reducible refine jp ?_ | with_reducible refine jq ?_ | with_reducible refine jr ?_ | with_reducible refine js ?_ | with_reducible refine jt ?_ | with_reducible refine ju ?_ | with_reducible refine jx (by decide) ?_ | with_reducible refine jv ?_ | with_reducible refine jw ?_ | (with_reducible refine Wo.id ?_; first | refine ja rfl rfl (jc rfl rfl) ?_ | refine ja rfl rfl (je rfl rfl) ?_ | refine ja rfl rfl (jd rfl rfl rfl rfl rfl) ?_ | refine ja rfl rfl (jf rfl rfl rfl rfl) ?_ | refine ja rfl rfl (jg rfl rfl (by first | with_reducible exact u24 | with_reducible exact u3 | with_reducible exact u23) rfl) ?_ | refine ja rfl rfl (jQ rfl rfl (by first | with_reducible exact u24 | with_reducible exact u3 | with_reducible exact u23) rfl) ?_)))
   refine Wo.elem rfl hvf hlt rfl rfl rfl rfl rfl rfl rfl u24 sz3 ag3 rfl rfl (Nat.le_of_ble_eq_true rfl) (fun a => ?_)
   (repeat (first | with_reducible refine jh ?_ | with_reducible refine ji ?_ | with_reducible refine jl ?_ | (with_reducible refine jj ?_; refine jk (by first | (simp only [setAt, enter, List.replicate, List.cons_append, List.nil_append]; rfl) | rfl) ?_) | with_reducible refine jm ?_ | with_reducible refine jn ?_ | with_reducible refine jo ?_ | with_reducible refine jp ?_ | with_reducible refine jq ?_ | with_reducible refine jr ?_ | with_reducible refine js ?_ | with_reducible refine jt ?_ | with_reducible refine ju ?_ | with_reducible refine jx (by decide) ?_ | with_reducible refine jv ?_ | with_reducible refine jw ?_ | (with_reducible refine Wo.id ?_; first | refine ja rfl rfl (jc rfl rfl) ?_ | refine ja rfl rfl (je rfl rfl) ?_ | refine ja rfl rfl (jd rfl rfl rfl rfl rfl) ?_ | refine ja rfl rfl (jf rfl rfl rfl rfl) ?_ | refine ja rfl rfl (jg rfl rfl (by first | with_reducible exact u24 | with_reducible exact u3 | with_reducible exact u23) rfl) ?_ | refine ja rfl rfl (jQ rfl rfl (by first | with_reducible exact u24 | with_reducible exact u3 | with_reducible exact u23) rfl) ?_)))
   refine ja rfl rfl (op_load_ptr rfl rfl h2 (take_one ag24 sz24)) ?_
   rw [unown_sl, htl]
   (repeat (first | with_reducible refine jh ?_ | with_reducible refine ji ?_ | with_reducible refine jl ?_ | (with_reducible refine jj ?_; refine jk (by first | (simp only [setAt, enter, List.replicate, List.cons_append, List.nil_append]; rfl) | rfl) ?_) | with_reducible refine jm ?_ | with_reducible refine jn ?_ | with_reducible refine jo ?_ | with_reducible refine jp ?_ | with_reducible refine jq ?_ | with_reducible refine jr ?_ | with_reducible refine js ?_ | with_reducible refine jt ?_ | with_reducible refine ju ?_ | with_reducible refine jx (by decide) ?_ | with_reducible refine jv ?_ | with_reducible refine jw ?_ | (with_reducible refine Wo.id ?_; first | refine ja rfl rfl (jc rfl rfl) ?_ | refine ja rfl rfl (je rfl rfl) ?_ | refine ja rfl rfl (jd rfl rfl rfl rfl rfl) ?_ | refine ja rfl rfl (jf rfl rfl rfl rfl) ?_ | refine ja rfl rfl (jg rfl rfl (by first | with_reducible exact u24 | with_reducible exact u3 | with_reducible exact u23) rfl) ?_ | refine ja rfl rfl (jQ rfl rfl (by first | with_reducible exact u24 | with_reducible exact u3 | with_reducible exact u23) rfl) ?_)))
   refine Wo.doCall rfl rfl (op_call (args := [.sl (ups.map i64) tl, i64 (firsts o p n)[i]]) rfl rfl) ?_
   rw [show List.map AV.unown [.sl (ups.map i64) tl, i64 (firsts o p n)[i]] = [.sl (ups.map i64) tl, i64 (firsts o p n)[i]] by simp only [List.map, unown_sl, htl]; rfl]
   refine (contains_tells ups (firsts o p n)[i] _ hvu hl).mono ?_
   rintro r H4 ⟨rfl, rfl⟩
   (repeat (first | with_reducible refine jh ?_ | with_reducible refine ji ?_ | with_reducible refine jl ?_ | (with_reducible refine jj ?_; refine jk (by first | (simp only [setAt, enter, List.replicate, List.cons_append, List.nil_append]; rfl) | rfl) ?_) | with_reducible refine jm ?_ | with_reducible refine jn ?_ | with_reducible refine jo ?_ | with_reducible refine jp ?_ | with_reducible refine jq ?_ | with_reducible refine jr ?_ | with_reducible refine js ?_ | with_reducible refine jt ?_ | with_reducible refine ju ?_ | with_reducible refine jx (by decide) ?_ | with_reducible refine jv ?_ | with_reducible refine jw ?_ | (with_reducible refine Wo.id ?_; first | refine ja rfl rfl (jc rfl rfl) ?_ | refine ja rfl rfl (je rfl rfl) ?_ | refine ja rfl rfl (jd rfl rfl rfl rfl rfl) ?_ | refine ja rfl rfl (jf rfl rfl rfl rfl) ?_ | refine ja rfl rfl (jg rfl rfl (by first | with_reducible exact u24 | with_reducible exact u3 | with_reducible exact u23) rfl) ?_ | refine ja rfl rfl (jQ rfl rfl (by first | with_reducible exact u24 | with_reducible exact u3 | with_reducible exact u23) rfl) ?_)))
   refine Wc.cond rfl rfl (fun hc => ?_) (fun hc => ?_)
   ·have hin : (firsts o p n)[i] ∈ ups := of_decide_eq_true hc
    (repeat (first | with_reducible refine jh ?_ | with_reducible refine ji ?_ | with_reducible refine jl ?_ | (with_reducible refine jj ?_; refine jk (by first | (simp only [setAt, enter, List.replicate, List.cons_append, List.nil_append]; rfl) | rfl) ?_) | with_reducible refine jm ?_ | with_reducible refine jn ?_ | with_reducible refine jo ?_ | with_reducible refine jp ?_ | with_reducible refine jq ?_ | with_reducible refine jr ?_ | with_reducible refine js ?_ | with_reducible refine jt ?_ | with_reducible refine ju ?_ | with_reducible refine jx (by decide) ?_ | with_reducible refine jv ?_ | with_reducible refine jw ?_ | (with_reducible refine Wo.id ?_; first | refine ja rfl rfl (jc rfl rfl) ?_ | refine ja rfl rfl (je rfl rfl) ?_ | refine ja rfl rfl (jd rfl rfl rfl rfl rfl) ?_ | refine ja rfl rfl (jf rfl rfl rfl rfl) ?_ | refine ja rfl rfl (jg rfl rfl (by first | with_reducible exact u24 | with_reducible exact u3 | with_reducible exact u23) rfl) ?_ | refine ja rfl rfl (jQ rfl rfl (by first | with_reducible exact u24 | with_reducible exact u3 | with_reducible exact u23) rfl) ?_)))
    refine ja rfl rfl (op_build rfl rfl (b43 _ _)) ?_
    refine ja rfl rfl (op_buildSlice rfl rfl rfl (bs38 _ _ _ _)) ?_
    refine Wo.append_own rfl rfl rfl rfl rfl u38 u38 hinfo sz43 z43 rfl rfl rfl htlo rfl hall rfl (by simp) rfl (by rw [hbytes]; simp [roomOk]; omega) (fun own' hown => ?_)
    (repeat (first | with_reducible refine jh ?_ | with_reducible refine ji ?_ | with_reducible refine jl ?_ | (with_reducible refine jj ?_; refine jk (by first | (simp only [setAt, enter, List.replicate, List.cons_append, List.nil_append]; rfl) | rfl) ?_) | with_reducible refine jm ?_ | with_reducible refine jn ?_ | with_reducible refine jo ?_ | with_reducible refine jp ?_ | with_reducible refine jq ?_ | with_reducible refine jr ?_ | with_reducible refine js ?_ | with_reducible refine jt ?_ | with_reducible refine ju ?_ | with_reducible refine jx (by decide) ?_ | with_reducible refine jv ?_ | with_reducible refine jw ?_ | (with_reducible refine Wo.id ?_; first | refine ja rfl rfl (jc rfl rfl) ?_ | refine ja rfl rfl (je rfl rfl) ?_ | refine ja rfl rfl (jd rfl rfl rfl rfl rfl) ?_ | refine ja rfl rfl (jf rfl rfl rfl rfl) ?_ | refine ja rfl rfl (jg rfl rfl (by first | with_reducible exact u24 | with_reducible exact u3 | with_reducible exact u23) rfl) ?_ | refine ja rfl rfl (jQ rfl rfl (by first | with_reducible exact u24 | with_reducible exact u3 | with_reducible exact u23) rfl) ?_)))
    refine LoopQ.normal ((firsts o p n).length - (i + 1)) (by omega) ⟨i + 1, rem, outs ++ [((firsts o p n)[i], (firsts o p n)[i])], rx, .own 41 (own 41 + 1) (1 + 1), rfl, by omega, by simp; omega, rfl, hrx, .inr ⟨41, by show Tail.own 41 _ _ = Tail.own 41 (own' 41) _; rw [hown], by show own' 41 ≠ 0; rw [hown]; omega⟩, ?_, dead_of ?_⟩
    ·rw [hsl, hdrop]
     simp [sloppy, hin]
    ·rw [w64 (by omega), List.map_append]; rfl
   ·have hout : (firsts o p n)[i] ∉ ups := of_decide_eq_false hc
    (repeat (first | with_reducible refine jh ?_ | with_reducible refine ji ?_ | with_reducible refine jl ?_ | (with_reducible refine jj ?_; refine jk (by first | (simp only [setAt, enter, List.replicate, List.cons_append, List.nil_append]; rfl) | rfl) ?_) | with_reducible refine jm ?_ | with_reducible refine jn ?_ | with_reducible refine jo ?_ | with_reducible refine jp ?_ | with_reducible refine jq ?_ | with_reducible refine jr ?_ | with_reducible refine js ?_ | with_reducible refine jt ?_ | with_reducible refine ju ?_ | with_reducible refine jx (by decide) ?_ | with_reducible refine jv ?_ | with_reducible refine jw ?_ | (with_reducible refine Wo.id ?_; first | refine ja rfl rfl (jc rfl rfl) ?_ | refine ja rfl rfl (je rfl rfl) ?_ | refine ja rfl rfl (jd rfl rfl rfl rfl rfl) ?_ | refine ja rfl rfl (jf rfl rfl rfl rfl) ?_ | refine ja rfl rfl (jg rfl rfl (by first | with_reducible exact u24 | with_reducible exact u3 | with_reducible exact u23) rfl) ?_ | refine ja rfl rfl (jQ rfl rfl (by first | with_reducible exact u24 | with_reducible exact u3 | with_reducible exact u23) rfl) ?_)))
    refine ja rfl rfl (op_len_view hrx rfl rfl u24 rfl) ?_
    (repeat (first | with_reducible refine jh ?_ | with_reducible refine ji ?_ | with_reducible refine jl ?_ | (with_reducible refine jj ?_; refine jk (by first | (simp only [setAt, enter, List.replicate, List.cons_append, List.nil_append]; rfl) | rfl) ?_) | with_reducible refine jm ?_ | with_reducible refine jn ?_ | with_reducible refine jo ?_ | with_reducible refine jp ?_ | with_reducible refine jq ?_ | with_reducible refine jr ?_ | with_reducible refine js ?_ | with_reducible refine jt ?_ | with_reducible refine ju ?_ | with_reducible refine jx (by decide) ?_ | with_reducible refine jv ?_ | with_reducible refine jw ?_ | (with_reducible refine Wo.id ?_; first | refine ja rfl rfl (jc rfl rfl) ?_ | refine ja rfl rfl (je rfl rfl) ?_ | refine ja rfl rfl (jd rfl rfl rfl rfl rfl) ?_ | refine ja rfl rfl (jf rfl rfl rfl rfl) ?_ | refine ja rfl rfl (jg rfl rfl (by first | with_reducible exact u24 | with_reducible exact u3 | with_reducible exact u23) rfl) ?_ | refine ja rfl rfl (jQ rfl rfl (by first | with_reducible exact u24 | with_reducible exact u3 | with_reducible exact u23) rfl) ?_)))
    refine Wc.cond rfl rfl (fun hr => ?_) (fun hr => ?_)
    ·cases rem with
     | nil => exact absurd hr (by simp [goInt])
     | cons y ys =>
      obtain ⟨v, hop1, hv1⟩ := cut1 _ rx y ys hrx
      (repeat (first | with_reducible refine jh ?_ | with_reducible refine ji ?_ | with_reducible refine jl ?_ | (with_reducible refine jj ?_; refine jk (by first | (simp only [setAt, enter, List.replicate, List.cons_append, List.nil_append]; rfl) | rfl) ?_) | with_reducible refine jm ?_ | with_reducible refine jn ?_ | with_reducible refine jo ?_ | with_reducible refine jp ?_ | with_reducible refine jq ?_ | with_reducible refine jr ?_ | with_reducible refine js ?_ | with_reducible refine jt ?_ | with_reducible refine ju ?_ | with_reducible refine jx (by decide) ?_ | with_reducible refine jv ?_ | with_reducible refine jw ?_ | (with_reducible refine Wo.id ?_; first | refine ja rfl rfl (jc rfl rfl) ?_ | refine ja rfl rfl (je rfl rfl) ?_ | refine ja rfl rfl (jd rfl rfl rfl rfl rfl) ?_ | refine ja rfl rfl (jf rfl rfl rfl rfl) ?_ | refine ja rfl rfl (jg rfl rfl (by first | with_reducible exact u24 | with_reducible exact u3 | with_reducible exact u23) rfl) ?_ | refine ja rfl rfl (jQ rfl rfl (by first | with_reducible exact u24 | with_reducible exact u3 | with_reducible exact u23) rfl) ?_)))
      refine Wo.elem (j := 0) rfl hrx (by simp) rfl rfl rfl rfl rfl rfl rfl u24 sz3 ag3 rfl rfl (Nat.le_of_ble_eq_true rfl) (fun a => ?_)
      (repeat (first | with_reducible refine jh ?_ | with_reducible refine ji ?_ | with_reducible refine jl ?_ | (with_reducible refine jj ?_; refine jk (by first | (simp only [setAt, enter, List.replicate, List.cons_append, List.nil_append]; rfl) | rfl) ?_) | with_reducible refine jm ?_ | with_reducible refine jn ?_ | with_reducible refine jo ?_ | with_reducible refine jp ?_ | with_reducible refine jq ?_ | with_reducible refine jr ?_ | with_reducible refine js ?_ | with_reducible refine jt ?_ | with_reducible refine ju ?_ | with_reducible refine jx (by decide) ?_ | with_reducible refine jv ?_ | with_reducible refine jw ?_ | (with_reducible refine Wo.id ?_; first | refine ja rfl rfl (jc rfl rfl) ?_ | refine ja rfl rfl (je rfl rfl) ?_ | refine ja rfl rfl (jd rfl rfl rfl rfl rfl) ?_ | refine ja rfl rfl (jf rfl rfl rfl rfl) ?_ | refine ja rfl rfl (jg rfl rfl (by first | with_reducible exact u24 | with_reducible exact u3 | with_reducible exact u23) rfl) ?_ | refine ja rfl rfl (jQ rfl rfl (by first | with_reducible exact u24 | with_reducible exact u3 | with_reducible exact u23) rfl) ?_)))
      refine ja rfl rfl (op_build rfl rfl (b43 _ _)) ?_
      refine ja rfl rfl (op_buildSlice rfl rfl rfl (bs38 _ _ _ _)) ?_
      refine Wo.append_own rfl rfl rfl rfl rfl u38 u38 hinfo sz43 z43 rfl rfl rfl htlo rfl hall rfl (by simp) rfl (by rw [hbytes]; simp [roomOk]; omega) (fun own' hown => ?_)
      (repeat (first | with_reducible refine jh ?_ | with_reducible refine ji ?_ | with_reducible refine jl ?_ | (with_reducible refine jj ?_; refine jk (by first | (simp only [setAt, enter, List.replicate, List.cons_append, List.nil_append]; rfl) | rfl) ?_) | with_reducible refine jm ?_ | with_reducible refine jn ?_ | with_reducible refine jo ?_ | with_reducible refine jp ?_ | with_reducible refine jq ?_ | with_reducible refine jr ?_ | with_reducible refine js ?_ | with_reducible refine jt ?_ | with_reducible refine ju ?_ | with_reducible refine jx (by decide) ?_ | with_reducible refine jv ?_ | with_reducible refine jw ?_ | (with_reducible refine Wo.id ?_; first | refine ja rfl rfl (jc rfl rfl) ?_ | refine ja rfl rfl (je rfl rfl) ?_ | refine ja rfl rfl (jd rfl rfl rfl rfl rfl) ?_ | refine ja rfl rfl (jf rfl rfl rfl rfl) ?_ | refine ja rfl rfl (jg rfl rfl (by first | with_reducible exact u24 | with_reducible exact u3 | with_reducible exact u23) rfl) ?_ | refine ja rfl rfl (jQ rfl rfl (by first | with_reducible exact u24 | with_reducible exact u3 | with_reducible exact u23) rfl) ?_)))
      refine ja rfl rfl (hop1 _ _ _ _ _ _ rfl rfl rfl) ?_
      (repeat (first | with_reducible refine jh ?_ | with_reducible refine ji ?_ | with_reducible refine jl ?_ | (with_reducible refine jj ?_; refine jk (by first | (simp only [setAt, enter, List.replicate, List.cons_append, List.nil_append]; rfl) | rfl) ?_) | with_reducible refine jm ?_ | with_reducible refine jn ?_ | with_reducible refine jo ?_ | with_reducible refine jp ?_ | with_reducible refine jq ?_ | with_reducible refine jr ?_ | with_reducible refine js ?_ | with_reducible refine jt ?_ | with_reducible refine ju ?_ | with_reducible refine jx (by decide) ?_ | with_reducible refine jv ?_ | with_reducible refine jw ?_ | (with_reducible refine Wo.id ?_; first | refine ja rfl rfl (jc rfl rfl) ?_ | refine ja rfl rfl (je rfl rfl) ?_ | refine ja rfl rfl (jd rfl rfl rfl rfl rfl) ?_ | refine ja rfl rfl (jf rfl rfl rfl rfl) ?_ | refine ja rfl rfl (jg rfl rfl (by first | with_reducible exact u24 | with_reducible exact u3 | with_reducible exact u23) rfl) ?_ | refine ja rfl rfl (jQ rfl rfl (by first | with_reducible exact u24 | with_reducible exact u3 | with_reducible exact u23) rfl) ?_)))
      refine LoopQ.normal ((firsts o p n).length - (i + 1)) (by omega) ⟨i + 1, ys, outs ++ [(y, (firsts o p n)[i])], v, .own 53 (own 53 + 1) (1 + 1), rfl, by omega, by simp; omega, rfl, hv1, .inr ⟨53, by show Tail.own 53 _ _ = Tail.own 53 (own' 53) _; rw [hown], by show own' 53 ≠ 0; rw [hown]; omega⟩, ?_, dead_of ?_⟩
      ·rw [hsl, hdrop]
       simp [sloppy, hout]
      ·rw [w64 (by omega), List.map_append]; rfl
    ·cases rem with
     | cons y ys => exact absurd hr (by simp [goInt])
     | nil =>
      (repeat (first | with_reducible refine jh ?_ | with_reducible refine ji ?_ | with_reducible refine jl ?_ | (with_reducible refine jj ?_; refine jk (by first | (simp only [setAt, enter, List.replicate, List.cons_append, List.nil_append]; rfl) | rfl) ?_) | with_reducible refine jm ?_ | with_reducible refine jn ?_ | with_reducible refine jo ?_ | with_reducible refine jp ?_ | with_reducible refine jq ?_ | with_reducible refine jr ?_ | with_reducible refine js ?_ | with_reducible refine jt ?_ | with_reducible refine ju ?_ | with_reducible refine jx (by decide) ?_ | with_reducible refine jv ?_ | with_reducible refine jw ?_ | (with_reducible refine Wo.id ?_; first | refine ja rfl rfl (jc rfl rfl) ?_ | refine ja rfl rfl (je rfl rfl) ?_ | refine ja rfl rfl (jd rfl rfl rfl rfl rfl) ?_ | refine ja rfl rfl (jf rfl rfl rfl rfl) ?_ | refine ja rfl rfl (jg rfl rfl (by first | with_reducible exact u24 | with_reducible exact u3 | with_reducible exact u23) rfl) ?_ | refine ja rfl rfl (jQ rfl rfl (by first | with_reducible exact u24 | with_reducible exact u3 | with_reducible exact u23) rfl) ?_)))
      refine LoopQ.normal ((firsts o p n).length - (i + 1)) (by omega) ⟨i + 1, [], outs, rx, tlo, rfl, by omega, by omega, rfl, hrx, htlo, ?_, dead_of ?_⟩
      ·rw [hsl, hdrop]
       simp [sloppy, hout]
      ·rw [w64 (by omega)]; rfl
  ·have hie : i = (firsts o p n).length := by
    have h' : ¬ i < (firsts o p n).length := by simpa [goInt] using h
    omega
   subst hie
   (repeat (first | with_reducible refine jh ?_ | with_reducible refine ji ?_ | with_reducible refine jl ?_ | (with_reducible refine jj ?_; refine jk (by first | (simp only [setAt, enter, List.replicate, List.cons_append, List.nil_append]; rfl) | rfl) ?_) | with_reducible refine jm ?_ | with_reducible refine jn ?_ | with_reducible refine jo ?_ | with_reducible refine jp ?_ | with_reducible refine jq ?_ | with_reducible refine jr ?_ | with_reducible refine js ?_ | with_reducible refine jt ?_ | with_reducible refine ju ?_ | with_reducible refine jx (by decide) ?_ | with_reducible refine jv ?_ | with_reducible refine jw ?_ | (with_reducible refine Wo.id ?_; first | refine ja rfl rfl (jc rfl rfl) ?_ | refine ja rfl rfl (je rfl rfl) ?_ | refine ja rfl rfl (jd rfl rfl rfl rfl rfl) ?_ | refine ja rfl rfl (jf rfl rfl rfl rfl) ?_ | refine ja rfl rfl (jg rfl rfl (by first | with_reducible exact u24 | with_reducible exact u3 | with_reducible exact u23) rfl) ?_ | refine ja rfl rfl (jQ rfl rfl (by first | with_reducible exact u24 | with_reducible exact u3 | with_reducible exact u23) rfl) ?_)))
   refine EndQ.ret (r := .sl (outs.map tgt) tlo) rfl ⟨_, rfl, rfl, ⟨tlo, ?_⟩, rfl⟩
   rw [hsl, List.drop_length]
   simp [sloppy]
end Go.Proofs
end
