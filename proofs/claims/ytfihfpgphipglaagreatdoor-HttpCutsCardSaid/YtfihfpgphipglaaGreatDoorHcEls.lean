/- Lists in changeable memory: elements appended, and taken out at a function's end. -/
import Derived.Test.YtfihfpgphipglaaGreatDoorHcHeads
set_option linter.unusedVariables false
set_option linter.unusedSimpArgs false
set_option linter.unusedSectionVars false
namespace Go.Proofs.Hc
open Go.Tm
set_option maxRecDepth 100000
def BufE (e n : Nat) (H : List AB) (v : AV) (els : List AV) : Prop :=
 (els = [] ∧ v = .sl [] .nil) ∨ (els ≠ [] ∧ ∃ k, v = .ms k 0 els.length n ∧ nth H k = some (.cells (e, false) (els.flatMap AV.cells)))
theorem BufE.plain {e n : Nat} {H : List AB} {v : AV} {els : List AV} (h : BufE e n H v els) : v.cells = [v] ∧ v.one = true ∧ v.unown = v := by
 rcases h with ⟨_, rfl⟩ | ⟨_, k, rfl, _⟩ <;> exact ⟨rfl, rfl, rfl⟩
theorem BufE.same {e n : Nat} {H : List AB} {v : AV} {els : List AV} (h : BufE e n H v els) : Go.Tm.same v v = true := by
 rcases h with ⟨_, rfl⟩ | ⟨_, k, rfl, _⟩
 ·rfl
 ·simp [Go.Tm.same]
theorem BufE.kept {e n : Nat} {H H' : List AB} {v : AV} {els : List AV} (h : BufE e n H v els) (hk : ∀ k A m, v = .ms k 0 m n → nth H k = some A → nth H' k = some A) : BufE e n H' v els := by
 rcases h with ⟨rfl, rfl⟩ | ⟨hne, k, rfl, h⟩
 ·exact .inl ⟨rfl, rfl⟩
 ·exact .inr ⟨hne, k, rfl, hk k _ _ rfl h⟩
theorem flat_len {n : Nat} : ∀ {els : List AV}, (∀ y ∈ els, y.cells.length = n) → (els.flatMap AV.cells).length = els.length * n
 | [], _ => by simp
 | y :: r, h => by
  rw [List.flatMap_cons, List.length_append, flat_len fun z hz => h z (by simp [hz]), h y (by simp), List.length_cons, Nat.add_mul]; omega
theorem app_els {K : Cfg} (hs : K.sym = false) {t e n d f : Nat} {own : Nat → Nat} {H : List AB} {v y z : AV} {els : List AV} {info : TypeInfo} (hu : K.P.underlying t = some (.slice e)) (hi : K.P.info? e = some info) (hz : tSize K.P e = some (n + 1)) (h0 : tZero K.P e = some z) (hz1 : z.cells.length = n + 1) (hg : K.chg f d = true)
  (hv : BufE e (n + 1) H v els) (hel : ∀ y ∈ els, y.cells.length = n + 1) (hy : y.cells.length = n + 1) (hr : roomOk (els.length + 1) info.bytes = true) :
  ∃ H', aAppend K f d own H t v (.sl [y] .full) [] = some (.val (.ms H.length 0 (els.length + 1) (n + 1)) own H', [], []) ∧ BufE e (n + 1) H' (.ms H.length 0 (els.length + 1) (n + 1)) (els ++ [y]) ∧ H'.length = H.length + 1 ∧ ∀ j A, (∀ m, v ≠ .ms j 0 m (n + 1)) → nth H j = some A → nth H' j = some A := by
 have hels : asEls H (n + 1) (.sl [y] .full) = some [y] := by
  simp only [asEls]
  rw [if_pos (by simp [hy])]
 have hzb : (z.cells.length == n + 1) = true := by simp [hz1]
 rcases hv with ⟨rfl, rfl⟩ | ⟨hne, k, rfl, hk⟩
 ·refine ⟨H ++ [.cells (e, false) y.cells], ?_, .inr ⟨by simp, H.length, by simp, by simpa using nth_app_new _ _⟩, by simp, fun j A _ h => nth_app_left h⟩
  simp only [aAppend, hu, hi, hz, h0, hels, hzb, hg, hs]
  refine (E.bind_nil (a := ()) (by show E.chk false (roomOk (([] : List AV).length + 1) info.bytes) [] = _; rw [hr]; rfl)).trans ?_
  refine (E.bind_nil (a := ()) rfl).trans ?_
  refine (E.bind_nil (a := ()) rfl).trans ?_
  simp only [List.flatMap_cons, List.flatMap_nil, List.append_nil, List.nil_append, List.length_nil, List.length_cons, Nat.zero_add]
  rfl
 ·refine ⟨setAt H k .dead ++ [.cells (e, false) (els.flatMap AV.cells ++ y.cells)], ?_, .inr ⟨by simp, H.length, by simp, ?_⟩, by simp [setAt_len], fun j A hj h => ?_⟩
  ·simp only [aAppend, hu, hi, hz, h0, hels, hzb, hk, hs]
   refine (E.bind_nil (a := ()) (by simp [E.chk])).trans ?_
   refine (E.bind_nil (a := ()) (by simp [E.chk])).trans ?_
   refine (E.bind_nil (a := ()) (by simp [E.chk, flat_len hel])).trans ?_
   refine (E.bind_nil (a := ()) (by show E.chk false (roomOk (els.length + 1) info.bytes) [] = _; rw [hr]; rfl)).trans ?_
   simp only [List.flatMap_cons, List.flatMap_nil, List.append_nil, List.length_cons, List.length_nil, Nat.zero_add]
   rfl
  ·rw [← setAt_len H k .dead, List.flatMap_append]
   simpa using nth_app_new (setAt H k .dead) (AB.cells (e, false) (els.flatMap AV.cells ++ y.cells))
  ·refine nth_app_left ?_
   rw [nth_set_other]
   ·exact h
   ·rintro rfl
    exact hj _ rfl
theorem snap_cells (H : List AB) (n : Nat) : ∀ (l : List AV), (∀ y ∈ l, snap H n y = some y) → mapO (snap H n) l = some l
 | [], _ => rfl
 | y :: r, h => by
  simp only [mapO, h y (by simp), snap_cells H n r fun z hz => h z (by simp [hz])]
theorem snap_str (H : List AB) (n : Nat) (s : Bs) : snap H n (.str s) = some (.str s) := by cases n <;> rfl
theorem chunk_strs : ∀ l : List Bs, chunk 1 l.length (l.map AV.str) = l.map AV.str
 | [] => rfl
 | a :: r => by
  simp only [List.length_cons, List.map_cons, chunk, List.drop_succ_cons, List.drop_zero, chunk_strs r]
  rfl
theorem flat_hd : ∀ l : List Hd, (l.map hdV).flatMap AV.cells = l.flatMap fun h => [AV.str h.1, AV.str h.2]
 | [] => rfl
 | a :: r => by simp only [List.map_cons, List.flatMap_cons, flat_hd r]; rfl
theorem chunk_hds : ∀ l : List Hd, chunk 2 l.length (l.flatMap fun h => [AV.str h.1, AV.str h.2]) = l.map hdV
 | [] => rfl
 | a :: r => by
  simp only [List.length_cons, List.flatMap_cons, List.map_cons, chunk]
  rw [show ([AV.str a.1, AV.str a.2] ++ r.flatMap fun h => [AV.str h.1, AV.str h.2]).drop 2 = r.flatMap fun h => [AV.str h.1, AV.str h.2] from rfl, chunk_hds r]
  rfl
theorem strs_ok (l : List AV) (h : ∀ y ∈ l, ∃ s, y = AV.str s) : AV.closedL l = true ∧ allOne l = true := by
 constructor
 ·rw [closedL_iff]; intro y hy; obtain ⟨s, rfl⟩ := h y hy; rfl
 ·unfold allOne; rw [List.all_eq_true]; intro y hy; obtain ⟨s, rfl⟩ := h y hy; rfl
theorem snap_strs {e : Nat} {H : List AB} {v : AV} {l : List Bs} (n : Nat) (h : BufE e 1 H v (l.map AV.str)) : snap H (n + 1) v = some (.sl (l.map AV.str) (outTl l)) := by
 rcases h with ⟨h1, rfl⟩ | ⟨hne, k, rfl, hk⟩
 ·obtain rfl : l = [] := by simpa using h1
  rfl
 ·have hl : l ≠ [] := by simpa using hne
  rw [flat_strs] at hk
  obtain ⟨c1, c2⟩ := strs_ok (l.map AV.str) fun y hy => by obtain ⟨s, _, rfl⟩ := List.mem_map.1 hy; exact ⟨s, rfl⟩
  simp only [snap, hk, List.length_map, Nat.mul_one, List.drop_zero]
  rw [if_pos ⟨by omega, by omega⟩, List.take_of_length_le (by simp), snap_cells H n _ fun y hy => by obtain ⟨s, _, rfl⟩ := List.mem_map.1 hy; exact snap_str H n s]
  simp only [c1, c2, Bool.and_self, if_true]
  rw [chunk_strs, outTl, if_neg hl]
theorem snap_hds {e : Nat} {H : List AB} {v : AV} {l : List Hd} (n : Nat) (h : BufE e 2 H v (l.map hdV)) : snap H (n + 1) v = some (.sl (l.map hdV) (outTl l)) := by
 rcases h with ⟨h1, rfl⟩ | ⟨hne, k, rfl, hk⟩
 ·obtain rfl : l = [] := by simpa using h1
  rfl
 ·have hl : l ≠ [] := by simpa using hne
  rw [flat_hd] at hk
  have hm : ∀ y ∈ l.flatMap (fun h => [AV.str h.1, AV.str h.2]), ∃ s, y = AV.str s := fun y hy => by
   obtain ⟨h, _, hy⟩ := List.mem_flatMap.1 hy
   rcases List.mem_cons.1 hy with rfl | hy
   ·exact ⟨_, rfl⟩
   ·exact ⟨_, by simpa using hy⟩
  obtain ⟨c1, c2⟩ := strs_ok _ hm
  have hlen : (l.flatMap fun h => [AV.str h.1, AV.str h.2]).length = l.length * 2 := by
   rw [← flat_hd, flat_len (n := 2) (fun y hy => by obtain ⟨s, _, rfl⟩ := List.mem_map.1 hy; rfl), List.length_map]
  simp only [snap, hk, List.length_map, List.drop_zero]
  rw [if_pos ⟨by omega, by omega⟩, List.take_of_length_le (by omega), snap_cells H n _ fun y hy => by obtain ⟨s, rfl⟩ := hm y hy; exact snap_str H n s]
  simp only [c1, c2, Bool.and_self, if_true]
  rw [chunk_hds, outTl, if_neg hl]
end Go.Proofs.Hc
