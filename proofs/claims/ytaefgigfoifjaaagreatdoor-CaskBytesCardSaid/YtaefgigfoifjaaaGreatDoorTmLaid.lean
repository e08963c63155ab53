/- The listed variables, one behind the other: read off a list of them; a world that bears them, by parts: small variables by the kernel, the table of cases by proof. -/
import Derived.Lib.LaidTab
import Derived.LaidOnce
import Derived.Laws.Entries
set_option linter.unusedVariables false
set_option linter.unusedSimpArgs false
set_option linter.unusedSectionVars false
namespace Go.Tm
theorem laidMet_tail {P : Program} {W : World} {x : String × DataW Unit} {l : List (String × DataW Unit)} (h : laidMet P (x :: l) W) : laidMet P l W := by
 obtain ⟨ps, ⟨g, t, cs, fuel, p, q, h1, h2, h3, h4, h5, h6⟩, hn, hc⟩ := h
 subst h6
 exact ⟨q, h5, (List.nodup_append.1 hn).2.1, fun b off hm => hc b off (by simp [hm])⟩

def LaidWith (P : Program) (l : List (String × DataW Unit)) (w : World) (ps : List MemPlace) : Prop :=
 DataW.LaidVars P w l ps ∧ ps.Nodup ∧ ∀ b off, MemPlace.cell b off ∈ ps → (∃ c t, w.heap[b]? = some (.cells c t (0, 0))) ∧ ∀ u v, w.cell? ⟨b, off, none⟩ = some (.iface u v) → Value.okWide P w .any 0 u v

theorem LaidWith.met {P : Program} {l : List (String × DataW Unit)} {w : World} {ps : List MemPlace} (h : LaidWith P l w ps) : laidMet P l w := ⟨ps, h⟩

theorem vars_append {P : Program} {w : World} : ∀ {l l' : List (String × DataW Unit)} {ps ps' : List MemPlace}, DataW.LaidVars P w l ps → DataW.LaidVars P w l' ps' → DataW.LaidVars P w (l ++ l') (ps ++ ps')
 | [], _, _, _, h, h' => by cases h; exact h'
 | (_, _) :: _, _, _, ps', h, h' => by
  obtain ⟨g, t, cs, fuel, p, q, h1, h2, h3, h4, h5, rfl⟩ := h
  exact ⟨g, t, cs, fuel, p, q ++ ps', h1, h2, h3, h4, vars_append h5 h', by simp [List.append_assoc]⟩

theorem LaidWith.append {P : Program} {l l' : List (String × DataW Unit)} {w : World} {ps ps' : List MemPlace} (h : LaidWith P l w ps) (h' : LaidWith P l' w ps') (hd : ∀ p ∈ ps, p ∉ ps') : LaidWith P (l ++ l') w (ps ++ ps') :=
 ⟨vars_append h.1 h'.1, List.nodup_append.2 ⟨h.2.1, h'.2.1, fun a ha b hb e => hd a ha (e ▸ hb)⟩, fun b off hp => (List.mem_append.1 hp).elim (h.2.2 b off) (h'.2.2 b off)⟩

theorem laidWith_of_run {P : Program} {w : World} {l : List (String × DataW Unit)} (fuel M : Nat) (bs : List Nat)
  (h : ((DataW.laidRun P w fuel (l.map (·.1))).bind fun x => if nodupBits M x.2 0 && laidRowsB P w x.2 && x.2.all (fun p => bs.contains p.block) then some x.1 else none) = some l) :
  ∃ ps, LaidWith P l w ps ∧ ∀ p ∈ ps, p.block ∈ bs := by
 simp only [Option.bind_eq_some_iff] at h
 obtain ⟨x, hx, h⟩ := h
 split at h
 ·rename_i hb
  simp only [Bool.and_eq_true] at hb
  have hl := Option.some.inj h
  refine ⟨x.2, ⟨by rw [← hl]; exact DataW.LaidVars_of_laidRun hx, (nodupBits_sound hb.1.1).1, fun b off hp => ?_⟩, fun p hp => by simpa using List.all_eq_true.1 hb.2 p hp⟩
  have := List.all_eq_true.1 hb.1.2 _ hp
  simp only [Bool.and_eq_true] at this
  obtain ⟨h1, h2⟩ := this
  refine ⟨?_, fun u v hc => ?_⟩
  ·split at h1
   ·rename_i c t hh
    exact ⟨c, t, hh⟩
   ·cases h1
  ·rw [hc] at h2
   exact Value.okWide_of_okWideB h2
 ·cases h

/-! ### The table of cases -/
theorem cell_heap {w : World} {b : Nat} {cs : Array Value} {T : TypeId} {fr : Nat × Nat} (hb : w.heap[b]? = some (.cells cs T fr)) (j : Nat) : w.cell? ⟨b, j, none⟩ = cs[j]? := by
 simp [World.cell?, hb]
abbrev CRow := Nat × Nat × Int × Int × Int
def crCells (x : CRow) : List Value := [.int .u32 x.1, .int .u32 x.2.1, .int .i32 x.2.2.1, .int .i32 x.2.2.2.1, .int .i32 x.2.2.2.2]
def crWf (x : CRow) : Bool := (Lit.int .u32 x.1).wf && (Lit.int .u32 x.2.1).wf && (Lit.int .i32 x.2.2.1).wf && (Lit.int .i32 x.2.2.2.1).wf && (Lit.int .i32 x.2.2.2.2).wf

theorem crFlat : ∀ (l : List CRow) (i : Nat) (x : CRow), l[i]? = some x → ∀ k, k < 5 → (l.flatMap crCells)[i * 5 + k]? = (crCells x)[k]?
 | [], i, x, h, _, _ => by simp at h
 | y :: t, 0, x, h, k, hk => by
  simp at h
  subst h
  rw [List.flatMap_cons, List.getElem?_append_left (by simp [crCells]; omega)]
  simp
 | y :: t, i + 1, x, h, k, hk => by
  simp at h
  rw [List.flatMap_cons, List.getElem?_append_right (by simp [crCells]; omega)]
  have : (i + 1) * 5 + k - (crCells y).length = i * 5 + k := by simp [crCells]; omega
  rw [this]
  exact crFlat t i x h k hk

theorem mapM_all {α β : Type} (g : α → Option β) (h : α → β) : ∀ (l : List α), (∀ a ∈ l, g a = some (h a)) → l.mapM g = some (l.map h) := by
 intro l given
 have agree : l.mapM g = l.mapM fun a => pure (h a) := by
  induction l with
  | nil => rfl
  | cons x rest ih =>
   simp only [List.mapM_cons, given x (.head rest), ih fun a ha => given a (.tail x ha), Option.pure_def]
 exact agree.trans List.mapM_pure

structure CaseTypes (P : Program) (tS tR tU tI tD : TypeId) (f0 f1 f2 : Field) : Prop where
 hS : P.underlying tS = some (.slice tR)
 hR : P.underlying tR = some (.struct #[f0, f1, f2])
 hU : P.underlying tU = some (.int .u32)
 hI : P.underlying tI = some (.int .i32)
 hD : P.underlying tD = some (.array 3 tI)
 cR : P.cellsOf tR = 5
 cU : P.cellsOf tU = 1
 cI : P.cellsOf tI = 1
 cD : P.cellsOf tD = 3
 e0 : f0.type = tU
 e1 : f1.type = tU
 e2 : f2.type = tD
 o0 : f0.offset = 0
 o1 : f1.offset = 1
 o2 : f2.offset = 2

section
variable {P : Program} {tS tR tU tI tD : TypeId} {f0 f1 f2 : Field} (L : CaseTypes P tS tR tU tI tD f0 f1 f2)
include L
theorem crow_reads {w : World} (x : CRow) (hw : crWf x = true) (fuel : Nat) :
  DataW.trod (fun _ => ()) P w 0 (fun _ => true) false (fuel + 3) tR (crCells x) = some (Go.Pinned.caseRange x, []) := by
 simp only [crWf, Bool.and_eq_true] at hw
 obtain ⟨⟨⟨⟨w0, w1⟩, w2⟩, w3⟩, w4⟩ := hw
 have r3 : List.range 3 = [0, 1, 2] := rfl
 simp [DataW.trod, L.hR, L.hU, L.hI, L.hD, L.cR, L.cU, L.cI, L.cD, L.e0, L.e1, L.e2, L.o0, L.o1, L.o2, crCells, Go.Pinned.caseRange, w0, w1, w2, w3, w4, r3]

theorem case_laid {w : World} {g R : Nat} {T : List CRow} (hgR : g ≠ R) (hname : P.globalNamed "unicode.CaseRanges" = some g) (htype : (P.globals[g]?).map (·.type) = some tS)
  (hwf : T.all crWf = true) (hn : T.length ≤ maxLen) (hvar : w.heap[g]? = some (.cells #[.slice (some ⟨R, 0, none⟩) T.length T.length] tS (0, 0))) {tE : TypeId} (hblk : w.heap[R]? = some (.cells (T.flatMap crCells).toArray tE (0, 0))) :
  ∃ ps, LaidWith P [("unicode.CaseRanges", .slice (T.map Go.Pinned.caseRange) [])] w ps ∧ ∀ p ∈ ps, p.block = g ∨ p.block = R := by
 have hcell : ∀ k, w.cell? ⟨R, k, none⟩ = (T.flatMap crCells)[k]? := fun k => by rw [cell_heap hblk]; simp
 have hcells : ∀ i (x : CRow), T[i]? = some x → w.cells? 0 ((⟨R, 0, none⟩ : Addr).add (i * 5)) 5 = some (crCells x) := fun i x hx => by
  have k : ∀ j, j < 5 → w.cell? ⟨R, i * 5 + j, none⟩ = (crCells x)[j]? := fun j hj => by rw [hcell]; exact crFlat T i x hx j hj
  have r5 : List.range 5 = [0, 1, 2, 3, 4] := rfl
  unfold World.cells?
  rw [if_pos (Nat.zero_le _), r5]
  have k0 := k 0 (by omega)
  have k1 := k 1 (by omega)
  have k2 := k 2 (by omega)
  have k3 := k 3 (by omega)
  have k4 := k 4 (by omega)
  simp [crCells] at k0 k1 k2 k3 k4
  simp [Addr.add_lit, Nat.zero_add, k0, k1, k2, k3, k4, crCells]
 have hread : DataW.trod (fun _ => ()) P w 0 (fun _ => true) false 4 tS [.slice (some ⟨R, 0, none⟩) T.length T.length] = some (.slice (T.map Go.Pinned.caseRange) [], MemPlace.row ⟨R, 0, none⟩ (T.length * 5)) := by
  have helem : ∀ i ∈ List.range T.length, (w.cells? 0 ((⟨R, 0, none⟩ : Addr).add (i * 5)) 5).bind (DataW.trod (fun _ => ()) P w 0 (fun _ => true) false 3 tR) = some ((fun i => ((Go.Pinned.caseRange (T.getD i (0, 0, 0, 0, 0)) : DataW Unit), ([] : List MemPlace))) i) := by
   intro i hi
   have hi' := List.mem_range.1 hi
   have hx : T[i]? = some (T.getD i (0, 0, 0, 0, 0)) := by simp [List.getD_eq_getElem?_getD, hi']
   rw [hcells i _ hx]
   exact crow_reads L _ (List.all_eq_true.1 hwf _ (List.mem_of_getElem? hx)) 0
  show DataW.trod _ _ _ _ _ _ (3 + 1) _ _ = _
  unfold DataW.trod
  simp only [L.hS, L.cR]
  rw [if_pos ⟨Nat.zero_le _, Nat.le_refl _, hn⟩, mapM_all _ _ _ helem]
  have hm : ((List.range T.length).map fun i => (Go.Pinned.caseRange (T.getD i (0, 0, 0, 0, 0)) : DataW Unit)) = T.map Go.Pinned.caseRange := by
   apply List.ext_getElem?
   intro i
   by_cases hi : i < T.length
   ·simp [hi]
   ·simp [hi]
  simp [Function.comp_def, ← hm]
 have hv : w.var? P "unicode.CaseRanges" = some #[.slice (some ⟨R, 0, none⟩) T.length T.length] := by simp [World.var?, hname, hvar]
 refine ⟨MemPlace.row ⟨g, 0, none⟩ 1 ++ MemPlace.row ⟨R, 0, none⟩ (T.length * 5) ++ [], ⟨⟨g, tS, _, _, _, [], hname, htype, hv, hread, rfl, rfl⟩, ?_, fun b off hp => ?_⟩, fun p hp => ?_⟩
 ·have rn : ∀ (a : Addr) (n : Nat), (MemPlace.row a n).Nodup := fun a n => by
   unfold MemPlace.row List.Nodup
   rw [List.pairwise_map]
   refine List.Pairwise.imp ?_ (List.nodup_range (n := n))
   intro i j hij e
   simp at e
   exact hij e
  rw [List.append_nil]
  refine List.nodup_append.2 ⟨rn _ _, rn _ _, ?_⟩
  intro a ha b hb e
  obtain ⟨i, _, rfl⟩ := MemPlace.mem_row.1 ha
  obtain ⟨j, _, rfl⟩ := MemPlace.mem_row.1 hb
  simp at e
  exact hgR e.1
 ·rw [List.append_nil] at hp
  rcases List.mem_append.1 hp with hp | hp
  ·obtain ⟨i, hi, e⟩ := MemPlace.mem_row.1 hp
   cases e
   refine ⟨⟨_, _, hvar⟩, fun u v hc => ?_⟩
   obtain rfl : i = 0 := by omega
   rw [cell_heap hvar] at hc
   simp at hc
  ·obtain ⟨i, hi, e⟩ := MemPlace.mem_row.1 hp
   cases e
   refine ⟨⟨_, _, hblk⟩, fun u v hc => ?_⟩
   simp only [Nat.zero_add] at hc
   rw [hcell] at hc
   have hm := List.mem_of_getElem? hc
   rw [List.mem_flatMap] at hm
   obtain ⟨x, _, hx⟩ := hm
   simp [crCells] at hx
 ·rw [List.append_nil] at hp
  rcases List.mem_append.1 hp with hp | hp
  ·obtain ⟨i, _, rfl⟩ := MemPlace.mem_row.1 hp
   exact .inl rfl
  ·obtain ⟨i, _, rfl⟩ := MemPlace.mem_row.1 hp
   exact .inr rfl
end
end Go.Tm
