/- The tree machine: ranges, conversions, unsafe, assertions, methods. -/
import Derived.Test.YtaefgigfoifjaaaGreatDoorTmQg
set_option linter.unusedVariables false
set_option linter.unusedSimpArgs false
set_option linter.unusedSectionVars false
namespace Go.Tm
section
variable {F : Fr} {g : Gh} {κ : Nat → Option Tok} {own : Nat → Nat} {H : List AB} {w : World} {K : Cfg}

theorem newObj_ok (hs : SW F g κ H w) (A : AB) (o : Obj) (hb : ∀ g', Gh.Le g g' → BRo g' A o) : ∃ g', Gh.Le g g' ∧ SW F g' κ (H ++ [A]) (w.alloc o) ∧ g'.ρ H.length = some w.heap.size := by
  have hle := hs.le_new (objLen o)
  exact ⟨_, hle, hs.alloc A o (hb _ hle), by simp [Gh.addBlk]⟩

theorem makeMap_ok (hs : SW F g κ H w) {t : TypeId} {r : Option Value} (hr : r = none ∨ (∃ k n, r = some (.int k n)) ∧ ∃ a b, K.P.underlying t = some (.map a b)) :
    ∃ v w' g', (Instr.makeMap t r).run K.P w = .ok v w' ∧ Gh.Le g g' ∧ SW F g' κ (H ++ [.map [] 0]) w' ∧ VR g' (.map H.length) v := by
  obtain ⟨g', h1, h2, h3⟩ := newObj_ok hs (.map [] 0) (.map #[] 0) (fun _ _ => ⟨rfl, rfl, by simp⟩)
  refine ⟨.map (some w.heap.size), _, g', ?_, h1, h2, .map h3⟩
  rcases hr with rfl | ⟨⟨k, n, rfl⟩, a, b, hu⟩
  · simp [Instr.makeMap]
  · simp [Instr.makeMap, run_underlying hu, asInt, asIntOf]

theorem rangeStr_ok (hs : SW F g κ H w) {t : TypeId} {s : List UInt8} (hu : K.P.underlying t = some .string) :
    ∃ v w' g', (Instr.range t (.string ⟨⟨s⟩⟩)).run K.P w = .ok v w' ∧ Gh.Le g g' ∧ SW F g' κ (H ++ [.iter s 0]) w' ∧ VR g' (.ptr H.length 0) v := by
  obtain ⟨g', h1, h2, h3⟩ := newObj_ok hs (.iter s 0) (.stringIter ⟨⟨s⟩⟩ 0) (fun _ _ => ⟨rfl, rfl⟩)
  exact ⟨.pointer (some ⟨w.heap.size, 0, none⟩), _, g', by simp [Instr.range, run_underlying hu], h1, h2, .ptr h3⟩

theorem rangeNil_ok (hs : SW F g κ H w) {t a b : TypeId} (hu : K.P.underlying t = some (.map a b)) :
    ∃ v w' g', (Instr.range t (.map none)).run K.P w = .ok v w' ∧ Gh.Le g g' ∧ SW F g' κ (H ++ [.iterM none 0 []]) w' ∧ VR g' (.ptr H.length 0) v := by
  obtain ⟨g', h1, h2, h3⟩ := newObj_ok hs (.iterM none 0 []) (.mapIter none 0 #[] 0) (fun _ _ => ⟨rfl, rfl, rfl, rfl⟩)
  exact ⟨.pointer (some ⟨w.heap.size, 0, none⟩), _, g', by simp [Instr.range, run_underlying hu], h1, h2, .ptr h3⟩

theorem rangeMap_ok (hs : SW F g κ H w) {t a b : TypeId} (hu : K.P.underlying t = some (.map a b)) {m rb : Nat} (hρ : g.ρ m = some rb) {es : List (AV × AV × Nat)} {c : Nat} (hH : H[m]? = some (.map es c)) :
    ∃ v w' g', (Instr.range t (.map (some rb))).run K.P w = .ok v w' ∧ Gh.Le g g' ∧ SW F g' κ (H ++ [.iterM (some m) c []]) w' ∧ VR g' (.ptr H.length 0) v := by
  obtain ⟨res, r1, _⟩ := map_blk hs hρ hH
  obtain ⟨g', h1, h2, h3⟩ := newObj_ok hs (.iterM (some m) c []) (.mapIter (some rb) c #[] c) (fun g' hle => ⟨⟨rb, rfl, hle.blk _ _ hρ⟩, rfl, rfl, rfl⟩)
  exact ⟨.pointer (some ⟨w.heap.size, 0, none⟩), _, g', by simp [Instr.range, run_underlying hu, run_getObj_map r1], h1, h2, .ptr h3⟩

theorem run_getObj {rb : Nat} {o : Obj} (h : w.heap[rb]? = some o) (hn : ∀ c e f, o ≠ .cells c e f) : (getObj rb).run K.P w = .ok o w := by
  cases o <;> first
    | exact absurd rfl (hn _ _ _)
    | simp only [getObj, Sem.run, h]

theorem next_ok (hs : SW F g κ H w) {it : AV} {rit : Value} (hi : VR g it rit) {isStr : Bool} {ty : TypeId} {z : AV} {H' : List AB} (h : aNext H it isStr = some (z, H')) :
    ∃ r w', (Instr.next rit isStr ty).run K.P w = .ok r w' ∧ SW F g κ H' w' ∧ VR g z r := by
  have over : VR g (.tup [.v (.bool false)]) (.tuple #[.bool false]) := by
    have := VRs.cons (VR.v (g := g) (x := .bool false) rfl) VRs.nil
    exact .tup this.1 this.2
  unfold aNext at h
  split at h
  · rename_i b
    rw [nth_eq] at h
    split at h
    · rename_i s pos hH
      cases hi with
      | @ptr _ _ rb hρ =>
        obtain ⟨rb', o, p1, p2, p3, _⟩ := hs.blk _ _ hH rfl
        rw [hρ] at p1; cases p1
        cases o with
        | stringIter rs rp =>
          obtain ⟨rfl, rfl⟩ := p3
          have hg := run_getObj (K := K) p2 (by simp)
          have hsz : (⟨⟨s⟩⟩ : ByteArray).size = s.length := rfl
          split at h
          · rename_i hlt
            simp at h
            obtain ⟨rfl, rfl⟩ := h
            obtain ⟨w', s1, s2⟩ := setMap (K := K) hs hH rfl hρ p2 (by simp) (A' := .iter s (rp + (Utf8.decode ⟨⟨s⟩⟩ rp).2)) (o' := .stringIter ⟨⟨s⟩⟩ (rp + (Utf8.decode ⟨⟨s⟩⟩ rp).2)) ⟨rfl, rfl⟩ (by simp)
            refine ⟨.tuple #[.bool true, goInt rp, .int .i32 (Utf8.decode ⟨⟨s⟩⟩ rp).1], w', ?_, s2, ?_⟩
            · simp only [Instr.next, Sem.run_bind, hg, Result.andThen_ok]
              rw [if_pos (by rw [hsz]; exact hlt)]
              simp only [Sem.run_bind, s1, Result.andThen_ok, Sem.run_pure]
            · have := VRs.cons (VR.v (g := g) (x := .bool true) rfl) (VRs.cons (VR.v (g := g) (x := goInt rp) rfl) (VRs.cons (VR.v (g := g) (x := .int .i32 (Utf8.decode ⟨⟨s⟩⟩ rp).1) rfl) VRs.nil))
              exact .tup this.1 this.2
          · rename_i hlt
            simp at h
            obtain ⟨rfl, rfl⟩ := h
            refine ⟨_, w, ?_, hs, over⟩
            simp only [Instr.next, Sem.run_bind, hg, Result.andThen_ok]
            rw [if_neg (by rw [hsz]; exact hlt)]
            rfl
        | _ => simp [BRo] at p3
    · simp at h
  · rename_i b
    rw [nth_eq] at h
    split at h
    · rename_i since seen hH
      simp at h
      obtain ⟨rfl, rfl⟩ := h
      cases hi with
      | @ptr _ _ rb hρ =>
        obtain ⟨rb', o, p1, p2, p3, _⟩ := hs.blk _ _ hH rfl
        rw [hρ] at p1; cases p1
        cases o with
        | mapIter rm rs rseen stepped =>
          obtain ⟨rfl, _⟩ := p3
          have hg := run_getObj (K := K) p2 (by simp)
          exact ⟨_, w, by simp only [Instr.next, Sem.run_bind, hg, Result.andThen_ok]; rfl, hs, over⟩
        | _ => simp [BRo] at p3
    · rename_i m since seen hH
      rw [nth_eq] at h
      split at h
      · rename_i es clock hM
        split at h
        · rename_i hcl; subst hcl
          cases hi with
          | @ptr _ _ rb hρ =>
            obtain ⟨rb', o, p1, p2, p3, _⟩ := hs.blk _ _ hH rfl
            rw [hρ] at p1; cases p1
            cases o with
            | mapIter rm rs rseen stepped =>
              obtain ⟨⟨rbm, rfl, hρm⟩, rfl, rfl, rfl⟩ := p3
              have hg := run_getObj (K := K) p2 (by simp)
              obtain ⟨res, r1, r2, r3⟩ := map_blk hs hρm hM
              have hgm := run_getObj_map (K := K) r1
              -- no entry is new
              have hnew : ∀ e ∈ res.toList, e.born < stepped := by
                intro e he
                obtain ⟨i, hi⟩ := List.mem_iff_getElem?.1 he
                have hlt : i < es.length := by rw [r2.1]; exact (List.getElem?_eq_some_iff.1 hi).1
                obtain ⟨⟨k, x, n⟩, hkx⟩ : ∃ q, es[i]? = some q := ⟨es[i], List.getElem?_eq_getElem hlt⟩
                have := r2.2 i k x n e hkx hi
                rw [this.2.2]
                exact r3 i k x n hkx
              have hguard : ((!(⟨seen⟩ : Array Nat).isEmpty && !res.isEmpty && res.all (fun e => decide (e.born ≥ stepped))) = true) → False := by
                intro q
                simp only [Bool.and_eq_true] at q
                obtain ⟨⟨_, q2⟩, q3⟩ := q
                have hne : res.toList ≠ [] := by
                  intro e
                  have : res = #[] := by cases res; simp at e; subst e; rfl
                  rw [this] at q2; simp at q2
                obtain ⟨e, r, he⟩ := List.exists_cons_of_ne_nil hne
                have hmem : e ∈ res.toList := by rw [he]; simp
                have h1 := hnew e hmem
                rw [Array.all_eq_true'] at q3
                have h2 := q3 e (by simpa using hmem)
                simp at h2; omega
              -- the entries that are left
              have hleft : ∀ {es : List (AV × AV × Nat)} {rl : List MapEntry}, Ents g es rl → Ents g (es.filter fun e => !seen.contains e.2.2) (rl.filter fun e => !(⟨seen⟩ : Array Nat).contains e.born) := by
                intro es
                induction es with
                | nil => intro rl he; have : rl = [] := by cases rl with | nil => rfl | cons => exact absurd he.1 (by simp)
                         subst this; exact ⟨rfl, by simp⟩
                | cons q r ih =>
                  intro rl he
                  obtain ⟨k, x, n⟩ := q
                  obtain ⟨e, rr, rfl, a1, a2, a3, a4⟩ := he.cons
                  have i := ih a4
                  have hb : (⟨seen⟩ : Array Nat).contains e.born = seen.contains n := by rw [a3]; simp
                  simp only [List.filter_cons, hb]
                  split
                  · refine ⟨by rw [List.length_cons, List.length_cons, i.1], fun j k' x' n' e' p q => ?_⟩
                    cases j with
                    | zero => simp at p q; obtain ⟨rfl, rfl, rfl⟩ := p; subst q; exact ⟨a1, a2, a3⟩
                    | succ j => exact i.2 j k' x' n' e' (by simpa using p) (by simpa using q)
                  · exact i
              have hl := hleft r2
              have hold : ((res.filter fun e => !(⟨seen⟩ : Array Nat).contains e.born).filter fun e => decide (e.born < stepped)).toList = res.toList.filter fun e => !(⟨seen⟩ : Array Nat).contains e.born := by
                rw [Array.toList_filter, Array.toList_filter]
                apply List.filter_eq_self.2
                intro e he
                simpa using hnew e (List.mem_filter.1 he).1
              have hnewl : ((res.filter fun e => !(⟨seen⟩ : Array Nat).contains e.born).filter fun e => decide (e.born ≥ stepped)).toList = [] := by
                rw [Array.toList_filter, Array.toList_filter]
                apply List.filter_eq_nil_iff.2
                intro e he
                have := hnew e (List.mem_filter.1 he).1
                simp; omega
              split at h
              · rename_i hnil
                simp at h
                obtain ⟨rfl, rfl⟩ := h
                rw [hnil] at hl
                have hl0 : (res.toList.filter fun e => !(⟨seen⟩ : Array Nat).contains e.born) = [] := List.length_eq_zero_iff.1 hl.1.symm
                rw [hl0] at hold
                have hA : ((res.filter fun e => !(⟨seen⟩ : Array Nat).contains e.born).filter fun e => decide (e.born < stepped)) = #[] := Array.ext' hold
                have hB : ((res.filter fun e => !(⟨seen⟩ : Array Nat).contains e.born).filter fun e => decide (e.born ≥ stepped)) = #[] := Array.ext' hnewl
                refine ⟨.tuple #[.bool false], w, ?_, hs, over⟩
                simp only [Instr.next, Sem.run_bind, hg, Result.andThen_ok, hgm]
                rw [if_neg (fun q => hguard q)]
                simp only [hA, hB, Sem.run_bind]
                have hf : (Question.mapNext ((if (#[] : Array MapEntry).isEmpty = true then #[none] else #[]) ++ Array.map some ((#[] : Array MapEntry) ++ #[])).size).forced = true := by simp [Question.forced]
                rw [run_choose, if_pos hf]
                simp [Sem.run_pure]
              · rename_i e1 hone
                simp at h
                obtain ⟨rfl, rfl⟩ := h
                rw [hone] at hl
                obtain ⟨k1, x1, n1⟩ := e1
                obtain ⟨e, rr, herr, a1, a2, a3, a4⟩ := hl.cons
                have hrr : rr = [] := by cases rr with | nil => rfl | cons => exact absurd a4.1 (by simp)
                subst hrr
                rw [herr] at hold
                have hA : ((res.filter fun e => !(⟨seen⟩ : Array Nat).contains e.born).filter fun e => decide (e.born < stepped)) = #[e] := Array.ext' hold
                have hB : ((res.filter fun e => !(⟨seen⟩ : Array Nat).contains e.born).filter fun e => decide (e.born ≥ stepped)) = #[] := Array.ext' hnewl
                obtain ⟨w', s1, s2⟩ := setMap (K := K) hs hH rfl hρ p2 (by simp) (A' := .iterM (some m) stepped (seen ++ [n1])) (o' := .mapIter (some rbm) stepped ((⟨seen⟩ : Array Nat).push e.born) stepped) ⟨⟨rbm, rfl, hρm⟩, rfl, by rw [a3]; apply Array.ext'; simp, rfl⟩ (by simp)
                refine ⟨.tuple #[.bool true, e.key, e.val], w', ?_, s2, ?_⟩
                · simp only [Instr.next, Sem.run_bind, hg, Result.andThen_ok, hgm]
                  rw [if_neg (fun q => hguard q)]
                  simp only [hA, hB, Sem.run_bind]
                  have hf : (Question.mapNext ((if (#[e] : Array MapEntry).isEmpty = true then #[none] else #[]) ++ Array.map some ((#[e] : Array MapEntry) ++ #[])).size).forced = true := by simp [Question.forced]
                  rw [run_choose, if_pos hf]
                  rw [Result.andThen_ok]
                  have hq : ((if (#[e] : Array MapEntry).isEmpty = true then #[none] else #[]) ++ Array.map some ((#[e] : Array MapEntry) ++ #[]))[0]? = some (some e) := by simp
                  rw [hq]
                  simp only [Sem.run_bind, s1, Result.andThen_ok, Sem.run_pure]
                · have := VRs.cons (VR.v (g := g) (x := .bool true) rfl) (VRs.cons a1 (VRs.cons a2 VRs.nil))
                  exact .tup this.1 this.2
              · simp at h
            | _ => simp [BRo] at p3
        · simp at h
      · simp at h
    · simp at h
  · simp at h
end
end Go.Tm
