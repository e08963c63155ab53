/- files' Used at the squash's program: the sum of the files' lengths, in whatever order the map is read. -/
import Derived.Test.YtcopnmbokhjjmaaGreatDoorProg
import Derived.WalkKit
import Derived.Laws.IdiomRangeMap
import Derived.LoopN
import Derived.Test.YtcopnmbokhjjmaaGreatDoorTmTape
import Derived.Test.YtcopnmbokhjjmaaGreatDoorTmSorted
namespace Go.Proofs
open Go.RowKit
open Go.Tm (lenAt)

def sumSeen (g : MapEntry → Int) (seen : Array Nat) : List MapEntry → Int
  | [] => 0
  | e :: r => (if seen.contains e.born then g e else 0) + sumSeen g seen r
theorem sumSeen_none (g : MapEntry → Int) : ∀ l, sumSeen g #[] l = 0
  | [] => rfl
  | e :: r => by simp [sumSeen, sumSeen_none g r]
theorem sumSeen_other (g : MapEntry → Int) (seen : Array Nat) (b : Nat) : ∀ l : List MapEntry, b ∉ l.map (·.born) → sumSeen g (seen.push b) l = sumSeen g seen l
  | [], _ => rfl
  | e :: r, h => by
    simp only [List.map_cons, List.mem_cons, not_or] at h
    have hne : ¬ e.born = b := fun q => h.1 q.symm
    simp [sumSeen, sumSeen_other g seen b r h.2, hne]
theorem sumSeen_push (g : MapEntry → Int) (seen : Array Nat) (e : MapEntry) (he : seen.contains e.born = false) : ∀ l : List MapEntry, (l.map (·.born)).Nodup → e ∈ l → sumSeen g (seen.push e.born) l = sumSeen g seen l + g e
  | [], _, h => by cases h
  | x :: r, hn, h => by
    simp only [List.map_cons, List.nodup_cons] at hn
    rcases List.mem_cons.1 h with rfl | h'
    · simp only [sumSeen]
      rw [sumSeen_other g seen _ r hn.1, he]
      simp
      omega
    · have hne : x.born ≠ e.born := fun q => hn.1 (q ▸ List.mem_map_of_mem h')
      simp only [sumSeen]
      rw [sumSeen_push g seen e he r hn.2 h']
      simp [hne]
      omega
theorem sumSeen_all (g : MapEntry → Int) (es : Array MapEntry) (seen : Array Nat) (h : (leftOf es seen).size = 0) : sumSeen g seen es.toList = (es.toList.map g).sum := by
  have hall : ∀ x ∈ es.toList, seen.contains x.born = true := fun x hx => by
    cases hc : seen.contains x.born with
    | true => rfl
    | false =>
      exfalso
      have : x ∈ (leftOf es seen) := by
        unfold leftOf
        simp at hx ⊢
        exact ⟨hx, by simpa using hc⟩
      have := Array.size_pos_of_mem this
      omega
  generalize es.toList = l at hall
  induction l with
  | nil => rfl
  | cons x r ih =>
    simp only [sumSeen, hall x (List.mem_cons_self), if_true, List.map_cons, List.sum_cons]
    rw [ih fun y hy => hall y (List.mem_cons_of_mem _ hy)]

theorem below_alike {w w1 : World} (h : w1.Alike w) (ht : w1.tape = w.tape) (o : Obj) : Below w.heap.size w (w1.alloc o) := by
  refine ⟨h.2.1, ht, h.2.2, ?_, fun k hk => ?_⟩
  · show w.heap.size ≤ (w1.heap.push o).size
    rw [h.1]; simp
  · show (w1.heap.push o)[k]? = w.heap[k]?
    rw [h.1, Array.getElem?_push, if_neg (by omega)]

set_option maxRecDepth 1000000 in
theorem Tryz.size (fb : Nat) (s : ByteArray) (w : World) (h : w.cell? ⟨fb, 0, none⟩ = some (.string s)) : Calls Tryz.prog 60 #[.pointer (some ⟨fb, 0, none⟩)] w fun e w' => e = .returned (.int .i64 s.size) ∧ w' = w := by
  go_enter Tryz.func60, Tryz.ntmps60
  go_wp2
  go_ret
  exact ⟨rfl, rfl⟩

set_option maxRecDepth 1000000 in
theorem Tryz.used (rb bm : Nat) (es : Array MapEntry) (clock : Nat) (w : World) (hd : w.cell? ⟨rb, 0, none⟩ = some (.map (some bm))) (hb : w.heap[bm]? = some (.map es clock)) (hst : ∀ x ∈ es.toList, x.born < clock) (hnd : (es.toList.map (·.born)).Nodup)
    (hv : ∀ x ∈ es.toList, ∃ fb s, x.val = .pointer (some ⟨fb, 0, none⟩) ∧ w.cell? ⟨fb, 0, none⟩ = some (.string s)) :
    Calls Tryz.prog 17 #[.pointer (some ⟨rb, 0, none⟩)] w fun e w' => e = .returned (.int .i64 (wrap64 ((es.toList.map fun e => lenAt w e.val).sum))) ∧ Below w.heap.size w w' := by
  have hrg := run_range_map (P := Tryz.prog) w 86 9 117 bm es clock Tryz.underlying86 hb
  go_enter Tryz.func17, Tryz.ntmps17
  go_wp2
  go_loopw [3] (fun s w' => ∃ (w1 : World) (seen : Array Nat), w1.Alike w ∧ w1.tape = w.tape ∧ w' = w1.alloc (.mapIter (some bm) clock seen clock) ∧ s = .int .i64 (wrap64 (sumSeen (fun e => lenAt w e.val) seen es.toList))) (fun _ w' => (leftOf es (w'.iterSeen w.heap.size)).size)
  case atStart => exact ⟨w, #[], ⟨rfl, rfl, rfl⟩, rfl, rfl, by rw [sumSeen_none]; simp [wrap64]⟩
  case round =>
    obtain ⟨w1, seen, hal, htp, rfl, rfl⟩ := hrel
    have hsz : w1.heap.size = w.heap.size := by rw [hal.1]
    have hb1 : w1.heap[bm]? = some (.map es clock) := by rw [hal.1]; exact hb
    have law := run_next_map (P := Tryz.prog) w1 0 bm clock clock seen es clock hb1 hst (Nat.le_refl _)
    rw [hsz] at law
    rcases law with ⟨h0, hrun⟩ | ⟨e, he, w2, hal2, hrun⟩
    · have hnx : ∀ ty, (Instr.next (.pointer (some ⟨w.heap.size, 0, none⟩)) false ty).run Tryz.prog (w1.alloc (.mapIter (some bm) clock seen clock)) = _ := fun _ => hrun
      go_wp2
      go_ret
      rw [sumSeen_all _ es seen h0]
      exact ⟨rfl, below_alike hal htp _⟩
    · obtain ⟨fb, str, hval, hcell⟩ := hv e (mem_left he).1
      rw [hval] at hrun
      have hnx : ∀ ty, (Instr.next (.pointer (some ⟨w.heap.size, 0, none⟩)) false ty).run Tryz.prog (w1.alloc (.mapIter (some bm) clock seen clock)) = _ := fun _ => hrun
      have hsz2 : w2.heap.size = w.heap.size := by rw [hal2.1, hal.1]
      have hb2 : w2.heap[bm]? = some (.map es clock) := by rw [hal2.1]; exact hb1
      have hen := run_entry_map (P := Tryz.prog) w2 bm clock seen es clock e hb2 (mem_left he).1 hnd
      rw [hsz2, hval] at hen
      have hcell2 : (w2.alloc (.mapIter (some bm) clock (seen.push e.born) clock)).cell? ⟨fb, 0, none⟩ = some (.string str) := by
        have hc : w2.cell? ⟨fb, 0, none⟩ = some (.string str) := by
          have : w2.heap = w.heap := hal2.1.trans hal.1
          unfold World.cell? at hcell ⊢
          rw [this]; exact hcell
        rw [World.cell?_alloc_lt _ _ _ (World.block_lt_of_cell? w2 ⟨fb, 0, none⟩ hc)]
        exact hc
      go_wp2_with (go_at_call 60; refine (Tryz.size fb str _ hcell2).mono ?_; rintro e' w' ⟨rfl, rfl⟩)
      go_roundw
      case rel =>
        refine ⟨w2, seen.push e.born, ⟨hal2.1.trans hal.1, hal2.2.1.trans hal.2.1, hal2.2.2.trans hal.2.2⟩, (Go.Tm.tape_next hrun).trans htp, rfl, ?_⟩
        have hle : lenAt w e.val = str.size := by simp [lenAt, hval, hcell]
        rw [sumSeen_push _ seen e (by simpa using (mem_left he).2) es.toList hnd (mem_left he).1, hle]
        have e3 : ∀ x v : Int, wrap64 (wrap64 x + v) = wrap64 (x + v) := fun x v => by
          simp only [wrap64]
          omega
        exact congrArg (Value.int .i64) (e3 _ _)
      case measure =>
        rw [← hsz2, World.iterSeen_alloc, hsz2, ← hsz, World.iterSeen_alloc]
        exact left_shrinks es seen e he

set_option maxRecDepth 1000000 in
theorem Tryz.used_nil (rb : Nat) (w : World) (hd : w.cell? ⟨rb, 0, none⟩ = some (.map none)) :
    Calls Tryz.prog 17 #[.pointer (some ⟨rb, 0, none⟩)] w fun e w' => e = .returned (.int .i64 0) ∧ Below w.heap.size w w' := by
  have hrg := run_range_nilMap (P := Tryz.prog) w 86 9 117 Tryz.underlying86
  have hnx : ∀ ty, (Instr.next (.pointer (some ⟨w.heap.size, 0, none⟩)) false ty).run Tryz.prog (w.alloc (.mapIter none 0 #[] 0)) = _ := fun ty => run_next_nilMap w ty 0 0 #[]
  go_enter Tryz.func17, Tryz.ntmps17
  go_wp2
  refine wp_loop_rounds 1 ?_
  rw [rounds_succ]
  go_wp2
  go_ret
  exact ⟨rfl, below_alike ⟨rfl, rfl, rfl⟩ rfl _⟩
end Go.Proofs
