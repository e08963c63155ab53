/- The tree machine: no step turns the tape. -/
import Derived.Test.YtcopnmbokhjjmaaGreatDoorTmS1
namespace Go.Tm
/-- What touches no outside world and writes no view. -/
inductive Tame : {α : Type} → Sem α → Prop
  | pure {α : Type} (a : α) : Tame (.pure a)
  | getObj {α : Type} (r : Nat) (k : Obj → Sem α) (h : ∀ o, Tame (k o)) : Tame (.getObj r k)
  | setObj {α : Type} (r : Nat) (o : Obj) (k : Sem α) (h : Tame k) : Tame (.setObj r o k)
  | choose {α : Type} (q : Question) (k : Nat → Sem α) (h : ∀ n, Tame (k n)) : Tame (.choose q k)
  | halt {α : Type} (x : Halt) : Tame (.halt x : Sem α)
theorem Tame.tape {P : Program} {α : Type} {x : Sem α} (t : Tame x) : ∀ {w w' : World} {v : α}, x.run P w = .ok v w' → w'.tape = w.tape := by
  induction t with
  | pure a => intro w w' v h; simp only [Sem.run, Result.ok.injEq] at h; rw [← h.2]
  | getObj r k _ ih =>
    intro w w' v h
    simp only [Sem.run] at h
    split at h
    · cases h
    · exact ih _ h
    · cases h
  | setObj r o k _ ih =>
    intro w w' v h
    simp only [Sem.run] at h
    split at h
    · cases h
    · have := ih h; exact this
    · cases h
  | choose q k _ ih =>
    intro w w' v h
    simp only [Sem.run] at h
    split at h
    · exact ih _ h
    · have := ih _ h; exact this
  | halt x => intro w w' v h; simp only [Sem.run] at h; cases h
theorem Tame.bind {α β : Type} {x : Sem α} {f : α → Sem β} (hx : Tame x) (hf : ∀ a, Tame (f a)) : Tame (x >>= f) := by
  induction hx with
  | pure a => exact hf a
  | getObj r k _ ih => exact .getObj r _ fun o => ih o
  | setObj r o k _ ih => exact .setObj r o _ ih
  | choose q k _ ih => exact .choose q _ fun n => ih n
  | halt x => exact .halt x
theorem tame_getObj (r : Nat) : Tame (getObj r) := .getObj r _ fun o => .pure o
theorem tame_setObj (r : Nat) (o : Obj) : Tame (setObj r o) := .setObj r o _ (.pure ())
theorem tame_choose (q : Question) : Tame (choose q) := .choose q _ fun n => .pure n
theorem tame_next (v : Value) (ty : TypeId) : Tame (Instr.next v false ty) := by
  unfold Instr.next
  simp only
  split
  · refine (tame_getObj _).bind fun o => ?_
    split
    · exact absurd ‹_› (by simp)
    · exact .pure _
    · refine (tame_getObj _).bind fun o' => ?_
      split
      · split
        · exact .halt _
        · refine (tame_choose _).bind fun n => ?_
          split
          · exact (tame_setObj _ _).bind fun _ => .pure _
          · exact .pure _
          · exact .halt _
      · exact .halt _
    · exact .halt _
  · exact .halt _
theorem tape_next {P : Program} {v r : Value} {ty : TypeId} {w w' : World} (h : (Instr.next v false ty).run P w = .ok r w') : w'.tape = w.tape := (tame_next v ty).tape h
end Go.Tm
