/- RingAsked: what Sloppy tells, seen by the plain law. -/
import Derived.Test.YtpgkkmlmdoacmaaTmRingSloppy
import Derived.Test.YtpgkkmlmdoacmaaTmSymDrawn
set_option linter.unusedVariables false
set_option linter.unusedSimpArgs false
set_option linter.unusedSectionVars false
namespace Go.Tm
/-- A function that is told by its values. -/
theorem Tells.libv {K : Cfg} {f : FuncId} {g : List AV → Option AV} {args : List AV} {H : List AB} {r : AV} {Q : AV → List AB → Prop} (hf : K.libv f = some g) (hr : g args = some r) (h : Q r H) : Tells K f args H Q := by
  refine ⟨(r, H), 1, fun n hn => ?_, h⟩
  obtain ⟨n, rfl⟩ : ∃ j, n = j + 1 := ⟨n - 1, by omega⟩
  show aCallW K (aCall K n) (n + 1) f args H [] = _
  unfold aCallW
  simp only [hf, hr]
  rfl
end Go.Tm
namespace Go.Proofs
open Go.Tm Go.Proofs.RingPlain
theorem owners_nodup (o : List Int) (p : Int) (i : Nat) : (owners o p i).Nodup := goP_nodup _ _ List.nodup_nil
theorem firsts_all (o : List Int) (p : Int) : firsts o p 8 = owners o p 8 := by
  have := owners_len o p 8
  unfold firsts
  exact List.take_of_length_le (by omega)
theorem others_eq (o : List Int) (p n : Int) (ups : List Int) : others o p n ups = ((owners o p 8).drop (max n 0).toNat).filter (· ∈ ups) := by
  unfold others firsts
  have hd : (owners o p 8).drop ((owners o p 8).take (max n 0).toNat).length = (owners o p 8).drop (max n 0).toNat := by
    rw [List.length_take]
    by_cases h : (max n 0).toNat ≤ (owners o p 8).length
    · rw [Nat.min_eq_left h]
    · rw [Nat.min_eq_right (by omega), List.drop_length, List.drop_eq_nil_of_le (by omega)]
  rw [hd]
  simp
/-- What the law asks of Sloppy's answer. -/
theorem answer_ok (o : List Int) (p n : Int) (ups : List Int) :
    let l := sloppy ups (firsts o p n) (others o p n ups)
    l.length = min (firsts o p n).length ((owners o p 8).countP (· ∈ ups)) ∧ (∀ t ∈ l, t.1 ∈ ups ∧ t.2 ∈ firsts o p n ∧ (t.1 ∈ firsts o p n ↔ t.1 = t.2)) ∧ (l.map (·.1)).Nodup ∧ (l.map (·.2)).Nodup := by
  rw [others_eq]
  exact asked ups (owners o p 8) (owners_nodup o p 8) (max n 0).toNat
end Go.Proofs
