/- What holds together few values and letters has light parts. -/
import Derived.Test.YtfihfpgphipglaaGreatDoorHcBack
import Derived.Test.YtfihfpgphipglaaGreatDoorTmQf
set_option linter.unusedVariables false
set_option linter.unusedSimpArgs false
set_option linter.unusedSectionVars false
namespace Go.Proofs.YtfihfpgphipglaaGreatDoor.httpBack
open Go Go.Proofs Go.Proofs.Hc Go.ChangeShapes Go.WideShapes Go.ChangeAt Go.RowKit Go.Tm
open Rows (uptoBulk uptoBulkAll uptoBulkEntries uptoBulkEntry)
theorem bulk_pos {H : Type} (d : DataW H) : 1 ≤ uptoBulk d := by
 cases d with
 | lit l => cases l <;> simp [uptoBulk]
 | _ => simp [uptoBulk]
theorem len_le {H : Type} : ∀ ds : List (DataW H), ds.length ≤ uptoBulkAll ds
 | [] => by simp
 | d :: r => by
  have := bulk_pos d
  have := len_le r
  simp only [uptoBulkAll, List.length_cons]
  omega
def lightT (P : Program) (C : Nat) : Nat → TypeId → Bool
 | 0, _ => false
 | n + 1, t => match P.underlying t with
  | some (.pointer e) => lightT P C n e
  | some (.slice e) => Nat.ble (P.bytesOf e) C && lightT P C n e
  | some (.struct fs) => fs.toList.all fun f => lightT P C n f.type
  | some (.array _ e) => lightT P C n e
  | some (.map _ _) => false
  | _ => true
section
variable {H : Type} {P : Program} {C : Nat}
theorem lightT_succ {n : Nat} {t : TypeId} (h : lightT P C n t = true) : ∃ m, n = m + 1 := by
 cases n with
 | zero => simp [lightT] at h
 | succ m => exact ⟨m, rfl⟩
mutual
theorem w1 (h1 : 1 ≤ C) : ∀ (d : DataW H) (n : Nat) (t : TypeId) (x : Nat), lightT P C n t = true → x ∈ d.weights P t → x ≤ uptoBulk d * C
 | .lit l, n, t, x, _, h => by
  cases l <;> simp [DataW.weights] at h
  subst h
  simp only [uptoBulk]
  exact Nat.le_trans (Nat.le_succ _) (Nat.le_mul_of_pos_right _ h1)
 | .nil, n, t, x, _, h => by simp [DataW.weights] at h
 | .ptr d, n, t, x, hl, h => by
  obtain ⟨m, rfl⟩ := lightT_succ hl
  unfold DataW.weights at h
  unfold lightT at hl
  split at h
  ·rename_i e hu
   rw [hu] at hl
   simp only [uptoBulk]
   exact Nat.le_trans (w1 h1 d m _ x hl h) (Nat.mul_le_mul_right _ (Nat.le_succ _))
  ·simp at h
 | .slice elems spare, n, t, x, hl, h => by
  obtain ⟨m, rfl⟩ := lightT_succ hl
  unfold DataW.weights at h
  unfold lightT at hl
  split at h
  ·rename_i e hu
   rw [hu] at hl
   simp only [Bool.and_eq_true] at hl
   simp only [uptoBulk]
   rcases List.mem_cons.1 h with h | h
   ·subst h
    have := len_le elems
    have := len_le spare
    exact Nat.mul_le_mul (by omega) (Nat.le_of_ble_eq_true hl.1)
   ·rcases List.mem_append.1 h with h | h
    ·exact Nat.le_trans (wAll h1 elems m _ x hl.2 h) (Nat.mul_le_mul_right _ (by omega))
    ·exact Nat.le_trans (wAll h1 spare m _ x hl.2 h) (Nat.mul_le_mul_right _ (by omega))
  ·simp at h
 | .agg parts, n, t, x, hl, h => by
  obtain ⟨m, rfl⟩ := lightT_succ hl
  unfold DataW.weights at h
  unfold lightT at hl
  simp only [uptoBulk]
  split at h
  ·rename_i fs hu
   rw [hu] at hl
   exact Nat.le_trans (wEach h1 parts m _ x (by rw [List.all_map]; exact hl) h) (Nat.mul_le_mul_right _ (by omega))
  ·rename_i k e hu
   rw [hu] at hl
   exact Nat.le_trans (wAll h1 parts m _ x hl h) (Nat.mul_le_mul_right _ (by omega))
  ·simp at h
 | .iface _ _, n, t, x, _, h => by simp [DataW.weights] at h
 | .map entries, n, t, x, hl, h => by
  obtain ⟨m, rfl⟩ := lightT_succ hl
  unfold DataW.weights at h
  unfold lightT at hl
  split at h
  ·rename_i k e hu
   rw [hu] at hl
   cases hl
  ·simp at h
 | .held _, n, t, x, _, h => by simp [DataW.weights] at h
theorem wAll (h1 : 1 ≤ C) : ∀ (ds : List (DataW H)) (n : Nat) (e : TypeId) (x : Nat), lightT P C n e = true → x ∈ DataW.weightsAll P e ds → x ≤ uptoBulkAll ds * C
 | [], n, e, x, _, h => by simp [DataW.weightsAll] at h
 | d :: r, n, e, x, hl, h => by
  unfold DataW.weightsAll at h
  simp only [uptoBulkAll]
  rcases List.mem_append.1 h with h | h
  ·exact Nat.le_trans (w1 h1 d n _ x hl h) (Nat.mul_le_mul_right _ (by omega))
  ·exact Nat.le_trans (wAll h1 r n _ x hl h) (Nat.mul_le_mul_right _ (by omega))
theorem wEach (h1 : 1 ≤ C) : ∀ (ds : List (DataW H)) (n : Nat) (ts : List TypeId) (x : Nat), ts.all (lightT P C n) = true → x ∈ DataW.weightsEach P ts ds → x ≤ uptoBulkAll ds * C
 | [], n, ts, x, _, h => by cases ts <;> simp [DataW.weightsEach] at h
 | d :: r, n, [], x, _, h => by simp [DataW.weightsEach] at h
 | d :: r, n, t :: ts, x, hl, h => by
  unfold DataW.weightsEach at h
  simp only [uptoBulkAll]
  simp only [List.all_cons, Bool.and_eq_true] at hl
  rcases List.mem_append.1 h with h | h
  ·exact Nat.le_trans (w1 h1 d n _ x hl.1 h) (Nat.mul_le_mul_right _ (by omega))
  ·exact Nat.le_trans (wEach h1 r n _ x hl.2 h) (Nat.mul_le_mul_right _ (by omega))
end
theorem light {ts : List TypeId} {ds : List (DataW H)} (n : Nat) (h1 : 1 ≤ C) (hC : ts.all (lightT P C n) = true) (h : uptoBulkAll ds ≤ 1048576) : (DataW.weightsEach P ts ds).all (· ≤ 1048576 * C) = true := by
 rw [List.all_eq_true]
 intro x hx
 exact decide_eq_true (Nat.le_trans (wEach h1 ds n ts x hC hx) (Nat.mul_le_mul_right _ h))
end
end Go.Proofs.YtfihfpgphipglaaGreatDoor.httpBack
