/- The tree machine: what slices.Values over ints yields, seen from its captured variable. -/
import Derived.Test.YtbhjnkdediijnaaDoorTmS21
import Derived.LoopN
set_option linter.unusedVariables false
set_option linter.unusedSimpArgs false
set_option linter.unusedSectionVars false
namespace Go.Tm
def i64Of : AV → Option Int
 | .v (.int .i64 n) => some n
 | _ => none
def i64s : List AV → Bool
 | [] => true
 | x :: r => match i64Of x with
  | some _ => i64s r
  | none => false
theorem i64s_get : ∀ {xs : List AV} {k : Nat} {x : AV}, i64s xs = true → xs[k]? = some x → ∃ n, x = .v (.int .i64 n)
 | [], k, x, h, q => by simp at q
 | y :: r, k, x, h, q => by
  unfold i64s at h
  split at h
  ·rename_i n hn
   cases k with
   | zero =>
    simp only [List.getElem?_cons_zero, Option.some.injEq] at q
    subst q
    unfold i64Of at hn
    split at hn
    ·exact ⟨_, rfl⟩
    ·cases hn
   | succ k => exact i64s_get h (by simpa using q)
  ·cases h
def toldValues : List AV → List AB → Option (List (List AV))
 | [.ptr b 0], H => match nth H b with
  | some (.cells _ [.sl xs _]) => match i64s xs && Nat.ble xs.length 17592186043904 with
   | true => some (xs.map fun x => [x])
   | false => none
  | _ => none
 | _, _ => none
theorem flat_one : ∀ (xs : List AV), (∀ x ∈ xs, AV.cells x = [x]) → xs.flatMap AV.cells = xs
 | [], _ => rfl
 | x :: r, h => by
  rw [List.flatMap_cons, h x (by simp), flat_one r fun y hy => h y (by simp [hy])]
  rfl
theorem values_lies {F : Fr} {g : Gh} {κ : Nat → Option Tok} {H : List AB} {w : World} {cap : List AV} {rcap : List Value} {xss : List (List AV)} (h : toldValues cap H = some xss) (hs : SW F g κ H w) (hv : VRs g cap rcap) :
  ∃ (Bs : Nat) (xs : List AV), xss = xs.map (fun x => [x]) ∧ i64s xs = true ∧ xs.length ≤ 17592186043904 ∧ rcap = [.pointer (some ⟨Bs, 0, none⟩)] ∧
   ((xs = [] ∧ w.cell? ⟨Bs, 0, none⟩ = some (.slice none 0 0)) ∨ ∃ b off cap, w.cell? ⟨Bs, 0, none⟩ = some (.slice (some ⟨b, off, none⟩) xs.length cap) ∧ ∀ (k : Nat) (n : Int), xs[k]? = some (.v (.int .i64 n)) → g.I b (off + k) = some (.int .i64 n)) := by
 unfold toldValues at h
 split at h
 case h_2 => cases h
 rename_i _ b0
 split at h
 case h_2 => cases h
 rename_i t xs tl hb
 split at h
 case h_2 => cases h
 rename_i hc
 simp only [Option.some.injEq] at h
 subst h
 simp only [Bool.and_eq_true] at hc
 obtain ⟨r, rs, rfl, h1, h2⟩ := hv.head
 have hrs : rs = [] := List.length_eq_zero_iff.1 h2.1.symm
 subst hrs
 cases h1 with
 | @ptr _ _ rb hρ =>
 rw [nth_eq] at hb
 obtain ⟨rb', o, q1, q2, q3, _⟩ := hs.blk b0 _ hb rfl
 rw [hρ] at q1; cases q1
 cases o with
 | cells rcs e fz =>
  obtain ⟨_, hle, hcs, _⟩ := q3
  have hlt : 0 < rcs.size := hle
  have hcell : w.cell? ⟨rb, 0, none⟩ = some rcs[0] := by
   simp only [World.cell?, q2]
   simp [hlt]
  have hvr := hcs 0 (.sl xs tl) rcs[0] rfl (by simp [hlt])
  refine ⟨rb, xs, rfl, hc.1, Nat.le_of_ble_eq_true hc.2, rfl, ?_⟩
  rw [hcell]
  generalize rcs[0] = r at hvr
  cases hvr with
  | nil => exact .inl ⟨rfl, rfl⟩
  | @sl _ _ b o cap sz rs ht hsz hcl h1 hn hf hi h =>
   refine .inr ⟨b, o, cap, rfl, fun k n hk => ?_⟩
   have hflat : xs.flatMap AV.cells = xs := by
    have : ∀ x ∈ xs, AV.cells x = [x] := fun x hx => by
     obtain ⟨k, hk⟩ := List.mem_iff_getElem?.1 hx
     obtain ⟨n, rfl⟩ := i64s_get hc.1 hk
     rfl
    exact flat_one xs this
   rw [hflat] at hi h
   rw [hi k _ hk]
   have := h k _ hk
   generalize rs k = v at this
   cases this
   rfl
 | _ => exact q3.elim
end Go.Tm
