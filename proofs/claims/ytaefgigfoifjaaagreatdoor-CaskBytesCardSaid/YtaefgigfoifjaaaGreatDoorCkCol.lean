/- slices.Collect over maps.Keys at the cask's program: the library's contracts, laid here. -/
import Derived.Shelf.SlIter.Nil
import Derived.Test.YtaefgigfoifjaaaGreatDoorCkLayK
import Derived.Test.YtaefgigfoifjaaaGreatDoorProg
set_option linter.unusedVariables false
set_option linter.unusedSimpArgs false
set_option linter.unusedSectionVars false
namespace Go.Proofs
open Go.RowKit Go.Maps Go.Sort Go.Shelf


theorem Tryz.collect_124 (w : World) (Bm b : Nat) (D0 : DataW Unit) (R : Value → Option (DataW Unit × List MemPlace)) (hBm : Bm < w.heap.size) (hm : w.cell? ⟨Bm, 0, none⟩ = some (.map (some b))) (hown : w.ownsMap Tryz.prog 9 R b 1 D0) (hsz : Maps.size D0 ≤ 1) :
  Calls Tryz.prog 122 #[.func (.func 124) #[] #[.pointer (some ⟨Bm, 0, none⟩)]] w fun e w' => ∃ (v : Value) (ss : List (List UInt8)), e = .returned v ∧ ss.Perm (strKeys D0) ∧ w'.ownsRow w.heap.size 9 1 v ss.length (ss.map encStr) ∧ (v = .slice none 0 0 ↔ ss = []) ∧ Below w.heap.size w w' := by
 have hseq : SeqGives Fence.wide 2 Tryz.prog 124 #[.pointer (some ⟨Bm, 0, none⟩)] encStr (fun ss => ss.Perm (strKeys D0)) (Maps.size D0) w :=
  AnyZ.keys_gives (ρ := Tryz.keysA_ren) { Tryz.keysA with } Fence.wide _ trivial rfl (by omega) Bm b 1 D0 w hBm hm hown
 have cS := AnyZ.collect_in Tryz.collectA Fence.wide 4 trivial trivial rfl (by omega) 124 #[.pointer (some ⟨Bm, 0, none⟩)] trivial (enters_of Tryz.func124 (by kernel_rfl) rfl) _ _ (by unfold maxLen; omega) (by omega) _ hseq
 exact (callsIn_wide (n := 4)).1 cS
theorem Tryz.collect_127 (w : World) (Bm b : Nat) (D0 : DataW Unit) (R : Value → Option (DataW Unit × List MemPlace)) (hBm : Bm < w.heap.size) (hm : w.cell? ⟨Bm, 0, none⟩ = some (.map (some b))) (hown : w.ownsMap Tryz.prog 9 R b 1 D0) (hsz : Maps.size D0 ≤ 1) :
  Calls Tryz.prog 122 #[.func (.func 127) #[] #[.pointer (some ⟨Bm, 0, none⟩)]] w fun e w' => ∃ (v : Value) (ss : List (List UInt8)), e = .returned v ∧ ss.Perm (strKeys D0) ∧ w'.ownsRow w.heap.size 9 1 v ss.length (ss.map encStr) ∧ (v = .slice none 0 0 ↔ ss = []) ∧ Below w.heap.size w w' := by
 have hseq : SeqGives Fence.wide 2 Tryz.prog 127 #[.pointer (some ⟨Bm, 0, none⟩)] encStr (fun ss => ss.Perm (strKeys D0)) (Maps.size D0) w :=
  AnyZ.keys_gives (ρ := Tryz.keysB_ren) { Tryz.keysB with } Fence.wide _ trivial rfl (by omega) Bm b 1 D0 w hBm hm hown
 have cS := AnyZ.collect_in Tryz.collectA Fence.wide 4 trivial trivial rfl (by omega) 127 #[.pointer (some ⟨Bm, 0, none⟩)] trivial (enters_of Tryz.func127 (by kernel_rfl) rfl) _ _ (by unfold maxLen; omega) (by omega) _ hseq
 exact (callsIn_wide (n := 4)).1 cS
theorem Tryz.collect_nil_124 (w : World) (Bm : Nat) (hBm : Bm < w.heap.size) (hm : w.cell? ⟨Bm, 0, none⟩ = some (.map none)) :
  Calls Tryz.prog 122 #[.func (.func 124) #[] #[.pointer (some ⟨Bm, 0, none⟩)]] w fun e w' => e = .returned (.slice none 0 0) ∧ Below w.heap.size w w' := by
 have hseq : SeqGives Fence.wide 2 Tryz.prog 124 #[.pointer (some ⟨Bm, 0, none⟩)] encStr (fun ss : List (List UInt8) => ss = []) 0 w :=
  AnyZ.keys_gives_nil (ρ := Tryz.keysA_ren) { Tryz.keysA with } Fence.wide _ trivial rfl Bm w hBm hm
 have cS := AnyZ.collect_in Tryz.collectA Fence.wide 4 trivial trivial rfl (by omega) 124 #[.pointer (some ⟨Bm, 0, none⟩)] trivial (enters_of Tryz.func124 (by kernel_rfl) rfl) _ 0 (Nat.zero_le _) (by omega) _ hseq
 refine ((callsIn_wide (n := 4)).1 cS).mono fun e w' q => ?_
 obtain ⟨v, ss, rfl, h1, _, h2, h3⟩ := q
 obtain rfl := h2.2 h1
 exact ⟨rfl, h3⟩
theorem Tryz.collect_nil_127 (w : World) (Bm : Nat) (hBm : Bm < w.heap.size) (hm : w.cell? ⟨Bm, 0, none⟩ = some (.map none)) :
  Calls Tryz.prog 122 #[.func (.func 127) #[] #[.pointer (some ⟨Bm, 0, none⟩)]] w fun e w' => e = .returned (.slice none 0 0) ∧ Below w.heap.size w w' := by
 have hseq : SeqGives Fence.wide 2 Tryz.prog 127 #[.pointer (some ⟨Bm, 0, none⟩)] encStr (fun ss : List (List UInt8) => ss = []) 0 w :=
  AnyZ.keys_gives_nil (ρ := Tryz.keysB_ren) { Tryz.keysB with } Fence.wide _ trivial rfl Bm w hBm hm
 have cS := AnyZ.collect_in Tryz.collectA Fence.wide 4 trivial trivial rfl (by omega) 127 #[.pointer (some ⟨Bm, 0, none⟩)] trivial (enters_of Tryz.func127 (by kernel_rfl) rfl) _ 0 (Nat.zero_le _) (by omega) _ hseq
 refine ((callsIn_wide (n := 4)).1 cS).mono fun e w' q => ?_
 obtain ⟨v, ss, rfl, h1, _, h2, h3⟩ := q
 obtain rfl := h2.2 h1
 exact ⟨rfl, h3⟩
end Go.Proofs
