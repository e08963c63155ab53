/- slices.Collect and slices.Sorted over maps.Keys at the swap's program: the library's contracts, laid here. -/
import Derived.Test.YtdnpmgbpnkjikaaGreatDoorTmSwapLayPlain
set_option linter.unusedVariables false
set_option linter.unusedSimpArgs false
set_option linter.unusedSectionVars false
namespace Go.Proofs
open Go.RowKit Go.Maps Go.Sort Go.Shelf

theorem Tryz.sortsA (m : Nat) : AnyZ.SortsIn Tryz.prog Tryz.sortedA_ren Fence.wide m :=
  ⟨fun blk off cap ss W hH hblk hsz => callsIn_wide.2 (AnyM.slices_Sort_string Tryz.sortA blk off cap ss W hH hblk hsz),
   fun p cap W => callsIn_wide.2 (AnyM.slices_Sort_string_none Tryz.sortA p cap W)⟩

theorem Tryz.gives_73 (w : World) (Bm b n : Nat) (D0 : DataW Unit) (R : Value → Option (DataW Unit × List MemPlace)) (hBm : Bm < w.heap.size) (hm : w.cell? ⟨Bm, 0, none⟩ = some (.map (some b))) (hown : w.ownsMap Tryz.prog 9 R b n D0) :
    SeqGives Fence.wide 2 Tryz.prog 73 #[.pointer (some ⟨Bm, 0, none⟩)] encStr (fun ss => ss.Perm (strKeys D0)) (Maps.size D0) w :=
  AnyZ.keys_gives (ρ := Tryz.keysA_ren) { Tryz.keysA with } Fence.wide _ trivial rfl (by omega) Bm b n D0 w hBm hm hown
theorem Tryz.gives_nil_73 (w : World) (Bm : Nat) (hBm : Bm < w.heap.size) (hm : w.cell? ⟨Bm, 0, none⟩ = some (.map none)) :
    SeqGives Fence.wide 2 Tryz.prog 73 #[.pointer (some ⟨Bm, 0, none⟩)] encStr (fun ss : List (List UInt8) => ss = []) 0 w :=
  AnyZ.keys_gives_nil (ρ := Tryz.keysA_ren) { Tryz.keysA with } Fence.wide _ trivial rfl Bm w hBm hm
theorem Tryz.collect_73 (w : World) (Bm b : Nat) (D0 : DataW Unit) (R : Value → Option (DataW Unit × List MemPlace)) (hBm : Bm < w.heap.size) (hm : w.cell? ⟨Bm, 0, none⟩ = some (.map (some b))) (hown : w.ownsMap Tryz.prog 9 R b 1 D0) (hsz : Maps.size D0 ≤ 1) :
    Calls Tryz.prog 71 #[.func (.func 73) #[] #[.pointer (some ⟨Bm, 0, none⟩)]] w fun e w' => ∃ (v : Value) (ss : List (List UInt8)), e = .returned v ∧ ss.Perm (strKeys D0) ∧ w'.ownsRow w.heap.size 9 1 v ss.length (ss.map encStr) ∧ (v = .slice none 0 0 ↔ ss = []) ∧ Below w.heap.size w w' := by
  have cS := AnyZ.collect_in Tryz.collectA Fence.wide 4 trivial trivial rfl (by omega) 73 #[.pointer (some ⟨Bm, 0, none⟩)] trivial (enters_of Tryz.func73 (by kernel_rfl) rfl) _ _ (by unfold maxLen; omega) (by omega) _ (Tryz.gives_73 w Bm b 1 D0 R hBm hm hown)
  exact (callsIn_wide (n := 4)).1 cS
theorem Tryz.collect_nil_73 (w : World) (Bm : Nat) (hBm : Bm < w.heap.size) (hm : w.cell? ⟨Bm, 0, none⟩ = some (.map none)) :
    Calls Tryz.prog 71 #[.func (.func 73) #[] #[.pointer (some ⟨Bm, 0, none⟩)]] w fun e w' => e = .returned (.slice none 0 0) ∧ Below w.heap.size w w' := by
  have cS := AnyZ.collect_in Tryz.collectA Fence.wide 4 trivial trivial rfl (by omega) 73 #[.pointer (some ⟨Bm, 0, none⟩)] trivial (enters_of Tryz.func73 (by kernel_rfl) rfl) _ 0 (Nat.zero_le _) (by omega) _ (Tryz.gives_nil_73 w Bm hBm hm)
  refine ((callsIn_wide (n := 4)).1 cS).mono fun e w' q => ?_
  obtain ⟨v, ss, rfl, h1, _, h2, h3⟩ := q
  obtain rfl := h2.2 h1
  exact ⟨rfl, h3⟩
set_option maxRecDepth 100000 in
theorem Tryz.sorted_73 (w : World) (Bm b n : Nat) (D0 : DataW Unit) (R : Value → Option (DataW Unit × List MemPlace)) (hBm : Bm < w.heap.size) (hm : w.cell? ⟨Bm, 0, none⟩ = some (.map (some b))) (hown : w.ownsMap Tryz.prog 9 R b n D0) (hsz : Maps.size D0 ≤ 1000000) :
    Calls Tryz.prog 45 #[.func (.func 73) #[] #[.pointer (some ⟨Bm, 0, none⟩)]] w fun e w' => ∃ (v : Value) (ss : List (List UInt8)), e = .returned v ∧ ss.Perm (strKeys D0) ∧ w'.ownsRow w.heap.size 9 1 v ss.length ((ss.mergeSort (fun x y => decide (x ≤ y))).map encStr) ∧ (v = .slice none 0 0 ↔ ss = []) ∧ Below w.heap.size w w' := by
  have cS := AnyZ.sorted_in Tryz.sortedA Fence.wide 5 trivial trivial trivial trivial rfl (by omega) (Tryz.sortsA _) (enters_of Tryz.func72 (by kernel_rfl) rfl) 73 #[.pointer (some ⟨Bm, 0, none⟩)] trivial (enters_of Tryz.func73 (by kernel_rfl) rfl) _ _ (by unfold maxLen; omega) (by omega) _ (Tryz.gives_73 w Bm b n D0 R hBm hm hown)
  exact (callsIn_wide (n := 5)).1 cS
set_option maxRecDepth 100000 in
theorem Tryz.sorted_nil_73 (w : World) (Bm : Nat) (hBm : Bm < w.heap.size) (hm : w.cell? ⟨Bm, 0, none⟩ = some (.map none)) :
    Calls Tryz.prog 45 #[.func (.func 73) #[] #[.pointer (some ⟨Bm, 0, none⟩)]] w fun e w' => e = .returned (.slice none 0 0) ∧ Below w.heap.size w w' := by
  have cS := AnyZ.sorted_in Tryz.sortedA Fence.wide 5 trivial trivial trivial trivial rfl (by omega) (Tryz.sortsA _) (enters_of Tryz.func72 (by kernel_rfl) rfl) 73 #[.pointer (some ⟨Bm, 0, none⟩)] trivial (enters_of Tryz.func73 (by kernel_rfl) rfl) _ 0 (Nat.zero_le _) (by omega) _ (Tryz.gives_nil_73 w Bm hBm hm)
  refine ((callsIn_wide (n := 5)).1 cS).mono fun e w' q => ?_
  obtain ⟨v, ss, rfl, h1, _, h2, h3⟩ := q
  obtain rfl := h2.2 h1
  exact ⟨rfl, h3⟩

end Go.Proofs
