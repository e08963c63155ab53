/- The tree machine: slices.Sorted over maps.Keys, told: the keys in order, as a new row; what the library's contract says is a hypothesis here. And files' Used. -/
import Derived.Test.YtdnpmgbpnkjikaaGreatDoorTmCollect
set_option linter.unusedVariables false
set_option linter.unusedSimpArgs false
set_option linter.unusedSectionVars false
namespace Go.Tm
open Go.Proofs (encStr)
open Go.RowKit (Below)

/-! ### Texts in order -/
def strLe : List UInt8 → List UInt8 → Bool
  | [], _ => true
  | _ :: _, [] => false
  | x :: r, y :: q => match Nat.blt x.toNat y.toNat with
    | true => true
    | false => match Nat.beq x.toNat y.toNat with
      | true => strLe r q
      | false => false
theorem strLe_eq : ∀ (a b : List UInt8), strLe a b = decide (a ≤ b)
  | [], b => by simp [strLe]
  | x :: r, [] => by simp [strLe]
  | x :: r, y :: q => by
    unfold strLe
    rw [Bool.eq_iff_iff, decide_eq_true_eq, List.cons_le_cons_iff]
    cases h : Nat.blt x.toNat y.toNat with
    | true =>
      have : x < y := UInt8.lt_iff_toNat_lt.2 (Nat.le_of_ble_eq_true h)
      simp [this]
    | false =>
      have hn : ¬ x < y := fun q => by
        have : Nat.blt x.toNat y.toNat = true := Nat.ble_eq_true_of_le (UInt8.lt_iff_toNat_lt.1 q)
        rw [h] at this; cases this
      cases e : Nat.beq x.toNat y.toNat with
      | true =>
        have : x = y := UInt8.toNat_inj.1 (Nat.eq_of_beq_eq_true e)
        subst this
        simp [hn, strLe_eq r q]
      | false =>
        have : x ≠ y := fun q => by subst q; simp at e
        simp [hn, this]
def insStr (x : List UInt8) : List (List UInt8) → List (List UInt8)
  | [] => [x]
  | y :: r => match strLe x y with
    | true => x :: y :: r
    | false => y :: insStr x r
def sortStr : List (List UInt8) → List (List UInt8)
  | [] => []
  | x :: r => insStr x (sortStr r)
theorem insStr_perm (x : List UInt8) : ∀ l, (insStr x l).Perm (x :: l)
  | [] => .refl _
  | y :: r => by
    unfold insStr
    cases strLe x y with
    | true => exact .refl _
    | false => exact ((insStr_perm x r).cons y).trans (.swap x y r)
theorem sortStr_perm : ∀ l, (sortStr l).Perm l
  | [] => .refl _
  | x :: r => (insStr_perm x _).trans ((sortStr_perm r).cons x)
theorem insStr_sorted (x : List UInt8) : ∀ l : List (List UInt8), l.Pairwise (fun a b => a ≤ b) → (insStr x l).Pairwise (fun a b => a ≤ b)
  | [], _ => by simp [insStr]
  | y :: r, h => by
    unfold insStr
    obtain ⟨h1, h2⟩ := List.pairwise_cons.1 h
    cases hxy : strLe x y with
    | true =>
      rw [strLe_eq, decide_eq_true_eq] at hxy
      refine List.pairwise_cons.2 ⟨fun z hz => ?_, h⟩
      rcases List.mem_cons.1 hz with rfl | hz
      · exact hxy
      · exact List.le_trans hxy (h1 z hz)
    | false =>
      rw [strLe_eq, decide_eq_false_iff_not] at hxy
      have hyx : y ≤ x := (List.le_total x y).resolve_left hxy
      refine List.pairwise_cons.2 ⟨fun z hz => ?_, insStr_sorted x r h2⟩
      rcases List.mem_cons.1 ((insStr_perm x r).mem_iff.1 hz) with rfl | hz
      · exact hyx
      · exact h1 z hz
theorem sortStr_sorted : ∀ l, (sortStr l).Pairwise (fun a b => a ≤ b)
  | [] => .nil
  | x :: r => insStr_sorted x _ (sortStr_sorted r)
theorem sortStr_eq {l ss : List (List UInt8)} (h : ss.Perm l) : ss.mergeSort (fun x y => decide (x ≤ y)) = sortStr l := by
  have tr : ∀ a b c : List UInt8, decide (a ≤ b) = true → decide (b ≤ c) = true → decide (a ≤ c) = true := fun a b c h1 h2 => by simp only [decide_eq_true_eq] at *; exact List.le_trans h1 h2
  have to : ∀ a b : List UInt8, (decide (a ≤ b) || decide (b ≤ a)) = true := fun a b => by simp only [Bool.or_eq_true, decide_eq_true_eq]; exact List.le_total a b
  have hs := List.pairwise_mergeSort (le := fun x y => decide (x ≤ y)) tr to ss
  refine List.Perm.eq_of_pairwise (le := fun a b => a ≤ b) (fun a b _ _ h1 h2 => List.le_antisymm h1 h2) (hs.imp fun h => by simpa using h) (sortStr_sorted l) (((List.mergeSort_perm ss _).trans h).trans (sortStr_perm l).symm)

/-- No number twice; no text twice. -/
def nodupN : List Nat → Bool
  | [] => true
  | x :: r => !r.contains x && nodupN r
theorem nodupN_ok : ∀ {l : List Nat}, nodupN l = true → l.Nodup
  | [], _ => .nil
  | x :: r, h => by
    simp only [nodupN, Bool.and_eq_true, Bool.not_eq_true'] at h
    exact List.nodup_cons.2 ⟨by simpa using h.1, nodupN_ok h.2⟩
def nodupS : List (List UInt8) → Bool
  | [] => true
  | x :: r => !r.contains x && nodupS r
theorem nodupS_ok : ∀ {l : List (List UInt8)}, nodupS l = true → l.Nodup
  | [], _ => .nil
  | x :: r, h => by
    simp only [nodupS, Bool.and_eq_true, Bool.not_eq_true'] at h
    exact List.nodup_cons.2 ⟨by simpa using h.1, nodupS_ok h.2⟩

def keyStr (e : AV × AV × Nat) : Option (List UInt8) := match e.1 with
  | .str s => some s
  | _ => none

def toldSorted (gs : List FuncId) (strT : TypeId) : List AV → List AB → Option (AV × List AB)
  | [.func (.func h) [] [.ptr b 0]], H => match gs.contains h with
    | false => none
    | true => match nth H b with
      | some (.cells _ [.map r]) => match nth H r with
        | some (.map [] _) => some (.sl [] .nil, H)
        | some (.map es _) => match mapO keyStr es with
          | none => none
          | some ks => match nodupN (es.map fun e => e.2.2) && nodupS ks && ks.all (fun s => decide (s.length ≤ maxLen)) && decide (ks.length ≤ 1000000) with
            | true => some (.ms H.length 0 ks.length 1, H ++ [.cells (strT, false) ((sortStr ks).map .str)])
            | false => none
        | _ => none
      | some (.cells _ [.v (.map none)]) => some (.sl [] .nil, H)
      | _ => none
  | _, _ => none

section
variable {K : Cfg} {f : FuncId} {H : List AB} {g : Gh} {w : World}

/-- A box that holds a map. -/
theorem box_map {F : Fr} {κ : Nat → Option Tok} (hs : SW F g κ H w) {b rb rm : Nat} {tt : TypeId × Bool} {rest : List AV} (hrb : g.ρ b = some rb) (hnb : nth H b = some (.cells tt (.map rm :: rest))) : ∃ rmb, g.ρ rm = some rmb ∧ w.cell? ⟨rb, 0, none⟩ = some (.map (some rmb)) ∧ rb < w.heap.size := by
  rw [nth_eq] at hnb
  obtain ⟨rb', o, h1, h2, h3, h4⟩ := hs.blk b _ hnb rfl
  rw [hrb] at h1
  cases h1
  cases o <;> try (exact h3.elim)
  rename_i rcs e fz
  obtain ⟨_, hle, hcells, _⟩ := h3
  have hlt0 : 0 < rcs.size := by simp at hle; omega
  obtain ⟨rv, hrv⟩ : ∃ rv, rcs.toList[0]? = some rv := ⟨rcs.toList[0]'(by simpa using hlt0), by simp [hlt0]⟩
  have hvr := hcells 0 _ _ rfl hrv
  cases hvr with
  | map hrm =>
    refine ⟨_, hrm, ?_, lt_of_some h2⟩
    simp only [World.cell?, h2]
    simpa using hrv
theorem box_nil {F : Fr} {κ : Nat → Option Tok} (hs : SW F g κ H w) {b rb : Nat} {tt : TypeId × Bool} {rest : List AV} (hrb : g.ρ b = some rb) (hnb : nth H b = some (.cells tt (.v (.map none) :: rest))) : w.cell? ⟨rb, 0, none⟩ = some (.map none) ∧ rb < w.heap.size := by
  rw [nth_eq] at hnb
  obtain ⟨rb', o, h1, h2, h3, h4⟩ := hs.blk b _ hnb rfl
  rw [hrb] at h1
  cases h1
  cases o <;> try (exact h3.elim)
  rename_i rcs e fz
  obtain ⟨_, hle, hcells, _⟩ := h3
  have hlt0 : 0 < rcs.size := by simp at hle; omega
  obtain ⟨rv, hrv⟩ : ∃ rv, rcs.toList[0]? = some rv := ⟨rcs.toList[0]'(by simpa using hlt0), by simp [hlt0]⟩
  obtain ⟨rfl, _⟩ := vr_v (hcells 0 _ _ rfl hrv)
  refine ⟨?_, lt_of_some h2⟩
  simp only [World.cell?, h2]
  simpa using hrv
theorem map_block {F : Fr} {κ : Nat → Option Tok} (hs : SW F g κ H w) {rm rmb : Nat} {es : List (AV × AV × Nat)} {clock : Nat} (hrm : g.ρ rm = some rmb) (hn : nth H rm = some (.map es clock)) :
    ∃ (res : Array MapEntry), w.heap[rmb]? = some (.map res clock) ∧ es.length = res.size ∧ ∀ (i : Nat) (k x : AV) (b : Nat) (e : MapEntry), es[i]? = some (k, x, b) → res.toList[i]? = some e → VR g k e.key ∧ VR g x e.val ∧ e.born = b ∧ b < clock := by
  rw [nth_eq] at hn
  obtain ⟨rb', o, q1, q2, q3, q6⟩ := hs.blk rm _ hn rfl
  rw [hrm] at q1
  cases q1
  cases o <;> try (exact q3.elim)
  rename_i res rc
  obtain ⟨rfl, q4, q5⟩ := q3
  exact ⟨res, q2, q4, q5⟩

/-- Entries one behind the other. -/
theorem borns_eq {es : List (AV × AV × Nat)} {res : Array MapEntry} {clock : Nat} (hl : es.length = res.size) (h : ∀ (i : Nat) (k x : AV) (b : Nat) (e : MapEntry), es[i]? = some (k, x, b) → res.toList[i]? = some e → VR g k e.key ∧ VR g x e.val ∧ e.born = b ∧ b < clock) :
    res.toList.map (·.born) = es.map (fun e => e.2.2) := by
  apply List.ext_getElem?
  intro i
  simp only [List.getElem?_map]
  by_cases hi : i < es.length
  · obtain ⟨⟨k, x, b⟩, he⟩ : ∃ y, es[i]? = some y := ⟨es[i], by simp [hi]⟩
    obtain ⟨e, hr⟩ : ∃ e, res.toList[i]? = some e := ⟨res.toList[i]'(by rw [Array.length_toList]; omega), by simp⟩
    rw [he, hr]
    simp [(h i k x b e he hr).2.2.1]
  · have e1 : res.toList[i]? = none := List.getElem?_eq_none (by rw [Array.length_toList]; omega)
    have e2 : es[i]? = none := List.getElem?_eq_none (by omega)
    rw [e1, e2]
    rfl
theorem keys_eq {es : List (AV × AV × Nat)} {res : Array MapEntry} {clock : Nat} {ks : List (List UInt8)} (hk : mapO keyStr es = some ks) (hl : es.length = res.size) (h : ∀ (i : Nat) (k x : AV) (b : Nat) (e : MapEntry), es[i]? = some (k, x, b) → res.toList[i]? = some e → VR g k e.key ∧ VR g x e.val ∧ e.born = b ∧ b < clock) :
    res.toList.map (·.key) = ks.map (fun s => Value.string ⟨⟨s⟩⟩) := by
  apply List.ext_getElem?
  intro i
  simp only [List.getElem?_map]
  have hlen := mapO_len hk
  by_cases hi : i < es.length
  · obtain ⟨⟨k, x, b⟩, he⟩ : ∃ y, es[i]? = some y := ⟨es[i], by simp [hi]⟩
    obtain ⟨e, hr⟩ : ∃ e, res.toList[i]? = some e := ⟨res.toList[i]'(by rw [Array.length_toList]; omega), by simp⟩
    obtain ⟨s, hs1, hs2⟩ := mapO_get hk i _ he
    rw [hs2, hr]
    unfold keyStr at hs1
    cases k <;> try (simp at hs1; done)
    simp at hs1
    subst hs1
    have hkey := (h i _ x b e he hr).1
    rename_i t
    have hek : e.key = .string ⟨⟨t⟩⟩ := by
      generalize e.key = z at hkey
      cases hkey
      rfl
    simp [hek]
  · have e1 : res.toList[i]? = none := List.getElem?_eq_none (by rw [Array.length_toList]; omega)
    have e2 : ks[i]? = none := List.getElem?_eq_none (by omega)
    rw [e1, e2]
    rfl

theorem sorted_told {gs : List FuncId} {strT : TypeId} (hstr : K.P.underlying strT = some .string) (henter : ∀ (args : Array Value) (w : World), (callFunc f args).run K.P w = .ok (.enter f args) w)
    (hcol : ∀ h ∈ gs, ∀ (w : World) (Bm b n : Nat) (D0 : DataW Unit), Bm < w.heap.size → w.cell? ⟨Bm, 0, none⟩ = some (.map (some b)) → w.ownsMap K.P strT anyRead b n D0 → Maps.size D0 ≤ 1000000 →
      Calls K.P f #[.func (.func h) #[] #[.pointer (some ⟨Bm, 0, none⟩)]] w fun e w' => ∃ (v : Value) (ss : List (List UInt8)), e = .returned v ∧ ss.Perm (strKeys D0) ∧ w'.ownsRow w.heap.size strT 1 v ss.length ((ss.mergeSort (fun x y => decide (x ≤ y))).map encStr) ∧ (v = .slice none 0 0 ↔ ss = []) ∧ Below w.heap.size w w')
    (hnil : ∀ h ∈ gs, ∀ (w : World) (Bm : Nat), Bm < w.heap.size → w.cell? ⟨Bm, 0, none⟩ = some (.map none) →
      Calls K.P f #[.func (.func h) #[] #[.pointer (some ⟨Bm, 0, none⟩)]] w fun e w' => e = .returned (.slice none 0 0) ∧ Below w.heap.size w w')
    {args : List AV} {r : AV} {H H' : List AB} (h : toldSorted gs strT args H = some (r, H')) : CallOk K f args H r H' := by
  intro g w rargs hg hs hv
  unfold toldSorted at h
  split at h
  · rename_i fid b
    split at h
    · cases h
    · rename_i hmem
      have hmem' : fid ∈ gs := by simpa using hmem
      obtain ⟨v, rfl, hx⟩ := one_arg hv
      obtain ⟨rb, hrb, rfl⟩ := vr_func1 hx
      split at h
      · rename_i tt rm hnb
        obtain ⟨rmb, hrm, hcell, hBm⟩ := box_map hs hrb hnb
        split at h
        · -- no key
          rename_i clock hn
          obtain ⟨res, q2, q4, _⟩ := map_block hs hrm hn
          simp only [Option.some.injEq, Prod.mk.injEq] at h
          obtain ⟨rfl, rfl⟩ := h
          have hres : res = #[] := by
            apply Array.eq_empty_of_size_eq_zero
            simpa using q4.symm
          subst hres
          have hown : w.ownsMap K.P strT anyRead rmb 1 (.map []) := ⟨#[], clock, q2, ⟨by simp, ⟨by simp, by simp, by simp⟩, by simp⟩, by simp, rfl⟩
          refine .inl ⟨henter _ w, (hcol fid hmem' w rb rmb 1 _ hBm hcell hown (by simp [Maps.size])).mono fun e w' q => ?_⟩
          obtain ⟨v, ss, rfl, hp, _, hnl, hb⟩ := q
          have hss : ss = [] := List.Perm.eq_nil hp
          obtain rfl := hnl.2 hss
          exact ⟨g, hs.below hb, .nil⟩
        · -- keys
          rename_i es clock hne hn
          obtain ⟨res, q2, q4, q5⟩ := map_block hs hrm hn
          split at h
          · cases h
          · rename_i ks hks
            split at h
            · rename_i hall
              simp only [Bool.and_eq_true, decide_eq_true_eq] at hall
              obtain ⟨⟨⟨hb1, hb2⟩, hb3⟩, hb4⟩ := hall
              simp only [Option.some.injEq, Prod.mk.injEq] at h
              obtain ⟨rfl, rfl⟩ := h
              have hborn := borns_eq q4 q5
              have hkeys := keys_eq hks q4 q5
              have hksl : ks.length = res.size := by rw [← q4, mapO_len hks]
              have hrd : ∀ x ∈ res.toList, ∃ s, s.length ≤ maxLen ∧ Go.WideElems.rd K.P strT anyRead x = some (.string s, .nil) ∧ x.key = .string ⟨⟨s⟩⟩ := by
                intro x hx
                have hxk : x.key ∈ res.toList.map (·.key) := List.mem_map_of_mem hx
                rw [hkeys] at hxk
                obtain ⟨s, hs1, hs2⟩ := List.mem_map.1 hxk
                have hlen : s.length ≤ maxLen := by simpa using List.all_eq_true.1 hb3 s hs1
                refine ⟨s, hlen, ?_, hs2.symm⟩
                simp only [Go.WideElems.rd, ← hs2, Go.WideMaps.keyOf_string_mk hstr (s := ⟨⟨s⟩⟩) (show (⟨⟨s⟩⟩ : ByteArray).size ≤ maxLen from hlen)]
                rfl
              have hown : w.ownsMap K.P strT anyRead rmb res.size (.map ((res.toList.map (Go.WideElems.rg K.P strT anyRead)).foldr DataW.insert [])) := by
                refine ⟨res, clock, q2, ⟨by unfold maxLen; omega, ⟨fun y hy => ?_, by rw [hborn]; exact nodupN_ok hb1, ?_⟩, fun x hx => ?_⟩, Nat.le_refl _, rfl⟩
                · obtain ⟨i, hi, rfl⟩ := List.mem_iff_getElem.1 hy
                  have hi' : i < es.length := by simp at hi; omega
                  have := q5 i es[i].1 es[i].2.1 es[i].2.2 (res.toList[i]) (by simp [hi']) (by simp at hi; simp [hi])
                  omega
                · rw [hkeys]
                  exact (nodupS_ok hb2).map _ fun a b hab e => hab (by simpa using e)
                · obtain ⟨s, _, h2, _⟩ := hrd x hx
                  exact ⟨_, h2⟩
              have hperm : (strKeys (.map ((res.toList.map (Go.WideElems.rg K.P strT anyRead)).foldr DataW.insert []) : DataW Unit)).Perm ks := by
                have h1 := (Go.WideShapes.sorted_perm (H := Unit) (res.toList.map (Go.WideElems.rg K.P strT anyRead))).map fun p => strOf p.1
                refine h1.trans ?_
                have : ((res.toList.map (Go.WideElems.rg (H := Unit) K.P strT anyRead)).map fun p => strOf p.1) = ks := by
                  rw [List.map_map]
                  have e2 : res.toList.map ((fun p : Lit × DataW Unit => strOf p.1) ∘ Go.WideElems.rg K.P strT anyRead) = (res.toList.map (·.key)).map fun v => match v with | .string s => s.data.toList | _ => [] := by
                    rw [List.map_map]
                    apply List.map_congr_left
                    intro x hx
                    obtain ⟨s, _, h2, h3⟩ := hrd x hx
                    simp [Go.WideElems.rg, h2, strOf, h3]
                  rw [e2, hkeys, List.map_map]
                  simp [Function.comp_def]
                rw [this]
              have hsize : Maps.size (.map ((res.toList.map (Go.WideElems.rg K.P strT anyRead)).foldr DataW.insert []) : DataW Unit) ≤ 1000000 := by
                have := hperm.length_eq
                simp only [strKeys, List.length_map] at this
                simp only [Maps.size]
                omega
              refine .inl ⟨henter _ w, (hcol fid hmem' w rb rmb _ _ hBm hcell hown hsize).mono fun e w' q => ?_⟩
              obtain ⟨v, ss, rfl, hp, hrow, hnl, hb⟩ := q
              have hpk := hp.trans hperm
              have hsl : ss.length = ks.length := hpk.length_eq
              rw [sortStr_eq hpk] at hrow
              have hne' : ks ≠ [] := fun q => by
                subst q
                have : es = [] := List.eq_nil_of_length_eq_zero (by simpa using (mapO_len hks).symm)
                exact hne this
              rcases hrow.2 with ⟨_, hz⟩ | ⟨gb, cap, cur, rfl, hbase, hgb, r1, r2, r3, r4⟩
              · exact absurd (List.eq_nil_of_length_eq_zero (by omega)) hne'
              · have hbr : BRo (g.addBlk H.length gb (objLen (.cells cur strT (0, 0)))) (.cells (strT, false) ((sortStr ks).map .str)) (.cells cur strT (0, 0)) := by
                  have hsl2 : (sortStr ks).length = ks.length := (sortStr_perm ks).length_eq
                  refine ⟨rfl, by simp; omega, fun i x r p q => ?_, ?_, rfl, by simp⟩
                  · have hi : i < (sortStr ks).length := by
                      have := (List.getElem?_eq_some_iff.1 p).1
                      simpa using this
                    have hq : (cur.toList.take (ss.length * 1))[i]? = some r := by
                      rw [List.getElem?_take, if_pos (by omega)]; exact q
                    rw [r4, List.getElem?_map] at hq
                    rw [List.getElem?_map] at p
                    have hg : (sortStr ks)[i]? = some ((sortStr ks)[i]) := by simp [hi]
                    rw [hg] at p hq
                    simp only [Option.map_some, Option.some.injEq] at p hq
                    subst p
                    subst hq
                    exact .str
                  · simp [allOne, AV.one]
                rw [hsl] at *
                refine ⟨_, hs.bear hb hbase hgb _ hbr, .ms (by simp [Gh.addBlk]) ⟨?_, ?_⟩⟩
                · omega
                · simp [Gh.addBlk, objLen]
                  omega
            · cases h
        · cases h
      · -- the nil map
        rename_i tt hnb
        simp only [Option.some.injEq, Prod.mk.injEq] at h
        obtain ⟨rfl, rfl⟩ := h
        obtain ⟨hcell, hlt⟩ := box_nil hs hrb hnb
        refine .inl ⟨henter _ w, (hnil fid hmem' w rb hlt hcell).mono fun e w' q => ?_⟩
        obtain ⟨rfl, hb⟩ := q
        exact ⟨g, hs.below hb, .nil⟩
      · cases h
  · cases h

/-! ### files' Used -/
/-- How long the text is that lies where a pointer points. -/
def lenAt (w : World) (v : Value) : Int := match v with
  | .pointer (some a) => match w.cell? ⟨a.block, 0, none⟩ with
    | some (.string s) => s.size
    | _ => 0
  | _ => 0
def sumN : List Nat → Nat
  | [] => 0
  | x :: r => Nat.add x (sumN r)
def fileLen (H : List AB) (e : AV × AV × Nat) : Option Nat := match e.2.1 with
  | .ptr b 0 => match nth H b with
    | some (.cells _ (.str s :: _)) => some s.length
    | _ => none
  | _ => none
def toldUsed : List AV → List AB → Option (AV × List AB)
  | [.ptr b 0], H => match nth H b with
    | some (.cells _ (.map r :: _)) => match nth H r with
      | some (.map es _) => match mapO (fileLen H) es with
        | none => none
        | some ls => match nodupN (es.map fun e => e.2.2) && Nat.blt (sumN ls) 4611686018427387904 with
          | true => some (.v (.int .i64 (.ofNat (sumN ls))), H)
          | false => none
      | _ => none
    | some (.cells _ (.v (.map none) :: _)) => some (.v (.int .i64 (.ofNat 0)), H)
    | _ => none
  | _, _ => none

/-- A text at the head of a block. -/
theorem head_str {F : Fr} {κ : Nat → Option Tok} (hs : SW F g κ H w) {b rb : Nat} {tt : TypeId × Bool} {s : List UInt8} {rest : List AV} (hrb : g.ρ b = some rb) (hnb : nth H b = some (.cells tt (.str s :: rest))) : w.cell? ⟨rb, 0, none⟩ = some (.string ⟨⟨s⟩⟩) := by
  rw [nth_eq] at hnb
  obtain ⟨rb', o, h1, h2, h3, h4⟩ := hs.blk b _ hnb rfl
  rw [hrb] at h1
  cases h1
  cases o <;> try (exact h3.elim)
  rename_i rcs e fz
  obtain ⟨_, hle, hcells, _⟩ := h3
  have hlt0 : 0 < rcs.size := by simp at hle; omega
  obtain ⟨rv, hrv⟩ : ∃ rv, rcs.toList[0]? = some rv := ⟨rcs.toList[0]'(by simpa using hlt0), by simp [hlt0]⟩
  have hvr := hcells 0 _ _ rfl hrv
  cases hvr
  simp only [World.cell?, h2]
  simpa using hrv

theorem sum_cast : ∀ ls : List Nat, (ls.map fun (n : Nat) => (n : Int)).sum = ((sumN ls : Nat) : Int)
  | [] => rfl
  | x :: r => by
    rw [List.map_cons, List.sum_cons, sum_cast r]
    show (x : Int) + _ = ((x + sumN r : Nat) : Int)
    omega

theorem used_told (henter : ∀ (args : Array Value) (w : World), (callFunc f args).run K.P w = .ok (.enter f args) w)
    (hmap : ∀ (rb bm : Nat) (es : Array MapEntry) (clock : Nat) (w : World), w.cell? ⟨rb, 0, none⟩ = some (.map (some bm)) → w.heap[bm]? = some (.map es clock) → (∀ x ∈ es.toList, x.born < clock) → (es.toList.map (·.born)).Nodup →
      (∀ x ∈ es.toList, ∃ fb s, x.val = .pointer (some ⟨fb, 0, none⟩) ∧ w.cell? ⟨fb, 0, none⟩ = some (.string s)) →
      Calls K.P f #[.pointer (some ⟨rb, 0, none⟩)] w fun e w' => e = .returned (.int .i64 (Go.RowKit.wrap64 ((es.toList.map fun e => lenAt w e.val).sum))) ∧ Below w.heap.size w w')
    (hnil : ∀ (rb : Nat) (w : World), w.cell? ⟨rb, 0, none⟩ = some (.map none) → Calls K.P f #[.pointer (some ⟨rb, 0, none⟩)] w fun e w' => e = .returned (.int .i64 0) ∧ Below w.heap.size w w')
    {args : List AV} {r : AV} {H H' : List AB} (h : toldUsed args H = some (r, H')) : CallOk K f args H r H' := by
  intro g w rargs hg hs hv
  unfold toldUsed at h
  split at h
  · rename_i b
    obtain ⟨v, rfl, hx⟩ := one_arg hv
    cases hx with
    | ptr hrb =>
    rename_i rb
    split at h
    · rename_i tt rm rest hnb
      obtain ⟨rmb, hrm, hcell, _⟩ := box_map hs hrb hnb
      split at h
      · rename_i es clock hn
        obtain ⟨res, q2, q4, q5⟩ := map_block hs hrm hn
        split at h
        · cases h
        · rename_i ls hls
          split at h
          · rename_i hall
            simp only [Bool.and_eq_true] at hall
            simp only [Option.some.injEq, Prod.mk.injEq] at h
            obtain ⟨rfl, rfl⟩ := h
            have hborn := borns_eq q4 q5
            have hat : ∀ i (hi : i < res.toList.length), ∃ fb s n, res.toList[i].val = .pointer (some ⟨fb, 0, none⟩) ∧ w.cell? ⟨fb, 0, none⟩ = some (.string s) ∧ ls[i]? = some n ∧ lenAt w res.toList[i].val = n := by
              intro i hi
              have hi' : i < es.length := by rw [Array.length_toList] at hi; omega
              obtain ⟨⟨k, x, bn⟩, he⟩ : ∃ y, es[i]? = some y := ⟨es[i], by simp [hi']⟩
              have hq := q5 i k x bn res.toList[i] he (by simp at hi; simp [hi])
              obtain ⟨n, hn1, hn2⟩ := mapO_get hls i _ he
              unfold fileLen at hn1
              simp only at hn1
              cases x <;> try (simp at hn1; done)
              rename_i fb off
              cases off with
              | succ _ => simp at hn1
              | zero =>
                simp only at hn1
                split at hn1
                · rename_i tt2 s rest2 hfb
                  simp only [Option.some.injEq] at hn1
                  have hval := hq.2.1
                  have hv2 : ∃ rfb, g.ρ fb = some rfb ∧ res.toList[i].val = .pointer (some ⟨rfb, 0, none⟩) := by
                    generalize res.toList[i].val = z at hval
                    cases hval with
                    | ptr hb => exact ⟨_, hb, rfl⟩
                  obtain ⟨rfb, hr1, hr2⟩ := hv2
                  have hc := head_str hs hr1 hfb
                  refine ⟨rfb, _, n, hr2, hc, hn2, ?_⟩
                  rw [hr2]
                  simp only [lenAt, hc]
                  rw [← hn1]
                  rfl
                · cases hn1
            have hsum : (res.toList.map fun e => lenAt w e.val).sum = ((sumN ls : Nat) : Int) := by
              rw [← sum_cast]
              congr 1
              have hlen := mapO_len hls
              apply List.ext_getElem?
              intro i
              simp only [List.getElem?_map]
              by_cases hi : i < res.toList.length
              · obtain ⟨_, _, n, _, _, h3, h4⟩ := hat i hi
                rw [h3, List.getElem?_eq_getElem hi]
                exact congrArg some h4
              · have e1 : res.toList[i]? = none := List.getElem?_eq_none (by omega)
                have e2 : ls[i]? = none := List.getElem?_eq_none (by rw [Array.length_toList] at hi; omega)
                rw [e1, e2]
                rfl
            refine .inl ⟨henter _ w, (hmap rb rmb res clock w hcell q2 (fun x hx => ?_) (by rw [hborn]; exact nodupN_ok hall.1) (fun x hx => ?_)).mono fun e w' q => ?_⟩
            · obtain ⟨i, hi, rfl⟩ := List.mem_iff_getElem.1 hx
              have hi' : i < es.length := by rw [Array.length_toList] at hi; omega
              have := q5 i es[i].1 es[i].2.1 es[i].2.2 (res.toList[i]) (by simp [hi']) (by simp at hi; simp [hi])
              omega
            · obtain ⟨i, hi, rfl⟩ := List.mem_iff_getElem.1 hx
              obtain ⟨fb, s, _, h1, h2, _⟩ := hat i hi
              exact ⟨fb, s, h1, h2⟩
            · obtain ⟨rfl, hb⟩ := q
              refine ⟨g, hs.below hb, ?_⟩
              rw [hsum]
              have hlt : sumN ls < 4611686018427387904 := Nat.le_of_ble_eq_true hall.2
              have hw : Go.RowKit.wrap64 ((sumN ls : Nat) : Int) = Int.ofNat (sumN ls) := by
                simp only [Go.RowKit.wrap64]
                show _ = ((sumN ls : Nat) : Int)
                omega
              rw [hw]
              exact .v rfl
          · cases h
      · cases h
    · rename_i tt rest hnb
      simp only [Option.some.injEq, Prod.mk.injEq] at h
      obtain ⟨rfl, rfl⟩ := h
      obtain ⟨hcell, _⟩ := box_nil hs hrb hnb
      refine .inl ⟨henter _ w, (hnil rb w hcell).mono fun e w' q => ?_⟩
      obtain ⟨rfl, hb⟩ := q
      exact ⟨g, hs.below hb, .v rfl⟩
    · cases h
  · cases h
end
end Go.Tm
