/- The tree machine: slices.Collect over maps.Keys, told where the map holds one key at most: the keys as a new row; what the library's contract says is a hypothesis here. -/
import Derived.Test.YtaefgigfoifjaaaGreatDoorTmLib
import Derived.Below
import Derived.Sort.KeysCollected
import Derived.Laws.AppendOwn
set_option linter.unusedVariables false
set_option linter.unusedSimpArgs false
set_option linter.unusedSectionVars false
namespace Go.Tm
open Go.Proofs (encStr)
open Go.RowKit (Below)
section
variable {F : Fr} {g : Gh} {κ : Nat → Option Tok} {H : List AB} {w w' : World}

theorem cell_below (hb : Below w.heap.size w w') {b i : Nat} {v : Value} (h : w.cell? ⟨b, i, none⟩ = some v) : w'.cell? ⟨b, i, none⟩ = some v := by
 have hlt : b < w.heap.size := World.block_lt_of_cell? w ⟨b, i, none⟩ h
 have e : w'.cell? ⟨b, i, none⟩ = w.cell? ⟨b, i, none⟩ := by
  simp only [World.cell?, hb.block b hlt]
 rw [e]; exact h

theorem SW.below (h : SW F g κ H w) (hb : Below w.heap.size w w') (hd : F.g0.dr = true → w.drawn ≤ w'.drawn) : SW F g κ H w' := h.grow hb hd

theorem SW.bear (h : SW F g κ H w) (hb : Below w.heap.size w w') (hd : F.g0.dr = true → w.drawn ≤ w'.drawn) {gb : Nat} {o : Obj} (hg : w.heap.size ≤ gb) (ho : w'.heap[gb]? = some o) (A : AB) (hbr : BRo (g.addBlk H.length gb (objLen o)) A o) :
  SW F (g.addBlk H.length gb (objLen o)) κ (H ++ [A]) w' := by
 have h' := h.below hb hd
 have hfresh : ∀ k, g.ρ k ≠ some gb := fun k q => by have := (h.dom k gb q).2; omega
 have hI : ∀ i, g.I gb i = none := fun i => by
  cases q : g.I gb i with
  | none => rfl
  | some v => have := h.imm_lt q; omega
 have hle : Gh.Le g (g.addBlk H.length gb (objLen o)) := h.le_addBlk gb _ fun k q => absurd q (hfresh k)
 have hρ : ∀ k b, k < H.length → ((g.addBlk H.length gb (objLen o)).ρ k = some b ↔ g.ρ k = some b) := fun k b hk => by
  simp only [Gh.addBlk]; rw [if_neg (by omega)]
 have hlt : ∀ k A rb, H[k]? = some A → A.live = true → g.ρ k = some rb → rb < w.heap.size := fun k A rb hk hl hr => (h.dom k rb hr).2
 have hget : ∀ k B, (H ++ [A])[k]? = some B → (k < H.length ∧ H[k]? = some B) ∨ (k = H.length ∧ B = A) := fun k B hk => get_app hk
 refine ⟨h'.imm, ?_, ?_, ?_, ?_, h'.tinj, h'.kept, h'.old, h'.le.trans hle⟩
 ·intro k b hk
  simp only [List.length_append, List.length_singleton]
  by_cases e : k = H.length
  ·simp only [Gh.addBlk, if_pos e, Option.some.injEq] at hk
   have := lt_of_some ho
   omega
  ·simp only [Gh.addBlk, if_neg e] at hk
   have := h'.dom k b hk; omega
 ·intro k B hk hl
  rcases hget k B hk with ⟨hlt', hk'⟩ | ⟨rfl, rfl⟩
  ·obtain ⟨rb, o', h1, h2, h3, h4, h5, h6⟩ := h'.blk k B hk' hl
   refine ⟨rb, o', (hρ k rb hlt').2 h1, h2, h3.mono hle, h4, h5, fun rcs e fz q => ?_⟩
   have := (h.dom k rb h1).2
   simp only [Gh.addBlk]
   rw [if_neg (by omega)]
   exact h6 rcs e fz q
  ·have hsz := h.kept.size
   refine ⟨gb, o, by simp [Gh.addBlk], ho, hbr, .inr (by omega), fun i => hI i, fun rcs e fz q => ?_⟩
   subst q
   simp [Gh.addBlk, objLen]
 ·intro k k' B B' rb hk hl hk' hl' hr hr'
  rcases hget k B hk with ⟨h1, h2⟩ | ⟨rfl, rfl⟩ <;> rcases hget k' B' hk' with ⟨h3, h4⟩ | ⟨h3, h4⟩
  ·exact h'.inj k k' B B' rb h2 hl h4 hl' ((hρ k rb h1).1 hr) ((hρ k' rb h3).1 hr')
  ·exfalso
   have e1 := hlt k B rb h2 hl ((hρ k rb h1).1 hr)
   rw [h3] at hr'; simp [Gh.addBlk] at hr'; omega
  ·exfalso
   have e1 := hlt k' B' rb h4 hl' ((hρ k' rb h3).1 hr')
   simp [Gh.addBlk] at hr; omega
  ·exact h3.symm
 ·intro s t ht
  obtain ⟨h1, h2, hn, h4, h5⟩ := h'.tok s t ht
  refine ⟨h1, h2, hn, h4, fun k B hk hl => ?_⟩
  rcases hget k B hk with ⟨h6, h7⟩ | ⟨rfl, rfl⟩
  ·exact fun q => h5 k B h7 hl ((hρ k _ h6).1 q)
  ·intro q
   simp [Gh.addBlk] at q
   obtain ⟨_, ⟨_, _, c, _⟩, _⟩ := h.tok s t ht
   have := lt_of_some c
   omega
end

theorem vr_func1 {g : Gh} {fn : Fn} {b o : Nat} {v : Value} (h : VR g (.func fn [] [.ptr b o]) v) : ∃ rb, g.ρ b = some rb ∧ v = .func fn #[] #[.pointer (some ⟨rb, o, none⟩)] := by
 cases h with
 | func l1 l2 h1 h2 =>
  rename_i r1 r2
  obtain rfl : r1 = [] := List.eq_nil_of_length_eq_zero l1.symm
  obtain ⟨p, rfl⟩ : ∃ p, r2 = [p] := by
   match r2, l2 with
   | [p], _ => exact ⟨p, rfl⟩
  have hp := h2 0 _ _ rfl rfl
  cases hp with
  | ptr hb => exact ⟨_, hb, rfl⟩

section
variable {K : Cfg} {f : FuncId}

def toldCollect (gs : List FuncId) (strT : TypeId) : List AV → List AB → Option (AV × List AB)
 | [.func (.func h) [] [.ptr b 0]], H => match gs.contains h with
  | false => none
  | true => match nth H b with
   | some (.cells _ [.map r]) => match nth H r with
    | some (.map [] _) => some (.sl [] .nil, H)
    | some (.map [(.str s, _, _)] _) => if s.length ≤ maxLen then some (.ms H.length 0 1 1, H ++ [.cells (strT, false) [.str s]]) else none
    | _ => none
   | some (.cells _ [.v (.map none)]) => some (.sl [] .nil, H)
   | _ => none
 | _, _ => none

def anyRead : Value → Option (DataW Unit × List MemPlace) := fun _ => some (.nil, [])

theorem collect_told (hdr : K.dr = false) {gs : List FuncId} {strT : TypeId} (hstr : K.P.underlying strT = some .string) (henter : ∀ (args : Array Value) (w : World), (callFunc f args).run K.P w = .ok (.enter f args) w)
  (hcol : ∀ h ∈ gs, ∀ (w : World) (Bm b : Nat) (D0 : DataW Unit), Bm < w.heap.size → w.cell? ⟨Bm, 0, none⟩ = some (.map (some b)) → w.ownsMap K.P strT anyRead b 1 D0 → Maps.size D0 ≤ 1 →
   Calls K.P f #[.func (.func h) #[] #[.pointer (some ⟨Bm, 0, none⟩)]] w fun e w' => ∃ (v : Value) (ss : List (List UInt8)), e = .returned v ∧ ss.Perm (strKeys D0) ∧ w'.ownsRow w.heap.size strT 1 v ss.length (ss.map encStr) ∧ (v = .slice none 0 0 ↔ ss = []) ∧ Below w.heap.size w w')
  (hnil : ∀ h ∈ gs, ∀ (w : World) (Bm : Nat), Bm < w.heap.size → w.cell? ⟨Bm, 0, none⟩ = some (.map none) →
   Calls K.P f #[.func (.func h) #[] #[.pointer (some ⟨Bm, 0, none⟩)]] w fun e w' => e = .returned (.slice none 0 0) ∧ Below w.heap.size w w')
  {args : List AV} {r : AV} {H H' : List AB} (h : toldCollect gs strT args H = some (r, H')) : CallOk K f args H r H' := by
 intro g w rargs hg hs hv
 have nd : ∀ w' : World, g.dr = true → w.drawn ≤ w'.drawn := fun _ q => by have := hg.dr q; rw [hdr] at this; cases this
 unfold toldCollect at h
 split at h
 ·rename_i fid b
  split at h
  ·cases h
  ·rename_i hmem
   have hmem' : fid ∈ gs := by simpa using hmem
   split at h
   ·rename_i tt rm hnb
    obtain ⟨v, rfl, hx⟩ := one_arg hv
    obtain ⟨rb, hrb, rfl⟩ := vr_func1 hx
    rw [nth_eq] at hnb
    obtain ⟨rb', o, h1, h2, h3, h4⟩ := hs.blk b _ hnb rfl
    rw [hrb] at h1
    cases h1
    cases o <;> try (exact h3.elim)
    rename_i rcs e fz
    obtain ⟨_, hle, hcells, _⟩ := h3
    have hlt0 : 0 < rcs.size := by simp at hle; omega
    obtain ⟨rv, hrv⟩ : ∃ rv, rcs.toList[0]? = some rv := ⟨rcs.toList[0]'(by simpa using hlt0), by simp [hlt0]⟩
    have hvr := hcells 0 _ _ rfl hrv
    cases hvr with
    | map hrm =>
    rename_i rmb
    have hcell : w.cell? ⟨rb, 0, none⟩ = some (.map (some rmb)) := by
     simp only [World.cell?, h2]
     simpa using hrv
    have hBm : rb < w.heap.size := lt_of_some h2
    have finish : ∀ (es : List (AV × AV × Nat)) (clock : Nat), nth H rm = some (.map es clock) → ∃ (res : Array MapEntry), w.heap[rmb]? = some (.map res clock) ∧ es.length = res.size ∧ ∀ (i : Nat) (k x : AV) (b : Nat) (e : MapEntry), es[i]? = some (k, x, b) → res.toList[i]? = some e → VR g k e.key ∧ VR g x e.val ∧ e.born = b ∧ b < clock := by
     intro es clock hn
     rw [nth_eq] at hn
     obtain ⟨rb', o, q1, q2, q3, q6⟩ := hs.blk rm _ hn rfl
     rw [hrm] at q1
     cases q1
     cases o <;> try (exact q3.elim)
     rename_i res rc
     obtain ⟨rfl, q4, q5⟩ := q3
     exact ⟨res, q2, q4, q5⟩
    split at h
    ·-- no key
     rename_i clock hn
     obtain ⟨res, q2, q4, _⟩ := finish _ _ hn
     simp only [Option.some.injEq, Prod.mk.injEq] at h
     obtain ⟨rfl, rfl⟩ := h
     have hres : res = #[] := by
      apply Array.eq_empty_of_size_eq_zero
      simpa using q4.symm
     subst hres
     have hown : w.ownsMap K.P strT anyRead rmb 1 (.map []) := ⟨#[], clock, q2, ⟨by simp, ⟨by simp, by simp, by simp⟩, by simp⟩, by simp, rfl⟩
     refine .inl ⟨henter _ w, (hcol fid hmem' w rb rmb _ hBm hcell hown (by simp [Maps.size])).mono fun e w' q => ?_⟩
     obtain ⟨v, ss, rfl, hp, _, hnil, hb⟩ := q
     have hss : ss = [] := List.Perm.eq_nil hp
     obtain rfl := hnil.2 hss
     exact ⟨g, hs.below hb (nd _), .nil⟩
    ·-- one key
     rename_i s x born clock hn
     obtain ⟨res, q2, q4, q5⟩ := finish _ _ hn
     split at h
     ·rename_i hlen
      simp only [Option.some.injEq, Prod.mk.injEq] at h
      obtain ⟨rfl, rfl⟩ := h
      obtain ⟨en, hen⟩ : ∃ en, res = #[en] := by
       match res, q4 with
       | ⟨[en]⟩, _ => exact ⟨en, rfl⟩
      subst hen
      obtain ⟨k1, _, k3, k4⟩ := q5 0 _ _ _ en rfl rfl
      have hkey : en.key = .string ⟨⟨s⟩⟩ := by
       generalize en.key = z at k1
       cases k1; rfl
      have hread : Go.WideElems.rd K.P strT anyRead en = some (.string s, .nil) := by
       simp only [Go.WideElems.rd, hkey, Go.WideMaps.keyOf_string_mk hstr (s := ⟨⟨s⟩⟩) (show (⟨⟨s⟩⟩ : ByteArray).size ≤ maxLen from hlen)]
       rfl
      have hown : w.ownsMap K.P strT anyRead rmb 1 (.map [(.string s, .nil)]) := by
       refine ⟨#[en], clock, q2, ⟨by simp [maxLen], ⟨?_, by simp, by simp⟩, ?_⟩, by simp, ?_⟩
       ·intro y hy
        simp at hy; subst hy
        omega
       ·intro y hy
        simp at hy; subst hy
        exact ⟨_, hread⟩
       ·simp [Go.WideElems.rg, hread, DataW.insert]
      refine .inl ⟨henter _ w, (hcol fid hmem' w rb rmb _ hBm hcell hown (by simp [Maps.size])).mono fun e w' q => ?_⟩
      obtain ⟨v, ss, rfl, hp, hrow, hnil, hb⟩ := q
      have hss : ss = [s] := List.perm_singleton.1 hp
      subst hss
      rcases hrow.2 with ⟨_, hz⟩ | ⟨gb, cap, cur, rfl, hbase, hgb, r1, r2, r3, r4⟩
      ·simp at hz
      ·have hcur : ∃ rest, cur.toList = Value.string ⟨⟨s⟩⟩ :: rest := by
        simp only [List.length_singleton, Nat.mul_one, List.map_cons, List.map_nil] at r4
        cases hc : cur.toList with
        | nil => rw [hc] at r4; simp at r4
        | cons y rest => rw [hc] at r4; simp [encStr] at r4; exact ⟨rest, by rw [r4]⟩
       obtain ⟨rest, hrest⟩ := hcur
       have hsz : cur.size = rest.length + 1 := by rw [← Array.length_toList, hrest]; rfl
       have hbr : BRo (g.addBlk H.length gb (objLen (.cells cur strT (0, 0)))) (.cells (strT, false) [.str s]) (.cells cur strT (0, 0)) := by
        refine ⟨rfl, by simp [hsz], fun i x r p q => ?_, rfl, rfl, by simp⟩
        cases i with
        | succ i => simp at p
        | zero =>
         rw [hrest] at q
         simp at p q
         subst p q
         exact .str
       refine ⟨_, hs.bear hb (nd _) hbase hgb _ hbr, .ms (by simp [Gh.addBlk]) ⟨?_, ?_⟩⟩
       ·simpa using r1
       ·simp [Gh.addBlk, objLen]
        omega
     ·cases h
    ·cases h
   ·-- the nil map
    rename_i tt hnb
    simp only [Option.some.injEq, Prod.mk.injEq] at h
    obtain ⟨rfl, rfl⟩ := h
    obtain ⟨v, rfl, hx⟩ := one_arg hv
    obtain ⟨rb, hrb, rfl⟩ := vr_func1 hx
    rw [nth_eq] at hnb
    obtain ⟨rb', o, h1, h2, h3, h4⟩ := hs.blk b _ hnb rfl
    rw [hrb] at h1
    cases h1
    cases o <;> try (exact h3.elim)
    rename_i rcs e fz
    obtain ⟨_, hle, hcells, _⟩ := h3
    have hlt0 : 0 < rcs.size := by simp at hle; omega
    obtain ⟨rv, hrv⟩ : ∃ rv, rcs.toList[0]? = some rv := ⟨rcs.toList[0]'(by simpa using hlt0), by simp [hlt0]⟩
    obtain ⟨rfl, _⟩ := vr_v (hcells 0 _ _ rfl hrv)
    have hcell : w.cell? ⟨rb, 0, none⟩ = some (.map none) := by
     simp only [World.cell?, h2]
     simpa using hrv
    refine .inl ⟨henter _ w, (hnil fid hmem' w rb (lt_of_some h2) hcell).mono fun e w' q => ?_⟩
    obtain ⟨rfl, hb⟩ := q
    exact ⟨g, hs.below hb (nd _), .nil⟩
   ·cases h
 ·cases h
end
end Go.Tm
