/- The tree machine: maps, ranges, conversions, assertions, methods. -/
import Derived.Test.YtpgkkmlmdoacmaaTmS10
set_option linter.unusedVariables false
set_option linter.unusedSimpArgs false
set_option linter.unusedSectionVars false
namespace Go.Tm
section
variable {F : Fr} {g : Gh} {κ : Nat → Option Tok} {own : Nat → Nat} {H : List AB} {w : World} {K : Cfg}

/-- A map's entries and the model's. -/
def Ents (g : Gh) (es : List (AV × AV × Nat)) (res : List MapEntry) : Prop :=
  es.length = res.length ∧ ∀ (i : Nat) (k x : AV) (b : Nat) (e : MapEntry), es[i]? = some (k, x, b) → res[i]? = some e → VR g k e.key ∧ VR g x e.val ∧ e.born = b

theorem Ents.cons {k x : AV} {b : Nat} {es : List (AV × AV × Nat)} {res : List MapEntry} (h : Ents g ((k, x, b) :: es) res) : ∃ e r, res = e :: r ∧ VR g k e.key ∧ VR g x e.val ∧ e.born = b ∧ Ents g es r := by
  cases res with
  | nil => simp [Ents] at h
  | cons e r =>
    obtain ⟨a1, a2, a3⟩ := h.2 0 k x b e (by simp) (by simp)
    exact ⟨e, r, rfl, a1, a2, a3, by have := h.1; simpa using this, fun i k x b e p q => h.2 (i + 1) k x b e (by simpa using p) (by simpa using q)⟩

theorem keyOk_desc {t : TypeId} {k : AV} (h : aKeyOk K t k = true) : (∃ kd n kk, K.P.underlying t = some (.int kd) ∧ k = .v (.int kk n)) ∨ (∃ s, K.P.underlying t = some .string ∧ k = .str s) ∨ (∃ b, K.P.underlying t = some .bool ∧ k = .v (.bool b)) := by
  unfold aKeyOk at h
  split at h
  · exact .inl ⟨_, _, _, ‹_›, rfl⟩
  · exact .inr (.inl ⟨_, ‹_›, rfl⟩)
  · exact .inr (.inr ⟨_, ‹_›, rfl⟩)
  · simp at h

theorem checkKey_any {P : Program} {t : TypeId} {e : Bool} (n : Nat) {d : TypeDesc} {v : Value} (hd : P.underlying t = some d) (h1 : ∀ ms, d ≠ .interface ms) (h2 : ∀ n el, d ≠ .array n el) (h3 : ∀ fs, d ≠ .struct fs) :
    (Instr.checkKey e (n + 1) t v).run P w = .ok () w := by
  simp only [Instr.checkKey, Sem.run_bind, run_underlying hd, Result.andThen_ok]
  cases d <;> first
    | exact absurd rfl (h1 _)
    | exact absurd rfl (h2 _ _)
    | exact absurd rfl (h3 _)
    | rfl

theorem run_checkKey {t : TypeId} {k : AV} (h : aKeyOk K t k = true) (rk : Value) (e : Bool) : (Instr.checkKey e 10000 t rk).run K.P w = .ok () w := by
  rcases keyOk_desc h with ⟨_, _, _, hd, _⟩ | ⟨_, hd, _⟩ | ⟨_, hd, _⟩
  · exact checkKey_any 9999 hd (by simp) (by simp) (by simp)
  · exact checkKey_any 9999 hd (by simp) (by simp) (by simp)
  · exact checkKey_any 9999 hd (by simp) (by simp) (by simp)

theorem beq_str (a b : List UInt8) : ((⟨⟨a⟩⟩ : ByteArray) == ⟨⟨b⟩⟩) = (a == b) := by
  rw [beq_toListBytes, str_toList, str_toList]

theorem keyEq_same {t : TypeId} {d : TypeDesc} {k k' : AV} {r r' : Value} (hd : K.P.underlying t = some d) (hok : aKeyOk K t k = true) (hk : VR g k r) (hk' : VR g k' r') {b : Bool} (h : aKeyEq k k' = some b) : Instr.sameNow d r r' = some b ∧ (b = true → k = k') := by
  unfold aKeyEq at h
  split at h
  · rename_i x y
    simp at h; subst h
    cases hk; cases hk'
    rcases keyOk_desc hok with ⟨_, _, _, _, q⟩ | ⟨_, q, _⟩ | ⟨_, _, q⟩
    · simp at q
    · rw [hd] at q; cases q
      exact ⟨by simp only [Instr.sameNow, beq_str], fun e => by simpa using e⟩
    · simp at q
  · rename_i k1 x k2 y
    split at h
    · rename_i e; subst e
      simp at h; subst h
      obtain ⟨rfl, _⟩ := vr_v hk
      obtain ⟨rfl, _⟩ := vr_v hk'
      rcases keyOk_desc hok with ⟨_, _, _, q, _⟩ | ⟨_, _, q⟩ | ⟨_, _, q⟩
      · rw [hd] at q; cases q
        exact ⟨by simp [Instr.sameNow], fun e => by simpa using e⟩
      · simp at q
      · simp at q
    · simp at h
  · rename_i x y
    simp at h; subst h
    obtain ⟨rfl, _⟩ := vr_v hk
    obtain ⟨rfl, _⟩ := vr_v hk'
    rcases keyOk_desc hok with ⟨_, _, _, _, q⟩ | ⟨_, _, q⟩ | ⟨_, q, _⟩
    · simp at q
    · simp at q
    · rw [hd] at q; cases q
      exact ⟨by simp [Instr.sameNow], fun e => by simpa using e⟩
  · simp at h

theorem find_ok {t : TypeId} {d : TypeDesc} {k : AV} {r : Value} (hd : K.P.underlying t = some d) (hok : aKeyOk K t k = true) (hk : VR g k r) : ∀ {es : List (AV × AV × Nat)} {res : List MapEntry} {i : Nat} {o : Option (Nat × AV × Nat)}, Ents g es res → aFind k es i = some o →
    match o with
    | none => Instr.findNow d r res i = some none
    | some (j, x, b) => ∃ e, Instr.findNow d r res i = some (some (j, e.val)) ∧ i ≤ j ∧ es[j - i]? = some (k, x, b) ∧ res[j - i]? = some e ∧ VR g x e.val
  | [], res, i, o, he, h => by
    have : res = [] := by cases res with | nil => rfl | cons => exact absurd he.1 (by simp)
    subst this
    simp [aFind] at h; subst h
    rfl
  | (k', x, b) :: es, res, i, o, he, h => by
    obtain ⟨e, r', rfl, a1, a2, a3, a4⟩ := he.cons
    simp only [aFind] at h
    split at h
    · rename_i hb
      simp at h; subst h
      obtain ⟨s1, s2⟩ := keyEq_same hd hok hk a1 hb
      have := s2 rfl; subst this
      exact ⟨e, by simp [Instr.findNow, s1], Nat.le_refl _, by simp, by simp, a2⟩
    · rename_i hb
      obtain ⟨s1, _⟩ := keyEq_same hd hok hk a1 hb
      have ih := find_ok hd hok hk a4 h
      cases o with
      | none => simp only [Instr.findNow, s1]; exact ih
      | some q =>
        obtain ⟨j, y, c⟩ := q
        obtain ⟨e', i1, i2, i3, i4, i5⟩ := ih
        refine ⟨e', by simp only [Instr.findNow, s1]; exact i1, by omega, ?_, ?_, i5⟩
        · rw [show j - i = (j - (i + 1)) + 1 by omega]; simpa using i3
        · rw [show j - i = (j - (i + 1)) + 1 by omega]; simpa using i4
    · simp at h

theorem run_findKey {t : TypeId} {d : TypeDesc} {r : Value} {res : List MapEntry} {o : Option (Nat × Value)} (hd : K.P.underlying t = some d) (h : Instr.findNow d r res 0 = some o) : (Instr.findKey t r res).run K.P w = .ok o w := by
  simp [Instr.findKey, run_underlying hd, h]

/-- The block of a map. -/
theorem map_blk (hs : SW F g κ H w) {b rb : Nat} {es : List (AV × AV × Nat)} {clock : Nat} (hρ : g.ρ b = some rb) (hH : H[b]? = some (.map es clock)) :
    ∃ res, w.heap[rb]? = some (.map res clock) ∧ Ents g es res.toList ∧ ∀ (i : Nat) (k x : AV) (n : Nat), es[i]? = some (k, x, n) → n < clock := by
  obtain ⟨rb', o, p1, p2, p3, _⟩ := hs.blk _ _ hH rfl
  rw [hρ] at p1; cases p1
  cases o with
  | map res rc =>
    obtain ⟨rfl, p4, p5⟩ := p3
    refine ⟨res, p2, ⟨by simpa using p4, fun i k x n e a b => ⟨(p5 i k x n e a b).1, (p5 i k x n e a b).2.1, (p5 i k x n e a b).2.2.1⟩⟩, fun i k x n a => ?_⟩
    have hi : i < res.toList.length := by have := (List.getElem?_eq_some_iff.1 a).1; simp; omega
    exact (p5 i k x n _ a (List.getElem?_eq_getElem hi)).2.2.2
  | _ => simp [BRo] at p3

theorem run_getObj_map {rb : Nat} {res : Array MapEntry} {c : Nat} (h : w.heap[rb]? = some (.map res c)) : (getObj rb).run K.P w = .ok (.map res c) w := by
  simp [getObj, Sem.run, h]

theorem setMap (hs : SW F g κ H w) {b rb : Nat} {A : AB} (hH : H[b]? = some A) (hl : A.live = true) (hρ : g.ρ b = some rb) {o : Obj} (ho : w.heap[rb]? = some o) (hnc : ∀ c e f, o ≠ .cells c e f) {A' : AB} {o' : Obj} (hb : BRo g A' o') (hnc' : ∀ c e f, o' ≠ .cells c e f) :
    ∃ w', (setObj rb o').run K.P w = .ok () w' ∧ SW F g κ (setAt H b A') w' := by
  have hlt := lt_of_some ho
  refine ⟨{ w with heap := w.heap.setIfInBounds rb o' }, ?_, ?_⟩
  · cases o <;> first
      | exact absurd rfl (hnc _ _ _)
      | simp only [setObj, Sem.run, ho]
  · exact hs.change hH hl hρ ⟨rfl, rfl, rfl, by simp, fun b' hb' => by simp [Array.getElem?_setIfInBounds, Ne.symm hb'], Nat.le_refl _⟩ fun _ => ⟨o', by simp [hlt], hb, fun rcs e fz q => absurd q (hnc' _ _ _)⟩

theorem look_ok {t kt et : TypeId} (hu : K.P.underlying t = some (.map kt et)) {k : AV} {rk : Value} (hok : aKeyOk K kt k = true) (hk : VR g k rk) {es : List (AV × AV × Nat)} {res : Array MapEntry} (he : Ents g es res.toList) {ok : Bool} {z : AV}
    (h : aLook K es k et ok = some z) :
    ∃ v b, (Instr.findKey kt rk res.toList).run K.P w = .ok b w ∧ (b = none → (zeroValue et).run K.P w = .ok v w) ∧ (∀ q, b = some q → v = q.2) ∧ VR g z (if ok then .tuple #[v, .bool b.isSome] else v) := by
  obtain ⟨d, hd⟩ : ∃ d, K.P.underlying kt = some d := by
    rcases keyOk_desc hok with ⟨_, _, _, q, _⟩ | ⟨_, q, _⟩ | ⟨_, q, _⟩ <;> exact ⟨_, q⟩
  unfold aLook at h
  split at h
  · rename_i j x b hf
    obtain ⟨e, f1, _, _, _, f5⟩ := find_ok hd hok hk he hf
    simp at h; subst h
    refine ⟨e.val, some (j, e.val), run_findKey hd f1, by simp, by simp, ?_⟩
    cases ok
    · exact f5
    · have := VRs.cons f5 (VRs.cons (VR.v (g := g) (x := .bool true) rfl) VRs.nil)
      exact .tup this.1 this.2
  · rename_i hf
    have f1 := find_ok hd hok hk he hf
    split at h
    · rename_i z' hz
      simp at h; subst h
      obtain ⟨v, q1, q2, _⟩ := run_tZero (w := w) hz
      refine ⟨v, none, run_findKey hd f1, fun _ => q1, by simp, ?_⟩
      cases ok
      · exact q2 g
      · have := VRs.cons (q2 g) (VRs.cons (VR.v (g := g) (x := .bool false) rfl) VRs.nil)
        exact .tup this.1 this.2
    · simp at h
  · simp at h

theorem lookup_ok (hs : SW F g κ H w) {t : TypeId} {m k : AV} {rm rk : Value} (hm : VR g m rm) (hk : VR g k rk) {ok : Bool} {z : AV} (h : aLookup K H t m k ok = some z) : ∃ r, (Instr.lookup t rm rk ok).run K.P w = .ok r w ∧ VR g z r := by
  unfold aLookup at h
  split at h
  · rename_i kt et hu
    split at h
    · rename_i hok
      split at h
      · obtain ⟨rfl, _⟩ := vr_v hm
        obtain ⟨v, b, f1, f2, f3, f4⟩ := look_ok (w := w) hu hok hk (res := #[]) ⟨rfl, by simp⟩ h
        refine ⟨_, ?_, f4⟩
        cases b with
        | none => simp [Instr.lookup, run_underlying hu, run_checkKey hok, f1, f2 rfl]
        | some q => have := f3 q rfl; subst this; simp [Instr.lookup, run_underlying hu, run_checkKey hok, f1]
      · rename_i b
        rw [nth_eq] at h
        split at h
        · rename_i es c hH
          cases hm with
          | @map _ rb hρ =>
            obtain ⟨res, r1, r2, _⟩ := map_blk hs hρ hH
            obtain ⟨v, b, f1, f2, f3, f4⟩ := look_ok (w := w) hu hok hk r2 h
            refine ⟨_, ?_, f4⟩
            cases b with
            | none => simp [Instr.lookup, run_underlying hu, run_checkKey hok, f1, f2 rfl, run_getObj_map r1]
            | some q => have := f3 q rfl; subst this; simp [Instr.lookup, run_underlying hu, run_checkKey hok, f1, run_getObj_map r1]
        · simp at h
      · simp at h
    · simp at h
  · simp at h

theorem BRo_map {es : List (AV × AV × Nat)} {res : Array MapEntry} {c : Nat} (h : Ents g es res.toList) (hb : ∀ (i : Nat) (k x : AV) (n : Nat), es[i]? = some (k, x, n) → n < c) : BRo g (.map es c) (.map res c) :=
  ⟨rfl, by simpa using h.1, fun i k x b e p q => ⟨(h.2 i k x b e p q).1, (h.2 i k x b e p q).2.1, (h.2 i k x b e p q).2.2, hb i k x b p⟩⟩

theorem Ents.set {es : List (AV × AV × Nat)} {res : List MapEntry} (h : Ents g es res) {k x : AV} {b : Nat} {e : MapEntry} (h1 : VR g k e.key) (h2 : VR g x e.val) (h3 : e.born = b) (j : Nat) : Ents g (es.set j (k, x, b)) (res.set j e) := by
  refine ⟨by simp [h.1], fun i k' x' b' e' p q => ?_⟩
  rw [List.getElem?_set] at p q
  by_cases hj : j = i
  · subst hj
    simp only [if_true] at p q
    split at p <;> simp at p
    split at q <;> simp at q
    obtain ⟨rfl, rfl, rfl⟩ := p
    subst q
    exact ⟨h1, h2, h3⟩
  · simp only [hj, if_false] at p q
    exact h.2 i k' x' b' e' p q

theorem Ents.snoc {es : List (AV × AV × Nat)} {res : List MapEntry} (h : Ents g es res) {k x : AV} {b : Nat} {e : MapEntry} (h1 : VR g k e.key) (h2 : VR g x e.val) (h3 : e.born = b) : Ents g (es ++ [(k, x, b)]) (res ++ [e]) := by
  refine ⟨by simp [h.1], fun i k' x' b' e' p q => ?_⟩
  rw [List.getElem?_append] at p q
  rw [h.1] at p
  by_cases hi : i < res.length
  · simp only [hi, if_true] at p q
    exact h.2 i k' x' b' e' p q
  · simp only [hi, if_false] at p q
    have : i - res.length = 0 := by
      have := (List.getElem?_eq_some_iff.1 p).1
      simp at this; omega
    rw [this] at p q
    simp at p q
    obtain ⟨rfl, rfl, rfl⟩ := p
    subst q
    exact ⟨h1, h2, h3⟩

theorem sameBits_key {t : TypeId} {k : AV} {r r' : Value} (hok : aKeyOk K t k = true) (h : VR g k r) (h' : VR g k r') : Instr.sameBits 10000 r r' = true := by
  rcases keyOk_desc hok with ⟨_, _, _, _, rfl⟩ | ⟨_, _, rfl⟩ | ⟨_, _, rfl⟩
  · obtain ⟨rfl, _⟩ := vr_v h
    obtain ⟨rfl, _⟩ := vr_v h'
    simp [Instr.sameBits]
  · cases h; cases h'
    simp only [Instr.sameBits, beq_str]
    simp
  · obtain ⟨rfl, _⟩ := vr_v h
    obtain ⟨rfl, _⟩ := vr_v h'
    simp [Instr.sameBits]

theorem run_keyStays {t : TypeId} {k : AV} {r r' : Value} (hok : aKeyOk K t k = true) (h : VR g k r) (h' : VR g k r') : (Instr.keyThatStays r r').run K.P w = .ok r' w := by
  simp [Instr.keyThatStays, sameBits_key hok h h']

theorem modify_toList {α : Type} {a : Array α} {i : Nat} {f : α → α} {x : α} (h : a.toList[i]? = some x) : (a.modify i f).toList = a.toList.set i (f x) := by
  have hi : i < a.size := by have := (List.getElem?_eq_some_iff.1 h).1; simpa using this
  apply List.ext_getElem?
  intro j
  rw [Array.toList_modify, List.getElem?_modify, List.getElem?_set]
  by_cases hj : i = j
  · subst hj
    rw [h]
    simp [hi]
  · simp [hj]

theorem mapUpdate_ok (hs : SW F g κ H w) {t : TypeId} {m k x : AV} {rm rk rx : Value} (hm : VR g m rm) (hk : VR g k rk) (hx : VR g x rx) {H' : List AB} (h : aMapUpdate K H t m k x = some H') :
    ∃ w', (Instr.mapUpdate t rm rk rx).run K.P w = .ok () w' ∧ SW F g κ H' w' := by
  unfold aMapUpdate at h
  split at h
  · rename_i kt et b hu
    rw [nth_eq] at h
    split at h
    · rename_i es clock hH hok
      obtain ⟨d, hd⟩ : ∃ d, K.P.underlying kt = some d := by
        rcases keyOk_desc hok with ⟨_, _, _, q, _⟩ | ⟨_, q, _⟩ | ⟨_, q, _⟩ <;> exact ⟨_, q⟩
      cases hm with
      | @map _ rb hρ =>
        obtain ⟨res, r1, r2, r3⟩ := map_blk hs hρ hH
        split at h
        · rename_i i y born hf
          simp at h; subst h
          obtain ⟨e, f1, _, f3, f4, f5⟩ := find_ok hd hok hk r2 hf
          simp only [Nat.sub_zero] at f3 f4
          have he := (r2.2 i k y born e f3 f4)
          have hkey : (((res[i]?).map (·.key)).getD rk) = e.key := by
            have : res[i]? = some e := by rw [← Array.getElem?_toList]; exact f4
            simp [this]
          have hE : Ents g (setAt es i (k, x.unown, born)) (res.modify i fun e => { e with key := rk, val := rx }).toList := by
            rw [setAt_eq, modify_toList f4]
            exact r2.set (e := { e with key := rk, val := rx }) hk hx.unown he.2.2 i
          have hB : ∀ (j : Nat) (k' x' : AV) (n : Nat), (setAt es i (k, x.unown, born))[j]? = some (k', x', n) → n < clock := by
            intro j k' x' n q
            rw [setAt_eq, List.getElem?_set] at q
            split at q
            · split at q
              · simp at q; obtain ⟨_, _, rfl⟩ := q; exact r3 i k y born f3
              · simp at q
            · exact r3 j k' x' n q
          obtain ⟨w', s1, s2⟩ := setMap (K := K) hs hH rfl hρ r1 (by simp) (BRo_map hE hB) (by simp)
          refine ⟨w', ?_, s2⟩
          simp only [Instr.mapUpdate, Sem.run_bind, run_underlying hu, Result.andThen_ok, run_getObj_map r1, run_checkKey hok, run_findKey hd f1, hkey, run_keyStays hok he.1 hk, s1]
        · rename_i hf
          simp at h; subst h
          have f1 := find_ok hd hok hk r2 hf
          have hE : Ents g (es ++ [(k, x.unown, clock)]) (res.push { key := rk, val := rx, born := clock }).toList := by
            rw [Array.toList_push]
            exact r2.snoc hk hx.unown rfl
          have hB : ∀ (j : Nat) (k' x' : AV) (n : Nat), (es ++ [(k, x.unown, clock)])[j]? = some (k', x', n) → n < clock + 1 := by
            intro j k' x' n q
            rw [List.getElem?_append] at q
            split at q
            · have := r3 j k' x' n q; omega
            · have hm := List.mem_of_getElem? q
              simp at hm; omega
          obtain ⟨w', s1, s2⟩ := setMap (K := K) hs hH rfl hρ r1 (by simp) (BRo_map hE hB) (by simp)
          refine ⟨w', ?_, s2⟩
          simp only [Instr.mapUpdate, Sem.run_bind, run_underlying hu, Result.andThen_ok, run_getObj_map r1, run_checkKey hok, run_findKey hd f1, s1]
        · simp at h
    · simp at h
  · simp at h

theorem set_self {α : Type} {l : List α} {i : Nat} {x : α} (h : l[i]? = some x) : l.set i x = l := by
  apply List.ext_getElem?
  intro j
  rw [List.getElem?_set]
  by_cases hj : i = j
  · subst hj
    have := (List.getElem?_eq_some_iff.1 h).1
    rw [if_pos rfl, if_pos this, h]
  · simp [hj]

theorem mapEntry_ok (hs : SW F g κ H w) {t : TypeId} {m k : AV} {rm rk : Value} (hm : VR g m rm) (hk : VR g k rk) {z : AV} {H' : List AB} (h : aMapEntry K H t m k = some (z, H')) :
    ∃ r w', (Instr.mapEntry t rm rk).run K.P w = .ok r w' ∧ SW F g κ H' w' ∧ VR g z r := by
  unfold aMapEntry at h
  split at h
  · rename_i kt et b hu
    rw [nth_eq] at h
    split at h
    · rename_i es clock hH hok
      obtain ⟨d, hd⟩ : ∃ d, K.P.underlying kt = some d := by
        rcases keyOk_desc hok with ⟨_, _, _, q, _⟩ | ⟨_, q, _⟩ | ⟨_, q, _⟩ <;> exact ⟨_, q⟩
      cases hm with
      | @map _ rb hρ =>
        obtain ⟨res, r1, r2, r3⟩ := map_blk hs hρ hH
        split at h
        · rename_i _ i y born hf
          simp at h
          obtain ⟨rfl, rfl⟩ := h
          obtain ⟨e, f1, _, f3, f4, f5⟩ := find_ok hd hok hk r2 hf
          simp only [Nat.sub_zero] at f3 f4
          have he := (r2.2 i k y born e f3 f4)
          have hres : res[i]? = some e := by rw [← Array.getElem?_toList]; exact f4
          have hkey : (((res[i]?).map (·.key)).getD rk) = e.key := by simp [hres]
          have hE : Ents g es (res.modify i fun e => { e with key := rk }).toList := by
            rw [modify_toList f4]
            have := r2.set (e := { e with key := rk }) hk f5 he.2.2 i
            rwa [set_self f3] at this
          obtain ⟨w', s1, s2⟩ := setMap (K := K) hs hH rfl hρ r1 (by simp) (BRo_map hE r3) (by simp)
          rw [setAt_eq, set_self hH] at s2
          refine ⟨.tuple #[e.val, goInt e.born], w', ?_, s2, ?_⟩
          · simp only [Instr.mapEntry, Sem.run_bind, run_underlying hu, Result.andThen_ok, run_getObj_map r1, run_checkKey hok, run_findKey hd f1, hkey, run_keyStays hok he.1 hk, s1, Sem.run_pure]
            simp [hres]
          · have := VRs.cons f5 (VRs.cons (VR.v (g := g) (x := goInt e.born) rfl) VRs.nil)
            rw [← he.2.2]
            exact .tup this.1 this.2
        · rename_i z' hf hz
          simp at h
          obtain ⟨rfl, rfl⟩ := h
          have f1 := find_ok hd hok hk r2 hf
          obtain ⟨v, q1, q2, _⟩ := run_tZero (w := w) hz
          have hE : Ents g (es ++ [(k, z', clock)]) (res.push { key := rk, val := v, born := clock }).toList := by
            rw [Array.toList_push]
            exact r2.snoc hk (q2 g) rfl
          have hB : ∀ (j : Nat) (k' x' : AV) (n : Nat), (es ++ [(k, z', clock)])[j]? = some (k', x', n) → n < clock + 1 := by
            intro j k' x' n q
            rw [List.getElem?_append] at q
            split at q
            · have := r3 j k' x' n q; omega
            · have hm := List.mem_of_getElem? q
              simp at hm; omega
          obtain ⟨w', s1, s2⟩ := setMap (K := K) hs hH rfl hρ r1 (by simp) (BRo_map hE hB) (by simp)
          refine ⟨.tuple #[v, goInt clock], w', ?_, s2, ?_⟩
          · simp only [Instr.mapEntry, Sem.run_bind, run_underlying hu, Result.andThen_ok, run_getObj_map r1, run_checkKey hok, run_findKey hd f1, q1, s1, Sem.run_pure]
          · have := VRs.cons (q2 g) (VRs.cons (VR.v (g := g) (x := goInt clock) rfl) VRs.nil)
            exact .tup this.1 this.2
        · simp at h
    · simp at h
  · simp at h

theorem born_ok {n : Int} {x : AV} {rx : Value} (hx : VR g x rx) {c : Nat} : ∀ {es es' : List (AV × AV × Nat)} {res : List MapEntry}, Ents g es res → (∀ (i : Nat) (k x : AV) (n : Nat), es[i]? = some (k, x, n) → n < c) → aBorn n x es = some es' →
    ∃ i e, res.findIdx? (fun e => (e.born : Int) == n) = some i ∧ res[i]? = some e ∧ Ents g es' (res.set i { e with val := rx }) ∧ ∀ (i : Nat) (k x : AV) (n : Nat), es'[i]? = some (k, x, n) → n < c
  | [], es', res, he, hb, h => by simp [aBorn] at h
  | (k, y, b) :: es, es', res, he, hb, h => by
    obtain ⟨e, r, rfl, a1, a2, a3, a4⟩ := he.cons
    simp only [aBorn] at h
    split at h
    · rename_i hq
      simp at h; subst h
      refine ⟨0, e, by rw [← a3] at hq; simp [List.findIdx?_cons, hq], by simp, ?_, ?_⟩
      · have := he.set (e := { e with val := rx }) a1 hx a3 0
        simpa using this
      · intro i k' x' n' q
        cases i with
        | zero => simp at q; obtain ⟨_, _, rfl⟩ := q; exact hb 0 k y b (by simp)
        | succ i => exact hb (i + 1) k' x' n' (by simpa using q)
    · rename_i hq
      split at h
      · rename_i es2 hr
        simp at h; subst h
        obtain ⟨i, e2, i1, i2, i3, i4⟩ := born_ok hx a4 (fun i k x n q => hb (i + 1) k x n (by simpa using q)) hr
        refine ⟨i + 1, e2, by rw [← a3] at hq; simp [List.findIdx?_cons, hq, i1], by simpa using i2, ?_, ?_⟩
        · refine ⟨by simpa using i3.1, fun j k' x' n' e' p q => ?_⟩
          cases j with
          | zero =>
            simp at p q
            obtain ⟨rfl, rfl, rfl⟩ := p
            subst q
            exact ⟨a1, a2, a3⟩
          | succ j => exact i3.2 j k' x' n' e' (by simpa using p) (by simpa using q)
        · intro j k' x' n' q
          cases j with
          | zero => simp at q; obtain ⟨_, _, rfl⟩ := q; exact hb 0 k y b (by simp)
          | succ j => exact i4 j k' x' n' (by simpa using q)
      · simp at h

theorem entryStore_ok (hs : SW F g κ H w) {t : TypeId} {m st x : AV} {rm rst rx : Value} (hm : VR g m rm) (hst : VR g st rst) (hx : VR g x rx) {H' : List AB} (h : aEntryStore H m st x = some H') :
    ∃ w', (Instr.entryStore t rm rst rx).run K.P w = .ok () w' ∧ SW F g κ H' w' := by
  unfold aEntryStore at h
  split at h
  · rename_i b kk n hn
    rw [nth_eq] at h
    split at h
    · rename_i es clock hH
      split at h
      · rename_i es' hb
        simp at h; subst h
        cases hm with
        | @map _ rb hρ =>
          obtain ⟨res, r1, r2, r3⟩ := map_blk hs hρ hH
          obtain ⟨i, e, i1, i2, i3, i4⟩ := born_ok hx.unown r2 r3 hb
          have i1' : res.findIdx? (fun e => (e.born : Int) == n) = some i := by
            obtain ⟨rl⟩ := res
            rw [← i1]; exact List.findIdx?_toArray ..
          obtain ⟨w', s1, s2⟩ := setMap (K := K) hs hH rfl hρ r1 (by simp) (BRo_map (res := res.modify i fun e => { e with val := rx }) (by rw [modify_toList i2]; exact i3) i4) (by simp)
          refine ⟨w', ?_, s2⟩
          have := asI_eq hst hn
          subst this
          simp only [Instr.entryStore, Sem.run_bind, run_getObj_map r1, Result.andThen_ok, asInt, asIntOf, Sem.run_pure, i1', s1]
      · simp at h
    · simp at h
  · simp at h

theorem Ents.erase {es : List (AV × AV × Nat)} {res : List MapEntry} (h : Ents g es res) (j : Nat) : Ents g (es.eraseIdx j) (res.eraseIdx j) := by
  refine ⟨by rw [List.length_eraseIdx, List.length_eraseIdx, h.1], fun i k x b e p q => ?_⟩
  rw [List.getElem?_eraseIdx] at p q
  split at p
  · rename_i hi
    rw [if_pos hi] at q
    exact h.2 i k x b e p q
  · rename_i hi
    rw [if_neg hi] at q
    exact h.2 (i + 1) k x b e p q

theorem delete_ok (hs : SW F g κ H w) {t ty : TypeId} {ats : Array TypeId} (ha : ats[0]? = some t) {m k : AV} {rm rk : Value} (hm : VR g m rm) (hk : VR g k rk) {H' : List AB} (h : aDelete K H t m k = some H') :
    ∃ w', (Builtin.delete_ ats ty #[rm, rk]).run K.P w = .ok (.tuple #[]) w' ∧ SW F g κ H' w' := by
  have e2 : (#[rm, rk] : Array Value)[0]? = some rm := rfl
  have e3 : (#[rm, rk] : Array Value)[1]? = some rk := rfl
  unfold aDelete at h
  split at h
  · rename_i kt et hu
    split at h
    · rename_i hok
      simp at h; subst h
      obtain ⟨rfl, _⟩ := vr_v hm
      exact ⟨w, by simp [Builtin.delete_, ha, e3, run_underlying hu, run_checkKey hok], hs⟩
    · simp at h
  · rename_i kt et b hu
    rw [nth_eq] at h
    split at h
    · rename_i es clock hH hok
      obtain ⟨d, hd⟩ : ∃ d, K.P.underlying kt = some d := by
        rcases keyOk_desc hok with ⟨_, _, _, q, _⟩ | ⟨_, q, _⟩ | ⟨_, q, _⟩ <;> exact ⟨_, q⟩
      cases hm with
      | @map _ rb hρ =>
        obtain ⟨res, r1, r2, r3⟩ := map_blk hs hρ hH
        split at h
        · rename_i i y born hf
          simp at h; subst h
          obtain ⟨e, f1, _, f3, f4, f5⟩ := find_ok hd hok hk r2 hf
          simp only [Nat.sub_zero] at f3 f4
          have hi : i < res.size := by have := (List.getElem?_eq_some_iff.1 f4).1; simpa using this
          have hE : Ents g (es.take i ++ es.drop (i + 1)) (res.eraseIdxIfInBounds i).toList := by
            have := r2.erase i
            rw [List.eraseIdx_eq_take_drop_succ] at this
            have e : (res.eraseIdxIfInBounds i).toList = res.toList.eraseIdx i := by
              rw [Array.eraseIdxIfInBounds, dif_pos hi]; simp
            rw [e]; exact this
          have hB : ∀ (j : Nat) (k' x' : AV) (n : Nat), (es.take i ++ es.drop (i + 1))[j]? = some (k', x', n) → n < clock := by
            intro j k' x' n q
            have hmem := List.mem_of_getElem? q
            have hmem' : (k', x', n) ∈ es := (List.mem_append.1 hmem).elim List.mem_of_mem_take List.mem_of_mem_drop
            obtain ⟨j', hj'⟩ := List.mem_iff_getElem?.1 hmem'
            exact r3 j' k' x' n hj'
          obtain ⟨w', s1, s2⟩ := setMap (K := K) hs hH rfl hρ r1 (by simp) (BRo_map hE hB) (by simp)
          refine ⟨w', ?_, s2⟩
          simp [Builtin.delete_, ha, e3, run_underlying hu, run_getObj_map r1, run_checkKey hok, run_findKey hd f1, s1]
        · rename_i hf
          simp at h; subst h
          have f1 := find_ok hd hok hk r2 hf
          obtain ⟨w', s1, s2⟩ := setMap (K := K) hs hH rfl hρ r1 (by simp) (BRo_map r2 r3) (by simp)
          rw [setAt_eq, set_self hH] at s2
          refine ⟨w', ?_, s2⟩
          simp [Builtin.delete_, ha, e3, run_underlying hu, run_getObj_map r1, run_checkKey hok, run_findKey hd f1, s1]
        · simp at h
    · simp at h
  · simp at h
end
end Go.Tm
