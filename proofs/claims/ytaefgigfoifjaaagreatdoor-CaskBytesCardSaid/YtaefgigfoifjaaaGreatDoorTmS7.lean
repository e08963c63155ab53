/- The tree machine: operators, lengths, conversions, parts of tuples, methods, assertions. -/
import Derived.Test.YtaefgigfoifjaaaGreatDoorTmS6
set_option linter.unusedVariables false
set_option linter.unusedSimpArgs false
set_option linter.unusedSectionVars false
namespace Go.Tm
section
variable {F : Fr} {g : Gh} {κ : Nat → Option Tok} {own : Nat → Nat} {H : List AB} {w : World} {K : Cfg}

theorem flat_v {r : Value} (h : flat r = true) : VR g (.v r) r := .v h

theorem vr_v {a r : Value} (h : VR g (.v a) r) : a = r ∧ flat r = true := by
 cases h with
 | v h => exact ⟨rfl, h⟩

theorem str_toList (s : List UInt8) : (⟨⟨s⟩⟩ : ByteArray).toList = s := by rw [ByteArray.toList_eq]

theorem str_append (s t : List UInt8) : (⟨⟨s⟩⟩ : ByteArray) ++ ⟨⟨t⟩⟩ = ⟨⟨s ++ t⟩⟩ := by
 apply ByteArray.ext
 rw [ByteArray.data_append]
 simp

theorem eqGuard_str {P : Program} {op : BinOp} {t : TypeId} {xo yo : Operand} {a b : ByteArray} : (eqGuard op t xo yo (.string a) (.string b)).run P w = .ok () w := by
 unfold eqGuard
 cases op <;> rfl

theorem strOp_ok {op : BinOp} {t : TypeId} {xo yo : Operand} {a b : List UInt8} {p p' : List Bool} {y : AV} (h : Ok (aStrOp K op a b) p y p') :
  ∃ r, ((do eqGuard op t xo yo (.string ⟨⟨a⟩⟩) (.string ⟨⟨b⟩⟩); binOp op t (.string ⟨⟨a⟩⟩) (.string ⟨⟨b⟩⟩)) : Sem Value).run K.P w = .ok r w ∧ VR g y r := by
 have hg : ∀ (s : Sem Value), ((do eqGuard op t xo yo (.string ⟨⟨a⟩⟩) (.string ⟨⟨b⟩⟩); s) : Sem Value).run K.P w = s.run K.P w := by
  intro s
  simp only [Sem.run_bind, eqGuard_str, Result.andThen_ok]
 rw [hg]
 unfold aStrOp at h
 split at h
 ·simp only [Ok_bind, Ok_chk, Ok_pure, decide_eq_true_eq] at h
  obtain ⟨_, _, ⟨hb, _⟩, rfl, _⟩ := h
  refine ⟨.string ⟨⟨a ++ b⟩⟩, ?_, .str⟩
  have hsz : ¬ (((⟨⟨a⟩⟩ : ByteArray).size + (⟨⟨b⟩⟩ : ByteArray).size : Nat) : Int) > IntKind.i64.max := by
   have e1 : (⟨⟨a⟩⟩ : ByteArray).size = a.length := rfl
   have e2 : (⟨⟨b⟩⟩ : ByteArray).size = b.length := rfl
   have e3 : IntKind.i64.max = 9223372036854775807 := by decide
   rw [e1, e2, e3]; omega
  simp only [binOp, Op.stringOp, if_neg hsz, str_append]
  rfl
 all_goals (try (exact absurd h Ok_fail))
 all_goals
  rw [Ok_pure] at h
  obtain ⟨rfl, _⟩ := h
  refine ⟨_, ?_, .v rfl⟩
  simp only [binOp, Op.stringOp, str_toList]
  rfl

section
variable {P : Program} {t : TypeId} (d : Nat)
theorem eqIn_slice1 {e : TypeId} {n c : Nat} {b : Option Addr} {m k : Nat} (h : P.underlying t = some (.slice e)) : (Op.equalIn (d + 1) t (.slice none n c) (.slice b m k)).run P w = .ok b.isNone w := by simp [Op.equalIn, run_underlying h]
theorem eqIn_slice2 {e : TypeId} {n c : Nat} {b : Addr} {m k : Nat} (h : P.underlying t = some (.slice e)) : (Op.equalIn (d + 1) t (.slice (some b) m k) (.slice none n c)).run P w = .ok false w := by simp [Op.equalIn, run_underlying h]
theorem eqIn_map1 {k e : TypeId} {b : Nat} (h : P.underlying t = some (.map k e)) : (Op.equalIn (d + 1) t (.map (some b)) (.map none)).run P w = .ok false w := by simp [Op.equalIn, run_underlying h]
theorem eqIn_map2 {k e : TypeId} {b : Nat} (h : P.underlying t = some (.map k e)) : (Op.equalIn (d + 1) t (.map none) (.map (some b))).run P w = .ok false w := by simp [Op.equalIn, run_underlying h]
theorem eqIn_ptr1 {e : TypeId} {b : Addr} (h : P.underlying t = some (.pointer e)) : (Op.equalIn (d + 1) t (.pointer (some b)) (.pointer none)).run P w = .ok false w := by simp [Op.equalIn, run_underlying h]
theorem eqIn_ptr2 {e : TypeId} {b : Addr} (h : P.underlying t = some (.pointer e)) : (Op.equalIn (d + 1) t (.pointer none) (.pointer (some b))).run P w = .ok false w := by simp [Op.equalIn, run_underlying h]
theorem eqIn_ptr3 {e : TypeId} {b o o' n : Nat} (h : P.underlying t = some (.pointer e)) (hn : tSize P e = some (n + 1)) : (Op.equalIn (d + 1) t (.pointer (some ⟨b, o, none⟩)) (.pointer (some ⟨b, o', none⟩))).run P w = .ok (o == o') w := by
 simp only [Op.equalIn, Sem.run_bind, run_underlying h, Result.andThen_ok, run_tSize hn]
 have : ((⟨b, o, none⟩ : Addr) == ⟨b, o', none⟩) = (o == o') := by rw [Bool.eq_iff_iff]; simp
 simp [sameAddr, this]
theorem eqIn_func1 {a b : Array TypeId} {v : Bool} {fn : Fn} {f c : Array Value} (h : P.underlying t = some (.func a b v)) : (Op.equalIn (d + 1) t (.func fn f c) .nilFunc).run P w = .ok false w := by simp [Op.equalIn, run_underlying h]
theorem eqIn_func2 {a b : Array TypeId} {v : Bool} {fn : Fn} {f c : Array Value} (h : P.underlying t = some (.func a b v)) : (Op.equalIn (d + 1) t .nilFunc (.func fn f c)).run P w = .ok false w := by simp [Op.equalIn, run_underlying h]
theorem eqIn_iface1 {ms : Array (String × TypeId)} {u : TypeId} {v : Value} (h : P.underlying t = some (.interface ms)) : (Op.equalIn (d + 1) t (.iface u v) .nilIface).run P w = .ok false w := by simp [Op.equalIn, run_underlying h]
theorem eqIn_iface2 {ms : Array (String × TypeId)} {u : TypeId} {v : Value} (h : P.underlying t = some (.interface ms)) : (Op.equalIn (d + 1) t .nilIface (.iface u v)).run P w = .ok false w := by simp [Op.equalIn, run_underlying h]
end

theorem eqGuard_other {P : Program} {op : BinOp} {t : TypeId} {xo yo : Operand} {a b : Value} (h1 : ¬ (a = .nilIface ∧ b = .nilIface)) (h2 : ∀ c d, ¬ (a = .agg c ∧ b = .agg d)) : (eqGuard op t xo yo a b).run P w = .ok () w := by
 cases op <;> first
  | rfl
  | (cases a <;> first
    | rfl
    | (cases b <;> first
      | rfl
      | exact absurd ⟨rfl, rfl⟩ h1
      | exact absurd ⟨rfl, rfl⟩ (h2 _ _)))

def EqTo (K : Cfg) (w : World) (t : TypeId) (rx ry : Value) (b : Bool) : Prop :=
 (∀ xo yo, ((do eqGuard .eql t xo yo rx ry; binOp .eql t rx ry) : Sem Value).run K.P w = .ok (.bool b) w) ∧ (∀ xo yo, ((do eqGuard .neq t xo yo rx ry; binOp .neq t rx ry) : Sem Value).run K.P w = .ok (.bool !b) w)

theorem EqTo.mk {t : TypeId} {rx ry : Value} {b : Bool} (h1 : ¬ (rx = .nilIface ∧ ry = .nilIface)) (h2 : ∀ c d, ¬ (rx = .agg c ∧ ry = .agg d)) (h3 : (Op.equal t rx ry).run K.P w = .ok b w)
  (h4 : binOp .eql t rx ry = (do pure (.bool (← Op.equal t rx ry)))) (h5 : binOp .neq t rx ry = (do pure (.bool (!(← Op.equal t rx ry))))) : EqTo K w t rx ry b :=
 ⟨fun xo yo => by simp only [Sem.run_bind, eqGuard_other h1 h2, Result.andThen_ok, h4, h3, Sem.run_pure], fun xo yo => by simp only [Sem.run_bind, eqGuard_other h1 h2, Result.andThen_ok, h5, h3, Sem.run_pure]⟩

theorem nilEq_ok {t : TypeId} {x y : AV} {rx ry : Value} (hx : VR g x rx) (hy : VR g y ry) {b : Bool} (h : aNilEq K t x y = some b) : EqTo K w t rx ry b := by
 unfold aNilEq at h
 split at h
 ·rename_i ys tl hu; simp at h; subst h
  cases hx with
  | nil =>
   cases hy with
   | nil => exact .mk (by simp) (by simp) (eqIn_slice1 9999 hu) rfl rfl
   | @sl _ _ _ _ _ _ rs ht hs hc h1 hn hf hi hh =>
    have : (tl == Tail.nil) = false := by simpa using ht
    rw [this]
    exact .mk (by simp) (by simp) (eqIn_slice1 9999 hu) rfl rfl
  | sl rs ht => exact absurd rfl ht
 ·rename_i ys tl _ hu; simp at h; subst h
  cases hy with
  | nil =>
   cases hx with
   | nil => exact .mk (by simp) (by simp) (eqIn_slice1 9999 hu) rfl rfl
   | @sl _ _ _ _ _ _ rs ht hs hc h1 hn hf hi hh =>
    have : (tl == Tail.nil) = false := by simpa using ht
    rw [this]
    exact .mk (by simp) (by simp) (eqIn_slice2 9999 hu) rfl rfl
  | sl rs ht => exact absurd rfl ht
 ·rename_i hu; simp at h; subst h
  cases hx with
  | nil =>
   cases hy with
   | ms hb hn => exact .mk (by simp) (by simp) (eqIn_slice1 9999 hu) rfl rfl
  | sl rs ht => exact absurd rfl ht
 ·rename_i hu; simp at h; subst h
  cases hy with
  | nil =>
   cases hx with
   | ms hb hn => exact .mk (by simp) (by simp) (eqIn_slice2 9999 hu) rfl rfl
  | sl rs ht => exact absurd rfl ht
 ·rename_i hu; simp at h; subst h
  obtain ⟨rfl, _⟩ := vr_v hy
  cases hx with
  | map hb => exact .mk (by simp) (by simp) (eqIn_map1 9999 hu) rfl rfl
 ·rename_i hu; simp at h; subst h
  obtain ⟨rfl, _⟩ := vr_v hx
  cases hy with
  | map hb => exact .mk (by simp) (by simp) (eqIn_map2 9999 hu) rfl rfl
 ·rename_i hu
  split at h
  ·rename_i n hn
   split at h
   ·rename_i hbb; subst hbb
    simp at h; subst h
    cases hx with
    | @ptr _ _ rb hb =>
     cases hy with
     | @ptr _ _ rb' hb' =>
      rw [hb] at hb'; cases hb'
      exact .mk (by simp) (by simp) (eqIn_ptr3 9999 hu hn) rfl rfl
   ·simp at h
  ·simp at h
 ·rename_i hu; simp at h; subst h
  obtain ⟨rfl, _⟩ := vr_v hy
  cases hx with
  | ptr hb => exact .mk (by simp) (by simp) (eqIn_ptr1 9999 hu) rfl rfl
 ·rename_i hu; simp at h; subst h
  obtain ⟨rfl, _⟩ := vr_v hy
  cases hx with
  | rp rs hc h1 hi hh => exact .mk (by simp) (by simp) (eqIn_ptr1 9999 hu) rfl rfl
 ·rename_i hu; simp at h; subst h
  obtain ⟨rfl, _⟩ := vr_v hx
  cases hy with
  | ptr hb => exact .mk (by simp) (by simp) (eqIn_ptr2 9999 hu) rfl rfl
 ·rename_i hu; simp at h; subst h
  obtain ⟨rfl, _⟩ := vr_v hx
  cases hy with
  | rp rs hc h1 hi hh => exact .mk (by simp) (by simp) (eqIn_ptr2 9999 hu) rfl rfl
 ·rename_i hu; simp at h; subst h
  obtain ⟨rfl, _⟩ := vr_v hy
  cases hx with
  | func => exact .mk (by simp) (by simp) (eqIn_func1 9999 hu) rfl rfl
 ·rename_i hu; simp at h; subst h
  obtain ⟨rfl, _⟩ := vr_v hx
  cases hy with
  | func => exact .mk (by simp) (by simp) (eqIn_func2 9999 hu) rfl rfl
 ·rename_i hu; simp at h; subst h
  obtain ⟨rfl, _⟩ := vr_v hy
  cases hx with
  | iface => exact .mk (by simp) (by simp) (eqIn_iface1 9999 hu) rfl rfl
 ·rename_i hu; simp at h; subst h
  obtain ⟨rfl, _⟩ := vr_v hx
  cases hy with
  | iface => exact .mk (by simp) (by simp) (eqIn_iface2 9999 hu) rfl rfl
 ·simp at h

theorem binOp_ok {op : BinOp} {t : TypeId} {xo yo : Operand} {x y : AV} {rx ry : Value} (hx : VR g x rx) (hy : VR g y ry) {p p' : List Bool} {z : AV} (h : Ok (aBinOp K op t xo yo x y) p z p') :
  ∃ r, ((do eqGuard op t xo yo rx ry; binOp op t rx ry) : Sem Value).run K.P w = .ok r w ∧ VR g z r := by
 unfold aBinOp at h
 split at h
 ·cases hx; cases hy
  exact strOp_ok h
 ·rename_i a b
  obtain ⟨rfl, _⟩ := vr_v hx
  obtain ⟨rfl, _⟩ := vr_v hy
  split at h
  ·rename_i r hr
   split at h
   ·rename_i hf
    rw [Ok_pure] at h
    obtain ⟨rfl, _⟩ := h
    exact ⟨r, pureRun_run hr w, .v hf⟩
   ·exact absurd h Ok_fail
  ·exact absurd h Ok_fail
 ·split at h
  ·rename_i a b ha hb
   rw [toV_VR hx ha, toV_VR hy hb] at h
   split at h
   ·rename_i r hr
    split at h
    ·rename_i hf
     rw [Ok_pure] at h
     obtain ⟨rfl, _⟩ := h
     exact ⟨r, pureRun_run hr w, .v hf⟩
    ·exact absurd h Ok_fail
   ·exact absurd h Ok_fail
  ·exact absurd h Ok_fail
 ·rename_i tx a ty b
  cases hx with
  | iface hx =>
   cases hy with
   | iface hy =>
    obtain ⟨rfl, _⟩ := vr_v hx
    obtain ⟨rfl, _⟩ := vr_v hy
    split at h
    ·rename_i r hr
     split at h
     ·rename_i hf
      rw [Ok_pure] at h
      obtain ⟨rfl, _⟩ := h
      exact ⟨r, pureRun_run hr w, .v hf⟩
     ·exact absurd h Ok_fail
    ·exact absurd h Ok_fail
 ·split at h
  ·rename_i b hb
   rw [Ok_pure] at h
   obtain ⟨rfl, _⟩ := h
   exact ⟨_, (nilEq_ok (w := w) hx hy hb).1 xo yo, .v rfl⟩
  ·rename_i b hb
   rw [Ok_pure] at h
   obtain ⟨rfl, _⟩ := h
   exact ⟨_, (nilEq_ok (w := w) hx hy hb).2 xo yo, .v rfl⟩
  ·exact absurd h Ok_fail

theorem unOp_ok {op : UnOp} {x : AV} {rx : Value} (hx : VR g x rx) {z : AV} (h : aUnOp K op x = some z) : ∃ r, (Op.unary op rx).run K.P w = .ok r w ∧ VR g z r := by
 unfold aUnOp at h
 split at h
 ·obtain ⟨rfl, _⟩ := vr_v hx
  split at h
  ·rename_i r hr
   split at h
   ·simp at h; subst h
    exact ⟨r, pureRun_run hr w, .v ‹_›⟩
   ·simp at h
  ·simp at h
 ·simp at h

theorem len_ok (hs : SW F g κ H w) {t : TypeId} {x : AV} {rx : Value} (hx : VR g x rx) {z : AV} (h : aLen K t H x = some z) (ty : TypeId) (ats : Array TypeId) (ha : ats[0]? = some t) :
  ∃ r, (Builtin.len_ ats ty #[rx]).run K.P w = .ok r w ∧ VR g z r := by
 unfold aLen at h
 split at h
 ·rename_i hu; simp at h; subst h
  cases hx with
  | str => exact ⟨_, by simp [Builtin.len_, ha, run_underlying hu] <;> rfl, .v rfl⟩
 ·rename_i hu; simp at h; subst h
  refine ⟨_, ?_, .v rfl⟩
  have hv : (#[rx] : Array Value)[0]? = some rx := rfl
  simp only [Builtin.len_, ha, hv, Sem.run_bind, run_underlying hu, Result.andThen_ok]
  cases rx <;> rfl
 ·rename_i hu; simp at h; subst h
  cases hx with
  | nil => exact ⟨_, by simp [Builtin.len_, ha, run_underlying hu] <;> rfl, .v rfl⟩
  | sl => exact ⟨_, by simp [Builtin.len_, ha, run_underlying hu] <;> rfl, .v rfl⟩
 ·rename_i hu; simp at h; subst h
  cases hx with
  | ms => exact ⟨_, by simp [Builtin.len_, ha, run_underlying hu] <;> rfl, .v rfl⟩
 ·rename_i hu; simp at h; subst h
  obtain ⟨rfl, _⟩ := vr_v hx
  exact ⟨_, by simp [Builtin.len_, ha, run_underlying hu] <;> rfl, .v rfl⟩
 ·rename_i hu
  rw [nth_eq] at h
  split at h
  ·rename_i es c hH
   simp at h; subst h
   cases hx with
   | map hb =>
    obtain ⟨rb', o, q1, q2, q3, _⟩ := hs.blk _ _ hH rfl
    rw [hb] at q1; cases q1
    cases o with
    | map res rc =>
     refine ⟨goInt res.size, ?_, by rw [q3.2.1]; exact .v rfl⟩
     simp [Builtin.len_, ha, run_underlying hu, getObj, Sem.run, q2]
    | _ => simp [BRo] at q3
  ·simp at h
 ·simp at h

theorem minMax_go {isMax : Bool} : ∀ {rest : List AV} {rr : List Value} {k : IntKind} {n : Int} {z : AV}, VRs g rest rr → aMinMax.go isMax k n rest = some z →
  ∃ m, z = .v (.int k m) ∧ (rr.foldlM (if isMax then Builtin.max2 else Builtin.min2) (.int k n) : Sem Value).run K.P w = .ok (.int k m) w
 | [], rr, k, n, z, hv, h => by
  cases rr with
  | nil => simp [aMinMax.go] at h; subst h; exact ⟨n, rfl, rfl⟩
  | cons => exact absurd hv.1 (by simp)
 | x :: rest, rr, k, n, z, hv, h => by
  obtain ⟨r, rs, rfl, hr, hrest⟩ := hv.head
  unfold aMinMax.go at h
  split at h
  ·rename_i hq; simp at hq
  ·rename_i k' y rest' hq
   simp at hq
   obtain ⟨rfl, rfl⟩ := hq
   obtain ⟨rfl, _⟩ := vr_v hr
   obtain ⟨m, h1, h2⟩ := minMax_go hrest h
   refine ⟨m, h1, ?_⟩
   cases isMax <;> simp [Builtin.max2, Builtin.min2] at h2 ⊢ <;> exact h2
  ·simp at h

theorem extract_ok {x : AV} {rx : Value} (hx : VR g x rx) {i : Nat} {z : AV} (h : aExtract i x = some z) : ∃ r, (Instr.extract rx i).run K.P w = .ok r w ∧ VR g z r := by
 unfold aExtract at h
 split at h
 ·rename_i xs
  rw [nth_eq] at h
  cases hx with
  | @tup _ rs hl hv =>
   obtain ⟨r, h1, h2⟩ := VRs.get ⟨hl, hv⟩ h
   exact ⟨r, by simp [Instr.extract, h1], h2⟩
 ·simp at h
end
end Go.Tm
