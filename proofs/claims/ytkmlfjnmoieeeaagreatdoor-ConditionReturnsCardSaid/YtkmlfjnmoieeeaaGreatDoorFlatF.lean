/- A machine over plain values. Part F: what the pure operations come to, one by one. -/
import Derived.Test.YtkmlfjnmoieeeaaGreatDoorFlatE
set_option linter.unusedVariables false
set_option linter.unusedSimpArgs false
namespace Go.Flat
variable {P : Program} {C : Cx} {w : World} {n : Nat} {T : Temps} {a : Act}

theorem opds_len {xs : List Operand} {ys : List Opd} (h : compOpds xs = some ys) : xs.length = ys.length := by
  induction xs generalizing ys with
  | nil => simp [compOpds] at h; subst h; rfl
  | cons x xs ih =>
    simp only [compOpds] at h
    split at h
    · rename_i y ys' h1 h2
      injection h with h; subst h
      simp [ih h2]
    · simp at h

theorem bin_ok (hT : TRel C w n T a) {op : BinOp} {xt : TypeId} {x y : Operand} {x' y' : Opd} (hx : compOpd x = some x') (hy : compOpd y = some y') {p : PV} (h : binA op (x'.ev T) (y'.ev T) = some p) :
    Gives P C w (do eqGuard op xt x y (a.eval x) (a.eval y); binOp op xt (a.eval x) (a.eval y)) p := by
  have rx := opd_rep hT hx
  have ry := opd_rep hT hy
  revert rx ry h
  generalize x'.ev T = u
  generalize y'.ev T = v
  generalize hax : a.eval x = ax
  generalize hay : a.eval y = ay
  intro h rx ry
  have guard : ∀ (k1 k2 : IntKind) (i j : Int), ax = .int k1 i → ay = .int k2 j → (eqGuard op xt x y ax ay).run P w = .ok () w := by
    rintro k1 k2 i j rfl rfl
    cases op <;> rfl
  have guards : ∀ (i j : ByteArray), ax = .string i → ay = .string j → (eqGuard op xt x y ax ay).run P w = .ok () w := by
    rintro i j rfl rfl
    cases op <;> rfl
  unfold binA at h
  split at h
  · rename_i k1 i k2 j
    cases rep_int rx; cases rep_int ry
    unfold shiftA at h
    split at h
    · simp at h
    · rename_i hneg
      injection h with h; subst h
      refine ⟨_, ?_, .int _ _⟩
      simp only [Sem.run_bind, guard _ _ _ _ rfl rfl, Result.andThen_ok, binOp, Op.shift, if_neg hneg]
      rfl
  · rename_i k1 i k2 j
    cases rep_int rx; cases rep_int ry
    unfold shiftA at h
    split at h
    · simp at h
    · rename_i hneg
      injection h with h; subst h
      refine ⟨_, ?_, .int _ _⟩
      simp only [Sem.run_bind, guard _ _ _ _ rfl rfl, Result.andThen_ok, binOp, Op.shift, if_neg hneg]
      rfl
  · rename_i k1 i k2 j hs hr
    cases rep_int rx; cases rep_int ry
    split at h
    · rename_i hk
      subst hk
      have hs' : op ≠ .shl := fun e => hs e
      have hr' : op ≠ .shr := fun e => hr e
      obtain ⟨v, h1, h2⟩ := intBin_ok (P := P) (C := C) (w := w) op k1 i j p h hs' hr' xt
      exact ⟨v, by simp only [Sem.run_bind, guard _ _ _ _ rfl rfl, Result.andThen_ok, h1], h2⟩
    · simp at h
  · rename_i i j
    obtain ⟨s1, rfl, rfl⟩ := rep_str rx
    obtain ⟨s2, rfl, rfl⟩ := rep_str ry
    have hs' : op ≠ .shl := by rintro rfl; simp [strBin] at h
    have hr' : op ≠ .shr := by rintro rfl; simp [strBin] at h
    obtain ⟨v, h1, h2⟩ := strBin_ok (P := P) (C := C) (w := w) op s1 s2 p h hs' hr' xt
    exact ⟨v, by simp only [Sem.run_bind, guards _ _ rfl rfl, Result.andThen_ok, h1], h2⟩
  · simp at h

theorem eqBool_ok (hT : TRel C w n T a) {op : BinOp} {xt : TypeId} (hu : P.underlying xt = some .bool) {x y : Operand} {x' y' : Opd} (hx : compOpd x = some x') (hy : compOpd y = some y') {neq : Bool} (ho : op = if neq then .neq else .eql) {p : PV}
    (h : eqBoolA neq (x'.ev T) (y'.ev T) = some p) : Gives P C w (do eqGuard op xt x y (a.eval x) (a.eval y); binOp op xt (a.eval x) (a.eval y)) p := by
  have rx := opd_rep hT hx
  have ry := opd_rep hT hy
  unfold eqBoolA at h
  split at h
  · rename_i b1 b2 e1 e2
    rw [e1] at rx; rw [e2] at ry
    rw [rep_bool rx, rep_bool ry]
    injection h with h; subst h
    have he := run_equalIn_bool' (P := P) w 9999 xt b1 b2 hu
    cases neq <;> subst ho
    · exact ⟨.bool (b1 == b2), by simp only [Sem.run_bind, eqGuard, binOp, Op.equal, Op.maxDepth]; simp [he], .bool _⟩
    · exact ⟨.bool (!(b1 == b2)), by simp only [Sem.run_bind, eqGuard, binOp, Op.equal, Op.maxDepth]; simp [he], .bool _⟩
  · simp at h

theorem eqNil_ok (hT : TRel C w n T a) {op : BinOp} {xt : TypeId} {kd : NilKind} (hk : nilKind P xt = some kd) {x y : Operand} {x' : Opd} (hxy : (isNilOpd kd y = true ∧ compOpd x = some x') ∨ (isNilOpd kd x = true ∧ compOpd y = some x')) {neq : Bool} (ho : op = if neq then .neq else .eql) {b : Bool}
    (h : isNilK kd (x'.ev T) = some b) : Gives P C w (do eqGuard op xt x y (a.eval x) (a.eval y); binOp op xt (a.eval x) (a.eval y)) (.bool (if neq then !b else b)) := by
  have gen : ∀ (u z : Value), (kd = .ptr → z = .pointer none) ∧ (kd = .iface → z = .nilIface) ∧ (kd = .func → z = .nilFunc) ∧ (kd = .map → z = .map none) → Rep C w (x'.ev T) u →
      ((Op.equalIn 10000 xt u z).run P w = .ok b w ∧ (Op.equalIn 10000 xt z u).run P w = .ok b w) ∧ (∀ us vs, ¬ (u = .agg us ∧ z = .agg vs)) ∧
      (∀ k i j, ¬ (u = .int k i ∧ z = .int k j)) := by
    intro u z hm hr
    refine ⟨nilK_ok (d := 9999) hk hr h hm, ?_, ?_⟩ <;> (intros; rintro ⟨rfl, rfl⟩; cases kd <;> simp at hm)
  have eqs : ∀ (u z : Value), (kd = .ptr → z = .pointer none) ∧ (kd = .iface → z = .nilIface) ∧ (kd = .func → z = .nilFunc) ∧ (kd = .map → z = .map none) → Rep C w (x'.ev T) u →
      (binOp op xt u z).run P w = .ok (.bool (if neq then !b else b)) w ∧ (binOp op xt z u).run P w = .ok (.bool (if neq then !b else b)) w := by
    intro u z hm hr
    obtain ⟨⟨e1, e2⟩, _, _⟩ := gen u z hm hr
    have hz : z = .pointer none ∨ z = .nilIface ∨ z = .nilFunc ∨ z = .map none := by cases kd <;> simp_all
    have e1' : (Op.equal xt u z).run P w = .ok b w := e1
    have e2' : (Op.equal xt z u).run P w = .ok b w := e2
    clear gen h hxy
    cases neq
    · obtain rfl : op = .eql := by simpa using ho
      rcases hz with rfl | rfl | rfl | rfl <;> cases u <;> (simp only [binOp, Sem.run_bind, e1', e2', Result.andThen_ok]; constructor <;> rfl)
    · obtain rfl : op = .neq := by simpa using ho
      rcases hz with rfl | rfl | rfl | rfl <;> cases u <;> (simp only [binOp, Sem.run_bind, e1', e2', Result.andThen_ok]; constructor <;> rfl)
  rcases hxy with ⟨hn, hc⟩ | ⟨hn, hc⟩
  · obtain ⟨z, rfl, hm⟩ := nil_value hn
    have rx := opd_rep hT hc
    refine ⟨_, ?_, .bool _⟩
    have hg : (eqGuard op xt x (.const z) (a.eval x) z).run P w = .ok () w := by
      have hz : z = .pointer none ∨ z = .nilIface ∨ z = .nilFunc ∨ z = .map none := by cases kd <;> simp_all
      cases neq
      · obtain rfl : op = .eql := by simpa using ho
        rcases hz with rfl | rfl | rfl | rfl <;> cases a.eval x <;> first | rfl | (cases x <;> rfl)
      · obtain rfl : op = .neq := by simpa using ho
        rcases hz with rfl | rfl | rfl | rfl <;> cases a.eval x <;> first | rfl | (cases x <;> rfl)
    show ((do eqGuard op xt x (.const z) (a.eval x) z; binOp op xt (a.eval x) z : Sem Value)).run P w = _
    simp only [Sem.run_bind, hg, Result.andThen_ok]
    exact (eqs _ _ hm rx).1
  · obtain ⟨z, rfl, hm⟩ := nil_value hn
    have rx := opd_rep hT hc
    refine ⟨_, ?_, .bool _⟩
    have hg : (eqGuard op xt (.const z) y z (a.eval y)).run P w = .ok () w := by
      have hz : z = .pointer none ∨ z = .nilIface ∨ z = .nilFunc ∨ z = .map none := by cases kd <;> simp_all
      cases neq
      · obtain rfl : op = .eql := by simpa using ho
        rcases hz with rfl | rfl | rfl | rfl <;> cases a.eval y <;> first | rfl | (cases y <;> rfl)
      · obtain rfl : op = .neq := by simpa using ho
        rcases hz with rfl | rfl | rfl | rfl <;> cases a.eval y <;> first | rfl | (cases y <;> rfl)
    show ((do eqGuard op xt (.const z) y z (a.eval y); binOp op xt z (a.eval y) : Sem Value)).run P w = _
    simp only [Sem.run_bind, hg, Result.andThen_ok]
    exact (eqs _ _ hm rx).2

theorem eqAgg_ok (hT : TRel C w n T a) {op : BinOp} {xt : TypeId} {fs : Array Field} {ks : List EqK} (hu : P.underlying xt = some (.struct fs)) (hf : flatFields P 0 fs.toList = some ks) (hs : P.stoodInHeld xt = false) (hg : P.eqGuardType P.depth xt = false)
    {x y : Operand} {x' y' : Opd} (hx : compOpd x = some x') (hy : compOpd y = some y') {neq : Bool} (ho : op = if neq then .neq else .eql) {p : PV}
    (h : eqAggA neq ks (x'.ev T) (y'.ev T) = some p) : Gives P C w (do eqGuard op xt x y (a.eval x) (a.eval y); binOp op xt (a.eval x) (a.eval y)) p := by
  have rx := opd_rep hT hx
  have ry := opd_rep hT hy
  unfold eqAggA at h
  split at h
  · rename_i ps qs e1 e2
    rw [e1] at rx; rw [e2] at ry
    cases hc : eqCells ks ps qs with
    | none => simp [hc] at h
    | some b =>
      simp [hc] at h
      subst h
      generalize a.eval x = ax at *
      generalize a.eval y = ay at *
      cases rx with
      | agg h1 h2 hr =>
        cases ry with
        | agg g1 g2 gr =>
          rename_i us vs
          have hfo : P.fieldsOf xt = fs := by simp [Program.fieldsOf, hu]
          have he : (Op.equalIn 10000 xt (.agg us) (.agg vs)).run P w = .ok b w := by
            rw [run_equalIn_struct (P := P) w 9999 xt us vs (by rw [hfo]; exact hu) hs, hfo]
            exact agg_ok 9998 fs.toList 0 ks hf ps qs us vs b (fun i p u h h' => hr i p u h (by simpa using h')) (fun i p u h h' => gr i p u h (by simpa using h')) (by simpa using h1) (by simpa using g1) hc
          have hgd := run_eqGuard_agg (P := P) w op xt x y us vs hg
          refine ⟨.bool (if neq then !b else b), ?_, .bool _⟩
          simp only [Sem.run_bind, hgd, Result.andThen_ok]
          cases neq
          · obtain rfl : op = .eql := by simpa using ho
            rw [run_eql_struct, he]; rfl
          · obtain rfl : op = .neq := by simpa using ho
            rw [run_neq_struct, he]; rfl
  · simp at h

theorem intTypes_ok {t : TypeId} (h : (intTypes P).contains t = true) : ∃ i k, P.info? t = some i ∧ i.comparable = true ∧ P.underlying t = some (.int k) := by
  simp only [intTypes, List.contains_eq_mem, List.mem_filter, decide_eq_true_eq, Bool.and_eq_true] at h
  obtain ⟨_, h1, h2⟩ := h
  cases hi : P.info? t with
  | none => simp [hi] at h1
  | some i =>
    rw [hi] at h1
    cases hu : P.underlying t with
    | none => simp [hu] at h2
    | some d =>
      rw [hu] at h2
      cases d <;> simp at h2
      exact ⟨i, _, rfl, h1, rfl⟩
theorem equalIn_ne {d : Nat} {xt t u : TypeId} {vx vy : Value} {ms : Array (String × TypeId)} (hu : P.underlying xt = some (.interface ms)) (h : t ≠ u) : (Op.equalIn (d + 1) xt (.iface t vx) (.iface u vy)).run P w = .ok false w := by
  simp [Op.equalIn, run_underlying hu, h]
theorem equalIn_nil1 {d : Nat} {xt t : TypeId} {vx : Value} {ms : Array (String × TypeId)} (hu : P.underlying xt = some (.interface ms)) : (Op.equalIn (d + 1) xt (.iface t vx) .nilIface).run P w = .ok false w := by
  simp [Op.equalIn, run_underlying hu]
theorem equalIn_nil2 {d : Nat} {xt t : TypeId} {vx : Value} {ms : Array (String × TypeId)} (hu : P.underlying xt = some (.interface ms)) : (Op.equalIn (d + 1) xt .nilIface (.iface t vx)).run P w = .ok false w := by
  simp [Op.equalIn, run_underlying hu]
theorem equalIn_same {d : Nat} {xt t : TypeId} {vx vy : Value} {ms : Array (String × TypeId)} {i : TypeInfo} (hu : P.underlying xt = some (.interface ms)) (hi : P.info? t = some i) (hc : i.comparable = true) :
    (Op.equalIn (d + 1) xt (.iface t vx) (.iface t vy)).run P w = (Op.equalIn d t vx vy).run P w := by
  simp [Op.equalIn, run_underlying hu, run_typeInfo (P := P) w hi, hc]
theorem eqCell_int_inv {q r : PV} {b : Bool} (h : eqCell .int q r = some b) : ∃ k m n, q = .int k m ∧ r = .int k n ∧ b = (m == n) := by
  cases q <;> cases r <;> simp [eqCell] at h
  obtain ⟨h1, h2⟩ := h
  subst h1
  exact ⟨_, _, _, rfl, rfl, h2.symm⟩
theorem eqIf_ok (hT : TRel C w n T a) {op : BinOp} {xt : TypeId} (hk : nilKind P xt = some .iface) {x y : Operand} {x' y' : Opd} (hx : compOpd x = some x') (hy : compOpd y = some y') {neq : Bool} (ho : op = if neq then .neq else .eql) {p : PV}
    (h : eqIfA neq (intTypes P) (x'.ev T) (y'.ev T) = some p) : Gives P C w (do eqGuard op xt x y (a.eval x) (a.eval y); binOp op xt (a.eval x) (a.eval y)) p := by
  have rx := opd_rep hT hx
  have ry := opd_rep hT hy
  obtain ⟨ms, hu⟩ : ∃ ms, P.underlying xt = some (.interface ms) := by
    unfold nilKind at hk
    split at hk <;> first | (simp at hk; done) | exact ⟨_, by assumption⟩
  have fin : ∀ (u v : Value) (b : Bool), (Op.equalIn 10000 xt u v).run P w = .ok b w → (∀ us vs, ¬ (u = .agg us ∧ v = .agg vs)) → ¬ (u = .nilIface ∧ v = .nilIface) → ((∃ t q, u = .iface t q) ∨ u = .nilIface) → ((∃ t q, v = .iface t q) ∨ v = .nilIface) →
      p = .bool (if neq then !b else b) → Gives P C w (do eqGuard op xt x y u v; binOp op xt u v) p := by
    intro u v b he h1 h2 h3 h4 hp
    subst hp
    refine ⟨.bool (if neq then !b else b), ?_, .bool _⟩
    rcases h3 with ⟨t, q, rfl⟩ | rfl
    · rcases h4 with ⟨t', q', rfl⟩ | rfl
      · cases neq <;> subst ho <;> simp [Sem.run_bind, eqGuard, binOp, Op.equal, Op.maxDepth, he]
      · cases neq <;> subst ho <;> simp [Sem.run_bind, eqGuard, binOp, Op.equal, Op.maxDepth, he]
    · rcases h4 with ⟨t', q', rfl⟩ | rfl
      · cases neq <;> subst ho <;> simp [Sem.run_bind, eqGuard, binOp, Op.equal, Op.maxDepth, he]
      · exact absurd ⟨rfl, rfl⟩ h2
  generalize hax : a.eval x = ax at rx ⊢
  generalize hay : a.eval y = ay at ry ⊢
  unfold eqIfA at h
  split at h
  · rename_i t q u r e1 e2
    rw [e1] at rx; rw [e2] at ry
    cases rx with
    | iface _ rx =>
    cases ry with
    | iface _ ry =>
    rename_i vx vy
    split at h
    · rename_i htu
      injection h with h
      refine fin _ _ false ?_ (by rintro _ _ ⟨h, _⟩; cases h) (by rintro ⟨h, _⟩; cases h) (.inl ⟨_, _, rfl⟩) (.inl ⟨_, _, rfl⟩) (by rw [← h]; cases neq <;> rfl)
      exact equalIn_ne (d := 9999) hu htu
    · rename_i htu
      have htu : t = u := by simpa using htu
      subst htu
      split at h
      case isFalse => simp at h
      rename_i hmem
      obtain ⟨i, k, hi, hcmp, hui⟩ := intTypes_ok (P := P) hmem
      cases hq : eqCell .int q r with
      | none => simp [hq] at h
      | some b =>
        simp [hq] at h
        obtain ⟨k1, n1, n2, rfl, rfl, hb⟩ := eqCell_int_inv hq
        cases rx with
        | int _ _ =>
        cases ry with
        | int _ _ =>
        refine fin _ _ b ?_ (by rintro _ _ ⟨h, _⟩; cases h) (by rintro ⟨h, _⟩; cases h) (.inl ⟨_, _, rfl⟩) (.inl ⟨_, _, rfl⟩) (by rw [← h])
        have hr := run_equalIn_int (P := P) w 9998 t k1 k n1 n2 hui
        rw [← hb] at hr
        exact (equalIn_same (d := 9999) hu hi hcmp).trans hr
  · rename_i t q e1 e2
    rw [e1] at rx; rw [e2] at ry
    cases rx with
    | iface _ rx =>
    cases ry with
    | niliface =>
    injection h with h
    refine fin _ _ false ?_ (by rintro _ _ ⟨h, _⟩; cases h) (by rintro ⟨h, _⟩; cases h) (.inl ⟨_, _, rfl⟩) (.inr rfl) (by rw [← h]; cases neq <;> rfl)
    exact equalIn_nil1 (d := 9999) hu
  · rename_i t q e1 e2
    rw [e1] at rx; rw [e2] at ry
    cases ry with
    | iface _ ry =>
    cases rx with
    | niliface =>
    injection h with h
    refine fin _ _ false ?_ (by rintro _ _ ⟨h, _⟩; cases h) (by rintro ⟨_, h⟩; cases h) (.inr rfl) (.inl ⟨_, _, rfl⟩) (by rw [← h]; cases neq <;> rfl)
    exact equalIn_nil2 (d := 9999) hu
  · simp at h
theorem un_ok {op : UnOp} {p q : PV} {v : Value} (hp : Rep C w p v) (h : unA op p = some q) : Gives P C w (Op.unary op v) q := by
  unfold unA at h
  split at h
  · cases rep_int hp
    injection h with h; subst h
    exact ⟨_, rfl, .int _ _⟩
  · rename_i k m
    cases rep_int hp
    simp only [intBin] at h
    injection h with h; subst h
    exact ⟨_, rfl, .int _ _⟩
  · cases rep_bool hp
    injection h with h; subst h
    exact ⟨_, rfl, .bool _⟩
  · simp at h

theorem part_ok {t : TypeId} {off size : Nat} {agg : Bool} {cs : List PV} {vs : Array Value} (hs : sizeT P t = some size) (ha : aggT P t = some agg) (h1 : vs.size = cs.length) (h2 : ∀ p ∈ cs, p.isCell = true)
    (hr : ∀ (i : Nat) p v, cs[i]? = some p → vs[i]? = some v → Rep C w p v) {p : PV} (h : partA off size agg cs = some p) : Gives P C w (part t vs off) p := by
  unfold partA at h
  have hag := run_aggT ha w
  cases agg
  · simp only [Bool.false_eq_true, if_false] at h
    have hlt : off < cs.length := by
      rcases Nat.lt_or_ge off cs.length with h' | h'
      · exact h'
      · rw [List.getElem?_eq_none h'] at h; simp at h
    have hv : vs[off]? = some vs[off] := Array.getElem?_eq_getElem (by omega)
    refine ⟨vs[off], ?_, hr off p _ h hv⟩
    simp [part, hag, hv]
  · simp only [if_true] at h
    split at h
    · rename_i hle
      injection h with h; subst h
      refine ⟨.agg (vs.extract off (off + size)), by simp [part, hag, run_sizeT hs w], .agg ?_ ?_ ?_⟩
      · simp; omega
      · intro q hq
        exact h2 q (List.mem_of_mem_drop (List.mem_of_mem_take hq))
      · intro i q u hq hu
        simp only [List.getElem?_take, List.getElem?_drop, Array.getElem?_extract] at hq hu
        split at hq
        · split at hu
          · exact hr (off + i) q u hq hu
          · simp at hu
        · simp at hq
    · simp at h

theorem fill_ok : ∀ (parts : List (Nat × Nat × PV)) (cs cs' : List PV) (vs : Array Value) (place : Nat → Option (Nat × Nat)) (vparts : List (Nat × Value)),
    vs.size = cs.length → (∀ p ∈ cs, p.isCell = true) → (∀ (i : Nat) p v, cs[i]? = some p → vs[i]? = some v → Rep C w p v) →
    parts.length = vparts.length → (∀ (i : Nat) x y, parts[i]? = some x → vparts[i]? = some y → place y.1 = some (x.1, x.2.1) ∧ Rep C w x.2.2 y.2) →
    fillA cs parts = some cs' → ∃ vs', Instr.fill place vs vparts = some vs' ∧ vs'.size = cs'.length ∧ (∀ p ∈ cs', p.isCell = true) ∧ (∀ (i : Nat) p v, cs'[i]? = some p → vs'[i]? = some v → Rep C w p v)
  | [], cs, cs', vs, place, vparts, h1, h2, h3, hl, hx, h => by
    cases vparts with
    | nil => simp [fillA] at h; subst h; exact ⟨vs, rfl, h1, h2, h3⟩
    | cons y ys => simp at hl
  | (off, size, p) :: rest, cs, cs', vs, place, vparts, h1, h2, h3, hl, hx, h => by
    cases vparts with
    | nil => simp at hl
    | cons y ys =>
      obtain ⟨i, v⟩ := y
      obtain ⟨hp1, hp2⟩ := hx 0 (off, size, p) (i, v) (by simp) (by simp)
      simp only [fillA] at h
      split at h
      · rename_i hc
        obtain ⟨hc1, hc2, hc3⟩ := hc
        have hp3 : ∀ q ∈ p.cells, q.isCell = true := by simpa using hc3
        obtain ⟨e1, e2⟩ := hp2.cells
        have key : ∀ (l : List Value) (k : Nat) (vs : Array Value), off + k + l.length ≤ vs.size →
            ((l.zipIdx k).foldl (fun cs x => cs.setIfInBounds (off + x.2) x.1) vs).size = vs.size ∧
            ∀ j, ((l.zipIdx k).foldl (fun cs x => cs.setIfInBounds (off + x.2) x.1) vs)[j]? = if off + k ≤ j ∧ j < off + k + l.length then l[j - (off + k)]? else vs[j]? := by
          intro l
          induction l with
          | nil => intro k vs _; refine ⟨rfl, fun j => ?_⟩; rw [if_neg (by simp)]; rfl
          | cons x l ih =>
            intro k vs hle
            simp only [List.length_cons] at hle
            obtain ⟨i1, i2⟩ := ih (k + 1) (vs.setIfInBounds (off + k) x) (by simp; omega)
            simp only [List.zipIdx_cons, List.foldl_cons]
            refine ⟨by rw [i1]; simp, fun j => ?_⟩
            rw [i2 j]
            simp only [Array.getElem?_setIfInBounds, List.length_cons]
            by_cases hj : off + k = j
            · subst hj
              rw [if_neg (by omega), if_pos rfl, if_pos (by omega), if_pos (by omega)]
              simp
            · rw [if_neg hj]
              by_cases hj2 : off + (k + 1) ≤ j ∧ j < off + (k + 1) + l.length
              · rw [if_pos hj2, if_pos (by omega)]
                rw [show j - (off + k) = (j - (off + (k + 1))) + 1 by omega]
                simp
              · rw [if_neg hj2, if_neg (by omega)]
        obtain ⟨k1, k2⟩ := key v.cells.toList 0 vs (by simp [e1]; omega)
        have hz : v.cells.zipIdx.foldl (fun cs (x : Value × Nat) => cs.setIfInBounds (off + x.2) x.1) vs = ((v.cells.toList.zipIdx 0).foldl (fun cs x => cs.setIfInBounds (off + x.2) x.1) vs) := by
          rw [← Array.foldl_toList, Array.toList_zipIdx]
        obtain ⟨vs', f1, f2, f3, f4⟩ := fill_ok rest _ cs' (v.cells.zipIdx.foldl (fun cs (x : Value × Nat) => cs.setIfInBounds (off + x.2) x.1) vs) place ys
          (by rw [hz, k1, h1]; simp; omega)
          (by
            intro q hq
            rcases List.mem_append.1 hq with hq | hq
            · rcases List.mem_append.1 hq with hq | hq
              · exact h2 q (List.mem_of_mem_take hq)
              · exact hp3 q hq
            · exact h2 q (List.mem_of_mem_drop hq))
          (by
            intro j q u hq hu
            rw [hz, k2 j] at hu
            simp only [Nat.add_zero, Array.length_toList, e1] at hu
            by_cases c1 : j < off
            · rw [if_neg (by omega)] at hu
              rw [List.append_assoc, List.getElem?_append_left (by simp; omega), List.getElem?_take, if_pos c1] at hq
              exact h3 j q u hq hu
            · by_cases c2 : j < off + p.cells.length
              · rw [if_pos (by omega)] at hu
                rw [List.append_assoc, List.getElem?_append_right (by simp; omega)] at hq
                simp only [List.length_take, Nat.min_eq_left (show off ≤ cs.length by omega)] at hq
                rw [List.getElem?_append_left (by omega)] at hq
                exact e2 (j - off) q u hq (by simpa using hu)
              · rw [if_neg (by omega)] at hu
                rw [List.getElem?_append_right (by simp; omega)] at hq
                simp only [List.length_append, List.length_take, Nat.min_eq_left (show off ≤ cs.length by omega), List.getElem?_drop] at hq
                rw [show off + size + (j - (off + p.cells.length)) = j by omega] at hq
                exact h3 j q u hq hu)
          (by simpa using hl) (fun j x y hx' hy' => hx (j + 1) x y (by simpa using hx') (by simpa using hy')) h
        refine ⟨vs', ?_, f2, f3, f4⟩
        simp only [Instr.fill, hp1]
        rw [if_neg]
        · exact f1
        · simp [e1, hc1, h1]; try omega
      · simp at h

end Go.Flat
