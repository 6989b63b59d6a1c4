/- A machine over plain values. Part M: every operation. -/
import Derived.Test.YtkmlfjnmoieeeaaGreatDoorFlatS
set_option linter.unusedVariables false
set_option linter.unusedSimpArgs false
namespace Go.Flat
variable {P : Program} {mu : Nat} {C : Cx} {H : Heap} {w : World} {n : Nat} {T : Temps} {a : Act}

/-- The calls that the plain machine makes are the model's. -/
def CallOk [Globs] (P : Program) (c : CallT) : Prop :=
  ∀ f args H r H', c f args H = some (r, H') → ∀ C w vs, Sim C H w → RepL C w args vs →
    (∃ fn, P.funcs[f]? = some fn ∧ fn.name ≠ "runtime.NumGoroutine" ∧ fn.body.isSome = true) ∧
    Calls P f vs w fun e w' => ∃ v C', e = .returned v ∧ Evo C w C' w' ∧ Sim C' H' w' ∧ Rep C' w' r v

def OpOk [Globs] (P : Program) (C : Cx) (w : World) (a : Act) (o : Oper) (p : PV) (H' : Heap) : Prop :=
  ∀ (next : Act → World → Prop) Q, (∀ C' w' v, Evo C w C' w' → Sim C' H' w' → Rep C' w' p v → next (a.put o.dst v) w') → o.wp P a w next Q

theorem OpOk.of_makes [Globs] {o : Oper} {e : Sem Value} {p : PV} {H' : Heap} (he : execOp a.eval o = do pure (.value (← e))) (h : Makes P C w e p H') : OpOk P C w a o p H' := by
  intro next Q hn
  obtain ⟨v, w', C', h1, h2, h3, h4⟩ := h
  unfold Oper.wp
  rw [he]
  simp only [Sem.run_bind, h1, Result.andThen_ok, Sem.run_pure, Oper.upon_value]
  exact hn C' w' v h2 h3 h4
theorem OpOk.of_gives [Globs] (s : Sim C H w) {o : Oper} {e : Sem Value} {p : PV} (he : execOp a.eval o = do pure (.value (← e))) (h : Gives P C w e p) : OpOk P C w a o p H := by
  obtain ⟨v, h1, h2⟩ := h
  exact .of_makes he ⟨v, w, C, h1, Evo.refl _ _, s, h2⟩
theorem OpOk.of_pure [Globs] (s : Sim C H w) {o : Oper} {v : Value} {p : PV} (he : execOp a.eval o = pure (.value v)) (h : Rep C w p v) : OpOk P C w a o p H := by
  intro next Q hn
  unfold Oper.wp
  rw [he]
  simp only [Sem.run_pure, Oper.upon_value]
  exact hn C w v (Evo.refl _ _) s h

theorem bind_some {α β : Type} {x : Option α} {f : α → Option β} {b : β} (h : (do let y ← x; f y) = some b) : ∃ y, x = some y ∧ f y = some b := by
  cases x with
  | none => simp at h
  | some y => exact ⟨y, rfl, h⟩

theorem func_call {f : FuncId} {fn : Func} (hf : P.funcs[f]? = some fn) (h1 : fn.name ≠ "runtime.NumGoroutine") (h2 : fn.body.isSome = true) (vs : Array Value) (w : World) : (callFunc f vs).run P w = .ok (.enter f vs) w := by
  obtain ⟨b, hb⟩ := Option.isSome_iff_exists.1 h2
  simp [callFunc, hf, h1, hb]
theorem OpOk.of_call [Globs] {o : Oper} {c : CallT} (hc : CallOk P c) {f : FuncId} {args : List PV} {vs : Array Value} (s : Sim C H w) (hr : RepL C w args vs) {p : PV} {H' : Heap} (h : c f args H = some (p, H'))
    (he : (execOp a.eval o).run P w = (callFunc f vs).run P w) : OpOk P C w a o p H' := by
  intro next Q hn
  obtain ⟨⟨fn, hf, h1, h2⟩, hcall⟩ := hc f args H p H' h C w vs s hr
  unfold Oper.wp
  rw [he, func_call hf h1 h2, Oper.upon_enter]
  refine hcall.mono fun e w' hq => ?_
  obtain ⟨v, C', rfl, e1, e2, e3⟩ := hq
  exact hn C' w' v e1 e2 e3

theorem compParts_ok [Globs] (hT : TRel C w n T a) {places : Nat → Option (Nat × Nat)} : ∀ {parts : List (Nat × Operand)} {ps : List (Nat × Nat × Opd)}, compParts places parts = some ps →
    (ps.map fun (o, s, x) => (o, s, x.ev T)).length = (parts.map fun (i, x) => (i, a.eval x)).length ∧
    ∀ (i : Nat) x y, (ps.map fun (o, s, x) => (o, s, x.ev T))[i]? = some x → (parts.map fun (i, x) => (i, a.eval x))[i]? = some y → places y.1 = some (x.1, x.2.1) ∧ Rep C w x.2.2 y.2
  | [], ps, h => by simp [compParts] at h; subst h; simp
  | (i, x) :: rest, ps, h => by
    simp only [compParts] at h
    obtain ⟨⟨o, s⟩, h1, h⟩ := bind_some h
    obtain ⟨y, h2, h⟩ := bind_some h
    obtain ⟨r, h3, h⟩ := bind_some h
    injection h with h
    subst h
    obtain ⟨g1, g2⟩ := compParts_ok hT h3
    refine ⟨by simpa using g1, fun j x' y' hx hy => ?_⟩
    cases j with
    | zero => simp at hx hy; subst hx; subst hy; exact ⟨h1, opd_rep hT h2⟩
    | succ j => exact g2 j x' y' (by simpa using hx) (by simpa using hy)

theorem build_ok [Globs] (hT : TRel C w n T a) {t : TypeId} {z : PV} (hz : zeroT P t = some z) {pl : Nat → Option (Nat × Nat)} (hpl : (∃ fs l, P.underlying t = some (.struct fs) ∧ structPlaces P fs.toList = some l ∧ pl = (l.toArray[·]?)) ∨ (∃ m e s, P.underlying t = some (.array m e) ∧ sizeT P e = some s ∧ pl = fun i => some (i * s, s)))
    {parts : Array (Nat × Operand)} {ps : List (Nat × Nat × Opd)} (hp : compParts pl parts.toList = some ps) {cs : List PV} (h : fillA z.cells (ps.map fun (o, s, x) => (o, s, x.ev T)) = some cs) :
    Gives P C w (Instr.build t (parts.map fun (i, x) => (i, a.eval x))) (.agg cs) := by
  obtain ⟨zv, z1, z2⟩ := run_zeroT hz
  obtain ⟨g1, g2⟩ := compParts_ok hT hp
  obtain ⟨r1, r2⟩ := (z2 C w).cells
  obtain ⟨vs', f1, f2, f3, f4⟩ := fill_ok (C := C) (w := w) _ _ _ zv.cells pl _ r1 (zeroT_cells hz) r2 g1 g2 h
  refine ⟨.agg vs', ?_, .agg f2 f3 f4⟩
  have hzz : ((P.info? t).bind (·.zero)).bind ofVal = some z := hz
  refine run_build w t _ vs' ?_
  unfold Program.built
  cases hi : P.info? t with
  | none => simp [zeroT, hi] at hz
  | some i =>
    have hzi : i.zero = some zv := by
      cases hzz : i.zero with
      | none => simp [zeroT, hi, hzz] at hz
      | some u =>
        have := z1 w
        simp [zeroValue, typeInfo, hi, hzz] at this
        rw [this]
    rcases hpl with ⟨fs, l, hu, hl, rfl⟩ | ⟨m, e, s, hu, hse, rfl⟩
    · have hl' : fs.toList.mapM (fun f => (P.info? f.type).map fun i => (f.offset, i.size)) = some l := hl
      rw [hu]
      simp only [hzi, hl']
      simpa using f1
    · unfold sizeT at hse
      cases hie : P.info? e with
      | none => simp [hie] at hse
      | some ie =>
        simp [hie] at hse
        subst hse
        rw [hu]
        simp only [hzi, hie]
        simpa using f1

theorem compBin_ok [Globs] (hT : TRel C w n T a) (s : Sim C H w) {op : BinOp} {xt : TypeId} {x y : Operand} {ao : AOp} (hc : compBin P op xt x y = some ao) {p : PV} (h : pureA T ao = some p) :
    Gives P C w (do eqGuard op xt x y (a.eval x) (a.eval y); binOp op xt (a.eval x) (a.eval y)) p := by
  unfold compBin at hc
  split at hc
  · obtain ⟨x', h1, hc⟩ := bind_some hc
    obtain ⟨y', h2, hc⟩ := bind_some hc
    injection hc with hc; subst hc
    exact bin_ok hT h1 h2 h
  · obtain ⟨x', h1, hc⟩ := bind_some hc
    obtain ⟨y', h2, hc⟩ := bind_some hc
    injection hc with hc; subst hc
    exact bin_ok hT h1 h2 h
  · rename_i hu
    split at hc
    · rename_i ho
      obtain ⟨x', h1, hc⟩ := bind_some hc
      obtain ⟨y', h2, hc⟩ := bind_some hc
      injection hc with hc; subst hc
      exact eqBool_ok hT hu h1 h2 (neq := false) (by simpa using ho) h
    · split at hc
      · rename_i ho
        obtain ⟨x', h1, hc⟩ := bind_some hc
        obtain ⟨y', h2, hc⟩ := bind_some hc
        injection hc with hc; subst hc
        exact eqBool_ok hT hu h1 h2 (neq := true) (by simpa using ho) h
      · simp at hc
  · rename_i fs hu
    obtain ⟨ks, hk, hc⟩ := bind_some hc
    split at hc
    · rename_i hcond
      simp only [Bool.and_eq_true, Bool.not_eq_true', Bool.or_eq_true, beq_iff_eq] at hcond
      obtain ⟨⟨g1, g2⟩, g3⟩ := hcond
      obtain ⟨x', h1, hc⟩ := bind_some hc
      obtain ⟨y', h2, hc⟩ := bind_some hc
      injection hc with hc; subst hc
      exact eqAgg_ok hT hu hk g1 g2 h1 h2 (by rcases g3 with rfl | rfl <;> rfl) h
    · simp at hc
  · obtain ⟨kd, hk, hc⟩ := bind_some hc
    split at hc
    · rename_i ho
      simp only [Bool.or_eq_true, beq_iff_eq] at ho
      have key : ∀ x', ao = .eqNil kd (op == .neq) x' → (isNilOpd kd y = true ∧ compOpd x = some x') ∨ (isNilOpd kd x = true ∧ compOpd y = some x') → Gives P C w (do eqGuard op xt x y (a.eval x) (a.eval y); binOp op xt (a.eval x) (a.eval y)) p := by
        rintro x' rfl hxy
        simp only [pureA] at h
        cases hb : isNilK kd (x'.ev T) with
        | none => simp [hb] at h
        | some b =>
          simp [hb] at h
          subst h
          have := eqNil_ok (P := P) hT hk hxy (op := op) (neq := op == .neq) (by rcases ho with rfl | rfl <;> rfl) hb
          simpa using this
      split at hc
      · rename_i hn
        cases hx : compOpd x with
        | none => simp [hx] at hc
        | some x' => simp [hx] at hc; exact key x' hc.symm (.inl ⟨hn, hx⟩)
      · split at hc
        · rename_i hn
          cases hy : compOpd y with
          | none => simp [hy] at hc
          | some y' => simp [hy] at hc; exact key y' hc.symm (.inr ⟨hn, hy⟩)
        · split at hc
          · rename_i hkd
            have hkd : kd = .iface := by simpa using hkd
            subst hkd
            obtain ⟨x', h1, hc⟩ := bind_some hc
            obtain ⟨y', h2, hc⟩ := bind_some hc
            injection hc with hc; subst hc
            exact eqIf_ok hT hk h1 h2 (neq := op == .neq) (by rcases ho with rfl | rfl <;> rfl) h
          · simp at hc
    · simp at hc

theorem compBin_pure [Globs] {op : BinOp} {xt : TypeId} {x y : Operand} {ao : AOp} (hc : compBin P op xt x y = some ao) (c : CallT) (T : Temps) (H : Heap) : execA c ao T H = (pureA T ao).map fun p => (p, H) := by
  unfold compBin at hc
  split at hc <;> (first | (obtain ⟨x', h1, hc⟩ := bind_some hc; obtain ⟨y', h2, hc⟩ := bind_some hc; injection hc with hc; subst hc; rfl) | skip)
  · split at hc
    · obtain ⟨x', h1, hc⟩ := bind_some hc; obtain ⟨y', h2, hc⟩ := bind_some hc; injection hc with hc; subst hc; rfl
    · split at hc
      · obtain ⟨x', h1, hc⟩ := bind_some hc; obtain ⟨y', h2, hc⟩ := bind_some hc; injection hc with hc; subst hc; rfl
      · simp at hc
  · obtain ⟨ks, hk, hc⟩ := bind_some hc
    split at hc
    · obtain ⟨x', h1, hc⟩ := bind_some hc; obtain ⟨y', h2, hc⟩ := bind_some hc; injection hc with hc; subst hc; rfl
    · simp at hc
  · obtain ⟨kd, hk, hc⟩ := bind_some hc
    split at hc
    · split at hc
      · cases hx : compOpd x <;> simp [hx] at hc
        subst hc; rfl
      · split at hc
        · cases hy : compOpd y <;> simp [hy] at hc
          subst hc; rfl
        · split at hc
          · obtain ⟨x', h1, hc⟩ := bind_some hc; obtain ⟨y', h2, hc⟩ := bind_some hc; injection hc with hc; subst hc; rfl
          · simp at hc
    · simp at hc

theorem lit_fin [Globs] {o : Oper} {e : Sem Value} {p : PV} {H' : Heap} {v : Value} {w' : World} {C' : Cx} (he : execOp a.eval o = do pure (.value (← e)))
    (r1 : ((do pure (.value (← e)) : Sem Next).run P w = .ok (.value v) w' ∨ ((do pure (.value (← e)) : Sem Next).run P w = .ok .skip w' ∧ v = undef))) (r2 : Evo C w C' w') (r3 : Sim C' H' w') (r4 : Rep C' w' p v) : OpOk P C w a o p H' := by
  intro next Q hn
  unfold Oper.wp
  rw [he]
  rcases r1 with r1 | ⟨r1, _⟩
  · rw [r1, Oper.upon_value]; exact hn C' w' v r2 r3 r4
  · simp only [Sem.run_bind] at r1
    cases hb : e.run P w <;> rw [hb] at r1 <;> simp at r1
theorem lenStr_ok (hT : TRel C w n T a) {args : Array Operand} {argTypes : Array TypeId} {x : Operand} {t ty : TypeId} (ha : args.toList = [x]) (hat : argTypes.toList = [t]) (hu : P.underlying t = some .string) {x' : Opd} (h1 : compOpd x = some x') {p : PV}
    (hp : pureA T (.lenStr x') = some p) : Gives P C w (Builtin.len_ argTypes ty (args.map a.eval)) p := by
  have ea : args = #[x] := by apply Array.ext'; simpa using ha
  have et : argTypes = #[t] := by apply Array.ext'; simpa using hat
  subst ea; subst et
  have r1 := opd_rep hT h1
  simp only [pureA] at hp
  split at hp
  · rename_i l e
    rw [e] at r1
    injection hp with hp; subst hp
    obtain ⟨b, e1, rfl⟩ := rep_str r1
    refine ⟨.int .i64 (b.data.toList.length : Nat), ?_, .int _ _⟩
    simp [Builtin.len_, run_underlying hu, goInt, e1]
  · simp at hp
theorem lenSl_ok (hT : TRel C w n T a) {args : Array Operand} {argTypes : Array TypeId} {x : Operand} {t ty e : TypeId} (ha : args.toList = [x]) (hat : argTypes.toList = [t]) (hu : P.underlying t = some (.slice e)) {x' : Opd} (h1 : compOpd x = some x') {p : PV}
    (hp : pureA T (.lenSl x') = some p) : Gives P C w (Builtin.len_ argTypes ty (args.map a.eval)) p := by
  have ea : args = #[x] := by apply Array.ext'; simpa using ha
  have et : argTypes = #[t] := by apply Array.ext'; simpa using hat
  subst ea; subst et
  have r1 := opd_rep hT h1
  have run : ∀ ad m c, a.eval x = .slice ad m c → (Builtin.len_ #[t] ty (#[x].map a.eval)).run P w = .ok (.int .i64 (m : Nat)) w := by
    intro ad m c hx
    simp [Builtin.len_, run_underlying hu, goInt, hx]
  simp only [pureA] at hp
  generalize hx : a.eval x = av at r1
  split at hp
  · rename_i τ xs e
    rw [e] at r1
    injection hp with hp; subst hp
    cases r1 with
    | sl vs ha ht hc hr => exact ⟨_, run _ _ _ hx, .int _ _⟩
  · rename_i id off m c e
    rw [e] at r1
    injection hp with hp; subst hp
    cases r1 with
    | view k i n hat hcap hl ha => exact ⟨_, run _ _ _ hx, .int _ _⟩
  · simp at hp
theorem minmax_all (hT : TRel C w n T a) {mx : Bool} {args : Array Operand} {argTypes : Array TypeId} {ty : TypeId} {xs : List Opd} (h1 : compOpds args.toList = some xs) {p : PV} (hp : pureA T (.minmax mx xs) = some p) :
    Gives P C w (if mx then Builtin.max_ argTypes ty (args.map a.eval) else Builtin.min_ argTypes ty (args.map a.eval)) p := by
  obtain ⟨e1, e2⟩ := opds_rep hT h1
  simp only [pureA] at hp
  cases hx : evs T xs with
  | nil => simp [hx] at hp
  | cons q qs =>
    rw [hx] at hp e2
    simp only at hp
    cases ha : args.toList with
    | nil =>
      rw [ha] at e1
      have : xs = [] := List.eq_nil_of_length_eq_zero (by simpa using e1.symm)
      subst this
      simp [evs] at hx
    | cons o os =>
      rw [ha] at e1 e2
      have hlen : qs.length = (os.map a.eval).length := by
        have h3 : (evs T xs).length = (q :: qs).length := by rw [hx]
        simp only [evs, List.length_map, List.length_cons] at h3 e1 ⊢
        omega
      obtain ⟨v, r1, r2⟩ := fold_ok (P := P) (C := C) (w := w) (mx := mx) (u := a.eval o) (vs := os.map a.eval) (e2 0 q (a.eval o) (by simp) (by simp)) hlen (fun i p v h1 h2 => e2 (i + 1) p v (by simpa using h1) (by simpa using h2)) hp
      refine ⟨v, ?_, r2⟩
      cases mx <;> simp only [Bool.false_eq_true, if_false, if_true] at r1 ⊢ <;> simp only [Builtin.max_, Builtin.min_, Array.toList_map, ha, List.map_cons] <;> exact r1
theorem args2 {ps qs : List PV} {us vs : Array Value} (h1 : RepL C w ps us) (h2 : RepL C w qs vs) : RepL C w (ps ++ qs) (us ++ vs) := by
  refine ⟨by simp [h1.1, h2.1], fun i p v hp hv => ?_⟩
  by_cases h : i < ps.length
  · rw [List.getElem?_append_left h] at hp
    rw [Array.getElem?_append_left (by rw [h1.1]; exact h)] at hv
    exact h1.2 i p v hp hv
  · rw [List.getElem?_append_right (by omega)] at hp
    rw [Array.getElem?_append_right (by rw [h1.1]; omega), h1.1] at hv
    exact h2.2 _ p v hp hv
theorem args3 [Globs] {ps qs rs : List PV} {us vs ws : Array Value} (h1 : RepL C w ps us) (h2 : RepL C w qs vs) (h3 : RepL C w rs ws) : RepL C w (ps ++ qs ++ rs) (us ++ vs ++ ws) := args2 (args2 h1 h2) h3
theorem under_some {t : TypeId} (h0 : ∀ ms, P.underlying t = some (.interface ms) → False) (h00 : P.underlying t = none → False) : ∃ d, P.underlying t = some d ∧ ∀ ms, d ≠ .interface ms := by
  cases hd : P.underlying t with
  | none => exact absurd hd h00
  | some d => exact ⟨d, rfl, fun ms e => h0 ms (by rw [hd, e])⟩
set_option maxHeartbeats 1000000 in
theorem methodOf_ok [Globs] {name : String} {t t' : TypeId} {f : FuncId} (h : methodOf P name t = some (t', f)) : t' = t ∧ ∀ (fuel : Nat) (v : Value) (w : World), (method (fuel + 1) t v name).run P w = .ok (f, v) w := by
  unfold methodOf at h
  obtain ⟨i, h1, h⟩ := bind_some h
  obtain ⟨m, h2, h⟩ := bind_some h
  obtain ⟨⟨g, ptr⟩, h3, h⟩ := bind_some h
  obtain ⟨fn, h4, h⟩ := bind_some h
  split at h
  · rename_i hc
    simp only [Bool.and_eq_true] at hc
    obtain ⟨⟨⟨c1, c2⟩, _⟩, _⟩ := hc
    injection h with h
    injection h with e1 e2
    subst e1; subst e2
    refine ⟨rfl, fun fuel v w => ?_⟩
    have hpath : m.path.toList = [] := by
      have : m.path = #[] := by simpa using c1
      rw [this]
    have hti : (typeInfo t).run P w = .ok i w := by simp [typeInfo, h1]
    unfold ptrFits at c2
    have hu : ∃ d, P.underlying t = some d := by
      cases hd : P.underlying t with
      | none => rw [hd] at c2; simp at c2
      | some d => exact ⟨d, rfl⟩
    obtain ⟨d, hd⟩ := hu
    rw [hd] at c2
    have hrec : (receiverAt t (.val v) ptr (if m.path.isEmpty then some ((name.splitOn ".").getLastD name) else none)).run P w = .ok v w := by
      cases d <;> simp only at c2 <;> cases ptr <;> first | (simp at c2; done) | simp [receiverAt, run_underlying hd, Place.get]
    simp only [method, Sem.run_bind, hti, Result.andThen_ok, h2, hpath, follow, Sem.run_pure, h3]
    rw [hrec]
    rfl
  · simp at h
theorem invoke_method {name : String} {t : TypeId} {f : FuncId} (h : ∀ (fuel : Nat) (v : Value) (w : World), (method (fuel + 1) t v name).run P w = .ok (f, v) w) (u : Value) (args : Array Value) (w : World) :
    (invoke (.fn (.method name) #[]) (#[.iface t u] ++ args)).run P w = (callFunc f (#[u] ++ args)).run P w := by
  have e : (#[Value.iface t u] ++ args).extract 1 (#[Value.iface t u] ++ args).size = args := by
    apply Array.ext'
    simp
  have hpos : 0 < Made.depth := by decide
  have hfuel : ∃ k, P.types.size + Made.depth = k + 1 := ⟨P.types.size + Made.depth - 1, by omega⟩
  obtain ⟨k, hk⟩ := hfuel
  have e0 : (#[Value.iface t u] ++ args)[0]? = some (.iface t u) := by
    rw [Array.getElem?_append_left (show 0 < 1 by omega)]
    rfl
  have ep : (program).run P w = .ok P w := rfl
  simp only [invoke, e0, e, callMethod, Sem.run_bind, ep, Result.andThen_ok, hk, h]
set_option maxHeartbeats 1000000 in
theorem op_ok [Globs] (s : Sim C H w) (hT : TRel C w n T a) {c : CallT} (hcall : CallOk P c) (o : Oper) {ao : AOp} (hc : compOp P mu o.op = some ao) {p : PV} {H' : Heap} (h : execA c ao T H = some (p, H')) : OpOk P C w a o p H' := by
  have pure' : ∀ {ao : AOp}, (∀ T H, execA c ao T H = (pureA T ao).map fun p => (p, H)) → execA c ao T H = some (p, H') → pureA T ao = some p ∧ H' = H := by
    intro ao h1 h2
    rw [h1] at h2
    cases hp : pureA T ao with
    | none => simp [hp] at h2
    | some q => simp [hp] at h2; exact ⟨by rw [h2.1], h2.2.symm⟩
  obtain ⟨dst, op, type, pos, after, guard⟩ := o
  simp only at hc
  unfold compOp at hc
  split at hc
  · -- move
    obtain ⟨x', h1, hc⟩ := bind_some hc
    injection hc with hc; subst hc
    obtain ⟨hp, hH⟩ := pure' (fun _ _ => rfl) h
    subst hH
    clear h
    injection hp with hp; subst hp
    exact .of_pure s rfl (opd_rep hT h1)
  · obtain ⟨x', h1, hc⟩ := bind_some hc
    injection hc with hc; subst hc
    obtain ⟨hp, hH⟩ := pure' (fun _ _ => rfl) h
    subst hH
    clear h
    injection hp with hp; subst hp
    exact .of_pure s rfl (opd_rep hT h1)
  · -- pick
    obtain ⟨c', h1, hc⟩ := bind_some hc
    obtain ⟨x', h2, hc⟩ := bind_some hc
    obtain ⟨y', h3, hc⟩ := bind_some hc
    injection hc with hc; subst hc
    obtain ⟨hp, hH⟩ := pure' (fun _ _ => rfl) h
    subst hH
    clear h
    simp only [pureA] at hp
    have r1 := opd_rep hT h1
    split at hp
    · rename_i t ht
      rw [ht] at r1
      injection hp with hp; subst hp
      intro next Q hn
      simp only [Oper.wp, execOp, rep_bool r1, asBool, Sem.run_bind, Sem.run_pure, Result.andThen_ok, Oper.upon_value]
      refine hn C w _ (Evo.refl _ _) s ?_
      cases t
      · exact opd_rep hT h3
      · exact opd_rep hT h2
    · simp at hp
  · -- binOp
    have hq := compBin_pure hc c
    obtain ⟨hp, hH⟩ := pure' hq h
    subst hH
    clear h
    exact .of_gives s rfl (compBin_ok hT s hc hp)
  · -- unOp
    obtain ⟨x', h1, hc⟩ := bind_some hc
    injection hc with hc; subst hc
    obtain ⟨hp, hH⟩ := pure' (fun _ _ => rfl) h
    subst hH
    clear h
    exact .of_gives s rfl (un_ok (opd_rep hT h1) hp)
  · -- convert
    split at hc
    · rename_i k1 k2 hu1 hu2
      obtain ⟨x', h1, hc⟩ := bind_some hc
      injection hc with hc; subst hc
      obtain ⟨hp, hH⟩ := pure' (fun _ _ => rfl) h
      subst hH
      simp only [pureA] at hp
      have r1 := opd_rep hT h1
      split at hp
      · rename_i k m hm
        rw [hm] at r1
        injection hp with hp; subst hp
        refine .of_gives s (e := convert _ _ (.int k m)) (by simp only [execOp]; rw [rep_int r1]) ⟨.int k2 (k2.wrap m), ?_, .int _ _⟩
        simp [convert, run_underlying hu1, run_underlying hu2, Conv.intToInt]
      · simp at hp
    · rename_i hu1 hu2
      obtain ⟨x', h1, hc⟩ := bind_some hc
      injection hc with hc; subst hc
      obtain ⟨hp, hH⟩ := pure' (fun _ _ => rfl) h
      subst hH
      simp only [pureA] at hp
      have r1 := opd_rep hT h1
      split at hp
      · rename_i l hm
        rw [hm] at r1
        injection hp with hp; subst hp
        obtain ⟨bs, e1, e2⟩ := rep_str r1
        refine .of_gives s (e := convert _ _ (.string bs)) (by simp only [execOp]; rw [e1]) ⟨.string bs, ?_, by rw [← e2]; exact .str _⟩
        simp [convert, run_underlying hu1, run_underlying hu2]
      · simp at hp
    · rename_i e hu1 hu2
      split at hc
      · rename_i hue
        obtain ⟨x', h1, hc⟩ := bind_some hc
        injection hc with hc; subst hc
        simp only [execA] at h
        cases hl : toStrA H (x'.ev T) with
        | none => simp [hl] at h
        | some q =>
          simp [hl] at h
          obtain ⟨rfl, rfl⟩ := h
          exact .of_gives s (e := convert _ _ _) rfl (toStr_ok s hu1 hue hu2 (opd_rep hT h1) hl)
      · simp at hc
    · rename_i e hu1 hu2
      split at hc
      · rename_i hue
        obtain ⟨x', h1, hc⟩ := bind_some hc
        injection hc with hc; subst hc
        obtain ⟨hp, hH⟩ := pure' (fun _ _ => rfl) h
        subst hH
        simp only [pureA] at hp
        have r1 := opd_rep hT h1
        split at hp
        · rename_i l hm
          rw [hm] at r1
          injection hp with hp; subst hp
          obtain ⟨bs, e1, e2⟩ := rep_str r1
          subst e2
          exact .of_makes (e := convert _ _ (.string bs)) (by simp only [execOp]; rw [e1]) (toBytes_ok s hu1 hu2 hue bs)
        · simp at hp
      · simp at hc
    · simp at hc
  · -- makeInterface
    split at hc
    · simp at hc
    · simp at hc
    · rename_i h0 h00
      obtain ⟨x', h1, hc⟩ := bind_some hc
      injection hc with hc; subst hc
      obtain ⟨hp, hH⟩ := pure' (fun _ _ => rfl) h
      subst hH
      injection hp with hp; subst hp
      refine .of_gives s (e := Instr.makeInterface _ _) rfl ⟨_, ?_, .iface _ (opd_rep hT h1)⟩
      obtain ⟨d, hd, hne⟩ := under_some h0 h00
      simp only [Instr.makeInterface, Sem.run_bind, run_underlying hd, Result.andThen_ok]
      cases d <;> first | rfl | exact absurd rfl (hne _)
  · -- makeFunc
    obtain ⟨f', h1, hc⟩ := bind_some hc
    obtain ⟨c', h2, hc⟩ := bind_some hc
    injection hc with hc; subst hc
    obtain ⟨hp, hH⟩ := pure' (fun _ _ => rfl) h
    subst hH
    clear h
    injection hp with hp; subst hp
    obtain ⟨e1, e2⟩ := opds_repL hT h1
    obtain ⟨e3, e4⟩ := opds_repL hT h2
    exact .of_gives s (e := Instr.makeFunc _ _ _) rfl ⟨_, rfl, .func _ e1 e3 e2 e4⟩
  · -- field
    obtain ⟨fd, h1, hc⟩ := bind_some hc
    obtain ⟨sz, h2, hc⟩ := bind_some hc
    obtain ⟨ag, h3, hc⟩ := bind_some hc
    obtain ⟨x', h4, hc⟩ := bind_some hc
    injection hc with hc; subst hc
    obtain ⟨hp, hH⟩ := pure' (fun _ _ => rfl) h
    subst hH
    clear h
    simp only [pureA] at hp
    have r1 := opd_rep hT h4
    split at hp
    · rename_i cs hcs
      rw [hcs] at r1
      unfold fieldOf at h1
      split at h1
      · rename_i fs hu
        refine .of_gives s (e := Instr.field _ _ _) rfl ?_
        generalize a.eval _ = av at r1
        cases r1 with
        | agg g1 g2 gr =>
          obtain ⟨v, e1, e2⟩ := part_ok (P := P) h2 h3 g1 g2 gr hp
          exact ⟨v, by simp [Instr.field, run_underlying hu, h1, asAgg, e1], e2⟩
      · simp at h1
    · simp at hp
  · -- fieldAddr
    obtain ⟨fd, h1, hc⟩ := bind_some hc
    obtain ⟨sz, h2, hc⟩ := bind_some hc
    split at hc
    · simp at hc
    · rename_i hz
      obtain ⟨x', h4, hc⟩ := bind_some hc
      injection hc with hc; subst hc
      obtain ⟨hp, hH⟩ := pure' (fun _ _ => rfl) h
      subst hH
      clear h
      simp only [pureA] at hp
      have r1 := opd_rep hT h4
      refine .of_gives s (e := Instr.fieldAt _ _ _) rfl (faddr_ok h1 h2 hz r1 hp)
  · -- index
    split at hc
    · rename_i hu
      obtain ⟨x', h1, hc⟩ := bind_some hc
      obtain ⟨i', h2, hc⟩ := bind_some hc
      injection hc with hc; subst hc
      obtain ⟨hp, hH⟩ := pure' (fun _ _ => rfl) h
      subst hH
      clear h
      simp only [pureA] at hp
      have r1 := opd_rep hT h1
      have r2 := opd_rep hT h2
      split at hp
      · rename_i l k i e1 e2
        rw [e1] at r1; rw [e2] at r2
        split at hp
        · rename_i h0
          cases hb : l[i.toNat]? with
          | none => simp [hb] at hp
          | some b =>
            simp [hb] at hp
            subst hp
            exact .of_gives s (e := Instr.index _ _ _) rfl (idxStr_ok hu r1 r2 h0 hb)
        · simp at hp
      · simp at hp
    · rename_i len elem hu
      obtain ⟨sz, h3, hc⟩ := bind_some hc
      obtain ⟨ag, h4, hc⟩ := bind_some hc
      obtain ⟨x', h1, hc⟩ := bind_some hc
      obtain ⟨i', h2, hc⟩ := bind_some hc
      injection hc with hc; subst hc
      obtain ⟨hp, hH⟩ := pure' (fun _ _ => rfl) h
      subst hH
      clear h
      simp only [pureA] at hp
      have r1 := opd_rep hT h1
      have r2 := opd_rep hT h2
      split at hp
      · rename_i cs k i e1 e2
        rw [e1] at r1; rw [e2] at r2
        split at hp
        · rename_i h0
          exact .of_gives s (e := Instr.index _ _ _) rfl (idxArr_ok hu h3 h4 r1 r2 h0.1 h0.2 hp)
        · simp at hp
      · simp at hp
    · simp at hc
  · -- indexAddr
    split at hc
    · rename_i elem hu
      obtain ⟨sz, h3, hc⟩ := bind_some hc
      obtain ⟨x', h1, hc⟩ := bind_some hc
      obtain ⟨i', h2, hc⟩ := bind_some hc
      injection hc with hc; subst hc
      obtain ⟨hp, hH⟩ := pure' (fun _ _ => rfl) h
      subst hH
      clear h
      simp only [pureA] at hp
      have r1 := opd_rep hT h1
      have r2 := opd_rep hT h2
      split at hp
      · rename_i k i e2
        rw [e2] at r2
        exact .of_gives s (e := Instr.indexAt _ _ _) rfl (iaSl_ok hu h3 r1 r2 hp)
      · simp at hp
    · rename_i len elem hu
      obtain ⟨sz, h3, hc⟩ := bind_some hc
      obtain ⟨x', h1, hc⟩ := bind_some hc
      obtain ⟨i', h2, hc⟩ := bind_some hc
      injection hc with hc; subst hc
      obtain ⟨hp, hH⟩ := pure' (fun _ _ => rfl) h
      subst hH
      clear h
      simp only [pureA] at hp
      have r1 := opd_rep hT h1
      have r2 := opd_rep hT h2
      split at hp
      · rename_i id o k i e1 e2
        rw [e1] at r1; rw [e2] at r2
        split at hp
        · rename_i h0
          injection hp with hp; subst hp
          exact .of_gives s (e := Instr.indexAt _ _ _) rfl (iaArr_ok hu h3 r1 r2 h0.1 h0.2)
        · simp at hp
      · simp at hp
    · simp at hc
  · -- extract
    obtain ⟨x', h1, hc⟩ := bind_some hc
    injection hc with hc; subst hc
    obtain ⟨hp, hH⟩ := pure' (fun _ _ => rfl) h
    subst hH
    clear h
    simp only [pureA] at hp
    have r1 := opd_rep hT h1
    split at hp
    · rename_i vs e1
      rw [e1] at r1
      exact .of_gives s (e := Instr.extract _ _) rfl (ext_ok r1 hp)
    · simp at hp
  · -- typeAssert
    split at hc
    · simp at hc
    · simp at hc
    · rename_i h0 h00
      obtain ⟨z, h2, hc⟩ := bind_some hc
      obtain ⟨x', h1, hc⟩ := bind_some hc
      injection hc with hc; subst hc
      obtain ⟨hp, hH⟩ := pure' (fun _ _ => rfl) h
      subst hH
      clear h
      simp only [pureA] at hp
      have r1 := opd_rep hT h1
      refine .of_gives s (e := Instr.typeAssert _ _ _ _) rfl (tass_ok ?_ h2 r1 hp)
      exact under_some h0 h00
  · -- build
    obtain ⟨z, h2, hc⟩ := bind_some hc
    have main : ∀ {pl : Nat → Option (Nat × Nat)} {t : TypeId} {parts : Array (Nat × Operand)} {ps : List (Nat × Nat × Opd)}, zeroT P t = some z → ((∃ fs l, P.underlying t = some (.struct fs) ∧ structPlaces P fs.toList = some l ∧ pl = (l.toArray[·]?)) ∨ (∃ m e s, P.underlying t = some (.array m e) ∧ sizeT P e = some s ∧ pl = fun i => some (i * s, s))) →
        compParts pl parts.toList = some ps → ao = .build z.cells ps → OpOk P C w a ⟨dst, .build t parts, type, pos, after, guard⟩ p H' := by
      intro pl t parts ps hz hpl hps hao
      subst hao
      obtain ⟨hp, hH⟩ := pure' (fun _ _ => rfl) h
      subst hH
      clear h
      simp only [pureA] at hp
      cases hf : fillA z.cells (ps.map fun (o, s, x) => (o, s, x.ev T)) with
      | none => simp [hf] at hp
      | some cs =>
        simp [hf] at hp
        subst hp
        exact .of_gives s (e := Instr.build _ _) rfl (build_ok hT hz hpl hps hf)
    split at hc
    · rename_i fs hu
      obtain ⟨l, h3, hc⟩ := bind_some hc
      obtain ⟨ps, h4, hc⟩ := bind_some hc
      injection hc with hc
      exact main h2 (.inl ⟨fs, l, hu, h3, rfl⟩) h4 hc.symm
    · rename_i m e hu
      obtain ⟨sz, h3, hc⟩ := bind_some hc
      obtain ⟨ps, h4, hc⟩ := bind_some hc
      injection hc with hc
      exact main h2 (.inr ⟨m, e, sz, hu, h3, rfl⟩) h4 hc.symm
    · simp at hc
  · -- buildSlice
    rename_i t len parts
    split at hc
    · rename_i e hu
      obtain ⟨sz, h1, hc⟩ := bind_some hc
      obtain ⟨z, h2, hc⟩ := bind_some hc
      split at hc
      · rename_i hcond
        obtain ⟨g1, g2, g3⟩ := hcond
        obtain ⟨ps, h3, hc⟩ := bind_some hc
        injection hc with hc
        obtain ⟨q1, q2⟩ := opds_rep hT h3
        have hm : (parts.map fun (i, x) => (i, a.eval x)) = (parts.toList.map fun (i, x) => (i, a.eval x)).toArray := by apply Array.ext'; simp
        have hp1 : (parts.toList.map fun (i, x) => (i, a.eval x)).map (·.1) = List.range len := by rw [← g3, List.map_map]; rfl
        have hp2 : (evs T ps).length = (parts.toList.map fun (i, x) => (i, a.eval x)).length := by simp [evs, ← q1]
        have hp3 : ∀ (i : Nat) p v, (evs T ps)[i]? = some p → ((parts.toList.map fun (i, x) => (i, a.eval x)).map (·.2))[i]? = some v → Rep C w p v := by
          intro i p v hp hv
          refine q2 i p v hp ?_
          rw [← hv]
          simp [List.map_map, Function.comp_def]
        split at hc
        · subst hc
          simp only [execA] at h
          split at h
          · rename_i hun
            injection h with h
            injection h with h1' h2'
            subst h1'; subst h2'
            refine .of_makes (e := Instr.buildSlice t len (parts.toList.map fun (i, x) => (i, a.eval x)).toArray) ?_ (litV_ok (P := P) s hu h1 h2 g1 g2 hp1 hp2 hp3 hun.2)
            simp only [execOp, hm]
          · simp at h
        · subst hc
          obtain ⟨hp, hH⟩ := pure' (fun _ _ => rfl) h
          subst hH
          simp only [pureA] at hp
          split at hp
          · rename_i hun
            injection hp with hp; subst hp
            obtain ⟨v, w', C', r1, r2, r3, r4⟩ := lit_ok (P := P) s hu h1 h2 g1 g2 (parts := parts.toList.map fun (i, x) => (i, a.eval x)) hp1 (ps := evs T ps) hp2 hp3 hun
            refine lit_fin ?_ r1 r2 r3 r4
            simp only [execOp, hm]
          · simp at hp
      · simp at hc
    · simp at hc
  · -- nilCheck
    obtain ⟨x', h1, hc⟩ := bind_some hc
    injection hc with hc; subst hc
    obtain ⟨hp, hH⟩ := pure' (fun _ _ => rfl) h
    subst hH
    clear h
    simp only [pureA] at hp
    have r1 := opd_rep hT h1
    intro next Q hn
    simp only [Oper.wp, execOp]
    revert r1 hp
    generalize x'.ev T = px
    generalize a.eval _ = av
    intro hp r1
    cases px with
    | ptr id o =>
      simp at hp; subst hp
      cases r1 with
      | ptr off hat => exact hn C w _ (Evo.refl _ _) s (.ptr _ hat)
    | eptr id k i o =>
      simp at hp; subst hp
      cases r1 with
      | eptr _ _ _ hat => exact hn C w _ (Evo.refl _ _) s (.eptr _ _ _ hat)
    | fp cs =>
      simp at hp; subst hp
      cases r1 with
      | fp vs g1 g2 => exact hn C w _ (Evo.refl _ _) s (.fp vs g1 g2)
    | func fn ps qs =>
      cases fn with
      | func f =>
        simp at hp; subst hp
        cases r1 with
        | func _ g1 g2 g3 g4 => exact hn C w _ (Evo.refl _ _) s (.func _ g1 g2 g3 g4)
      | _ => simp at hp
    | iface t v =>
      simp at hp; subst hp
      cases r1 with
      | iface _ g => exact hn C w _ (Evo.refl _ _) s (.iface _ g)
    | _ => simp at hp
  · -- len
    rename_i args argTypes
    split at hc
    · rename_i x t ha hat
      split at hc
      · rename_i hu
        obtain ⟨x', h1, hc⟩ := bind_some hc
        injection hc with hc; subst hc
        obtain ⟨hp, hH⟩ := pure' (fun _ _ => rfl) h
        subst hH
        clear h
        exact .of_gives s (e := Builtin.len_ _ _ _) rfl (lenStr_ok hT ha hat hu h1 hp)
      · rename_i e hu
        obtain ⟨x', h1, hc⟩ := bind_some hc
        injection hc with hc; subst hc
        obtain ⟨hp, hH⟩ := pure' (fun _ _ => rfl) h
        subst hH
        clear h
        exact .of_gives s (e := Builtin.len_ _ _ _) rfl (lenSl_ok hT ha hat hu h1 hp)
      · rename_i m e hu
        injection hc with hc; subst hc
        obtain ⟨hp, hH⟩ := pure' (fun _ _ => rfl) h
        subst hH
        clear h
        injection hp with hp; subst hp
        refine .of_gives s (e := Builtin.len_ _ _ _) rfl ⟨.int .i64 m, ?_, .int _ _⟩
        have ea : args = #[x] := by apply Array.ext'; simpa using ha
        have et : argTypes = #[t] := by apply Array.ext'; simpa using hat
        subst ea; subst et
        simp [Builtin.len_, run_underlying hu, goInt]
      · rename_i kt et hu
        obtain ⟨x', h1, hc⟩ := bind_some hc
        injection hc with hc; subst hc
        simp only [execA] at h
        have ea : args = #[x] := by apply Array.ext'; simpa using ha
        have et : argTypes = #[t] := by apply Array.ext'; simpa using hat
        subst ea; subst et
        cases hl : lenMapA H (x'.ev T) with
        | none => simp [hl] at h
        | some q =>
          simp [hl] at h
          obtain ⟨rfl, rfl⟩ := h
          exact .of_gives s (e := Builtin.len_ #[t] type #[a.eval x]) (by simp [execOp, resolve, invoke, builtin]) (lenMap_ok s hu (opd_rep hT h1) hl)
      · simp at hc
    · simp at hc
  · -- min
    obtain ⟨xs, h1, hc⟩ := bind_some hc
    injection hc with hc; subst hc
    obtain ⟨hp, hH⟩ := pure' (fun _ _ => rfl) h
    subst hH
    clear h
    exact .of_gives s (e := Builtin.min_ #[] 0 _) rfl (minmax_all (argTypes := #[]) (ty := 0) hT (mx := false) h1 hp)
  · -- max
    obtain ⟨xs, h1, hc⟩ := bind_some hc
    injection hc with hc; subst hc
    obtain ⟨hp, hH⟩ := pure' (fun _ _ => rfl) h
    subst hH
    clear h
    exact .of_gives s (e := Builtin.max_ #[] 0 _) rfl (minmax_all (argTypes := #[]) (ty := 0) hT (mx := true) h1 hp)
  · -- slice
    split at hc
    · rename_i hu
      obtain ⟨x', h1, hc⟩ := bind_some hc
      obtain ⟨lo', h2, hc⟩ := bind_some hc
      obtain ⟨hi', h3, hc⟩ := bind_some hc
      injection hc with hc; subst hc
      obtain ⟨hp, hH⟩ := pure' (fun _ _ => rfl) h
      subst hH
      clear h
      simp only [pureA] at hp
      have r1 := opd_rep hT h1
      split at hp
      · rename_i l e1
        rw [e1] at r1
        split at hp
        · rename_i l0 h0 e2 e3
          split at hp
          · rename_i hb
            injection hp with hp; subst hp
            exact .of_gives s (e := Instr.sliceAt _ _ _ _ _) rfl (slStr_ok hT hu r1 h2 h3 e2 e3 hb.1 hb.2)
          · simp at hp
        · simp at hp
      · simp at hp
    · rename_i e hu
      obtain ⟨sz, h0, hc⟩ := bind_some hc
      obtain ⟨x', h1, hc⟩ := bind_some hc
      obtain ⟨lo', h2, hc⟩ := bind_some hc
      obtain ⟨hi', h3, hc⟩ := bind_some hc
      injection hc with hc; subst hc
      obtain ⟨hp, hH⟩ := pure' (fun _ _ => rfl) h
      subst hH
      clear h
      simp only [pureA] at hp
      have r1 := opd_rep hT h1
      split at hp
      · rename_i l hh e2 e3
        exact .of_gives s (e := Instr.sliceAt _ _ _ _ _) rfl (slSl_ok hT hu h0 r1 h2 h3 e2 e3 hp)
      · simp at hp
    · simp at hc
  · -- alloc
    rename_i t
    obtain ⟨z, h1, hc⟩ := bind_some hc
    injection hc with hc; subst hc
    simp only [execA] at h
    injection h with h
    injection h with e1 e2
    subst e1; subst e2
    obtain ⟨zv, z1, z2⟩ := run_zeroT h1
    obtain ⟨r1, r2, r3, r4⟩ := newVar_ok (P := P) s t (z2 C w) (zeroT_cells h1)
    exact .of_makes (e := Instr.alloc _ true (.tuple #[])) rfl ⟨_, _, _, by simp only [Instr.alloc, Sem.run_bind, z1, Result.andThen_ok, r1, Sem.run_pure], r2, r3, r4⟩
  · -- box
    rename_i t x
    obtain ⟨x', h1, hc⟩ := bind_some hc
    injection hc with hc; subst hc
    simp only [execA] at h
    split at h
    · rename_i hcell
      injection h with h
      injection h with e1 e2
      subst e1; subst e2
      obtain ⟨r1, r2, r3, r4⟩ := newVar_ok (P := P) s t (opd_rep hT h1) (List.all_eq_true.1 hcell)
      exact .of_makes (e := Instr.box _ _) rfl ⟨_, _, _, by simp only [Instr.box, Sem.run_bind, Result.andThen_ok, r1, Sem.run_pure], r2, r3, r4⟩
    · simp at h
  · -- load
    obtain ⟨sz, h1, hc⟩ := bind_some hc
    obtain ⟨ag, h2, hc⟩ := bind_some hc
    obtain ⟨x', h3, hc⟩ := bind_some hc
    injection hc with hc; subst hc
    simp only [execA] at h
    cases hl : loadA H sz ag (x'.ev T) with
    | none => simp [hl] at h
    | some q =>
      simp [hl] at h
      obtain ⟨rfl, rfl⟩ := h
      exact .of_gives s (e := Instr.loadAt _ _) rfl (load_ok s h1 h2 (opd_rep hT h3) hl)
  · -- store
    obtain ⟨sz, h1, hc⟩ := bind_some hc
    obtain ⟨a', h2, hc⟩ := bind_some hc
    obtain ⟨x', h3, hc⟩ := bind_some hc
    injection hc with hc; subst hc
    simp only [execA] at h
    cases hl : storeA H sz (x'.ev T) (a'.ev T) with
    | none => simp [hl] at h
    | some q =>
      simp [hl] at h
      obtain ⟨rfl, rfl⟩ := h
      obtain ⟨w', r1, r2, r3⟩ := store_ok (P := P) s h1 (opd_rep hT h2) (opd_rep hT h3) hl
      intro next Q hn
      simp only [Oper.wp, execOp, Sem.run_bind, r1, Result.andThen_ok, Sem.run_pure, Oper.upon_skip]
      exact hn C w' undef r2 r3 (Rep.undef _ _)
  · -- append
    rename_i args argTypes
    split at hc
    · rename_i x y t t2 ha hat
      split at hc
      · rename_i e hu
        obtain ⟨sz, h1, hc⟩ := bind_some hc
        obtain ⟨z, h2, hc⟩ := bind_some hc
        obtain ⟨by_, h3, hc⟩ := bind_some hc
        split at hc
        · rename_i hcond
          simp only [Bool.and_eq_true, beq_iff_eq] at hcond
          have h4 := hcond.1
          obtain ⟨x', h5, hc⟩ := bind_some hc
          obtain ⟨y', h6, hc⟩ := bind_some hc
          injection hc with hc; subst hc
          have hu2 : (∃ e2, P.underlying t2 = some (.slice e2)) ∨ P.underlying t2 = some .string := by
            unfold appendedT at h4
            split at h4
            · exact .inl ⟨_, by assumption⟩
            · exact .inr (by assumption)
            · simp at h4
          have ea : args = #[x, y] := by apply Array.ext'; simpa using ha
          have et : argTypes = #[t, t2] := by apply Array.ext'; simpa using hat
          subst ea; subst et
          exact .of_makes (e := Builtin.append_ #[t, t2] type #[a.eval x, a.eval y]) (by simp [execOp, resolve, invoke, builtin]) (append_ok s hu hu2 h1 h2 hcond.2 h3 (opd_rep hT h5) (opd_rep hT h6) h)
        · split at hc
          · rename_i hint
            obtain ⟨x', h5, hc⟩ := bind_some hc
            obtain ⟨y', h6, hc⟩ := bind_some hc
            injection hc with hc; subst hc
            have ea : args = #[x, y] := by apply Array.ext'; simpa using ha
            have et : argTypes = #[t, t2] := by apply Array.ext'; simpa using hat
            subst ea; subst et
            simp only [execA] at h
            exact .of_makes (e := Builtin.append_ #[t, t2] type #[a.eval x, a.eval y]) (by simp [execOp, resolve, invoke, builtin]) (appendZ_ok s hu hint h1 h2 h3 (opd_rep hT h5) (opd_rep hT h6) h)
          · simp at hc
      · simp at hc
    · simp at hc
  · -- cap
    rename_i args argTypes
    split at hc
    · rename_i x t ha hat
      split at hc
      · rename_i e hu
        obtain ⟨x', h1, hc⟩ := bind_some hc
        injection hc with hc; subst hc
        obtain ⟨hp, hH⟩ := pure' (fun _ _ => rfl) h
        subst hH
        clear h
        have ea : args = #[x] := by apply Array.ext'; simpa using ha
        have et : argTypes = #[t] := by apply Array.ext'; simpa using hat
        subst ea; subst et
        have r1 := opd_rep hT h1
        simp only [pureA] at hp
        split at hp
        · rename_i xs hx
          injection hp with hp; subst hp
          rw [hx] at r1
          generalize hv : a.eval x = v at r1
          cases r1 with
          | sl vs ha ht hc hr =>
            simp only [TailOk] at ht
            subst ht
            refine .of_gives s (e := Builtin.cap_ #[t] type #[a.eval x]) (by simp [execOp, resolve, invoke, builtin]) ⟨.int .i64 xs.length, ?_, .int _ _⟩
            simp [Builtin.cap_, run_underlying hu, hv, goInt]
        · simp at hp
      · simp at hc
    · simp at hc
  · -- copy
    rename_i args argTypes
    split at hc
    · rename_i x y t t2 ha hat
      split at hc
      · rename_i e hu
        obtain ⟨sz, h1, hc⟩ := bind_some hc
        obtain ⟨x', h2, hc⟩ := bind_some hc
        obtain ⟨y', h3, hc⟩ := bind_some hc
        injection hc with hc; subst hc
        have ea : args = #[x, y] := by apply Array.ext'; simpa using ha
        have et : argTypes = #[t, t2] := by apply Array.ext'; simpa using hat
        subst ea; subst et
        simp only [execA] at h
        exact .of_makes (e := Builtin.copy_ #[t, t2] type #[a.eval x, a.eval y]) (by simp [execOp, resolve, invoke, builtin]) (copySl_ok s hu h1 (opd_rep hT h2) (opd_rep hT h3) h)
      · simp at hc
    · simp at hc
  · -- clear
    rename_i args argTypes
    split at hc
    · rename_i x t ha hat
      split at hc
      · rename_i e hu
        obtain ⟨sz, h1, hc⟩ := bind_some hc
        obtain ⟨z, h2, hc⟩ := bind_some hc
        obtain ⟨x', h3, hc⟩ := bind_some hc
        injection hc with hc; subst hc
        have ea : args = #[x] := by apply Array.ext'; simpa using ha
        have et : argTypes = #[t] := by apply Array.ext'; simpa using hat
        subst ea; subst et
        simp only [execA] at h
        cases hl : clearSlA H sz z (x'.ev T) with
        | none => simp [hl] at h
        | some q =>
          simp [hl] at h
          obtain ⟨rfl, rfl⟩ := h
          exact .of_makes (e := Builtin.clear_ #[t] type #[a.eval x]) (by simp [execOp, resolve, invoke, builtin]) (clearSl_ok s hu h1 h2 (opd_rep hT h3) hl)
      · simp at hc
    · simp at hc
  · -- makeSlice
    split at hc
    · rename_i e hu
      obtain ⟨sz, h1, hc⟩ := bind_some hc
      obtain ⟨z, h2, hc⟩ := bind_some hc
      obtain ⟨by_, h3, hc⟩ := bind_some hc
      obtain ⟨x', h4, hc⟩ := bind_some hc
      obtain ⟨y', h5, hc⟩ := bind_some hc
      injection hc with hc; subst hc
      simp only [execA] at h
      exact .of_makes (e := Instr.makeSlice _ _ _) rfl (makeSl_ok s hu h1 h2 h3 (opd_rep hT h4) (opd_rep hT h5) h)
    · simp at hc
  · -- invoke
    rename_i recv name args argTypes
    obtain ⟨x', h1, hc⟩ := bind_some hc
    obtain ⟨xs, h2, hc⟩ := bind_some hc
    injection hc with hc; subst hc
    simp only [execA] at h
    have r1 := opd_rep hT h1
    split at h
    · rename_i t v hx
      rw [hx] at r1
      split at h
      · rename_i t' f hf
        have hft := List.find?_some hf
        have hm := List.mem_of_find?_eq_some hf
        simp only [methodTab, List.mem_filterMap] at hm
        obtain ⟨t0, _, hm⟩ := hm
        obtain ⟨et, hmeth⟩ := methodOf_ok hm
        subst et
        have e0 : t' = t := by simpa using hft
        subst e0
        generalize hv : a.eval recv = rv at r1
        cases r1 with
        | iface _ hr =>
          rename_i u
          refine .of_call hcall s (vs := #[u] ++ args.map a.eval) ?_ h ?_
          · exact args2 (ps := [v]) (us := #[u]) ⟨rfl, fun i p q hp hq => by
              cases i with
              | zero => simp at hp hq; subst hp; subst hq; exact hr
              | succ i => simp at hp⟩ (opds_repL hT h2)
          · simp only [execOp, resolve, hv, Sem.run_bind, Sem.run_pure, Result.andThen_ok]
            exact invoke_method hmeth u (args.map a.eval) w
      · simp at h
    · simp at h
  · -- makeMap
    split at hc
    · injection hc with hc; subst hc
      simp only [execA] at h
      injection h with h
      injection h with e1 e2
      subst e1; subst e2
      exact .of_makes (e := Instr.makeMap _ none) rfl (makeMap_ok s)
    · simp at hc
  · -- mapUpdate
    split at hc
    · rename_i kt et hu
      obtain ⟨kd, h1, hc⟩ := bind_some hc
      obtain ⟨m', h2, hc⟩ := bind_some hc
      obtain ⟨k', h3, hc⟩ := bind_some hc
      obtain ⟨v', h4, hc⟩ := bind_some hc
      injection hc with hc; subst hc
      simp only [execA] at h
      cases hl : mapUpdA H kd (m'.ev T) (k'.ev T) (v'.ev T) with
      | none => simp [hl] at h
      | some q =>
        simp [hl] at h
        obtain ⟨rfl, rfl⟩ := h
        obtain ⟨w', r1, r2, r3⟩ := mapUpd_ok (P := P) s hu h1 (opd_rep hT h2) (opd_rep hT h3) (opd_rep hT h4) hl
        intro next Q hn
        simp only [Oper.wp, execOp, Sem.run_bind, r1, Result.andThen_ok, Sem.run_pure, Oper.upon_skip]
        exact hn C w' undef r2 r3 (Rep.undef _ _)
    · simp at hc
  · -- insert
    split at hc
    · rename_i kt et hu
      obtain ⟨kd, h1, hc⟩ := bind_some hc
      obtain ⟨m', h2, hc⟩ := bind_some hc
      obtain ⟨k', h3, hc⟩ := bind_some hc
      obtain ⟨v', h4, hc⟩ := bind_some hc
      injection hc with hc; subst hc
      simp only [execA] at h
      cases hl : mapUpdA H kd (m'.ev T) (k'.ev T) (v'.ev T) with
      | none => simp [hl] at h
      | some q =>
        simp [hl] at h
        obtain ⟨rfl, rfl⟩ := h
        obtain ⟨w', r1, r2, r3⟩ := mapUpd_ok (P := P) s hu h1 (opd_rep hT h2) (opd_rep hT h3) (opd_rep hT h4) hl
        intro next Q hn
        simp only [Oper.wp, execOp, Sem.run_bind, r1, Result.andThen_ok, Sem.run_pure, Oper.upon_skip]
        exact hn C w' undef r2 r3 (Rep.undef _ _)
    · simp at hc
  · -- lookup
    rename_i t m k ok
    split at hc
    · rename_i kt et hu
      obtain ⟨kd, h1, hc⟩ := bind_some hc
      obtain ⟨z, h2, hc⟩ := bind_some hc
      obtain ⟨m', h3, hc⟩ := bind_some hc
      obtain ⟨k', h4, hc⟩ := bind_some hc
      injection hc with hc; subst hc
      simp only [execA] at h
      cases hl : lookupA H kd z ok (m'.ev T) (k'.ev T) with
      | none => simp [hl] at h
      | some q =>
        simp [hl] at h
        obtain ⟨rfl, rfl⟩ := h
        exact .of_gives s (e := Instr.lookup _ _ _ _) rfl (lookup_ok s hu h1 h2 (opd_rep hT h3) (opd_rep hT h4) hl)
    · simp at hc
  · -- range
    split at hc
    · rename_i kt et hu
      obtain ⟨x', h1, hc⟩ := bind_some hc
      injection hc with hc; subst hc
      simp only [execA] at h
      exact .of_makes (e := Instr.range _ _) rfl (rangeMap_ok s hu (opd_rep hT h1) h)
    · simp at hc
  · -- next
    obtain ⟨x', h1, hc⟩ := bind_some hc
    injection hc with hc; subst hc
    simp [execA] at h
  · -- entry
    obtain ⟨x', h1, hc⟩ := bind_some hc
    injection hc with hc; subst hc
    simp only [execA] at h
    cases hl : entryA H (x'.ev T) with
    | none => simp [hl] at h
    | some q =>
      simp [hl] at h
      obtain ⟨rfl, rfl⟩ := h
      exact .of_gives s (e := Instr.entry _) rfl (entry_ok s (opd_rep hT h1) hl)
  · -- call
    rename_i fo args argTypes
    split at hc
    · rename_i f
      split at hc
      · rename_i fn hf
        split at hc
        · obtain ⟨xs, h1, hc⟩ := bind_some hc
          injection hc with hc; subst hc
          refine .of_call hcall s (opds_repL hT h1) h ?_
          simp [execOp, resolve, Act.eval, Deferred.ofValue, invoke]
        · split at hc
          · rename_i k x y hk ha
            obtain ⟨x', h1, hc⟩ := bind_some hc
            obtain ⟨y', h2, hc⟩ := bind_some hc
            injection hc with hc; subst hc
            have ea : args = #[x, y] := by apply Array.ext'; simpa using ha
            subst ea
            obtain ⟨hp, hH⟩ := pure' (fun _ _ => rfl) h
            subst hH
            obtain ⟨v, hv, hr⟩ := extS_ok hf hk (opd_rep hT h1) (opd_rep hT h2) hp
            intro next Q hn
            simp only [Oper.wp]
            have hrun : (execOp a.eval ⟨dst, .call { callee := .value (.func f), args := #[x, y], argTypes := argTypes }, type, pos, after, guard⟩).run P w = .ok (.value v) w := by
              rw [← hv]
              simp [execOp, resolve, Act.eval, Deferred.ofValue, invoke]
            rw [hrun]
            simp only [Oper.upon_value]
            exact hn C w v (Evo.refl _ _) s hr
          · simp at hc
      · simp at hc
    · obtain ⟨f', h2, hc⟩ := bind_some hc
      obtain ⟨xs, h1, hc⟩ := bind_some hc
      injection hc with hc; subst hc
      simp only [execA, callVal] at h
      have r1 := opd_rep hT h2
      split at h
      · rename_i g first cap e1
        rw [e1] at r1
        generalize hfe : a.eval fo = fv at r1
        cases r1 with
        | func fn g1 g2 g3 g4 =>
          rename_i us vs
          have rl := opds_repL hT h1
          refine .of_call hcall s (vs := us ++ args.map a.eval ++ vs) ?_ h ?_
          · exact args3 ⟨g1, g3⟩ rl ⟨g2, g4⟩
          · simp [execOp, resolve, hfe, Deferred.ofValue, invoke]
      · simp at h
  · simp at hc

end Go.Flat
