/- A machine over plain values. Part P: code and calls: what the plain machine computes, the model's machine computes. -/
import Derived.Test.YtkmlfjnmoieeeaaGreatDoorFlatO
import Derived.LoopN
set_option linter.unusedVariables false
set_option linter.unusedSimpArgs false
namespace Go.Flat
variable {P : Program} {mu : Nat} {C : Cx} {w : World} {n : Nat} {a : Act} {c : CallT}

def compCode (P : Program) (mu : Nat) (n : Nat) : Code → Option ACode
  | .skip => some .skip
  | .region _ ops draw => (compRegion P mu n ops draw).map .region
  | .seq x y => match compCode P mu n x, compCode P mu n y with
    | some x', some y' => some (.seq x' y')
    | _, _ => none
  | .cond q x y => match compOpd q, compCode P mu n x, compCode P mu n y with
    | some q', some x', some y' => some (.cond q' x' y')
    | _, _, _ => none
  | .block id x => match compCode P mu n x with
    | some x' => some (.block id x')
    | none => none
  | .loop x => match compCode P mu n x with
    | some x' => some (.loop x')
    | none => none
  | .exit id => some (.exit id)
  | .ret => some .ret
  | _ => none
def AExit.conc : AExit → Exit
  | .normal => .normal
  | .exit id => .exit id
  | .ret => .ret

theorem code_ok [Globs] (hcall : CallOk P c) (hm : P.follows .mixedOrders = true) : ∀ (k : Code) {ac : ACode}, compCode P mu n k = some ac → ∀ {st st' : St} {e : AExit}, evC c ac st = some (e, st') → ∀ {C : Cx} {w : World} {a : Act}, Sim C st.H w → TRel C w n st.T a → ∀ {Q},
    (∀ C' a' w', Evo C w C' w' → Sim C' st'.H w' → TRel C' w' n st'.T a' → Q e.conc a' w') → k.wp P Q a w
  | .skip, ac, hc, st, st', e, h, C, w, a, s, hT, Q, hQ => by
    simp [compCode] at hc; subst hc
    simp [evC] at h
    obtain ⟨rfl, rfl⟩ := h
    exact wp_skip (hQ C a w (Evo.refl _ _) s hT)
  | .region id ops draw, ac, hc, st, st', e, h, C, w, a, s, hT, Q, hQ => by
    simp only [compCode] at hc
    cases hr : compRegion P mu n ops draw with
    | none => simp [hr] at hc
    | some xs =>
      simp [hr] at hc
      subst hc
      simp only [evC] at h
      cases hx : evOps c xs st with
      | none => simp [hx] at h
      | some st1 =>
        simp [hx] at h
        obtain ⟨rfl, rfl⟩ := h
        exact region_ok hcall hm hr s hT hx hQ
  | .seq x y, ac, hc, st, st', e, h, C, w, a, s, hT, Q, hQ => by
    simp only [compCode] at hc
    split at hc
    · rename_i x' y' h1 h2
      injection hc with hc; subst hc
      simp only [evC] at h
      cases hx : evC c x' st with
      | none => simp [hx] at h
      | some r =>
        obtain ⟨e1, st1⟩ := r
        rw [hx] at h
        refine wp_seq ?_
        cases e1 with
        | normal =>
          refine code_ok hcall hm x h1 hx s hT fun C' a' w' ev s' hT' => ?_
          exact code_ok hcall hm y h2 h s' hT' fun C2 a2 w2 ev2 s2 hT2 => hQ C2 a2 w2 (ev.trans ev2) s2 hT2
        | exit id =>
          simp at h
          obtain ⟨rfl, rfl⟩ := h
          exact code_ok hcall hm x h1 hx s hT fun C' a' w' ev s' hT' => hQ C' a' w' ev s' hT'
        | ret =>
          simp at h
          obtain ⟨rfl, rfl⟩ := h
          exact code_ok hcall hm x h1 hx s hT fun C' a' w' ev s' hT' => hQ C' a' w' ev s' hT'
    · simp at hc
  | .cond q x y, ac, hc, st, st', e, h, C, w, a, s, hT, Q, hQ => by
    simp only [compCode] at hc
    split at hc
    · rename_i q' x' y' h0 h1 h2
      injection hc with hc; subst hc
      simp only [evC] at h
      have r := opd_rep hT h0
      split at h
      · rename_i t ht
        rw [ht] at r
        refine wp_cond (rep_bool r) ?_
        cases t
        · exact code_ok hcall hm y h2 h s hT hQ
        · exact code_ok hcall hm x h1 h s hT hQ
      · simp at h
    · simp at hc
  | .block id x, ac, hc, st, st', e, h, C, w, a, s, hT, Q, hQ => by
    simp only [compCode] at hc
    split at hc
    · rename_i x' h1
      injection hc with hc; subst hc
      simp only [evC] at h
      cases hx : evC c x' st with
      | none => simp [hx] at h
      | some r =>
        obtain ⟨e1, st1⟩ := r
        rw [hx] at h
        refine wp_block (code_ok hcall hm x h1 hx s hT fun C' a' w' ev s' hT' => ?_)
        cases e1 with
        | normal =>
          simp at h
          obtain ⟨rfl, rfl⟩ := h
          exact hQ C' a' w' ev s' hT'
        | ret =>
          simp at h
          obtain ⟨rfl, rfl⟩ := h
          exact hQ C' a' w' ev s' hT'
        | exit i =>
          simp only at h
          show (if i = id then Q .normal a' w' else Q (.exit i) a' w')
          by_cases hi : i = id
          · rw [if_pos hi] at h ⊢
            injection h with h
            injection h with h1 h2
            subst h1; subst h2
            exact hQ C' a' w' ev s' hT'
          · rw [if_neg hi] at h ⊢
            injection h with h
            injection h with h1 h2
            subst h1; subst h2
            exact hQ C' a' w' ev s' hT'
    · simp at hc
  | .loop x, ac, hc, st, st', e, h, C, w, a, s, hT, Q, hQ => by
    simp only [compCode] at hc
    split at hc
    · rename_i x' h1
      injection hc with hc; subst hc
      simp only [evC] at h
      obtain ⟨N, hN⟩ := loopW_some h
      refine wp_loop_rounds N ?_
      have key : ∀ (N : Nat) (st : St) (C : Cx) (w : World) (a : Act), loopN (evC c x') N st = some (e, st') → Sim C st.H w → TRel C w n st.T a → (∀ C' a' w', Evo C w C' w' → Sim C' st'.H w' → TRel C' w' n st'.T a' → Q e.conc a' w') → Code.rounds P x Q N a w := by
        intro N
        induction N with
        | zero => intro st C w a h; simp [loopN] at h
        | succ N ih =>
          intro st C w a h s hT hQ
          simp only [loopN] at h
          cases hx : evC c x' st with
          | none => simp [hx] at h
          | some r =>
            obtain ⟨e1, st1⟩ := r
            rw [hx] at h
            refine code_ok hcall hm x h1 hx s hT fun C' a' w' ev s' hT' => ?_
            cases e1 with
            | normal => exact ih st1 C' w' a' h s' hT' fun C2 a2 w2 ev2 s2 hT2 => hQ C2 a2 w2 (ev.trans ev2) s2 hT2
            | exit id =>
              simp at h
              obtain ⟨rfl, rfl⟩ := h
              exact hQ C' a' w' ev s' hT'
            | ret =>
              simp at h
              obtain ⟨rfl, rfl⟩ := h
              exact hQ C' a' w' ev s' hT'
      exact key N st C w a hN s hT hQ
    · simp at hc
  | .exit id, ac, hc, st, st', e, h, C, w, a, s, hT, Q, hQ => by
    simp [compCode] at hc; subst hc
    simp [evC] at h
    obtain ⟨rfl, rfl⟩ := h
    exact wp_exit (hQ C a w (Evo.refl _ _) s hT)
  | .ret, ac, hc, st, st', e, h, C, w, a, s, hT, Q, hQ => by
    simp [compCode] at hc; subst hc
    simp [evC] at h
    obtain ⟨rfl, rfl⟩ := h
    exact wp_ret (hQ C a w (Evo.refl _ _) s hT)
  | .rangeFunc .., ac, hc, _, _, _, _, _, _, _, _, _, _, _ => by simp [compCode] at hc
  | .scope _, ac, hc, _, _, _, _, _, _, _, _, _, _, _ => by simp [compCode] at hc
  | .label _, ac, hc, _, _, _, _, _, _, _, _, _, _, _ => by simp [compCode] at hc
  | .goto _, ac, hc, _, _, _, _, _, _, _, _, _, _, _ => by simp [compCode] at hc
  | .refuse _, ac, hc, _, _, _, _, _, _, _, _, _, _, _ => by simp [compCode] at hc

theorem code_okS [Globs] (hcall : CallOk P c) (hm : P.follows .mixedOrders = true) {N : Nat} : ∀ (k : Code) {ac : ACode}, compCode P mu n k = some ac → ∀ {st : St} {KA : AExit → St → Prop}, wpS c N ac st KA → ∀ {C : Cx} {w : World} {a : Act}, Sim C st.H w → TRel C w n st.T a → ∀ {Q},
    (∀ e st', KA e st' → ∀ C' a' w', Evo C w C' w' → Sim C' st'.H w' → TRel C' w' n st'.T a' → Q e.conc a' w') → k.wp P Q a w
  | .skip, ac, hc, st, KA, h, C, w, a, s, hT, Q, hQ => by
    simp [compCode] at hc; subst hc
    exact wp_skip (hQ _ _ h C a w (Evo.refl _ _) s hT)
  | .region id ops draw, ac, hc, st, KA, h, C, w, a, s, hT, Q, hQ => by
    simp only [compCode] at hc
    cases hr : compRegion P mu n ops draw with
    | none => simp [hr] at hc
    | some xs =>
      simp [hr] at hc
      subst hc
      exact region_okS hcall hm hr s hT h fun st' h' => hQ .normal st' h'
  | .seq x y, ac, hc, st, KA, h, C, w, a, s, hT, Q, hQ => by
    simp only [compCode] at hc
    split at hc
    · rename_i x' y' h1 h2
      injection hc with hc; subst hc
      refine wp_seq (code_okS hcall hm x h1 h s hT fun e st1 h' C' a' w' ev s' hT' => ?_)
      cases e with
      | normal => exact code_okS hcall hm y h2 h' s' hT' fun e2 st2 h'' C2 a2 w2 ev2 s2 hT2 => hQ e2 st2 h'' C2 a2 w2 (ev.trans ev2) s2 hT2
      | exit id => exact hQ _ _ h' C' a' w' ev s' hT'
      | ret => exact hQ _ _ h' C' a' w' ev s' hT'
    · simp at hc
  | .cond q x y, ac, hc, st, KA, h, C, w, a, s, hT, Q, hQ => by
    simp only [compCode] at hc
    split at hc
    · rename_i q' x' y' h0 h1 h2
      injection hc with hc; subst hc
      simp only [wpS] at h
      have r := opd_rep hT h0
      split at h
      · rename_i t ht
        rw [ht] at r
        refine wp_cond (rep_bool r) ?_
        cases t
        · exact code_okS hcall hm y h2 h s hT hQ
        · exact code_okS hcall hm x h1 h s hT hQ
      · exact h.elim
    · simp at hc
  | .block id x, ac, hc, st, KA, h, C, w, a, s, hT, Q, hQ => by
    simp only [compCode] at hc
    split at hc
    · rename_i x' h1
      injection hc with hc; subst hc
      refine wp_block (code_okS hcall hm x h1 h s hT fun e st1 h' C' a' w' ev s' hT' => ?_)
      cases e with
      | normal => exact hQ _ _ h' C' a' w' ev s' hT'
      | ret => exact hQ _ _ h' C' a' w' ev s' hT'
      | exit i =>
        simp only [Leaves] at h'
        show (if i = id then Q .normal a' w' else Q (.exit i) a' w')
        by_cases hi : i = id
        · rw [if_pos hi] at h' ⊢; exact hQ .normal _ h' C' a' w' ev s' hT'
        · rw [if_neg hi] at h' ⊢; exact hQ (.exit i) _ h' C' a' w' ev s' hT'
    · simp at hc
  | .loop x, ac, hc, st, KA, h, C, w, a, s, hT, Q, hQ => by
    simp only [compCode] at hc
    split at hc
    · rename_i x' h1
      injection hc with hc; subst hc
      simp only [wpS] at h
      refine wp_loop_rounds N ?_
      have key : ∀ (M : Nat) (st : St) (C : Cx) (w : World) (a : Act), loopS (wpS c N x') M st KA → Sim C st.H w → TRel C w n st.T a → (∀ e st', KA e st' → ∀ C' a' w', Evo C w C' w' → Sim C' st'.H w' → TRel C' w' n st'.T a' → Q e.conc a' w') → Code.rounds P x Q M a w := by
        intro M
        induction M with
        | zero => intro st C w a h; exact h.elim
        | succ M ih =>
          intro st C w a h s hT hQ
          refine code_okS hcall hm x h1 h s hT fun e st1 h' C' a' w' ev s' hT' => ?_
          cases e with
          | normal => exact ih st1 C' w' a' h' s' hT' fun e2 st2 h'' C2 a2 w2 ev2 s2 hT2 => hQ e2 st2 h'' C2 a2 w2 (ev.trans ev2) s2 hT2
          | exit id => exact hQ _ _ h' C' a' w' ev s' hT'
          | ret => exact hQ _ _ h' C' a' w' ev s' hT'
      exact key N st C w a h s hT hQ
    · simp at hc
  | .exit id, ac, hc, st, KA, h, C, w, a, s, hT, Q, hQ => by
    simp [compCode] at hc; subst hc
    exact wp_exit (hQ _ _ h C a w (Evo.refl _ _) s hT)
  | .ret, ac, hc, st, KA, h, C, w, a, s, hT, Q, hQ => by
    simp [compCode] at hc; subst hc
    exact wp_ret (hQ _ _ h C a w (Evo.refl _ _) s hT)
  | .rangeFunc .., ac, hc, _, _, _, _, _, _, _, _, _, _ => by simp [compCode] at hc
  | .scope _, ac, hc, _, _, _, _, _, _, _, _, _, _ => by simp [compCode] at hc
  | .label _, ac, hc, _, _, _, _, _, _, _, _, _, _ => by simp [compCode] at hc
  | .goto _, ac, hc, _, _, _, _, _, _, _, _, _, _ => by simp [compCode] at hc
  | .refuse _, ac, hc, _, _, _, _, _, _, _, _, _, _ => by simp [compCode] at hc

/-! ### Behind a call -/
theorem Rep.strip {p : PV} {v : Value} (h : Rep C w p v) : Rep C w p.strip v := by
  have idx : ∀ {ps : List PV} {i : Nat} {q : PV}, (stripL ps)[i]? = some q → ∃ p, ps[i]? = some p ∧ q = p.strip := by
    intro ps
    induction ps with
    | nil => intro i q h; simp [stripL] at h
    | cons p ps ih =>
      intro i q h
      cases i with
      | zero => simp [stripL] at h; exact ⟨p, by simp, h.symm⟩
      | succ i => simp only [stripL, List.getElem?_cons_succ] at h; obtain ⟨p', h1, h2⟩ := ih h; exact ⟨p', by simpa using h1, h2⟩
  have len : ∀ {ps : List PV}, (stripL ps).length = ps.length := by
    intro ps
    induction ps with
    | nil => rfl
    | cons p ps ih => simp [stripL, ih]
  have cell : ∀ {p : PV}, p.strip.isCell = p.isCell := by intro p; cases p <;> rfl
  have cells : ∀ {p : PV} {q : PV}, q ∈ p.strip.cells → (∀ r ∈ p.cells, r.isCell = true) → q.isCell = true := by
    intro p q hq hr
    by_cases hag : ∃ cs, p = .agg cs
    · obtain ⟨cs, rfl⟩ := hag
      simp only [PV.strip, PV.cells] at hq hr
      obtain ⟨i, hi⟩ := List.getElem?_of_mem hq
      obtain ⟨p', h1, h2⟩ := idx hi
      subst h2
      rw [cell]
      exact hr p' (List.mem_of_getElem? h1)
    · have e1 : p.cells = [p] := by cases p <;> first | rfl | exact absurd ⟨_, rfl⟩ hag
      have e2 : p.strip.cells = [p.strip] := by cases p <;> first | rfl | exact absurd ⟨_, rfl⟩ hag
      rw [e2, List.mem_singleton] at hq
      rw [hq, cell]
      exact hr p (by rw [e1]; simp)
  induction h with
  | bool b => exact .bool b
  | int k n => exact .int k n
  | str s => exact .str s
  | nilptr => exact .nilptr
  | ptr off h => exact .ptr off h
  | fp vs h hr ih =>
    refine .fp vs (fun j p hj => ?_) (fun j p hj => ?_)
    · obtain ⟨p', h1, rfl⟩ := idx hj
      obtain ⟨g1, g2, g3⟩ := h j p' h1
      exact ⟨by rw [cell]; exact g1, g2, g3⟩
    · obtain ⟨p', h1, rfl⟩ := idx hj
      exact ih j p' h1
  | @sl τ xs a' c' b o k vs ha ht h hr ih =>
    have hnc : xs.length ≤ c' := by
      cases τ with
      | shut => exact ht
      | exact => simp only [TailOk] at ht; omega
      | tok t => exact ht.1
    rw [← len]
    refine .sl (b := b) (o := o) (k := k) vs (fun hne => ha (by rintro rfl; exact hne rfl)) (by show _ ≤ _; rw [len]; exact hnc) (fun i p hi => ?_) (fun i p hi => ?_)
    · obtain ⟨p', h1, rfl⟩ := idx hi
      obtain ⟨g1, g2, g3⟩ := h i p' h1
      exact ⟨g1, fun q hq => cells hq g2, g3⟩
    · obtain ⟨p', h1, rfl⟩ := idx hi
      exact ih i p' h1
  | view k i n h hc hl ha => exact .view k i n h hc hl ha
  | eptr k i off h => exact .eptr k i off h
  | nilmap => exact .nilmap
  | map h => exact .map h
  | func fn h1 h2 hr1 hr2 ih1 ih2 =>
    refine .func fn (by rw [len]; exact h1) (by rw [len]; exact h2) (fun i p v hp hv => ?_) (fun i p v hp hv => ?_)
    · obtain ⟨p', g1, rfl⟩ := idx hp; exact ih1 i p' v g1 hv
    · obtain ⟨p', g1, rfl⟩ := idx hp; exact ih2 i p' v g1 hv
  | nilfunc => exact .nilfunc
  | iface t h ih => exact .iface t ih
  | niliface => exact .niliface
  | agg h1 h2 hr ih =>
    refine .agg (by rw [len]; exact h1) (fun q hq => ?_) (fun i p v hp hv => ?_)
    · obtain ⟨i, hi⟩ := List.getElem?_of_mem hq
      obtain ⟨p', g1, rfl⟩ := idx hi
      rw [cell]; exact h2 p' (List.mem_of_getElem? g1)
    · obtain ⟨p', g1, rfl⟩ := idx hp; exact ih i p' v g1 hv
  | tup h1 hr ih =>
    refine .tup (by rw [len]; exact h1) (fun i p v hp hv => ?_)
    obtain ⟨p', g1, rfl⟩ := idx hp; exact ih i p' v g1 hv
  | glob g => exact .glob g

theorem idsLtL_mem {m : Nat} : ∀ {ps : List PV}, idsLtL m ps = true ↔ ∀ p ∈ ps, p.idsLt m = true
  | [] => by simp [idsLtL]
  | p :: ps => by simp [idsLtL, idsLtL_mem (ps := ps)]
theorem idsLtL_idx [Globs] {m : Nat} {ps : List PV} : idsLtL m ps = true ↔ ∀ (i : Nat) p, ps[i]? = some p → p.idsLt m = true := by
  rw [idsLtL_mem]
  constructor
  · exact fun h i p hp => h p (List.mem_of_getElem? hp)
  · intro h p hp
    obtain ⟨i, hi⟩ := List.getElem?_of_mem hp
    exact h i p hi

/-- A value's numbers are those of objects. -/
theorem Rep.ids [Globs] {m : Nat} (hat : ∀ id, m ≤ id → C.at_ id = none) (htk : ∀ id, m ≤ id → C.tk id = none) {p : PV} {v : Value} (h : Rep C w p v) : p.idsLt m = true := by
  have lt_at : ∀ {id l}, C.at_ id = some l → id < m := by
    intro id l h
    rcases Nat.lt_or_ge id m with h' | h'
    · exact h'
    · rw [hat id h'] at h; simp at h
  have lt_tk : ∀ {id l}, C.tk id = some l → id < m := by
    intro id l h
    rcases Nat.lt_or_ge id m with h' | h'
    · exact h'
    · rw [htk id h'] at h; simp at h
  have get : ∀ {ps : List PV} {us : Array Value}, us.size = ps.length → (∀ (i : Nat) p v, ps[i]? = some p → us[i]? = some v → p.idsLt m = true) → idsLtL m ps = true := by
    intro ps us hl h
    rw [idsLtL_idx]
    intro i p hp
    have := lt_of_some hp
    exact h i p _ hp (Array.getElem?_eq_getElem (by omega))
  induction h with
  | bool b => rfl
  | int k n => rfl
  | str s => rfl
  | nilptr => rfl
  | ptr off h => simpa [PV.idsLt] using lt_at h
  | fp vs h hr ih => simp only [PV.idsLt]; rw [idsLtL_idx]; exact ih
  | @sl τ xs a' c' b o k vs ha ht h hr ih =>
    simp only [PV.idsLt, Bool.and_eq_true]
    refine ⟨?_, by rw [idsLtL_idx]; exact ih⟩
    cases τ with
    | shut => rfl
    | exact => rfl
    | tok t => obtain ⟨_, s, hs, _⟩ := ht; simpa using lt_tk hs
  | view k i n h hc hl ha => simpa [PV.idsLt] using lt_at hc
  | eptr k i off h => simpa [PV.idsLt] using lt_at h
  | nilmap => rfl
  | map h => simpa [PV.idsLt] using lt_at h
  | func fn h1 h2 hr1 hr2 ih1 ih2 => simp only [PV.idsLt, Bool.and_eq_true]; exact ⟨get h1 ih1, get h2 ih2⟩
  | nilfunc => rfl
  | iface t h ih => exact ih
  | niliface => rfl
  | agg h1 h2 hr ih => exact get h1 ih
  | tup h1 hr ih => exact get h1 ih
  | glob g => rfl

/-- Objects from number m on are forgotten. -/
def Cx.cut (C : Cx) (m : Nat) : Cx :=
  { own := fun b o => match C.own b o with | .ob id => if id < m then .ob id else .fz | x => x
    at_ := fun id => if id < m then C.at_ id else none
    tk := fun id => if id < m then C.tk id else none }
theorem Rep.cut [Globs] {m : Nat} {p : PV} {v : Value} (h : Rep C w p v) : p.idsLt m = true → Rep (C.cut m) w p v := by
  have fz : ∀ {b o}, C.own b o = .fz → (C.cut m).own b o = .fz := by intro b o h; simp [Cx.cut, h]
  have get : ∀ {ps : List PV} {i : Nat} {p : PV}, idsLtL m ps = true → ps[i]? = some p → p.idsLt m = true := fun h hp => (idsLtL_idx.1 h) _ _ hp
  induction h with
  | bool b => exact fun _ => .bool b
  | int k n => exact fun _ => .int k n
  | str s => exact fun _ => .str s
  | nilptr => exact fun _ => .nilptr
  | ptr off h => intro hi; simp only [PV.idsLt, decide_eq_true_eq] at hi; exact .ptr off (by simp only [Cx.cut]; rw [if_pos hi]; exact h)
  | fp vs h hr ih =>
    intro hi
    simp only [PV.idsLt] at hi
    exact .fp vs (fun j p hj => let ⟨g1, g2, g3⟩ := h j p hj; ⟨g1, fz g2, g3⟩) (fun j p hj => ih j p hj (get hi hj))
  | @sl τ xs a' c' b o k vs ha ht h hr ih =>
    intro hi
    simp only [PV.idsLt, Bool.and_eq_true] at hi
    refine .sl vs ha ?_ (fun i p hp => let ⟨g1, g2, g3⟩ := h i p hp; ⟨g1, g2, fun j hj => ⟨fz (g3 j hj).1, (g3 j hj).2⟩⟩) (fun i p hp => ih i p hp (get hi.2 hp))
    cases τ with
    | shut => exact ht
    | exact => exact ht
    | tok t =>
      obtain ⟨g1, s, g2, g3⟩ := ht
      have : t < m := by simpa using hi.1
      exact ⟨g1, s, by simp only [Cx.cut]; rw [if_pos this]; exact g2, g3⟩
  | view k i n h hc hl ha =>
    intro hi
    simp only [PV.idsLt, decide_eq_true_eq] at hi
    exact .view k i n (by simp only [Cx.cut]; rw [if_pos (by omega)]; exact h) (by simp only [Cx.cut]; rw [if_pos hi]; exact hc) hl ha
  | eptr k i off h => intro hi; simp only [PV.idsLt, decide_eq_true_eq] at hi; exact .eptr k i off (by simp only [Cx.cut]; rw [if_pos hi]; exact h)
  | nilmap => exact fun _ => .nilmap
  | map h => intro hi; simp only [PV.idsLt, decide_eq_true_eq] at hi; exact .map (by simp only [Cx.cut]; rw [if_pos hi]; exact h)
  | func fn h1 h2 hr1 hr2 ih1 ih2 =>
    intro hi
    simp only [PV.idsLt, Bool.and_eq_true] at hi
    exact .func fn h1 h2 (fun i p v hp hv => ih1 i p v hp hv (get hi.1 hp)) (fun i p v hp hv => ih2 i p v hp hv (get hi.2 hp))
  | nilfunc => exact fun _ => .nilfunc
  | iface t h ih => exact fun hi => .iface t (ih hi)
  | niliface => exact fun _ => .niliface
  | agg h1 h2 hr ih => exact fun hi => .agg h1 h2 (fun i p v hp hv => ih i p v hp hv (get hi hp))
  | tup h1 hr ih => exact fun hi => .tup h1 (fun i p v hp hv => ih i p v hp hv (get hi hp))
  | glob g => exact fun _ => .glob g

/-- What objects from number m on own is never written again. -/
def Cx.melt (C : Cx) (m : Nat) : Cx := { C with own := fun b o => match C.own b o with | .ob id => if id < m then .ob id else .fz | x => x }
theorem Cx.melt_cut (C : Cx) (m : Nat) : (C.melt m).cut m = C.cut m := by
  unfold Cx.cut Cx.melt
  congr 1
  funext b o
  simp only
  cases h : C.own b o with
  | ob id =>
    simp only
    by_cases hi : id < m
    · rw [if_pos hi]; simp only; rw [if_pos hi]
    · rw [if_neg hi]
  | _ => rfl
theorem Rep.melt {m : Nat} {p : PV} {v : Value} (h : Rep C w p v) : Rep (C.melt m) w p v := by
  have fz : ∀ {b o}, C.own b o = .fz → (C.melt m).own b o = .fz := by intro b o h; simp [Cx.melt, h]
  induction h with
  | bool b => exact .bool b
  | int k n => exact .int k n
  | str s => exact .str s
  | nilptr => exact .nilptr
  | ptr off h => exact .ptr off h
  | fp vs h hr ih => exact .fp vs (fun j p hj => let ⟨g1, g2, g3⟩ := h j p hj; ⟨g1, fz g2, g3⟩) ih
  | sl vs ha ht h hr ih => exact .sl vs ha ht (fun i p hp => let ⟨g1, g2, g3⟩ := h i p hp; ⟨g1, g2, fun j hj => ⟨fz (g3 j hj).1, (g3 j hj).2⟩⟩) ih
  | view k i n h hc hl ha => exact .view k i n h hc hl ha
  | eptr k i off h => exact .eptr k i off h
  | nilmap => exact .nilmap
  | map h => exact .map h
  | func fn h1 h2 hr1 hr2 ih1 ih2 => exact .func fn h1 h2 ih1 ih2
  | nilfunc => exact .nilfunc
  | iface t h ih => exact .iface t ih
  | niliface => exact .niliface
  | agg h1 h2 hr ih => exact .agg h1 h2 ih
  | tup h1 hr ih => exact .tup h1 ih
  | glob g => exact .glob g
theorem frzL_get {H : Heap} {m : Nat} : ∀ {ps : List PV} {i : Nat}, (frzL H m ps)[i]? = (ps[i]?).map (PV.frz H m)
  | [], i => by simp [frzL]
  | p :: ps, i => by
    cases i with
    | zero => simp [frzL]
    | succ i => simp only [frzL, List.getElem?_cons_succ]; exact frzL_get
theorem frzL_len {H : Heap} {m : Nat} : ∀ {ps : List PV}, (frzL H m ps).length = ps.length
  | [] => rfl
  | p :: ps => by simp [frzL, frzL_len]
theorem frz_cell {H : Heap} {m : Nat} {p : PV} (h : p.isCell = true) : (p.frz H m).isCell = true := by
  cases p <;> simp only [PV.isCell, Bool.false_eq_true] at h <;> simp only [PV.frz]
  all_goals first
    | rfl
    | (split
       · split <;> rfl
       · rfl)
theorem cells_cell {p : PV} (h : p.isCell = true) : p.cells = [p] := by
  cases p <;> first | rfl | simp [PV.isCell] at h
theorem frz_cells [Globs] {H : Heap} {m : Nat} (p : PV) : (p.frz H m).cells = frzL H m p.cells := by
  by_cases h : p.isCell = true
  · rw [cells_cell h, cells_cell (frz_cell h)]
    rfl
  · cases p <;> first | rfl | simp [PV.isCell] at h
theorem Rep.frz [Globs] {H1 : Heap} {C1 : Cx} {w1 : World} (s1 : Sim C1 H1 w1) {m : Nat} {p : PV} {v : Value} (h : Rep (C1.melt m) w1 p v) : Rep (C1.melt m) w1 (p.frz H1 m) v := by
  have own : ∀ {b o id}, C1.own b o = .ob id → m ≤ id → (C1.melt m).own b o = .fz := by
    intro b o id h hm
    simp only [Cx.melt, h]
    rw [if_neg (by omega)]
  have lst : ∀ {ps : List PV} {vs : Array Value}, vs.size = ps.length → (∀ (i : Nat) p v, ps[i]? = some p → vs[i]? = some v → Rep (C1.melt m) w1 (p.frz H1 m) v) → vs.size = (frzL H1 m ps).length ∧ ∀ (i : Nat) p v, (frzL H1 m ps)[i]? = some p → vs[i]? = some v → Rep (C1.melt m) w1 p v := by
    intro ps vs h1 h2
    refine ⟨by rw [frzL_len]; exact h1, fun i p v hp hv => ?_⟩
    rw [frzL_get] at hp
    cases hq : ps[i]? with
    | none => rw [hq] at hp; simp at hp
    | some q => rw [hq] at hp; simp at hp; subst hp; exact h2 i q v hq hv
  induction h with
  | bool b => exact .bool b
  | int k n => exact .int k n
  | str s => exact .str s
  | nilptr => exact .nilptr
  | @ptr id b o off h =>
    simp only [PV.frz]
    split
    · rename_i cs hH
      split
      · rename_i hm
        obtain ⟨b', o', h1, h2⟩ := s1.obj id _ hH
        have h' : C1.at_ id = some (b, o) := h
        rw [h'] at h1
        injection h1 with h1
        injection h1 with e1 e2
        subst e1; subst e2
        refine .fp (fun j => (cellAt w1 b (o + off + j)).getD Go.undef) (fun j p hj => ?_) (fun j p hj => ?_)
        · rw [List.getElem?_drop] at hj
          obtain ⟨g1, g2, _, v, g3, _⟩ := h2 _ p hj
          rw [← Nat.add_assoc] at g2 g3
          exact ⟨g1, own g2 hm, by rw [g3]; rfl⟩
        · rw [List.getElem?_drop] at hj
          obtain ⟨g1, g2, _, v, g3, g4⟩ := h2 _ p hj
          rw [← Nat.add_assoc] at g3
          rw [g3]
          exact g4.melt
      · exact .ptr off h
    · exact .ptr off h
  | fp vs h hr ih =>
    simp only [PV.frz]
    refine .fp vs (fun j p hj => ?_) (fun j p hj => ?_)
    · rw [frzL_get] at hj
      obtain ⟨q, hq, rfl⟩ := Option.map_eq_some_iff.1 hj
      obtain ⟨g1, g2, g3⟩ := h j q hq
      exact ⟨frz_cell g1, g2, g3⟩
    · rw [frzL_get] at hj
      obtain ⟨q, hq, rfl⟩ := Option.map_eq_some_iff.1 hj
      exact ih j q hq
  | @sl τ xs a' c' b o k vs ha ht h hr ih =>
    simp only [PV.frz]
    have hl : (frzL H1 m xs).length = xs.length := frzL_len
    rw [← hl]
    refine .sl vs (fun hne => ha (by rintro rfl; exact hne rfl)) (by rw [hl]; exact ht) (fun i p hp => ?_) (fun i p hp => ?_)
    · rw [frzL_get] at hp
      obtain ⟨q, hq, rfl⟩ := Option.map_eq_some_iff.1 hp
      obtain ⟨g1, g2, g3⟩ := h i q hq
      refine ⟨g1, fun r hr' => ?_, g3⟩
      rw [frz_cells] at hr'
      obtain ⟨j, hj, rfl⟩ := List.getElem_of_mem hr'
      have hj2 := List.getElem?_eq_getElem hj
      rw [frzL_get] at hj2
      obtain ⟨z, hz, e⟩ := Option.map_eq_some_iff.1 hj2
      rw [← e]
      exact frz_cell (g2 z (List.mem_of_getElem? hz))
    · rw [frzL_get] at hp
      obtain ⟨q, hq, rfl⟩ := Option.map_eq_some_iff.1 hp
      exact ih i q hq
  | @view id b o c a' k i n h hc hl ha =>
    simp only [PV.frz]
    split
    · rename_i k' es hH
      split
      · rename_i hcond
        obtain ⟨hm, hk, hle⟩ := hcond
        subst hk
        obtain ⟨b', o', c', q1, q2, q3, q4, q5, q6⟩ := s1.obj id _ hH
        have h' : C1.at_ id = some (b, o) := h
        rw [h'] at q1
        injection q1 with q1
        injection q1 with f1 f2
        subst f1; subst f2
        have hlen : ((es.drop i).take n).length = n := by simp; omega
        have hget : ∀ (t : Nat) p, ((es.drop i).take n)[t]? = some p → t < n ∧ es[i + t]? = some p := by
          intro t p hp
          rw [List.getElem?_take] at hp
          split at hp
          · rw [List.getElem?_drop] at hp; exact ⟨by assumption, hp⟩
          · simp at hp
        let f : Nat → Nat → Value := fun t j => (cellAt w1 b (o + i * k + t * k + j)).getD Go.undef
        have hel : ∀ (t : Nat) p, ((es.drop i).take n)[t]? = some p → (∀ q ∈ p.cells, q.isCell = true) ∧ Rep (C1.melt m) w1 p (elemU p (f t)) ∧ (elemU p (f t)).cells.size = k ∧ ∀ j, j < k → (elemU p (f t)).cells[j]? = some (f t j) ∧ cellAt w1 b (o + i * k + t * k + j) = some (f t j) ∧ (C1.melt m).own b (o + i * k + t * k + j) = .fz := by
          intro t p hp
          obtain ⟨ht, hp'⟩ := hget t p hp
          obtain ⟨y1, y2⟩ := q5 _ _ hp'
          have hpl : ∀ j, o + (i + t) * k + j = o + i * k + t * k + j := fun j => by rw [Nat.add_mul]; omega
          have hcell : ∀ j q, p.cells[j]? = some q → q.isCell = true ∧ Rep (C1.melt m) w1 q (f t j) ∧ cellAt w1 b (o + i * k + t * k + j) = some (f t j) ∧ (C1.melt m).own b (o + i * k + t * k + j) = .fz := by
            intro j q hj
            obtain ⟨z1, z4, _, u, z2, z3⟩ := y2 j q hj
            rw [hpl] at z2 z4
            have : f t j = u := by simp only [f, z2]; rfl
            rw [this]
            exact ⟨z1, z3.melt, z2, own z4 hm⟩
          obtain ⟨u1, u2, u3⟩ := elemU_ok (C := C1.melt m) (w := w1) (p := p) (f := f t) (fun j q hj => let ⟨x, y, _⟩ := hcell j q hj; ⟨x, y⟩)
          refine ⟨fun q hq => ?_, u1, by omega, fun j hj => ⟨u3 j (by omega), (hcell j _ (List.getElem?_eq_getElem (by omega))).2.2⟩⟩
          obtain ⟨j, hj, rfl⟩ := List.getElem_of_mem hq
          exact (hcell j _ (List.getElem?_eq_getElem hj)).1
        have hfin : Rep (C1.melt m) w1 (.sl .shut ((es.drop i).take n)) (.slice a' ((es.drop i).take n).length (c - i)) := by
          refine .sl (b := b) (o := o + i * k) (k := k) (fun t => elemU (((es.drop i).take n).getD t .undef) (f t)) (fun hne => ha ?_) (show _ ≤ c - i by rw [hlen]; omega) (fun t p hp => ?_) (fun t p hp => ?_)
          · have : 0 < n := by rw [← hlen]; exact List.length_pos_iff.2 hne
            omega
          · rw [List.getD_eq_getElem?_getD, hp]
            obtain ⟨z1, z2, z3, z4⟩ := hel t p hp
            refine ⟨z3, z1, fun j hj => ?_⟩
            obtain ⟨x1, x2, x3⟩ := z4 j hj
            exact ⟨x3, by simp only [Option.getD_some]; rw [x1, x2]⟩
          · rw [List.getD_eq_getElem?_getD, hp]
            exact (hel t p hp).2.1
        rw [hlen] at hfin
        exact hfin
      · exact .view k i n h hc hl ha
    · exact .view k i n h hc hl ha
  | eptr k i off h => exact .eptr k i off h
  | nilmap => exact .nilmap
  | map h => exact .map h
  | func fn h1 h2 hr1 hr2 ih1 ih2 =>
    simp only [PV.frz]
    obtain ⟨a1, a2⟩ := lst h1 ih1
    obtain ⟨b1, b2⟩ := lst h2 ih2
    exact .func fn a1 b1 a2 b2
  | nilfunc => exact .nilfunc
  | iface t h ih => exact .iface t ih
  | niliface => exact .niliface
  | agg h1 h2 hr ih =>
    simp only [PV.frz]
    obtain ⟨a1, a2⟩ := lst h1 ih
    refine .agg a1 (fun q hq => ?_) a2
    obtain ⟨j, hj, rfl⟩ := List.getElem_of_mem hq
    have hj2 := List.getElem?_eq_getElem hj
    rw [frzL_get] at hj2
    obtain ⟨z, hz, e⟩ := Option.map_eq_some_iff.1 hj2
    rw [← e]
    exact frz_cell (h2 z (List.mem_of_getElem? hz))
  | tup h1 hr ih =>
    simp only [PV.frz]
    obtain ⟨a1, a2⟩ := lst h1 ih
    exact .tup a1 a2
  | glob g => exact .glob g

theorem leave_ok [Globs] {fz : Bool} {H H1 : Heap} {C1 : Cx} {w1 : World} (s : Sim C H w) (s1 : Sim C1 H1 w1) (ev : Evo C w C1 w1) {r : PV} {v : Value} (hr : Rep C1 w1 r v) : ∃ C2, Evo C w C2 w1 ∧ Sim C2 (leave fz H r H1).2 w1 ∧ Rep C2 w1 (leave fz H r H1).1 v := by
  have hr2 : Rep (C1.melt H.length) w1 (if fz then ((r.frz H1 H.length).frz H1 H.length).strip else r) v := by
    cases fz with
    | false => exact hr.melt
    | true => exact ((hr.melt.frz s1).frz s1).strip
  unfold leave
  generalize (if fz = true then ((r.frz H1 H.length).frz H1 H.length).strip else r) = r1 at hr2 ⊢
  split
  · rename_i hc
    obtain ⟨hc1, hc2⟩ := hc
    have lt_at : ∀ {id l}, C.at_ id = some l → id < H.length := by
      intro id l h
      rcases Nat.lt_or_ge id H.length with h' | h'
      · exact h'
      · rw [s.new_at id h'] at h; simp at h
    have lt_tk : ∀ {id l}, C.tk id = some l → id < H.length := by
      intro id l h
      rcases Nat.lt_or_ge id H.length with h' | h'
      · exact h'
      · rw [s.new_tk id h'] at h; simp at h
    have hcat : ∀ {id l}, id < H.length → C1.at_ id = some l → (C1.cut H.length).at_ id = some l := by intro id l h1 h2; simp only [Cx.cut]; rw [if_pos h1]; exact h2
    have hctk : ∀ {id l}, id < H.length → C1.tk id = some l → (C1.cut H.length).tk id = some l := by intro id l h1 h2; simp only [Cx.cut]; rw [if_pos h1]; exact h2
    have hcob : ∀ {b o id}, id < H.length → C1.own b o = .ob id → (C1.cut H.length).own b o = .ob id := by intro b o id h1 h2; simp only [Cx.cut, h2]; rw [if_pos h1]
    have ids : ∀ {p : PV} {v : Value}, Rep C w p v → p.idsLt H.length = true := fun h => h.ids s.new_at s.new_tk
    refine ⟨C1.cut H.length, ⟨ev.os, ev.tape, ev.output, ev.size, fun b o h => ?_, fun id l h => hcat (lt_at h) (ev.at_ id l h), fun id t h => ?_, fun b hb h => ?_⟩, ⟨fun id o ho => ?_, fun b o h => ?_, fun id h => ?_, fun id h => ?_, fun b o id h => ?_, fun g Q h => let ⟨a, b, c⟩ := (s.inv.mono ev) g Q h; ⟨a, fun o id h' => by simp only [Cx.cut] at h'; split at h' <;> first | exact b _ _ (by assumption) | (exact b _ _ h'), c⟩⟩, by have := hr2.cut hc2; rw [Cx.melt_cut] at this; exact this⟩
    · obtain ⟨h1, h2⟩ := ev.fz b o h
      exact ⟨by simp [Cx.cut, h1], h2⟩
    · obtain ⟨t', h1, h2, h3⟩ := ev.tk id t h
      exact ⟨t', hctk (lt_tk h) h1, h2, h3⟩
    · obtain ⟨h1, h2⟩ := ev.frame b hb h
      refine ⟨h1, fun o id h => ?_⟩
      simp only [Cx.cut] at h
      split at h
      · rename_i id' h'
        exact h2 o id' h'
      · rename_i h'
        exact h2 o id h
    · have hlt := lt_of_some ho
      have h1 : H1[id]? = some o := by
        have h0 : (H1.take H.length)[id]? = some o := by rw [hc1]; exact ho
        rw [List.getElem?_take, if_pos hlt] at h0
        exact h0
      have ok1 := s1.obj id o h1
      have ok0 := s.obj id o ho
      cases o with
      | cells cs =>
        obtain ⟨b, o, g1, g2⟩ := ok1
        obtain ⟨b0, o0, q1, q2⟩ := ok0
        refine ⟨b, o, hcat hlt g1, fun j p hj => ?_⟩
        obtain ⟨e1, e2, e3, u, e4, e5⟩ := g2 j p hj
        obtain ⟨_, _, _, u0, _, e6⟩ := q2 j p hj
        exact ⟨e1, hcob hlt e2, e3, u, e4, e5.cut (ids e6)⟩
      | vec m xs =>
        obtain ⟨b, o, c, g1, g2, g3, g4, g5, g6⟩ := ok1
        obtain ⟨b0, o0, c0, q1, q2, q3, q4, q5, q6⟩ := ok0
        refine ⟨b, o, c, hcat hlt g1, hcat (lt_at q2) g2, g3, g4, fun i p hi => ⟨(g5 i p hi).1, fun j q hj => ?_⟩, fun j h1 h2 => ?_⟩
        · obtain ⟨e1, e2, e3, u, e4, e5⟩ := (g5 i p hi).2 j q hj
          obtain ⟨_, _, _, u0, _, e6⟩ := (q5 i p hi).2 j q hj
          exact ⟨e1, hcob hlt e2, e3, u, e4, e5.cut (ids e6)⟩
        · obtain ⟨e1, e2, e3⟩ := g6 j h1 h2
          exact ⟨hcob hlt e1, e2, e3⟩
      | tail m =>
        obtain ⟨t, g1, g2, g3, g4, g5⟩ := ok1
        exact ⟨t, hctk hlt g1, g2, g3, g4, fun j h1 h2 => let ⟨e1, e2, e3⟩ := g5 j h1 h2; ⟨hcob hlt e1, e2, e3⟩⟩
      | map es clock =>
        obtain ⟨b, g1, g2, en, g3, g4, g5⟩ := ok1
        obtain ⟨b0, q1, q2, en0, q3, q4, q5⟩ := ok0
        refine ⟨b, hcat hlt g1, hcob hlt g2, en, g3, g4, fun i e f he hf => ?_⟩
        obtain ⟨e1, e2, e3⟩ := g5 i e f he hf
        have hi := lt_of_some he
        obtain ⟨e4, e5, _⟩ := q5 i e _ he (Array.getElem?_eq_getElem (by omega))
        exact ⟨e1.cut (ids e4), e2.cut (ids e5), e3⟩
      | strIter l pos =>
        obtain ⟨b, g1, g2, g3⟩ := ok1
        exact ⟨b, hcat hlt g1, hcob hlt g2, g3⟩
      | mapIter m since seen last =>
        obtain ⟨b, g1, g2, m', g3, g4⟩ := ok1
        obtain ⟨b0, q1, q2, m0, q3, q4⟩ := ok0
        refine ⟨b, hcat hlt g1, hcob hlt g2, m', g3, ?_⟩
        cases m with
        | none => exact g4
        | some i =>
          obtain ⟨bm, e1, e2⟩ := g4
          obtain ⟨bm0, e3, _⟩ := q4
          exact ⟨bm, hcat (lt_at e3) e1, e2⟩
      | dead => trivial
    · simp only [Cx.cut] at h
      refine s1.lt b o (fun e => ?_)
      rw [e] at h
      exact h rfl
    · simp only [Cx.cut]; rw [if_neg (by simp only at h; omega)]
    · simp only [Cx.cut]; rw [if_neg (by simp only at h; omega)]
    · simp only [Cx.cut] at h
      split at h
      · split at h
        · rename_i hlt
          injection h with h
          subst h
          exact hlt
        · simp at h
      · rename_i hne
        exact absurd h (hne id)
  · exact ⟨C1, ev, s1, hr⟩

/-! ### Functions -/
def compRes (P : Program) : ResultVar → Option ARes
  | .tmp t => some (.tmp t)
  | .cell t ty => do some (.cell t (← sizeT P ty) (← aggT P ty))
def compResL (P : Program) : List ResultVar → Option (List ARes)
  | [] => some []
  | r :: rs => match compRes P r, compResL P rs with
    | some x, some xs => some (x :: xs)
    | _, _ => none
def hasNext : ACode → Bool
  | .region ops => !noNext ops
  | .seq x y => hasNext x || hasNext y
  | .cond _ x y => hasNext x || hasNext y
  | .block _ x => hasNext x
  | .loop x => hasNext x
  | _ => false
def compFunc (P : Program) (mu : Nat) (fz : Bool) (f : FuncId) : Option AFunc :=
  match P.funcs[f]? with
  | some fn => match fn.body with
    | some body => match compCode P mu fn.ntmps body, compResL P fn.results.toList with
      | some b, some rs => if fn.name != "runtime.NumGoroutine" then some { n := fn.ntmps, res := rs, body := b, nd := hasNext b, fz := fz } else none
      | _, _ => none
    | none => none
  | none => none

theorem res_ok [Globs] {H : Heap} (s : Sim C H w) {T : Temps} (hT : TRel C w n T a) {r : ResultVar} {x : ARes} (hx : compRes P r = some x) {p : PV} (h : resA T H x = some p) :
    ∃ v, (match r with | .tmp t => pure (a.tmps.getD t undef) | .cell b t => do loadVar t (← asAddr (a.tmps.getD b undef)) : Sem Value).run P w = .ok v w ∧ Rep C w p v := by
  cases r with
  | tmp t =>
    simp [compRes] at hx
    subst hx
    simp [resA] at h
    subst h
    exact ⟨_, rfl, hT.rep t⟩
  | cell t ty =>
    simp only [compRes] at hx
    obtain ⟨sz, h1, hx⟩ := bind_some hx
    obtain ⟨ag, h2, hx⟩ := bind_some hx
    injection hx with hx
    subst hx
    simp only [resA] at h
    have hr := hT.rep t
    show ∃ v, (do loadVar ty (← asAddr (a.tmps.getD t undef)) : Sem Value).run P w = .ok v w ∧ Rep C w p v
    generalize a.tmps.getD t undef = u at hr
    obtain ⟨v, r1, r2⟩ := load_ok (P := P) s h1 h2 hr h
    refine ⟨v, ?_, r2⟩
    rw [← r1]
    cases hv : T t <;> rw [hv] at h hr <;> simp [loadA] at h <;> cases hr <;> simp [Instr.loadAt, Instr.sureAddr, asAddr]
theorem resL_ok [Globs] {H : Heap} (s : Sim C H w) {T : Temps} (hT : TRel C w n T a) : ∀ {rs : List ResultVar} {xs : List ARes}, compResL P rs = some xs → ∀ {ps : List PV}, resL T H xs = some ps →
    ∃ vs : List Value, (rs.mapM fun r => (match r with | .tmp t => pure (a.tmps.getD t undef) | .cell b t => do loadVar t (← asAddr (a.tmps.getD b undef)) : Sem Value)).run P w = .ok vs w ∧ vs.length = ps.length ∧ ∀ (i : Nat) p v, ps[i]? = some p → vs[i]? = some v → Rep C w p v
  | [], xs, hx, ps, h => by simp [compResL] at hx; subst hx; simp [resL] at h; subst h; exact ⟨[], rfl, rfl, by simp⟩
  | r :: rs, xs, hx, ps, h => by
    simp only [compResL] at hx
    split at hx
    · rename_i x ys h1 h2
      injection hx with hx; subst hx
      simp only [resL] at h
      split at h
      · rename_i q qs g1 g2
        injection h with h; subst h
        obtain ⟨v, e1, e2⟩ := res_ok (P := P) s hT h1 g1
        obtain ⟨vs, f1, f2, f3⟩ := resL_ok s hT h2 g2
        refine ⟨v :: vs, ?_, by simp [f2], fun i p u hp hu => ?_⟩
        · rw [List.mapM_cons, Sem.run_bind, e1, Result.andThen_ok, Sem.run_bind, f1]
          rfl
        · cases i with
          | zero => simp at hp hu; subst hp; subst hu; exact e2
          | succ i => exact f3 i p u (by simpa using hp) (by simpa using hu)
      · simp at h
    · simp at hx
theorem result_ok [Globs] {H : Heap} (s : Sim C H w) {T : Temps} (hT : TRel C w n T a) {fn : Func} {xs : List ARes} (hx : compResL P fn.results.toList = some xs) {p : PV} (h : resultA T H xs = some p) : ∃ v, (results fn a.tmps).run P w = .ok v w ∧ Rep C w p v := by
  unfold resultA at h
  cases hl : resL T H xs with
  | none => simp [hl] at h
  | some ps =>
    rw [hl] at h
    obtain ⟨vs, e1, e2, e3⟩ := resL_ok (P := P) s hT hx hl
    have hrun : (fn.results.mapM fun r => (match r with | .tmp t => pure (a.tmps.getD t undef) | .cell b t => do loadVar t (← asAddr (a.tmps.getD b undef)) : Sem Value)).run P w = .ok vs.toArray w := by
      rw [Array.mapM_eq_mapM_toList, Sem.run_map, e1]
      rfl
    have hres : (results fn a.tmps).run P w = .ok (if h : vs.toArray.size = 1 then vs.toArray[0] else .tuple vs.toArray) w := by
      unfold results
      rw [Sem.run_bind]
      have : ∀ f g : ResultVar → Sem Value, f = g → (fn.results.mapM f).run P w = (fn.results.mapM g).run P w := fun f g e => by rw [e]
      rw [this _ (fun r => (match r with | .tmp t => pure (a.tmps.getD t undef) | .cell b t => do loadVar t (← asAddr (a.tmps.getD b undef)) : Sem Value)) (by funext r; cases r <;> rfl), hrun]
      rfl
    refine ⟨_, hres, ?_⟩
    match ps, vs, h, e2, e3 with
    | [q], [v], h, _, e3 => simp at h; subst h; exact e3 0 q v (by simp) (by simp)
    | [], [], h, _, _ => simp at h; subst h; exact .tup rfl (by simp)
    | q1 :: q2 :: qs, u1 :: u2 :: us, h, e2, e3 =>
      simp at h
      subst h
      rw [dif_neg (by simp)]
      exact .tup (by simpa using e2) (fun i p v hp hv => e3 i p v hp (by simpa using hv))

/-- A function that is given by what it computes: it makes and changes nothing that counts. -/
def PrimOk [Globs] (P : Program) (f : FuncId) (g : List PV → Heap → Option (PV × Heap)) : Prop :=
  (∃ fn, P.funcs[f]? = some fn ∧ fn.name ≠ "runtime.NumGoroutine" ∧ fn.body.isSome = true) ∧
  ∀ args H r H', g args H = some (r, H') → ∀ C w vs, Sim C H w → RepL C w args vs → Calls P f vs w fun e w' => ∃ v C', e = .returned v ∧ Evo C w C' w' ∧ Sim C' H' w' ∧ Rep C' w' r v
structure EnvOk [Globs] (P : Program) (E : Env) : Prop where
  prim : ∀ f g, E.prim f = some g → PrimOk P f g
  func : ∀ f F, E.func f = some F → ∃ mu fz, compFunc P mu fz f = some F
  mixed : P.follows .mixedOrders = true

theorem callN_ok [Globs] {E : Env} (hE : EnvOk P E) : ∀ m, CallOk P (callN E m)
  | 0 => by intro f args H r H' h; simp [callN] at h
  | m + 1 => by
    intro f args H r H' h C w vs s hr
    rw [callN] at h
    split at h
    · rename_i g hg
      obtain ⟨h1, h2⟩ := hE.prim f g hg
      exact ⟨h1, h2 args H r H' h C w vs s hr⟩
    · split at h
      · rename_i F hF
        obtain ⟨mu, fz, hcf⟩ := hE.func f F hF
        unfold compFunc at hcf
        split at hcf
        case h_2 => simp at hcf
        rename_i fn hfn
        split at hcf
        case h_2 => simp at hcf
        rename_i body hbody
        split at hcf
        case h_2 => simp at hcf
        rename_i b rs hb hrs
        split at hcf
        case isFalse => simp at hcf
        rename_i hname
        injection hcf with hcf
        subst hcf
        refine ⟨⟨fn, hfn, by simpa using hname, by simp [hbody]⟩, ?_⟩
        unfold runF at h
        split at h
        case isFalse => simp at h
        rename_i hlen
        simp only at hlen h
        refine calls_of_wp hfn hbody ?_
        have hT : TRel C w fn.ntmps (initT args) { tmps := vs ++ Array.replicate (fn.ntmps - vs.size) undef, defers := [] } := by
          refine ⟨fun t => ?_, ?_, rfl⟩
          · simp only [initT, List.getD_eq_getElem?_getD, Array.getD_eq_getD_getElem?]
            by_cases ht : t < args.length
            · have hv : t < vs.size := by rw [hr.1]; exact ht
              rw [List.getElem?_eq_getElem ht, Array.getElem?_append_left hv, Array.getElem?_eq_getElem hv]
              exact hr.2 t _ _ (List.getElem?_eq_getElem ht) (Array.getElem?_eq_getElem hv)
            · rw [List.getElem?_eq_none (by omega), Array.getElem?_append_right (by rw [hr.1]; omega), Array.getElem?_replicate]
              split <;> exact Rep.undef _ _
          · simp [hr.1]; omega
        have fin : ∀ {T1 : Temps} {H1 : Heap}, (∃ p, resultA T1 H1 rs = some p ∧ leave fz H p H1 = (r, H')) → ∀ C' a' w', Evo C w C' w' → Sim C' H1 w' → TRel C' w' fn.ntmps T1 a' → a'.defers = [] ∧ ∃ v, (results fn a'.tmps).run P w' = .ok v w' ∧ ∃ v' C2, Ending.returned v = .returned v' ∧ Evo C w C2 w' ∧ Sim C2 H' w' ∧ Rep C2 w' r v' := by
          rintro T1 H1 ⟨q, hra, h⟩ C' a' w' ev s' hT'
          obtain ⟨v, r1, r2⟩ := result_ok (P := P) s' hT' hrs hra
          obtain ⟨C2, e1, e2, e3⟩ := leave_ok s s' ev r2
          rw [h] at e2 e3
          exact ⟨hT'.defers, v, r1, v, C2, rfl, e1, e2, e3⟩
        split at h
        · obtain ⟨N, hN⟩ := runS_some h
          refine code_okS (callN_ok hE m) hE.mixed body hb hN s hT fun e st' he C' a' w' ev s' hT' => ?_
          obtain ⟨he1, he2⟩ := he
          rcases he1 with rfl | rfl
          · exact fin he2 C' a' w' ev s' hT'
          · exact fin he2 C' a' w' ev s' hT'
        · unfold runD at h
          cases hx : evC (callN E m) b ⟨initT args, H⟩ with
          | none => simp [hx] at h
          | some x =>
            obtain ⟨e, st⟩ := x
            rw [hx] at h
            have fin' : (match resultA st.T st.H rs with | some r => some (leave fz H r st.H) | none => none) = some (r, H') → ∃ p, resultA st.T st.H rs = some p ∧ leave fz H p st.H = (r, H') := by
              intro h
              cases hra : resultA st.T st.H rs with
              | none => simp [hra] at h
              | some q =>
                rw [hra] at h
                injection h with h
                exact ⟨q, rfl, h⟩
            refine code_ok (callN_ok hE m) hE.mixed body hb hx s hT fun C' a' w' ev s' hT' => ?_
            cases e with
            | normal => exact fin (fin' h) C' a' w' ev s' hT'
            | ret => exact fin (fin' h) C' a' w' ev s' hT'
            | exit id => simp at h
      · simp at h

/-- What the plain machine computes, the model's machine computes. -/
theorem call_ok [Globs] {E : Env} (hE : EnvOk P E) : CallOk P (call E) := by
  intro f args H r H' h
  obtain ⟨m, hm⟩ := call_some h
  exact callN_ok hE m f args H r H' hm

end Go.Flat
