/- A machine over plain values. Part H: slices, literals; all pure operations. -/
import Derived.Test.YtkmlfjnmoieeeaaGreatDoorFlatG
set_option linter.unusedVariables false
set_option linter.unusedSimpArgs false
namespace Go.Flat
variable {P : Program} {mu : Bool} {C : Cx} {w : World} {n : Nat} {T : Temps} {a : Act}

theorem bound_ok (hT : TRel C w n T a) {x : Option Operand} {x' : Option Opd} (hx : compOpt x = some x') {d l : Nat} (h : bound T d x' = some l) :
    (x = none ∧ x' = none ∧ l = d) ∨ ∃ y k, x = some y ∧ a.eval y = .int k (l : Int) := by
  cases x with
  | none => simp [compOpt] at hx; subst hx; simp [bound] at h; exact .inl ⟨rfl, rfl, h.symm⟩
  | some y =>
    cases hy : compOpd y with
    | none => simp [compOpt, hy] at hx
    | some y' =>
      simp [compOpt, hy] at hx
      subst hx
      have ry := opd_rep hT hy
      simp only [bound] at h
      split at h
      · rename_i k i hi
        rw [hi] at ry
        split at h
        · rename_i h0
          injection h with h
          exact .inr ⟨y, k, rfl, by rw [rep_int ry, ← h, Int.toNat_of_nonneg h0]⟩
        · simp at h
      · simp at h

theorem bounds_run {isS : Bool} {len cap l h : Nat} {lo hi : Option Operand} (hl : (lo = none ∧ l = 0) ∨ ∃ y k, lo = some y ∧ a.eval y = .int k (l : Int)) (hh : (hi = none ∧ h = len) ∨ ∃ y k, hi = some y ∧ a.eval y = .int k (h : Int))
    (h1 : l ≤ h) (h2 : h ≤ cap) : (Instr.sliceBounds isS len cap (lo.map a.eval) (hi.map a.eval) none).run P w = .ok (l, h, cap) w := by
  have sb : ∀ (k : IntKind) (x y : Nat) (c : BoundsCode), x ≤ y → (Instr.sliceBound (.int k (x : Int)) y c).run P w = .ok x w := by
    intro k x y c hxy
    have : (x : Int) ≤ y := by omega
    simp [Instr.sliceBound, asIntOf, this]
  have hl' : (lo.map a.eval = none ∧ l = 0) ∨ ∃ k, lo.map a.eval = some (.int k (l : Int)) := by
    rcases hl with ⟨rfl, e⟩ | ⟨y, k, rfl, e⟩
    · exact .inl ⟨rfl, e⟩
    · exact .inr ⟨k, by simp [e]⟩
  have hh' : (hi.map a.eval = none ∧ h = len) ∨ ∃ k, hi.map a.eval = some (.int k (h : Int)) := by
    rcases hh with ⟨rfl, e⟩ | ⟨y, k, rfl, e⟩
    · exact .inl ⟨rfl, e⟩
    · exact .inr ⟨k, by simp [e]⟩
  generalize lo.map a.eval = x at *
  generalize hi.map a.eval = y at *
  rcases hl' with ⟨rfl, rfl⟩ | ⟨k, rfl⟩ <;> rcases hh' with ⟨rfl, rfl⟩ | ⟨j, rfl⟩ <;> simp [Instr.sliceBounds, sb, h1, h2]

theorem slStr_ok (hT : TRel C w n T a) {t : TypeId} (hu : P.underlying t = some .string) {s : List UInt8} {v : Value} (hv : Rep C w (.str s) v) {lo hi : Option Operand} {lo' hi' : Option Opd} (hlo : compOpt lo = some lo') (hhi : compOpt hi = some hi')
    {l h : Nat} (hl : bound T 0 lo' = some l) (hh : bound T s.length hi' = some h) (h1 : l ≤ h) (h2 : h ≤ s.length) : Gives P C w (Instr.sliceAt t v (lo.map a.eval) (hi.map a.eval) none) (.str ((s.take h).drop l)) := by
  obtain ⟨b, rfl, rfl⟩ := rep_str hv
  have e : b.data.toList.length = b.size := by simp
  rw [e] at hh h2
  have bl := bound_ok hT hlo hl
  have bh := bound_ok hT hhi hh
  have hr := bounds_run (P := P) (w := w) (isS := false) (len := b.size) (cap := b.size) (bl.imp (fun ⟨x, _, z⟩ => ⟨x, z⟩) id) (bh.imp (fun ⟨x, _, z⟩ => ⟨x, z⟩) id) h1 h2
  refine ⟨.string (b.extract l h), ?_, ?_⟩
  · simp [Instr.sliceAt, Instr.slice, run_underlying hu, hr]
  · have := Rep.str (C := C) (w := w) (b.extract l h)
    have e2 : (b.extract l h).data.toList = (b.data.toList.take h).drop l := by
      rw [ByteArray.data_extract, Array.toList_extract, List.extract_eq_drop_take']
    rw [e2] at this
    exact this

theorem slSl_ok (hT : TRel C w n T a) {t elem : TypeId} {size : Nat} (hu : P.underlying t = some (.slice elem)) (hs : sizeT P elem = some size) {p : PV} {v : Value} (hv : Rep C w p v) {lo hi : Option Operand} {lo' hi' : Option Opd} (hlo : compOpt lo = some lo') (hhi : compOpt hi = some hi')
    {l : Nat} {h : Option Nat} (hl : bound T 0 lo' = some l) (hh : boundO T hi' = some h) {q : PV} (hq : slA size p l h = some q) :
    Gives P C w (Instr.sliceAt t v (lo.map a.eval) (hi.map a.eval) none) q := by
  have bl := bound_ok hT hlo hl
  have bh : ∀ len : Nat, (hi = none ∧ h.getD len = len) ∨ ∃ y k, hi = some y ∧ a.eval y = .int k ((h.getD len : Nat) : Int) := by
    intro len
    cases hi with
    | none => simp [compOpt] at hhi; subst hhi; simp [boundO] at hh; subst hh; exact .inl ⟨rfl, rfl⟩
    | some y =>
      cases hy : compOpd y with
      | none => simp [compOpt, hy] at hhi
      | some y' =>
        simp [compOpt, hy] at hhi
        subst hhi
        simp only [boundO] at hh
        cases hb : bound T 0 (some y') with
        | none => simp [hb] at hh
        | some m =>
          simp [hb] at hh
          subst hh
          rcases bound_ok hT (x := some y) (by simp [compOpt, hy]) hb with ⟨e, _⟩ | ⟨z, k, e1, e2⟩
          · simp at e
          · exact .inr ⟨z, k, e1, e2⟩
  cases p with
  | sl τ xs =>
    simp only [slA] at hq
    split at hq
    · rename_i hc
      obtain ⟨h1, h2, h3⟩ := hc
      injection hq with hq; subst hq
      cases hv with
      | sl vs ha ht hcell hr =>
        rename_i a' c b o k
        have hcap : xs.length ≤ c := by
          cases τ with
          | shut => exact ht
          | exact => simp only [TailOk] at ht; omega
          | tok t => exact ht.1
        have hr' := bounds_run (P := P) (w := w) (isS := true) (len := xs.length) (cap := c) (bl.imp (fun ⟨x, _, z⟩ => ⟨x, z⟩) id) (bh xs.length) h1 (Nat.le_trans h2 hcap)
        generalize h.getD xs.length = m at *
        have hrun : (Instr.sliceAt t (.slice a' xs.length c) (lo.map a.eval) (hi.map a.eval) none).run P w = .ok (.slice (if c = l then a' else a'.map (·.add (l * size))) (m - l) (c - l)) w := by
          simp [Instr.sliceAt, Instr.slice, run_underlying hu, hr', run_sizeT hs w]
        refine ⟨_, hrun, ?_⟩
        have hlen : ((xs.take m).drop l).length = m - l := by simp; omega
        rw [← hlen]
        by_cases hfull : l = 0 ∧ m = xs.length
        · obtain ⟨rfl, rfl⟩ := hfull
          rw [if_pos ⟨rfl, rfl⟩]
          have e : ((xs.take xs.length).drop 0) = xs := by simp
          rw [e]
          have e2 : (if c = 0 then a' else a'.map (·.add (0 * size))) = a' := by
            split
            · rfl
            · cases a' <;> simp [Addr.add]
          rw [e2]
          exact .sl vs ha ht hcell hr
        · rw [if_neg hfull]
          refine .sl (b := b) (o := o + l * k) (k := k) (fun i => vs (l + i)) ?_ ?_ ?_ ?_
          · intro hne
            have hl1 : 0 < m - l := by
              rw [← hlen]
              cases hx : (xs.take m).drop l with
              | nil => exact absurd hx hne
              | cons => simp
            have hxs : xs ≠ [] := by intro e; subst e; simp at h2; omega
            rw [ha hxs]
            have hk : k = size := by
              have hx0 : xs[0]? = some (xs[0]'(by omega)) := List.getElem?_eq_getElem _
              obtain ⟨g1, _, _⟩ := hcell 0 _ hx0
              have g2 := (hr 0 _ hx0).cells.1
              simp only [uniform, List.all_eq_true, Bool.and_eq_true, beq_iff_eq] at h3
              have g3 := (h3 _ (List.getElem_mem (by omega : 0 < xs.length))).1
              omega
            subst hk
            split
            · rename_i e; omega
            · simp [add_none]
          · show _ ≤ _
            rw [hlen]; omega
          · intro i p hi
            rw [List.getElem?_drop, List.getElem?_take] at hi
            split at hi
            · obtain ⟨g1, g2, g3⟩ := hcell _ _ hi
              refine ⟨g1, g2, fun j hj => ?_⟩
              have := g3 j hj
              rw [show o + l * k + i * k + j = o + (l + i) * k + j by rw [Nat.add_mul]; omega]
              exact this
            · simp at hi
          · intro i p hi
            rw [List.getElem?_drop, List.getElem?_take] at hi
            split at hi
            · exact hr _ _ hi
            · simp at hi
    · simp at hq
  | view id k i m =>
    simp only [slA] at hq
    split at hq
    · rename_i hc
      obtain ⟨rfl, h1, h2⟩ := hc
      injection hq with hq; subst hq
      cases hv with
      | view _ _ _ hat hcap hle ha =>
        rename_i b o c a'
        have hr' := bounds_run (P := P) (w := w) (isS := true) (len := m) (cap := c - i) (bl.imp (fun ⟨x, _, z⟩ => ⟨x, z⟩) (fun z => z)) (bh m) h1 (by omega)
        generalize h.getD m = m' at *
        have hrun : (Instr.sliceAt t (.slice a' m (c - i)) (lo.map a.eval) (hi.map a.eval) none).run P w = .ok (.slice (if c - i = l then a' else a'.map (·.add (l * k))) (m' - l) (c - i - l)) w := by
          simp [Instr.sliceAt, Instr.slice, run_underlying hu, hr', run_sizeT hs w]
        refine ⟨_, hrun, ?_⟩
        rw [Nat.sub_sub]
        refine .view _ _ _ hat hcap (by omega) (fun hlt => ?_)
        rw [if_neg (by omega), ha (by omega)]
        simp [add_none, Nat.add_mul, Nat.add_assoc]
    · simp at hq
  | _ => simp [slA] at hq

end Go.Flat
