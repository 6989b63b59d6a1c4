/- A machine over plain values. Part O: a statement's operations, in whatever order. -/
import Derived.Test.YtkmlfjnmoieeeaaGreatDoorFlatN
set_option linter.unusedVariables false
set_option linter.unusedSimpArgs false
namespace Go.Flat

def compGuard (ops : Array Oper) : Option (Nat × Bool) → Option (Option (Nat × Bool))
  | none => some none
  | some (j, want) => match (ops[j]?).bind (·.dst) with
    | some t => some (some (t, want))
    | none => none
def dstOk (n : Nat) : Option Tmp → Bool
  | some d => decide (d < n)
  | none => true
/-- What isn't covered fails when it is reached. -/
def compOpF (P : Program) (mu : Nat) (o : Op) : AOp := (compOp P mu o).getD .fail
theorem compOpF_some {P : Program} {mu : Nat} {o : Op} (h : compOpF P mu o ≠ .fail) : compOp P mu o = some (compOpF P mu o) := by
  unfold compOpF at h ⊢
  cases hc : compOp P mu o with
  | none => rw [hc] at h; exact absurd rfl h
  | some x => rfl
theorem exec_not_fail {c : CallT} {o : AOp} {T : Temps} {H : Heap} {r} (h : execA c o T H = some r) : o ≠ .fail := by
  rintro rfl
  simp [execA, pureA] at h
def compOper (P : Program) (mu : Nat) (n : Nat) (ops : Array Oper) (o : Oper) : Option AOper := do
  let ao := compOpF P mu o.op
  let g ← compGuard ops o.guard
  if dstOk n o.dst then some { dst := o.dst, op := ao, guard := g } else none
def compOpers (P : Program) (mu : Nat) (n : Nat) (ops : Array Oper) : List Oper → Option (List AOper)
  | [] => some []
  | o :: os => match compOper P mu n ops o, compOpers P mu n ops os with
    | some x, some xs => some (x :: xs)
    | _, _ => none
/-- With any mark on its heap. -/
def CompBy (P : Program) (mu : Nat) (n : Nat) (ops : Array Oper) (o : Oper) (x : AOper) : Prop := ∃ u, compOper P mu n ops o = some { x with u := u }

section
variable {P : Program} {mu : Nat} {C : Cx} {w : World} {n : Nat} {a : Act} {c : CallT}

theorem wanted_ok {T : Temps} (hT : TRel C w n T a) {ops : Array Oper} {o : Oper} {g : Option (Nat × Bool)} (h : compGuard ops o.guard = some g) : Region.wanted o (yielded ops a.tmps) = wantedA g T := by
  unfold compGuard at h
  unfold Region.wanted wantedA
  cases hg : o.guard with
  | none => rw [hg] at h; simp at h; subst h; rfl
  | some x =>
    obtain ⟨j, want⟩ := x
    rw [hg] at h
    simp only at h
    cases hd : (ops[j]?).bind (·.dst) with
    | none => simp [hd] at h
    | some t =>
      simp [hd] at h
      subst h
      simp only [yielded, hd, Option.bind_some]
      have hr := hT.rep t
      rw [Array.getD_eq_getD_getElem?] at hr
      cases hv : a.tmps[t]? with
      | none =>
        rw [hv] at hr
        simp only [Option.getD_none, undef] at hr
        generalize hp : T t = p at hr
        cases hr
        simp
      | some v =>
        rw [hv] at hr
        simp only [Option.getD_some] at hr
        generalize hp : T t = p at hr
        cases hr <;> simp

theorem step_ok [Globs] (hcall : CallOk P c) {ops : Array Oper} {i : Nat} {o : Oper} (ho : ops[i]? = some o) {x : AOper} (hx : CompBy P mu n ops o x) {st st1 : St} (s : Sim C st.H w) (hT : TRel C w n st.T a) (h : evOp c x st = some st1) {Q} {K : Act → World → Prop}
    (hK : ∀ C' a' w', Evo C w C' w' → Sim C' st1.H w' → TRel C' w' n st1.T a' → K a' w') : wpOp P ops Q i K a w := by
  obtain ⟨u, hx⟩ := hx
  unfold compOper at hx
  generalize hao : compOpF P mu o.op = ao at hx
  simp only at hx
  obtain ⟨g, h2, hx⟩ := bind_some hx
  split at hx
  · rename_i hd
    injection hx with hx
    have e1 : x.dst = o.dst := by have := congrArg AOper.dst hx; simpa using this.symm
    have e2 : x.op = ao := by have := congrArg AOper.op hx; simpa using this.symm
    have e3 : x.guard = g := by have := congrArg AOper.guard hx; simpa using this.symm
    have hdn : ∀ t, o.dst = some t → t < n := by intro t ht; rw [ht] at hd; simpa [dstOk] using hd
    unfold wpOp
    rw [ho]
    simp only
    unfold evOp at h
    rw [wanted_ok hT h2, ← e3]
    split
    · rename_i hw
      rw [if_pos hw] at h
      split at h
      · rename_i p H' hex
        split at h
        rotate_left
        · simp at h
        · injection h with h
          subst h
          rw [e2] at hex
          have h1 := compOpF_some (P := P) (mu := mu) (o := o.op) (by rw [hao]; exact exec_not_fail hex)
          rw [hao] at h1
          refine .inl (op_ok s hT hcall o h1 hex K Q fun C' w' v ev s' hr => ?_)
          exact hK C' _ w' ev s' (by rw [e1]; exact (hT.mono ev).put hdn hr)
      · simp at h
    · rename_i hw
      rw [if_neg hw] at h
      injection h with h
      subst h
      exact hK C _ w (Evo.refl _ _) s (by rw [e1]; exact hT.put hdn (Rep.undef _ _))
  · simp at hx

theorem compOpers_get {ops : Array Oper} : ∀ {l : List Oper} {xs : List AOper}, compOpers P mu n ops l = some xs → xs.length = l.length ∧ ∀ (i : Nat) o x, l[i]? = some o → xs[i]? = some x → compOper P mu n ops o = some x
  | [], xs, h => by simp [compOpers] at h; subst h; simp
  | o :: l, xs, h => by
    simp only [compOpers] at h
    split at h
    · rename_i x ys h1 h2
      injection h with h; subst h
      obtain ⟨e1, e2⟩ := compOpers_get h2
      refine ⟨by simp [e1], fun i o' x' hi hx => ?_⟩
      cases i with
      | zero => simp at hi hx; subst hi; subst hx; exact h1
      | succ i => exact e2 i o' x' (by simpa using hi) (by simpa using hx)
    · simp at h

/-- In the text's order. -/
theorem region_text [Globs] (hcall : CallOk P c) {ops : Array Oper} {xs : List AOper} (hx : compOpers P mu n ops ops.toList = some xs) {Q} : ∀ (m k : Nat), k + m = ops.size → ∀ (st st' : St) (C : Cx) (w : World) (a : Act), Sim C st.H w → TRel C w n st.T a → evOps c (xs.drop k) st = some st' →
    (∀ C' a' w', Evo C w C' w' → Sim C' st'.H w' → TRel C' w' n st'.T a' → Q .normal a' w') → wpOps P ops Q (List.range' k m) a w
  | 0, k, hk, st, st', C, w, a, s, hT, h, hQ => by
    obtain ⟨e1, _⟩ := compOpers_get hx
    rw [List.drop_eq_nil_of_le (by rw [e1]; simp; omega)] at h
    simp [evOps] at h
    subst h
    exact hQ C a w (Evo.refl _ _) s hT
  | m + 1, k, hk, st, st', C, w, a, s, hT, h, hQ => by
    obtain ⟨e1, e2⟩ := compOpers_get hx
    have hlt : k < xs.length := by rw [e1]; simp; omega
    have hlo : k < ops.size := by omega
    rw [List.drop_eq_getElem_cons hlt] at h
    simp only [evOps] at h
    cases h1 : evOp c xs[k] st with
    | none => simp [h1] at h
    | some st1 =>
      rw [h1] at h
      simp only at h
      rw [List.range'_succ, wpOps_cons]
      have ho : ops[k]? = some ops[k] := Array.getElem?_eq_getElem hlo
      refine step_ok hcall ho (x := xs[k]) ⟨xs[k].u, e2 k ops[k] xs[k] (by simp) (List.getElem?_eq_getElem hlt)⟩ s hT h1 fun C' a' w' ev s' hT' => ?_
      exact region_text hcall hx m (k + 1) (by omega) st1 st' C' w' a' s' hT' h fun C2 a2 w2 ev2 s2 hT2 => hQ C2 a2 w2 (ev.trans ev2) s2 hT2
end

/-! ### Orders that are left open -/
def preOf (acc : List Nat) (o : Oper) : Nat := o.after.toList.foldl (fun s e => if Region.binds .any e then s ||| 2 ^ e.on ||| acc.getD e.on 0 else s) 0
def preA (ops : List Oper) : List Nat := ops.foldl (fun acc o => acc ++ [preOf acc o]) []
theorem preOf_bit {acc : List Nat} {j : Nat} : ∀ {l : List Edge} {s : Nat}, (l.foldl (fun s e => if Region.binds .any e then s ||| 2 ^ e.on ||| acc.getD e.on 0 else s) s).testBit j = true → s.testBit j = true ∨ ∃ e ∈ l, Region.binds .any e = true ∧ (j = e.on ∨ (acc.getD e.on 0).testBit j = true)
  | [], s, h => .inl h
  | e :: l, s, h => by
    rw [List.foldl_cons] at h
    rcases preOf_bit h with h | ⟨e', h1, h2⟩
    · split at h
      · rename_i hb
        rw [Nat.testBit_or, Nat.testBit_or, Nat.testBit_two_pow] at h
        simp only [Bool.or_eq_true, decide_eq_true_eq] at h
        rcases h with (h | h) | h
        · exact .inl h
        · exact .inr ⟨e, by simp, hb, .inl h.symm⟩
        · exact .inr ⟨e, by simp, hb, .inr h⟩
      · exact .inl h
    · exact .inr ⟨e', by simp [h1], h2⟩
theorem preA_snoc (l : List Oper) (o : Oper) : preA (l ++ [o]) = preA l ++ [preOf (preA l) o] := by simp [preA]
theorem preA_spec [Globs] : ∀ (l : List Oper), (preA l).length = l.length ∧ ∀ (k : Nat) o, l[k]? = some o → (preA l).getD k 0 = preOf ((preA l).take k) o := by
  intro l
  induction h : l.length generalizing l with
  | zero =>
    have : l = [] := List.eq_nil_of_length_eq_zero h
    subst this
    exact ⟨rfl, by simp⟩
  | succ n ih =>
    have hne : l ≠ [] := by intro e; subst e; simp at h
    obtain ⟨l', o, rfl⟩ : ∃ l' o, l = l' ++ [o] := ⟨l.dropLast, l.getLast hne, (List.dropLast_concat_getLast hne).symm⟩
    have hl : l'.length = n := by simpa using h
    obtain ⟨e1, e2⟩ := ih l' hl
    rw [preA_snoc]
    refine ⟨by simp [e1, hl], fun k o' hk => ?_⟩
    by_cases hkn : k < n
    · rw [List.getElem?_append_left (by omega)] at hk
      have := e2 k o' hk
      rw [List.getD_eq_getElem?_getD, List.getElem?_append_left (by omega), ← List.getD_eq_getElem?_getD, this, List.take_append_of_le_length (by omega)]
    · have hkk : k = n := by
        have := lt_of_some hk
        simp at this
        omega
      subst hkk
      rw [List.getElem?_append_right (by omega), hl] at hk
      simp at hk
      subst hk
      rw [List.getD_eq_getElem?_getD, List.getElem?_append_right (by omega), e1]
      rw [List.take_append_of_le_length (by omega), List.take_of_length_le (by omega)]
      simp

def edgesBack (ops : List Oper) : Bool := ops.zipIdx.all fun (o, i) => o.after.all fun e => !Region.binds .any e || decide (e.on < i)
/-- An order to reckon by: loads and what is pure go ahead. -/
def firstReady (pre : List Nat) (xs : List AOper) (mask : Nat) (p : AOper → Bool) : Option Nat :=
  (List.range xs.length).find? fun i => !mask.testBit i && ((pre.getD i 0 ||| mask) == mask) && p (xs.getD i default)
def orderA (pre : List Nat) (xs : List AOper) : Nat → Nat → List Nat
  | 0, _ => []
  | n + 1, mask => match (firstReady pre xs mask fun x => isPure x.op || isLoad x.op) <|> firstReady pre xs mask fun _ => true with
    | some i => i :: orderA pre xs n (mask ||| 2 ^ i)
    | none => []
def orderedOr (pre : List Nat) : List (Nat × AOper) → Bool
  | [] => true
  | (i, x) :: rest => rest.all (fun (j, y) => (pre.getD j 0).testBit i || indep x y) && orderedOr pre rest
def clash (pre : List Nat) (x : AOper) (i : Nat) (y : AOper) (j : Nat) : Bool := !isPure x.op && !isPure y.op && !(pre.getD j 0).testBit i
/-- Mark y, which stands between these. -/
def markOf (pre : List Nat) (before : List (Nat × AOper)) (j : Nat) (y : AOper) (behind : List (Nat × AOper)) : Mk :=
  if isPure y.op || isLoad y.op then .any
  else if before.any (fun (i, x) => clash pre x i y j && !isLoad x.op) || behind.any (fun (i, x) => clash pre y j x i) then .same
  else if !isAlloc y.op && before.any (fun (i, x) => clash pre x i y j) then .ext
  else .any
/-- A load that stands behind what isn't one. -/
def markLoad (pre : List Nat) (before : List (Nat × AOper)) (j : Nat) (y : AOper) : Mk :=
  if isLoad y.op && before.any (fun (i, x) => clash pre x i y j && !isLoad x.op) then .same else .any
def marks (pre : List Nat) : List (Nat × AOper) → List (Nat × AOper) → List (Nat × AOper)
  | _, [] => []
  | before, (j, y) :: rest => (j, { y with u := if isLoad y.op then markLoad pre before j y else markOf pre before j y rest }) :: marks pre (before ++ [(j, y)]) rest
def isNext : AOp → Bool
  | .next _ => true
  | _ => false
def noNext (xs : List AOper) : Bool := xs.all fun x => !isNext x.op
def nodupN : List Nat → Bool
  | [] => true
  | x :: xs => !xs.contains x && nodupN xs
theorem nodupN_ok : ∀ {l : List Nat}, nodupN l = true → l.Nodup
  | [], _ => List.nodup_nil
  | x :: xs, h => by
    simp only [nodupN, Bool.and_eq_true, Bool.not_eq_true'] at h
    rw [List.nodup_cons]
    exact ⟨by simpa using h.1, nodupN_ok h.2⟩
/-- An operation without its mark. -/
def AOper.bare (x : AOper) : AOper := { x with u := .any }
/-- Do these stand for the operations at their places? -/
def standFor (xs : List AOper) (zs : List (Nat × AOper)) : Prop := ∀ z ∈ zs, ∃ x u, xs[z.1]? = some x ∧ z.2 = { x with u := u }
def regionOrder (pre : List Nat) (xs : List AOper) : List (Nat × AOper) := marks pre [] ((orderA pre xs xs.length 0).filterMap fun i => (xs[i]?).map fun x => (i, x))
def compRegion (P : Program) (mu : Nat) (n : Nat) (ops : Array Oper) (draw : Bool) : Option (List AOper) := do
  let xs ← compOpers P mu n ops ops.toList
  if draw then
    let pre := preA ops.toList
    let zs := regionOrder pre xs
    if edgesBack ops.toList && orderedOr pre zs && noNext (zs.map (·.2)) && nodupN (zs.map (·.1)) && ((List.range ops.size).all fun i => (zs.map (·.1)).contains i) && decide (zs.length ≤ ops.size) then some (zs.map (·.2)) else none
  else some xs
theorem marks_stand {xs : List AOper} {pre : List Nat} : ∀ {l before : List (Nat × AOper)}, standFor xs l → standFor xs (marks pre before l)
  | [], _, _, z, hz => by simp [marks] at hz
  | (j, y) :: rest, before, h, z, hz => by
    simp only [marks, List.mem_cons] at hz
    rcases hz with rfl | hz
    · obtain ⟨x, u, h1, h2⟩ := h (j, y) (by simp)
      simp only at h1 h2
      exact ⟨x, _, h1, by rw [h2]⟩
    · exact marks_stand (fun z hz => h z (by simp [hz])) z hz
theorem regionOrder_stand [Globs] (pre : List Nat) (xs : List AOper) : standFor xs (regionOrder pre xs) := by
  refine marks_stand fun z hz => ?_
  obtain ⟨i, _, hi⟩ := List.mem_filterMap.1 hz
  cases hx : xs[i]? with
  | none => simp [hx] at hi
  | some x =>
    simp [hx] at hi
    subst hi
    exact ⟨x, x.u, hx, rfl⟩

section
variable {P : Program} {mu : Nat} {C : Cx} {w : World} {n : Nat} {a : Act} {c : CallT}

def unlisted (listed : Array Bool) (i : Nat) : Bool := !listed.getD i true
theorem ready_mem {ops : Array Oper} {listed : Array Bool} {i : Nat} : i ∈ Region.ready .any ops listed ↔ ∃ o, ops[i]? = some o ∧ listed.getD i true = false ∧ ∀ e ∈ o.after, Region.binds .any e = true → listed.getD e.on false = true := by
  unfold Region.ready
  simp only [List.mem_filter, List.mem_range, Bool.and_eq_true, Bool.not_eq_true']
  constructor
  · rintro ⟨h1, h2, h3⟩
    have ho : ops[i]? = some ops[i] := Array.getElem?_eq_getElem h1
    rw [ho] at h3
    simp only [Option.map_some, Option.getD_some, Array.all_eq_true, Bool.or_eq_true, Bool.not_eq_true'] at h3
    refine ⟨_, ho, h2, fun e he hb => ?_⟩
    obtain ⟨k, hk, rfl⟩ := Array.getElem_of_mem he
    rcases h3 k hk with h | h
    · rw [hb] at h; simp at h
    · exact h
  · rintro ⟨o, ho, h2, h3⟩
    have hlt : i < ops.size := by
      rcases Nat.lt_or_ge i ops.size with h | h
      · exact h
      · rw [Array.getElem?_eq_none h] at ho; simp at ho
    refine ⟨hlt, h2, ?_⟩
    rw [ho]
    simp only [Option.map_some, Option.getD_some, Array.all_eq_true, Bool.or_eq_true, Bool.not_eq_true']
    intro k hk
    cases hb : Region.binds .any o.after[k] with
    | false => exact .inl rfl
    | true => exact .inr (h3 _ (Array.getElem_mem hk) hb)

theorem orderedOr_split {pre : List Nat} : ∀ {l : List (Nat × AOper)} {y : Nat × AOper} {m : List (Nat × AOper)}, orderedOr pre (l ++ y :: m) = true → ∀ x ∈ l, (pre.getD y.1 0).testBit x.1 = true ∨ indep x.2 y.2 = true
  | [], _, _, _, x, hx => by simp at hx
  | z :: l, y, m, h, x, hx => by
    simp only [List.cons_append, orderedOr, Bool.and_eq_true, List.all_eq_true] at h
    rcases List.mem_cons.1 hx with rfl | hx
    · have := h.1 y (by simp)
      simpa only [Bool.or_eq_true] using this
    · exact orderedOr_split h.2 x hx
theorem region_any [Globs] (hcall : CallOk P c) {ops : Array Oper} {zs : List (Nat × AOper)} (hx : ∀ z ∈ zs, ∃ o, ops[z.1]? = some o ∧ CompBy P mu n ops o z.2) (hnd : (zs.map (·.1)).Nodup) (hall : ∀ i, i < ops.size → i ∈ zs.map (·.1))
    (hback : edgesBack ops.toList = true) (hord : orderedOr (preA ops.toList) zs = true) {Q} :
    ∀ (fuel : Nat) (listed : Array Bool), listed.size = ops.size → (zs.filter (fun z => unlisted listed z.1)).length ≤ fuel →
      (∀ i j, listed.getD i true = true → i < ops.size → ((preA ops.toList).getD i 0).testBit j = true → listed.getD j false = true) →
      ∀ (st st' : St) (C : Cx) (w : World) (a : Act), Sim C st.H w → TRel C w n st.T a → evOps c ((zs.filter (fun z => unlisted listed z.1)).map (·.2)) st = some st' →
        (∀ C' a' w', Evo C w C' w' → Sim C' st'.H w' → TRel C' w' n st'.T a' → Q .normal a' w') → wpAny P .any ops Q fuel listed a w := by
  have back : ∀ i o, ops[i]? = some o → ∀ e ∈ o.after, Region.binds .any e = true → e.on < i := by
    intro i o ho e he hb
    simp only [edgesBack, List.all_eq_true] at hback
    have := hback (o, i) (by rw [List.mem_zipIdx_iff_getElem?]; simpa using ho)
    simp only [Array.all_eq_true, Bool.or_eq_true, Bool.not_eq_true', decide_eq_true_eq] at this
    obtain ⟨k, hk, rfl⟩ := Array.getElem_of_mem he
    rcases this k hk with h | h
    · rw [hb] at h; simp at h
    · exact h
  -- the first that is not listed is ready
  have first : ∀ listed : Array Bool, listed.size = ops.size → Region.ready .any ops listed = [] → ∀ i, i < ops.size → unlisted listed i = false := by
    intro listed hsz hr i
    induction i using Nat.strongRecOn with
    | _ i ih =>
      intro hi
      cases hu : unlisted listed i with
      | false => rfl
      | true =>
        have ho : ops[i]? = some ops[i] := Array.getElem?_eq_getElem hi
        have : i ∈ Region.ready .any ops listed := by
          rw [ready_mem]
          refine ⟨_, ho, by simpa [unlisted] using hu, fun e he hb => ?_⟩
          have hlt := back i _ ho e he hb
          have := ih e.on hlt (by omega)
          simp only [unlisted] at this
          rw [Array.getD_eq_getD_getElem?, Array.getElem?_eq_getElem (by omega)] at this ⊢
          simpa using this
        rw [hr] at this
        simp at this
  have lt_of : ∀ z ∈ zs, z.1 < ops.size := by
    intro z hz
    obtain ⟨o, ho, _⟩ := hx z hz
    rcases Nat.lt_or_ge z.1 ops.size with h | h
    · exact h
    · rw [Array.getElem?_eq_none h] at ho; simp at ho
  have none_left : ∀ listed : Array Bool, listed.size = ops.size → Region.ready .any ops listed = [] → zs.filter (fun z => unlisted listed z.1) = [] := by
    intro listed hsz hr
    rw [List.filter_eq_nil_iff]
    intro z hz
    simp [first listed hsz hr z.1 (lt_of z hz)]
  intro fuel
  induction fuel with
  | zero =>
    intro listed hsz hf hclosed st st' C w a s hT h hQ
    have hnil : zs.filter (fun z => unlisted listed z.1) = [] := List.eq_nil_of_length_eq_zero (by omega)
    rw [hnil] at h
    simp [evOps] at h
    subst h
    refine ⟨?_, hQ C a w (Evo.refl _ _) s hT⟩
    cases hr : Region.ready .any ops listed with
    | nil => rfl
    | cons i r =>
      have hi : i ∈ Region.ready .any ops listed := by rw [hr]; simp
      obtain ⟨o, ho, h1, _⟩ := ready_mem.1 hi
      have hlt : i < ops.size := by
        rcases Nat.lt_or_ge i ops.size with h | h
        · exact h
        · rw [Array.getElem?_eq_none h] at ho; simp at ho
      obtain ⟨z, hz, hzi⟩ := List.mem_map.1 (hall i hlt)
      have : z ∈ zs.filter (fun z => unlisted listed z.1) := List.mem_filter.2 ⟨hz, by simp only [hzi, unlisted, h1]; rfl⟩
      rw [hnil] at this
      simp at this
  | succ fuel ih =>
    intro listed hsz hf hclosed st st' C w a s hT h hQ
    refine ⟨fun hr => ?_, fun i hi => ?_⟩
    · rw [none_left listed hsz hr] at h
      simp [evOps] at h
      subst h
      exact hQ C a w (Evo.refl _ _) s hT
    · obtain ⟨o, ho, h1, h2⟩ := ready_mem.1 hi
      have hlt : i < ops.size := by
        rcases Nat.lt_or_ge i ops.size with h | h
        · exact h
        · rw [Array.getElem?_eq_none h] at ho; simp at ho
      have hui : unlisted listed i = true := by simp only [unlisted, h1]; rfl
      have hpre : ∀ j, ((preA ops.toList).getD i 0).testBit j = true → listed.getD j false = true := by
        intro j hj
        have := (preA_spec ops.toList).2 i o (by simpa using ho)
        rw [this] at hj
        rcases preOf_bit hj with h | ⟨e, he, hb, h⟩
        · simp at h
        · have he' : e ∈ o.after := by simpa using he
          rcases h with rfl | h
          · exact h2 e he' hb
          · have hel := h2 e he' hb
            have heon := back i o ho e he' hb
            have h3 : (((preA ops.toList).take i).getD e.on 0).testBit j = true := h
            rw [List.getD_eq_getElem?_getD, List.getElem?_take, if_pos heon, ← List.getD_eq_getElem?_getD] at h3
            refine hclosed e.on j ?_ (by omega) h3
            rw [Array.getD_eq_getD_getElem?, Array.getElem?_eq_getElem (by omega)] at hel ⊢
            simpa using hel
      have hset : ∀ k, k ≠ i → unlisted (listed.setIfInBounds i true) k = unlisted listed k := by
        intro k hk
        simp only [unlisted, Array.getD_eq_getD_getElem?, Array.getElem?_setIfInBounds]
        rw [if_neg (by omega)]
      have hseti : unlisted (listed.setIfInBounds i true) i = false := by
        simp [unlisted, Array.getD_eq_getD_getElem?, Array.getElem?_setIfInBounds, hsz, hlt]
      obtain ⟨z, hz, hzi⟩ := List.mem_map.1 (hall i hlt)
      obtain ⟨l, m, hlm⟩ := List.append_of_mem hz
      have hnd' := hnd
      rw [hlm, List.map_append, List.map_cons, List.nodup_append] at hnd'
      have hnl : ∀ y ∈ l, y.1 ≠ i := fun y hy e => hnd'.2.2 y.1 (List.mem_map_of_mem hy) z.1 (by simp) (e.trans hzi.symm)
      have hnm : ∀ y ∈ m, y.1 ≠ i := fun y hy e => by
        have := (List.nodup_cons.1 hnd'.2.1).1
        rw [hzi, ← e] at this
        exact this (List.mem_map_of_mem hy)
      have hrem : zs.filter (fun z => unlisted listed z.1) = l.filter (fun z => unlisted listed z.1) ++ z :: m.filter (fun z => unlisted listed z.1) := by
        rw [hlm, List.filter_append, List.filter_cons, if_pos (by rw [hzi]; exact hui)]
      have hrem' : zs.filter (fun z => unlisted (listed.setIfInBounds i true) z.1) = l.filter (fun z => unlisted listed z.1) ++ m.filter (fun z => unlisted listed z.1) := by
        rw [hlm, List.filter_append, List.filter_cons, if_neg (by rw [hzi, hseti]; simp)]
        congr 1
        · exact List.filter_congr fun y hy => hset y.1 (hnl y hy)
        · exact List.filter_congr fun y hy => hset y.1 (hnm y hy)
      rw [hrem, List.map_append, List.map_cons] at h
      have hordz := orderedOr_split (hlm ▸ hord)
      have h' := to_front (fun x hx' => by
        obtain ⟨y, hy, rfl⟩ := List.mem_map.1 hx'
        obtain ⟨hy1, hy2⟩ := List.mem_filter.1 hy
        rcases hordz y hy1 with hb | hb
        · rw [hzi] at hb
          have := hpre y.1 hb
          have hlt2 := lt_of y (by rw [hlm]; simp [hy1])
          simp only [unlisted] at hy2
          rw [Array.getD_eq_getD_getElem?, Array.getElem?_eq_getElem (by omega)] at this hy2
          simp at this hy2
          rw [this] at hy2
          simp at hy2
        · exact hb) h
      rw [← List.map_append, ← hrem'] at h'
      simp only [evOps] at h'
      cases hop : evOp c z.2 st with
      | none => rw [hop] at h'; cases h'
      | some st1 =>
        rw [hop] at h'
        simp only at h'
        obtain ⟨o', ho', hco⟩ := hx z hz
        rw [hzi, ho] at ho'
        injection ho' with ho'
        subst ho'
        refine step_ok hcall ho hco s hT hop fun C' a' w' ev s' hT' => ?_
        refine ih (listed.setIfInBounds i true) (by simp [hsz]) ?_ ?_ st1 st' C' w' a' s' hT' h' fun C2 a2 w2 ev2 s2 hT2 => hQ C2 a2 w2 (ev.trans ev2) s2 hT2
        · rw [hrem']
          rw [hrem] at hf
          simp only [List.length_append, List.length_cons] at hf ⊢
          omega
        · intro k j hk hkn hj
          by_cases hki : k = i
          · subst hki
            have := hpre j hj
            rw [Array.getD_eq_getD_getElem?] at this ⊢
            rw [Array.getElem?_setIfInBounds]
            split
            · rw [if_pos (by omega)]; rfl
            · exact this
          · have hk' : listed.getD k true = true := by
              have := hset k hki
              simp only [unlisted] at this
              have h3 : listed.getD k true = (listed.setIfInBounds i true).getD k true := by
                have := congrArg (!·) this
                simpa using this.symm
              rw [h3]; exact hk
            have := hclosed k j hk' hkn hj
            rw [Array.getD_eq_getD_getElem?] at this ⊢
            rw [Array.getElem?_setIfInBounds]
            split
            · rw [if_pos (by omega)]; rfl
            · exact this

theorem region_ok [Globs] (hcall : CallOk P c) (hm : P.follows .mixedOrders = true) {ops : Array Oper} {draw : Bool} {xs : List AOper} (hx : compRegion P mu n ops draw = some xs) {id : Nat} {st st' : St} (s : Sim C st.H w) (hT : TRel C w n st.T a) (h : evOps c xs st = some st') {Q}
    (hQ : ∀ C' a' w', Evo C w C' w' → Sim C' st'.H w' → TRel C' w' n st'.T a' → Q .normal a' w') : (Code.region id ops draw).wp P Q a w := by
  unfold compRegion at hx
  obtain ⟨ys, h1, hx⟩ := bind_some hx
  obtain ⟨e1, e2⟩ := compOpers_get h1
  cases draw with
  | false =>
    simp at hx
    subst hx
    refine wp_region ?_
    rw [List.range_eq_range']
    exact region_text hcall h1 ops.size 0 (by omega) st st' C w a s hT (by simpa using h) hQ
  | true =>
    simp only [if_true] at hx
    split at hx
    · rename_i hcond
      simp only [Bool.and_eq_true] at hcond
      injection hx with hx
      subst hx
      have hst := regionOrder_stand (preA ops.toList) ys
      generalize regionOrder (preA ops.toList) ys = zs at hcond h hst
      obtain ⟨⟨⟨⟨⟨hc1, hc2⟩, _⟩, hc4⟩, hc5⟩, hc6⟩ := hcond
      have hnd := nodupN_ok hc4
      have hall : ∀ i, i < ops.size → i ∈ zs.map (·.1) := by
        intro i hi
        simp only [List.all_eq_true, List.mem_range] at hc5
        simpa using hc5 i hi
      have hfil : zs.filter (fun z => unlisted (Array.replicate ops.size false) z.1) = zs := by
        rw [List.filter_eq_self]
        intro z hz
        obtain ⟨x, u, h3, _⟩ := hst z hz
        have : z.1 < ops.size := by
          have := lt_of_some h3
          rw [e1] at this
          simpa using this
        simp [unlisted, Array.getD_eq_getD_getElem?, this]
      have hlenz : zs.length ≤ ops.size := by simpa using hc6
      refine wp_region_any hm ?_
      refine region_any (mu := mu) (n := n) hcall (zs := zs) (fun z hz => ?_) hnd hall hc1 hc2 ops.size _ (by simp) (by rw [hfil]; exact hlenz) ?_ st st' C w.drew a ?_ ?_ ?_ ?_
      · obtain ⟨x, u, h3, h4⟩ := hst z hz
        have hlt := lt_of_some h3
        rw [e1] at hlt
        have ho : ops[z.1]? = some ops[z.1] := Array.getElem?_eq_getElem (by simpa using hlt)
        refine ⟨_, ho, x.u, ?_⟩
        have := e2 z.1 ops[z.1] x (by simp) h3
        rw [h4]
        exact this
      · intro i j hi hin
        simp [Array.getD_eq_getD_getElem?, hin] at hi
      · exact ⟨fun id o ho => (s.obj id o ho).keep (Evo.refl C w).drew ⟨fun b o h => ⟨h, rfl, rfl⟩, fun b x _ h _ => h, rfl⟩, s.lt, s.new_at, s.new_tk, s.new_own, s.inv.mono (Evo.refl C w).drew⟩
      · exact hT.mono (Evo.refl C w).drew
      · rw [hfil]
        exact h
      · intro C' a' w' ev s' hT'
        exact hQ C' a' w' ((Evo.refl C w).drew.trans ev) s' hT'
    · simp at hx
/-! ### The same where a range over a map steps on -/
theorem compBin_not [Globs] {op : BinOp} {xt : TypeId} {x y : Operand} {ao : AOp} (hc : compBin P op xt x y = some ao) : isNext ao = false := by
  unfold compBin at hc
  split at hc <;> (first | (obtain ⟨x', h1, hc⟩ := bind_some hc; obtain ⟨y', h2, hc⟩ := bind_some hc; injection hc with hc; subst hc; rfl) | skip)
  · split at hc
    · obtain ⟨x', h1, hc⟩ := bind_some hc; obtain ⟨y', h2, hc⟩ := bind_some hc; injection hc with hc; subst hc; rfl
    · split at hc
      · obtain ⟨x', h1, hc⟩ := bind_some hc; obtain ⟨y', h2, hc⟩ := bind_some hc; injection hc with hc; subst hc; rfl
      · simp at hc
  · obtain ⟨ks, hk, hc⟩ := bind_some hc
    split at hc
    · obtain ⟨x', h1, hc⟩ := bind_some hc; obtain ⟨y', h2, hc⟩ := bind_some hc; injection hc with hc; subst hc; rfl
    · simp at hc
  · obtain ⟨kd, hk, hc⟩ := bind_some hc
    split at hc
    · split at hc
      · cases hx : compOpd x <;> simp [hx] at hc
        subst hc; rfl
      · split at hc
        · cases hy : compOpd y <;> simp [hy] at hc
          subst hc; rfl
        · split at hc
          · obtain ⟨x', h1, hc⟩ := bind_some hc; obtain ⟨y', h2, hc⟩ := bind_some hc; injection hc with hc; subst hc; rfl
          · simp at hc
    · simp at hc
theorem compOp_next [Globs] {o : Op} {it : Opd} (hc : compOp P mu o = some (.next it)) : ∃ y, o = .next y false ∧ compOpd y = some it := by
  unfold compOp at hc
  split at hc
  case h_4 => have := compBin_not hc; simp [isNext] at this
  all_goals first
    | (obtain ⟨it', g1, g2⟩ := bind_some hc; injection g2 with g2; injection g2 with g2; subst g2; exact ⟨_, rfl, g1⟩)
    | (exfalso; revert hc; (repeat' split) <;> simp [Option.bind_eq_some_iff] <;> done)
    | (exfalso; revert hc; simp [Option.bind_eq_some_iff]; done)
    | (exfalso; revert hc; simp [Option.bind_eq_some_iff]; (repeat' split) <;> simp [Option.bind_eq_some_iff] <;> (intros; split <;> simp [Option.bind_eq_some_iff]))

theorem step_okS [Globs] (hcall : CallOk P c) {ops : Array Oper} {i : Nat} {o : Oper} (ho : ops[i]? = some o) {x : AOper} (hx : CompBy P mu n ops o x) {st : St} (s : Sim C st.H w) (hT : TRel C w n st.T a) {KA : St → Prop} (h : wpOpS c x st KA) {Q} {K : Act → World → Prop}
    (hK : ∀ st1, KA st1 → ∀ C' a' w', Evo C w C' w' → Sim C' st1.H w' → TRel C' w' n st1.T a' → K a' w') : wpOp P ops Q i K a w := by
  by_cases hn : ∃ it, x.op = .next it
  · obtain ⟨it, hn⟩ := hn
    rw [wpOpS_next hn] at h
    obtain ⟨hw, l, hl, hall⟩ := h
    obtain ⟨u, hx⟩ := hx
    unfold compOper at hx
    generalize hao : compOpF P mu o.op = ao at hx
    simp only at hx
    obtain ⟨g, h2, hx⟩ := bind_some hx
    split at hx
    · rename_i hd
      injection hx with hx
      have e1 : x.dst = o.dst := by have := congrArg AOper.dst hx; simpa using this.symm
      have e2 : x.op = ao := by have := congrArg AOper.op hx; simpa using this.symm
      have e3 : x.guard = g := by have := congrArg AOper.guard hx; simpa using this.symm
      have hdn : ∀ t, o.dst = some t → t < n := by intro t ht; rw [ht] at hd; simpa [dstOk] using hd
      rw [hn] at e2
      subst e2
      have h1 := compOpF_some (P := P) (mu := mu) (o := o.op) (by rw [hao]; simp)
      rw [hao] at h1
      obtain ⟨y, hy1, hy2⟩ := compOp_next h1
      unfold wpOp
      rw [ho]
      simp only
      rw [wanted_ok hT h2, ← e3, if_pos hw]
      refine .inl ?_
      obtain ⟨r, hr1, v, w', C', r1, r2, r3, r4⟩ := next_ok (P := P) s (opd_rep hT hy2) hl o.type
      unfold Oper.wp
      have he : execOp a.eval o = (Instr.next (a.eval y) false o.type >>= fun v => pure (.value v)) := by
        obtain ⟨dst, op, type, pos, after, guard⟩ := o
        simp only at hy1
        subst hy1
        rfl
      rw [he]
      simp only [Sem.run_bind, r1, Result.andThen_ok, Sem.run_pure, Oper.upon_value]
      exact hK _ (hall r hr1) C' _ w' r2 r3 (by rw [e1]; exact (hT.mono r2).put hdn r4)
    · simp at hx
  · rw [wpOpS_det (fun it e => hn ⟨it, e⟩)] at h
    obtain ⟨st', h1, h2⟩ := h
    exact step_ok hcall ho hx s hT h1 (hK st' h2)

theorem region_textS [Globs] (hcall : CallOk P c) {ops : Array Oper} {xs : List AOper} (hx : compOpers P mu n ops ops.toList = some xs) {Q} : ∀ (m k : Nat), k + m = ops.size → ∀ (st : St) (C : Cx) (w : World) (a : Act) (KA : St → Prop), Sim C st.H w → TRel C w n st.T a → wpOpsS c (xs.drop k) st KA →
    (∀ st', KA st' → ∀ C' a' w', Evo C w C' w' → Sim C' st'.H w' → TRel C' w' n st'.T a' → Q .normal a' w') → wpOps P ops Q (List.range' k m) a w
  | 0, k, hk, st, C, w, a, KA, s, hT, h, hQ => by
    obtain ⟨e1, _⟩ := compOpers_get hx
    rw [List.drop_eq_nil_of_le (by rw [e1]; simp; omega)] at h
    exact hQ st h C a w (Evo.refl _ _) s hT
  | m + 1, k, hk, st, C, w, a, KA, s, hT, h, hQ => by
    obtain ⟨e1, e2⟩ := compOpers_get hx
    have hlt : k < xs.length := by rw [e1]; simp; omega
    have hlo : k < ops.size := by omega
    rw [List.drop_eq_getElem_cons hlt] at h
    simp only [wpOpsS] at h
    rw [List.range'_succ, wpOps_cons]
    have ho : ops[k]? = some ops[k] := Array.getElem?_eq_getElem hlo
    refine step_okS hcall ho (x := xs[k]) ⟨xs[k].u, e2 k ops[k] xs[k] (by simp) (List.getElem?_eq_getElem hlt)⟩ s hT h fun st1 h1 C' a' w' ev s' hT' => ?_
    exact region_textS hcall hx m (k + 1) (by omega) st1 C' w' a' KA s' hT' h1 fun st' h2 C2 a2 w2 ev2 s2 hT2 => hQ st' h2 C2 a2 w2 (ev.trans ev2) s2 hT2

theorem noNext_det : ∀ {xs : List AOper}, noNext xs = true → ∀ {st : St} {KA : St → Prop}, wpOpsS c xs st KA → ∃ st', evOps c xs st = some st' ∧ KA st'
  | [], _, st, KA, h => ⟨st, rfl, h⟩
  | x :: xs, hn, st, KA, h => by
    simp only [noNext, List.all_cons, Bool.and_eq_true] at hn
    simp only [wpOpsS] at h
    rw [wpOpS_det (fun it e => by rw [e] at hn; simp [isNext] at hn)] at h
    obtain ⟨st1, h1, h2⟩ := h
    obtain ⟨st', h3, h4⟩ := noNext_det (xs := xs) hn.2 h2
    exact ⟨st', by simp only [evOps, h1]; exact h3, h4⟩

theorem region_okS [Globs] (hcall : CallOk P c) (hm : P.follows .mixedOrders = true) {ops : Array Oper} {draw : Bool} {xs : List AOper} (hx : compRegion P mu n ops draw = some xs) {id : Nat} {st : St} (s : Sim C st.H w) (hT : TRel C w n st.T a) {KA : St → Prop} (h : wpOpsS c xs st KA) {Q}
    (hQ : ∀ st', KA st' → ∀ C' a' w', Evo C w C' w' → Sim C' st'.H w' → TRel C' w' n st'.T a' → Q .normal a' w') : (Code.region id ops draw).wp P Q a w := by
  cases draw with
  | false =>
    unfold compRegion at hx
    obtain ⟨ys, h1, hx⟩ := bind_some hx
    simp at hx
    subst hx
    refine wp_region ?_
    rw [List.range_eq_range']
    exact region_textS hcall h1 ops.size 0 (by omega) st C w a KA s hT (by simpa using h) hQ
  | true =>
    have hno : noNext xs = true := by
      unfold compRegion at hx
      obtain ⟨ys, h1, hx⟩ := bind_some hx
      simp only [if_true] at hx
      split at hx
      · rename_i hcond
        simp only [Bool.and_eq_true] at hcond
        injection hx with hx
        subst hx
        exact hcond.1.1.1.2
      · simp at hx
    obtain ⟨st', h1, h2⟩ := noNext_det hno h
    exact region_ok hcall hm hx s hT h1 (hQ st' h2)
end

end Go.Flat
