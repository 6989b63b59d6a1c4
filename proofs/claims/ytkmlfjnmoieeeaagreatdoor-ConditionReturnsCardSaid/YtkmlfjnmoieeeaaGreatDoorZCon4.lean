/- Part of a proof about a given Go program (texts ZCon4): lemmas, each for every value of its variables, under the hypotheses that it names. -/
import Derived.Test.YtkmlfjnmoieeeaaGreatDoorZCon3
set_option linter.unusedVariables false
set_option linter.unusedSimpArgs false
namespace Go.Flat
variable {E : Env} {H : Heap}
def nodeOr : Option Node → PV
  | some x => x.enc
  | none => .niliface
theorem resT_eq (x : Option Node) : resT x = .tup [nodeOr x, .bool x.isSome] := by cases x <;> rfl
@[simp] theorem extP_resT0 {x : Option Node} : extP 0 (resT x) = some (nodeOr x) := by rw [resT_eq]; rfl
@[simp] theorem extP_resT1 {x : Option Node} : extP 1 (resT x) = some (.bool x.isSome) := by rw [resT_eq]; rfl
def onS (l : List Test) (steps : List Str) : Option Node :=
  if l = [] then some (.neg (.leaf ⟨3, [], 0, 0⟩ 0)) else tree (fun s => decide (s ∈ steps)) l
theorem on_c (hE : EnvD E) {t u : Tail} (l : List Test) (hl : l.length ≤ 9223372036854775807) (steps : List Str) (hs : steps.length ≤ 9223372036854775807) :
    call E 32 [.sl t (tests l), .sl u (strs steps)] H = some (resT (onS l steps), H) := by
  refine call_wp hE.f32 (hE.p _ (by decide)) ⟨rfl, by simp [F32], ?_⟩
  by_cases h : l = []
  · subst h
    simp [F32, tests, onS]
    exact leave_plain (resT_plain (some (.neg (.leaf ⟨3, [], 0, 0⟩ 0)))) _
  · have hn : ¬ ((l.length : Int) = 0) := by
      have : l.length ≠ 0 := fun h0 => h (List.eq_nil_of_length_eq_zero h0)
      omega
    have ht := tree_c (H := H ++ [.cells [.sl u (strs steps)]]) hE (kn := fun s => decide (s ∈ steps)) (kf := .func (.func 58) [] [.ptr H.length 0]) rfl (fun s L => by
      simp only [callVal_func, List.nil_append, List.cons_append]
      exact onc_c hE (t := u) steps s hs (i := H.length) (by simp)) (t := t) l hl
    simp [F32, hn, ht, onS, h, resT_eq]
    have := leave_plain (H := H) (fz := true) (resT_plain (tree (fun s => decide (s ∈ steps)) l)) [.cells [.sl u (strs steps)]]
    rwa [resT_eq] at this
theorem valid_c (hE : EnvD E) {t u : Tail} (l : List Test) (hl : l.length ≤ 9223372036854775807) (steps : List Str) (hs : steps.length ≤ 9223372036854775807) :
    call E 14 [.sl t (tests l), .sl u (strs steps)] H = some (.bool (onS l steps).isSome, H) := by
  refine call_wp hE.f14 (hE.p _ (by decide)) ⟨rfl, by simp [F14], ?_⟩
  simp [F14, on_c hE l hl steps hs]
def leafVal (steps : List Str) (es : List End) (t : Test) : Bool :=
  if t.kind = 3 then es.any (fun e => e.ran && e.failed) else
    match steps.findIdx? (· == t.step) with
    | some k => match es[k]? with
      | some e => holds t e
      | none => false
    | none => false
theorem evalc_c (hE : EnvD E) {t u : Tail} (te : Test) (i : Int) (steps : List Str) (hs : steps.length ≤ 9223372036854775807) (es : List End) (he : es.length ≤ 9223372036854775807)
    (h0 : te.kind = 3 ∨ te.step ∈ steps) (h1 : te.kind = 0 → 0 ≤ te.op ∧ te.op ≤ 5) {a b : Nat} (ha : H[a]? = some (.cells [.sl t (ends es)])) (hb : H[b]? = some (.cells [.sl u (strs steps)])) :
    call E 34 [.agg [.int .i64 te.kind, .str te.step, .int .i64 te.op, .int .i64 te.n, .int .i64 i], .ptr a 0, .ptr b 0] H = some (.bool (leafVal steps es te), H) := by
  refine call_wp hE.f34 (hE.p _ (by decide)) ⟨rfl, by simp [F34], ?_⟩
  have ha' := get_more ha
  have hb' := get_more hb
  by_cases hk : te.kind = 3
  · simp [F34, hk, ha', containsFunc_c hE es he, leafVal]
  · have hm : te.step ∈ steps := h0.resolve_left hk
    obtain ⟨k, hkx⟩ : ∃ k, steps.findIdx? (· == te.step) = some k := by
      cases hf : steps.findIdx? (· == te.step) with
      | some k => exact ⟨k, rfl⟩
      | none =>
        rw [List.findIdx?_eq_none_iff] at hf
        simpa using hf _ hm
    have hix : Index steps te.step = k := by simp [Index, hkx]
    by_cases hlt : k < es.length
    · have hg : (ends es)[k]? = some (es[k].enc) := by simp [ends, hlt]
      have hh := fun H => holds_c (H := H) hE te es[k] h1
      unfold Test.enc End.enc at hh
      simp [F34, hk, ha', hb', index_c hE steps te.step hs, hix, hlt, iaSl_at hg, hh, leafVal, hkx]
    · have hg : es[k]? = none := by simp; omega
      simp [F34, hk, ha', hb', index_c hE steps te.step hs, hix, hlt, leafVal, hkx, hg]
def okLeaf (steps : List Str) (t : Test) : Prop := (t.kind = 3 ∨ t.step ∈ steps) ∧ (t.kind = 0 → 0 ≤ t.op ∧ t.op ≤ 5)
theorem isLeaf_ok {steps : List Str} {t : Test} (h : isLeaf (fun s => decide (s ∈ steps)) t = true) : okLeaf steps t := by
  simp [isLeaf] at h
  unfold okLeaf
  rcases h with (⟨h, _⟩ | ⟨⟨h, _⟩, h2⟩) | ⟨⟨h, h3, h4, _⟩, h2⟩
  · exact ⟨.inl h, fun h0 => by omega⟩
  · exact ⟨.inr h2, fun h0 => by omega⟩
  · exact ⟨.inr h2, fun _ => ⟨h3, h4⟩⟩
theorem tstep_All {P : Test → Prop} {kn : Str → Bool} (hP : ∀ t, isLeaf kn t = true → P t) {i : Int} {t : Test} {st st' : List Node} (h : tstep kn i t st = some st') (ha : ∀ x ∈ st, x.All P) : ∀ x ∈ st', x.All P := by
  unfold tstep at h
  split at h
  · split at h
    · rename_i a r
      injection h with h
      subst h
      intro x hx
      rcases List.mem_cons.1 hx with rfl | hx
      · exact (ha a (by simp) : Node.All P a)
      · exact ha _ (by simp [hx])
    · simp at h
  · split at h
    · split at h
      · injection h with h
        subst h
        intro x hx
        rcases List.mem_cons.1 hx with rfl | hx
        · exact ⟨ha _ (by simp), ha _ (by simp)⟩
        · exact ha _ (by simp [hx])
      · simp at h
    · split at h
      · rename_i hl
        injection h with h
        subst h
        intro x hx
        rcases List.mem_cons.1 hx with rfl | hx
        · exact hP _ hl
        · exact ha _ hx
      · simp at h
theorem trun_All {P : Test → Prop} {kn : Str → Bool} (hP : ∀ t, isLeaf kn t = true → P t) : ∀ {l : List Test} {i : Int} {st st' : List Node}, trun kn i l st = some st' → (∀ x ∈ st, x.All P) → ∀ x ∈ st', x.All P
  | [], i, st, st', h, ha => by
    simp [trun] at h
    subst h
    exact ha
  | t :: l, i, st, st', h, ha => by
    simp only [trun] at h
    cases hs : tstep kn i t st with
    | none => simp [hs] at h
    | some s1 =>
      simp [hs] at h
      exact trun_All hP h (tstep_All hP hs ha)
theorem tree_All {P : Test → Prop} {kn : Str → Bool} (hP : ∀ t, isLeaf kn t = true → P t) {l : List Test} {x : Node} (h : tree kn l = some x) : x.All P := by
  unfold tree at h
  split at h
  · simp at h
  · cases hr : trun kn 0 l [] with
    | none => simp [hr, single] at h
    | some st =>
      rw [hr] at h
      match st, h, hr with
      | [y], h, hr =>
        simp [single] at h
        subst h
        exact trun_All hP hr (by simp) y (by simp)
theorem onS_All {l : List Test} {steps : List Str} {x : Node} (h : onS l steps = some x) : x.All (okLeaf steps) := by
  unfold onS at h
  split at h
  · injection h with h
    subst h
    exact ⟨.inl rfl, fun h => by simp at h⟩
  · exact tree_All (fun t ht => isLeaf_ok ht) h
def evalS (l : List Test) (steps : List Str) (es : List End) : Bool :=
  match onS l steps with
  | some x => x.val fun t _ => leafVal steps (es.take steps.length) t
  | none => false
theorem ends_take (es : List End) (n : Nat) : (ends es).take n = ends (es.take n) := by simp [ends]
theorem ends_plain (es : List End) : plainL (ends es) = true := plainL_of (by intro p hp; simp [ends] at hp; obtain ⟨e, _, rfl⟩ := hp; rfl)
theorem tests_plain (es : List Test) : plainL (tests es) = true := plainL_of (by intro p hp; simp [tests] at hp; obtain ⟨e, _, rfl⟩ := hp; rfl)
theorem ends_uniform (es : List End) : uniform 3 (ends es) = true := uniform_of (by intro p hp; simp [ends] at hp; obtain ⟨e, _, rfl⟩ := hp; exact ⟨rfl, rfl⟩)
theorem tests_uniform (es : List Test) : uniform 4 (tests es) = true := uniform_of (by intro p hp; simp [tests] at hp; obtain ⟨e, _, rfl⟩ := hp; exact ⟨rfl, rfl⟩)
theorem eval7_c (hE : EnvD E) {t u v : Tail} (l : List Test) (hl : l.length ≤ 9223372036854775807) (steps : List Str) (hs : steps.length ≤ 9223372036854775807) (es : List End) (he : es.length ≤ 9223372036854775807) :
    call E 16 [.sl t (tests l), .sl u (strs steps), .sl v (ends es)] H = some (.bool (evalS l steps es), H) := by
  refine call_wp hE.f16 (hE.p _ (by decide)) ⟨rfl, by simp [F16], ?_⟩
  have hon := fun H => on_c (H := H) (t := t) (u := u) hE l hl steps hs
  cases hx : onS l steps with
  | none =>
    simp only [hx] at hon
    simp [F16, hon, evalS, hx]
  | some x =>
    simp only [hx] at hon
    have hok := onS_All hx
    have hev : ∀ (w : Tail) (es' : List End) (H' : Heap), es' = es.take steps.length → es'.length ≤ 9223372036854775807 →
        call E 33 [x.enc, .func (.func 34) [] [.ptr (H.length + 1) 0, .ptr H.length 0]] (H ++ [.cells [.sl u (strs steps)], .cells [.sl w (ends es')]]) = some (.bool (evalS l steps es), H ++ [.cells [.sl u (strs steps)], .cells [.sl w (ends es')]]) := by
      intro w es' H' he' hl'
      have := eval_c hE (P := okLeaf steps) (kf := .func (.func 34) [] [.ptr (H.length + 1) 0, .ptr H.length 0]) rfl (f := fun te _ => leafVal steps es' te) x (H ++ [.cells [.sl u (strs steps)], .cells [.sl w (ends es')]]) hok (fun te i L hp => by
        simp only [callVal_func, List.nil_append, List.cons_append]
        exact evalc_c hE te i steps hs es' hl' hp.1 hp.2 (a := H.length + 1) (b := H.length) (t := w) (u := u) (by simp) (by simp))
      rw [this]
      simp [evalS, hx, he']
    by_cases hlt : steps.length < es.length
    · have h1 := hev .shut (es.take steps.length) H rfl (by simp; omega)
      have e2 : ¬ steps.length = es.length := by omega
      simp [F16, hon, hlt, ends_uniform, ends_take, Nat.le_of_lt hlt, nodeOr, e2, h1]
    · have h1 := hev v es H (List.take_of_length_le (by omega)).symm he
      have e3 : (ends es).take es.length = ends es := List.take_of_length_le (by simp)
      simp [F16, hon, hlt, ends_uniform, e3, nodeOr, h1]
end Go.Flat
