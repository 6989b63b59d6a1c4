/- Part of a proof about a given Go program (texts ZCon): lemmas, each for every value of its variables, under the hypotheses that it names. -/
import Derived.Test.YtkmlfjnmoieeeaaGreatDoorZLit
set_option linter.unusedVariables false
set_option linter.unusedSimpArgs false
namespace Go.Flat
structure EnvD (E : Env) : Prop where
  p : ∀ f, np f = true → E.prim f = none
  f7 : E.func 7 = some F7
  f16 : E.func 16 = some F16
  f14 : E.func 14 = some F14
  f32 : E.func 32 = some F32
  f33 : E.func 33 = some F33
  f34 : E.func 34 = some F34
  f35 : E.func 35 = some F35
  f36 : E.func 36 = some F36
  f37 : E.func 37 = some F37
  f38 : E.func 38 = some F38
  f25 : E.func 25 = some F25
  f58 : E.func 58 = some F58
  f59 : E.func 59 = some F59
  f60 : E.func 60 = some F60
  f61 : E.func 61 = some F61
variable {E : Env} {H : Heap}
abbrev Str := List UInt8
structure End where
  ran : Bool
  failed : Bool
  code : Int
def End.enc (e : End) : PV := .agg [.bool e.ran, .bool e.failed, .int .i64 e.code]
@[simp] theorem End.enc_cells (e : End) : e.enc.cells = [.bool e.ran, .bool e.failed, .int .i64 e.code] := rfl
structure Test where
  kind : Int
  step : Str
  op : Int
  n : Int
  deriving DecidableEq
def Test.cs (t : Test) : List PV := [.int .i64 t.kind, .str t.step, .int .i64 t.op, .int .i64 t.n]
def Test.enc (t : Test) : PV := .agg [.int .i64 t.kind, .str t.step, .int .i64 t.op, .int .i64 t.n]
@[simp] theorem Test.enc_cells (t : Test) : t.enc.cells = [.int .i64 t.kind, .str t.step, .int .i64 t.op, .int .i64 t.n] := rfl
def strs (l : List Str) : List PV := l.map .str
def tests (l : List Test) : List PV := l.map Test.enc
def ends (l : List End) : List PV := l.map End.enc
@[simp] theorem strs_length (l : List Str) : (strs l).length = l.length := by simp [strs]
@[simp] theorem tests_length (l : List Test) : (tests l).length = l.length := by simp [tests]
@[simp] theorem ends_length (l : List End) : (ends l).length = l.length := by simp [ends]

theorem failed_c (hE : EnvD E) (e : End) : call E 36 [e.enc] H = some (.bool (e.ran && e.failed), H) := by
  refine call_wp hE.f36 (hE.p _ (by decide)) ⟨rfl, by simp [F36], ?_⟩
  obtain ⟨a, b, n⟩ := e
  cases a <;> cases b <;> simp [F36, End.enc]
def Index (l : List Str) (s : Str) : Int := match l.findIdx? (· == s) with | some i => i | none => -1
theorem findIdx_at {α : Type} {p : α → Bool} {l : List α} {k : Nat} (hk : k < l.length) (h1 : p l[k] = true) (h2 : ∀ j (hj : j < l.length), j < k → p l[j] = false) : l.findIdx? p = some k := by
  rw [List.findIdx?_eq_some_iff_getElem]
  exact ⟨hk, h1, fun j hj => by simp [h2 j (by omega) hj]⟩
theorem findIdx_none {α : Type} {p : α → Bool} {l : List α} (h2 : ∀ j (hj : j < l.length), p l[j] = false) : l.findIdx? p = none := by
  rw [List.findIdx?_eq_none_iff]
  intro x hx
  obtain ⟨i, hi, rfl⟩ := List.getElem_of_mem hx
  exact h2 i hi
theorem index_c (hE : EnvD E) {t : Tail} (l : List Str) (s : Str) (hl : l.length ≤ 9223372036854775807) : call E 37 [.sl t (strs l), .str s] H = some (.int .i64 (Index l s), H) := by
  refine call_wp hE.f37 (hE.p _ (by decide)) ⟨rfl, by simp [F37], ?_⟩
  simp [F37]
  refine wp_loop (fun n T H' => ∃ k : Nat, n = l.length - k ∧ k ≤ l.length ∧ T 8 = .int .i64 k ∧ T 7 = .int .i64 l.length ∧ T 0 = .sl t (strs l) ∧ T 1 = .str s ∧ H' = H ∧ ∀ j (hj : j < l.length), j < k → (l[j] == s) = false) ?_ (n := l.length) ⟨0, ?_⟩
  · rintro n T H' ⟨k, rfl, hk, h8, h7, h0, h1, rfl, hno⟩
    by_cases hk' : k < l.length
    · have hg : (strs l)[k]? = some (.str l[k]) := by simp [strs, hk']
      have hw : IntKind.i64.wrap ((k : Int) + 1) = (k : Int) + 1 := wrap64 (by omega) (by omega)
      simp [h8, h7, h0, h1, hk', iaSl_at hg, hw]
      split
      · rename_i hs
        rw [Index, findIdx_at hk' (by simp [hs]) hno]
      · rename_i hs
        refine ⟨_, ?_, k + 1, rfl, by omega, by omega, fun j hj hjk => ?_⟩
        · omega
        · by_cases hjk' : j = k
          · subst hjk'; simpa using fun h => hs h.symm
          · simpa using hno j hj (by omega)
    · simp [h8, h7, h0, h1, hk']
      rw [Index, findIdx_none (fun j hj => hno j hj (by omega))]
  · simp [strs]
theorem contains_c (hE : EnvD E) {t : Tail} (l : List Str) (s : Str) (hl : l.length ≤ 9223372036854775807) : call E 59 [.sl t (strs l), .str s] H = some (.bool (decide (s ∈ l)), H) := by
  refine call_wp hE.f59 (hE.p _ (by decide)) ⟨rfl, by simp [F59], ?_⟩
  simp [F59, index_c hE l s hl]
  unfold Index
  cases h : l.findIdx? (· == s) with
  | none =>
    rw [List.findIdx?_eq_none_iff] at h
    simp
    intro hm
    simpa using h s hm
  | some i =>
    obtain ⟨hi, h1, _⟩ := List.findIdx?_eq_some_iff_getElem.1 h
    simp at h1
    simp [← h1]
theorem onc_c (hE : EnvD E) {t : Tail} (l : List Str) (s : Str) (hl : l.length ≤ 9223372036854775807) {i : Nat} (hi : H[i]? = some (.cells [.sl t (strs l)])) :
    call E 58 [.str s, .ptr i 0] H = some (.bool (decide (s ∈ l)), H) := by
  refine call_wp hE.f58 (hE.p _ (by decide)) ⟨rfl, by simp [F58], ?_⟩
  simp [F58, hi, contains_c hE l s hl]
def rel (code op n : Int) : Bool :=
  if op = 0 then decide (code < n) else if op = 1 then decide (code ≤ n) else if op = 2 then decide (code = n) else if op = 3 then decide (code ≠ n) else if op = 4 then decide (code ≥ n) else decide (code > n)
theorem related_c (hE : EnvD E) (code op n : Int) (h0 : 0 ≤ op) (h5 : op ≤ 5) : call E 61 [.int .i64 code, .int .i64 op, .int .i64 n] H = some (.bool (rel code op n), H) := by
  refine call_wp hE.f61 (hE.p _ (by decide)) ⟨rfl, by simp [F61], ?_⟩
  have h : op = 0 ∨ op = 1 ∨ op = 2 ∨ op = 3 ∨ op = 4 ∨ op = 5 := by omega
  rcases h with rfl | rfl | rfl | rfl | rfl | rfl <;> simp [F61, uniform, iaSlA, rel] <;> rfl
def holds (t : Test) (e : End) : Bool :=
  if t.kind = 0 then e.ran && !e.failed && rel e.code t.op t.n else if t.kind = 1 then e.ran && e.failed else e.ran
theorem holds_c (hE : EnvD E) (t : Test) (e : End) (ht : t.kind = 0 → 0 ≤ t.op ∧ t.op ≤ 5) : call E 38 [t.enc, e.enc] H = some (.bool (holds t e), H) := by
  refine call_wp hE.f38 (hE.p _ (by decide)) ⟨rfl, by simp [F38], ?_⟩
  obtain ⟨a, b, n⟩ := e
  obtain ⟨k, s, o, m⟩ := t
  by_cases h0 : k = 0
  · subst h0
    obtain ⟨h1, h2⟩ := ht rfl
    simp only at h1 h2
    cases a <;> cases b <;> simp [F38, End.enc, Test.enc, holds, related_c hE _ _ _ h1 h2]
  · by_cases h1 : k = 1
    · subst h1
      cases a <;> cases b <;> simp [F38, End.enc, Test.enc, holds]
    · cases a <;> cases b <;> simp [F38, End.enc, Test.enc, holds, h0, h1]
end Go.Flat
