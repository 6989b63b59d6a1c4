/- The reference's functions on conditions: what they come to, for every input. -/
import Derived.Test.YtkmlfjnmoieeeaaGreatDoorZCon5
import Derived.Test.YtkmlfjnmoieeeaaGreatDoorFlatU
set_option linter.unusedVariables false
set_option linter.unusedSimpArgs false
namespace Go.Flat
structure EnvR (E : Env) : Prop where
  p : ∀ f, np f = true → E.prim f = none
  f11 : E.func 11 = some F11
  f15 : E.func 15 = some F15
  f17 : E.func 17 = some F17
  f28 : E.func 28 = some F28
  f39 : E.func 39 = some F39
  f49 : E.func 49 = some F49
  f57 : E.func 57 = some F57
  f62 : E.func 62 = some F62
variable {E : Env} {H : Heap}
abbrev inS (steps : List Str) : Str → Bool := fun s => decide (s ∈ steps)
theorem indexR_c (hE : EnvR E) {t : Tail} (l : List Str) (s : Str) (hl : l.length ≤ 9223372036854775807) : call E 49 [.sl t (strs l), .str s] H = some (.int .i64 (Index l s), H) := by
  refine call_wp hE.f49 (hE.p _ (by decide)) ⟨rfl, by simp [F49], ?_⟩
  simp [F49]
  refine wp_loop (fun n T H' => ∃ k : Nat, n = l.length - k ∧ k ≤ l.length ∧ T 5 = .int .i64 k ∧ T 0 = .sl t (strs l) ∧ T 1 = .str s ∧ H' = H ∧ ∀ j (hj : j < l.length), j < k → (l[j] == s) = false) ?_ (n := l.length) ⟨0, ?_⟩
  · rintro n T H' ⟨k, rfl, hk, h5, h0, h1, rfl, hno⟩
    by_cases hk' : k < l.length
    · have hg : (strs l)[k]? = some (.str l[k]) := by simp [strs, hk']
      have hw : IntKind.i64.wrap ((k : Int) + 1) = (k : Int) + 1 := wrap64 (by omega) (by omega)
      simp [h5, h0, h1, hk', iaSl_at hg, hw]
      split
      · rename_i hs
        rw [Index, findIdx_at hk' (by simp [hs]) hno]
      · rename_i hs
        refine ⟨_, ?_, k + 1, rfl, by omega, by omega, fun j hj hjk => ?_⟩
        · omega
        · by_cases hjk' : j = k
          · subst hjk'; simpa using hs
          · simpa using hno j hj (by omega)
    · simp [h5, h0, h1, hk']
      rw [Index, findIdx_none (fun j hj => hno j hj (by omega))]
  · simp [strs]
theorem index_in (l : List Str) (s : Str) : decide (0 ≤ Index l s) = decide (s ∈ l) := by
  unfold Index
  cases h : l.findIdx? (· == s) with
  | none =>
    rw [List.findIdx?_eq_none_iff] at h
    have : s ∉ l := fun hm => by simpa using h s hm
    simp [this]
  | some i =>
    obtain ⟨hi, h1, _⟩ := List.findIdx?_eq_some_iff_getElem.1 h
    simp at h1
    have : s ∈ l := by rw [← h1]; exact List.getElem_mem hi
    simp [this]
theorem relatedR_c (hE : EnvR E) (code op n : Int) : call E 62 [.int .i64 code, .int .i64 op, .int .i64 n] H = some (.bool (rel code op n), H) := by
  refine call_wp hE.f62 (hE.p _ (by decide)) ⟨rfl, by simp [F62], ?_⟩
  have h : op = 0 ∨ op = 1 ∨ op = 2 ∨ op = 3 ∨ op = 4 ∨ (op ≠ 0 ∧ op ≠ 1 ∧ op ≠ 2 ∧ op ≠ 3 ∧ op ≠ 4) := by omega
  rcases h with rfl | rfl | rfl | rfl | rfl | ⟨h0, h1, h2, h3, h4⟩
  · simp [F62, rel]
  · simp [F62, rel]
  · simp [F62, rel]
    rfl
  · simp [F62, rel]
    rfl
  · simp [F62, rel]
  · simp [F62, rel, h0, h1, h2, h3, h4]
theorem basicR_c (hE : EnvR E) {u : Tail} (t : Test) (steps : List Str) (hs : steps.length ≤ 9223372036854775807) :
    call E 57 [t.enc, .sl u (strs steps), .bool false] H = some (.bool (isLeaf (inS steps) t), H) := by
  refine call_wp hE.f57 (hE.p _ (by decide)) ⟨rfl, by simp [F57], ?_⟩
  have hi := fun H => indexR_c (H := H) (t := u) hE steps t.step hs
  have hin := index_in steps t.step
  obtain ⟨k, s, o, m⟩ := t
  simp only at hi hin
  have hkc : k = 0 ∨ k = 1 ∨ k = 2 ∨ k = 3 ∨ (k ≠ 0 ∧ k ≠ 1 ∧ k ≠ 2 ∧ k ≠ 3) := by omega
  cases hm : decide (s ∈ steps) with
  | false =>
    have hneg : ¬ (0 ≤ Index steps s) := by rw [hm] at hin; simpa using hin
    have hmem : ¬ s ∈ steps := by simpa using hm
    rcases hkc with rfl | rfl | rfl | rfl | ⟨h0, h1, h2, h3⟩
    · simp [F57, Test.enc, hi, hneg, isLeaf, Test.bare, hmem]
    · simp [F57, Test.enc, hi, hneg, isLeaf, Test.bare, hmem]
    · simp [F57, Test.enc, hi, hneg, isLeaf, Test.bare, hmem]
    · simp [F57, Test.enc, hi, hneg, isLeaf, Test.bare, hmem]
      by_cases c0 : s = [] <;> by_cases c1 : o = 0 <;> by_cases c2 : m = 0 <;> simp [c0, c1, c2]
    · simp [F57, Test.enc, hi, hneg, isLeaf, Test.bare, hmem, h0, h1, h2, h3]
  | true =>
    have hpos : 0 ≤ Index steps s := by rw [hm] at hin; simpa using hin
    have hmem : s ∈ steps := by simpa using hm
    rcases hkc with rfl | rfl | rfl | rfl | ⟨h0, h1, h2, h3⟩
    · by_cases c1 : 0 ≤ o <;> by_cases c2 : o ≤ 5 <;> by_cases c3 : 0 ≤ m <;> by_cases c4 : m ≤ 4095 <;> simp [F57, Test.enc, hi, hpos, isLeaf, Test.bare, hmem, c1, c2, c3, c4]
    · by_cases c1 : o = 0 <;> by_cases c2 : m = 0 <;> simp [F57, Test.enc, hi, hpos, isLeaf, Test.bare, hmem, c1, c2]
    · by_cases c1 : o = 0 <;> by_cases c2 : m = 0 <;> simp [F57, Test.enc, hi, hpos, isLeaf, Test.bare, hmem, c1, c2]
    · simp [F57, Test.enc, hi, hpos, isLeaf, Test.bare, hmem]
      by_cases c0 : s = [] <;> by_cases c1 : o = 0 <;> by_cases c2 : m = 0 <;> simp [c0, c1, c2]
    · simp [F57, Test.enc, hi, hpos, isLeaf, Test.bare, hmem, h0, h1, h2, h3]
end Go.Flat
