/- Part of a proof about a given Go program (texts ZCon5): lemmas, each for every value of its variables, under the hypotheses that it names. -/
import Derived.Test.YtkmlfjnmoieeeaaGreatDoorZCon4
import Derived.Test.YtkmlfjnmoieeeaaGreatDoorFlatU
set_option linter.unusedVariables false
set_option linter.unusedSimpArgs false
namespace Go.Flat
variable {E : Env} {H : Heap}
def fewS (ts : List Test) (ss : List Str) (es : List End) : Bool :=
  ts.all (fun t => decide (t.step.length ≤ 40)) && ss.all (fun s => decide (s.length ≤ 40)) && decide (ts.length ≤ 40) && decide (ss.length ≤ 8) && decide (es.length ≤ 10)
theorem all_false {α : Type} {p : α → Bool} {l : List α} {k : Nat} (hk : k < l.length) (h : p l[k] = false) : l.all p = false := by
  rw [List.all_eq_false]
  exact ⟨l[k], List.getElem_mem hk, by simp [h]⟩
theorem all_true {α : Type} {p : α → Bool} {l : List α} (h : ∀ j (hj : j < l.length), p l[j] = true) : l.all p = true := by
  rw [List.all_eq_true]
  intro x hx
  obtain ⟨i, hi, rfl⟩ := List.getElem_of_mem hx
  exact h i hi
theorem few_c (hE : EnvD E) {t u v : Tail} (ts : List Test) (ht : ts.length ≤ 9223372036854775807) (ss : List Str) (hs : ss.length ≤ 9223372036854775807) (es : List End) (_he : es.length ≤ 9223372036854775807) :
    call E 7 [.sl t (tests ts), .sl u (strs ss), .sl v (ends es)] H = some (.bool (fewS ts ss es), H) := by
  refine call_wp hE.f7 (hE.p _ (by decide)) ⟨rfl, by simp [F7], ?_⟩
  simp [F7]
  refine wp_loop (fun n T H' => ∃ k : Nat, n = ts.length - k ∧ k ≤ ts.length ∧ T 13 = .int .i64 k ∧ T 12 = .int .i64 ts.length ∧ T 11 = .sl t (tests ts) ∧ T 0 = .sl t (tests ts) ∧ T 1 = .sl u (strs ss) ∧ T 2 = .sl v (ends es) ∧ (∃ L, H' = H ++ L) ∧ ∀ j (hj : j < ts.length), j < k → decide (ts[j].step.length ≤ 40) = true) ?_ (n := ts.length) ⟨0, ?_⟩
  · rintro n T H' ⟨k, rfl, hk, h13, h12, h11, h0, h1, h2, ⟨L, rfl⟩, hno⟩
    by_cases hk' : k < ts.length
    · have hg : (tests ts)[k]? = some (ts[k].enc) := by simp [tests, hk']
      have hw : IntKind.i64.wrap ((k : Int) + 1) = (k : Int) + 1 := wrap64 (by omega) (by omega)
      by_cases hc : ts[k].step.length ≤ 40
      · have hc' : ¬ (40 < ts[k].step.length) := by omega
        have hc2 : ¬ ((40 : Int) < ts[k].step.length) := by omega
        simp [h13, h12, h11, h0, h1, h2, hk', iaSl_at hg, hw, hc', hc2]
        refine ⟨_, ?_, k + 1, rfl, by omega, by omega, fun j hj hjk => ?_⟩
        · omega
        · by_cases hjk' : j = k
          · subst hjk'; exact hc
          · simpa using hno j hj (by omega)
      · have hc' : (40 < ts[k].step.length) := by omega
        have hc2 : ((40 : Int) < ts[k].step.length) := by omega
        simp [h13, h12, h11, h0, h1, h2, hk', iaSl_at hg, hw, hc', hc2]
        simp [fewS, all_false (p := fun t : Test => decide (t.step.length ≤ 40)) hk' (by simpa using hc)]
    · have hT := all_true (p := fun t : Test => decide (t.step.length ≤ 40)) (l := ts) (fun j hj => hno j hj (by omega))
      simp [h13, h12, h11, h0, h1, h2, hk']
      refine wp_loop (fun n T H' => ∃ k : Nat, n = ss.length - k ∧ k ≤ ss.length ∧ T 24 = .int .i64 k ∧ T 23 = .int .i64 ss.length ∧ T 22 = .sl u (strs ss) ∧ T 0 = .sl t (tests ts) ∧ T 1 = .sl u (strs ss) ∧ T 2 = .sl v (ends es) ∧ (∃ L, H' = H ++ L) ∧ ∀ j (hj : j < ss.length), j < k → decide (ss[j].length ≤ 40) = true) ?_ (n := ss.length) ⟨0, ?_⟩
      · rintro n T H' ⟨k, rfl, hk, h24, h23, h22, h0, h1, h2, ⟨L, rfl⟩, hno⟩
        by_cases hk' : k < ss.length
        · have hg : (strs ss)[k]? = some (.str ss[k]) := by simp [strs, hk']
          have hw : IntKind.i64.wrap ((k : Int) + 1) = (k : Int) + 1 := wrap64 (by omega) (by omega)
          by_cases hc : ss[k].length ≤ 40
          · have hc' : ¬ (40 < ss[k].length) := by omega
            have hc2 : ¬ ((40 : Int) < ss[k].length) := by omega
            simp [h24, h23, h22, h0, h1, h2, hk', iaSl_at hg, hw, hc', hc2]
            refine ⟨_, ?_, k + 1, rfl, by omega, by omega, fun j hj hjk => ?_⟩
            · omega
            · by_cases hjk' : j = k
              · subst hjk'; exact hc
              · simpa using hno j hj (by omega)
          · have hc' : (40 < ss[k].length) := by omega
            have hc2 : ((40 : Int) < ss[k].length) := by omega
            simp [h24, h23, h22, h0, h1, h2, hk', iaSl_at hg, hw, hc', hc2]
            simp [fewS, all_false (p := fun s : Str => decide (s.length ≤ 40)) hk' (by simpa using hc)]
        · have hS := all_true (p := fun s : Str => decide (s.length ≤ 40)) (l := ss) (fun j hj => hno j hj (by omega))
          by_cases c1 : (ts.length : Int) ≤ 40 <;> by_cases c2 : (ss.length : Int) ≤ 8 <;> by_cases c3 : (es.length : Int) ≤ 10
          all_goals
            have d1 : ts.length ≤ 40 ↔ (ts.length : Int) ≤ 40 := by omega
            have d2 : ss.length ≤ 8 ↔ (ss.length : Int) ≤ 8 := by omega
            have d3 : es.length ≤ 10 ↔ (es.length : Int) ≤ 10 := by omega
            simp [h24, h23, h22, h0, h1, h2, hk', c1, c2, c3, fewS, hT, hS, d1, d2, d3]
      · simp [h0, h1, h2]
  · simp
def withK (l : List Test) (k : Int) : List Test := l ++ [⟨k, [], 0, 0⟩]
end Go.Flat
