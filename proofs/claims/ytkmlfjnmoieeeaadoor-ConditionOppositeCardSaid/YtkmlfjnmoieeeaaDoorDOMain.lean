/- The law ConditionOpposite on the plain machine: its call returns true for every input. -/
import Derived.Test.YtkmlfjnmoieeeaaDoorDOLaw
import Derived.Test.YtkmlfjnmoieeeaaDoorDMain
set_option linter.unusedVariables false
set_option linter.unusedSimpArgs false
namespace Go.Flat
open Nm (stepN)
variable {E : Env} {H : Heap}
theorem not_c (hE : EnvD E) (hN : EnvN E) (h26 : E.func 26 = some F26) (h11 : E.func 11 = some F11) {t : Tail} (l : List Test) (hl : l.length ≤ 9223372036854775807) :
    call E 11 [.sl t (tests l)] H = some (.sl .shut (tests (notS l)), H) := by
  refine call_wp h11 (hE.p _) ⟨rfl, by simp [F11], ?_⟩
  by_cases h0 : l = []
  · subst h0
    simp [F11, tests, notS, Test.enc]
    have := leave_sl (H := H) (t := .exact) (xs := [.agg [.int .i64 3, .str [], .int .i64 0, .int .i64 0]]) rfl []
    simpa using this
  have hn : ¬ ((l.length : Int) = 0) := by
    have : l.length ≠ 0 := fun h => h0 (List.eq_nil_of_length_eq_zero h)
    omega
  have ht := fun H => tree_c (H := H) hE (kn := stepN) (kf := .func (.func 25) [] []) rfl (fun s L => by
    simp only [callVal_func, List.nil_append, List.append_nil]
    exact Nm.step_c hN s) (t := t) l hl
  cases hx : tree stepN l with
  | none =>
    simp only [hx] at ht
    simp [F11, hn, ht, notS, h0, hx]
    have := leave_sl (H := H) (t := .exact) (xs := []) rfl []
    simpa using this
  | some x =>
    simp only [hx] at ht
    have hsz := tree_sz hx
    have hlv := x.leaves_sz
    have hpl := push_len x true
    obtain ⟨τ, L, e, _⟩ := push_c hE h26 x true H (by omega)
    by_cases hc : 32 < (pushS x true).length
    · have hc' : (32 : Int) < (pushS x true).length := by omega
      simp [F11, hn, ht, nodeOr, e, hc', notS, h0, hx, hc]
      exact leave_sl rfl _
    · have hc' : ¬ (32 : Int) < (pushS x true).length := by omega
      simp [F11, hn, ht, nodeOr, e, hc', notS, h0, hx, hc]
      exact leave_sl (tests_plain _) _
set_option maxHeartbeats 4000000 in
theorem opp_c (hE : EnvD E) (hN : EnvN E) (h26 : E.func 26 = some F26) (h11 : E.func 11 = some F11) (h4 : E.func 4 = some F4) (hawake : call E 5 [] H = some (.bool true, H)) {t1 t2 t3 : Tail} (a : List Test) (steps : List Str) (es : List End)
    (ha : a.length ≤ 9223372036854775807) (hs : steps.length ≤ 9223372036854775807) (he : es.length ≤ 9223372036854775807) :
    call E 4 [.sl t1 (tests a), .sl t2 (strs steps), .sl t3 (ends es)] H = some (.bool true, H) := by
  refine call_wp h4 (hE.p _) ⟨rfl, by simp [F4], ?_⟩
  have fa := fun H => few_c (H := H) (t := t1) (u := t2) (v := t3) hE a ha steps hs es he
  have va := fun H => valid_c (H := H) (t := t1) (u := t2) hE a ha steps hs
  simp only [F4, wp_seq, wp_region]
  cases h1 : fewS a steps es with
  | false => simp [hawake, fa, h1]
  | true =>
  by_cases c1 : 16 < a.length
  · have c1' : (16 : Int) < a.length := by omega
    simp [hawake, fa, h1, c1, c1']
  have c1' : ¬ (16 : Int) < a.length := by omega
  cases hv : (onS a steps).isSome with
  | false => simp [hawake, fa, h1, c1, c1', va, hv]
  | true =>
  simp [hawake, fa, h1, c1, c1', va, hv]
  refine wp_loop (fun n T H' => ∃ k : Nat, n = steps.length - k ∧ k ≤ steps.length ∧ T 34 = .int .i64 k ∧ T 33 = .int .i64 steps.length ∧ T 32 = .sl t2 (strs steps) ∧ T 0 = .sl t1 (tests a) ∧ T 1 = .sl t2 (strs steps) ∧ T 2 = .sl t3 (ends es) ∧ H' = H ∧ ∀ j (hj : j < steps.length), j < k → stepN steps[j] = true) ?_ (n := steps.length) ⟨0, ?_⟩
  · rintro n T H' ⟨k, rfl, hk, h34, h33, h32, g0, g1, g2, rfl, hno⟩
    by_cases hk' : k < steps.length
    · have hg : (strs steps)[k]? = some (.str steps[k]) := by simp [strs, hk']
      have hw : IntKind.i64.wrap ((k : Int) + 1) = (k : Int) + 1 := wrap64 (by omega) (by omega)
      have hr := fun H => Nm.rstep_c (H := H) hN steps[k]
      cases hst : stepN steps[k] with
      | false =>
        simp only [hst] at hr
        simp [h34, h33, h32, g0, g1, g2, hk', iaSl_at hg, hw, hr]
      | true =>
        simp only [hst] at hr
        simp [h34, h33, h32, g0, g1, g2, hk', iaSl_at hg, hw, hr]
        refine ⟨_, ?_, k + 1, rfl, by omega, by omega, fun j hj hjk => ?_⟩
        · omega
        · by_cases hjk' : j = k
          · subst hjk'; exact hst
          · exact hno j hj (by omega)
    · have hsN : ∀ s ∈ steps, stepN s = true := by
        intro s hs
        obtain ⟨i, hi, rfl⟩ := List.getElem_of_mem hs
        exact hno i hi (by omega)
      obtain ⟨o1, o2⟩ := opp_law hsN es hv
      have na := fun H t => not_c (H := H) (t := t) hE hN h26 h11 a ha
      have ea := fun H => eval7_c (H := H) (t := t1) (u := t2) (v := t3) hE a ha steps hs es he
      generalize hO : notS a = O at na o1 o2
      by_cases hO0 : O = []
      · have c5 : ¬ (a.length : Int) ≤ 5 := fun h => o1 (by omega) hO0
        subst hO0
        simp [h34, h33, h32, g0, g1, g2, hk', c5, na]
      obtain ⟨p1, p2, p3, p4⟩ := o2 hO0
      obtain ⟨q1, q2⟩ := opp_law hsN es p2
      have nO : ¬ ((O.length : Int) = 0) := by
        have : O.length ≠ 0 := fun h => hO0 (List.eq_nil_of_length_eq_zero h)
        omega
      have pO : O.length ≠ 0 := fun h => hO0 (List.eq_nil_of_length_eq_zero h)
      have nn := fun H t => not_c (H := H) (t := t) hE hN h26 h11 O (by omega)
      have eO := fun H => eval7_c (H := H) (t := .shut) (u := t2) (v := t3) hE O (by omega) steps hs es he
      have vO := fun H => valid_c (H := H) (t := .shut) (u := t2) hE O (by omega) steps hs
      rw [p3] at eO
      rw [p2] at vO
      have p1i : (O.length : Int) ≤ 32 := by omega
      by_cases c5 : (a.length : Int) ≤ 5
      · simp [h34, h33, h32, g0, g1, g2, hk', c5, na, nO, hO0, pO]
        refine wp_loop (fun n T H2 => ∃ k : Nat, n = O.length - k ∧ k ≤ O.length ∧ T 58 = .int .i64 k ∧ T 57 = .int .i64 O.length ∧ T 56 = .sl .shut (tests O) ∧ T 9 = .sl .shut (tests O) ∧ T 0 = .sl t1 (tests a) ∧ T 1 = .sl t2 (strs steps) ∧ T 2 = .sl t3 (ends es) ∧ ∃ L, H2 = H' ++ L) ?_ (n := O.length) ⟨0, ?_⟩
        · rintro n T H2 ⟨k, rfl, hk, h58, h57, h56, g9, g0, g1, g2, L, rfl⟩
          by_cases hk' : k < O.length
          · have hg : (tests O)[k]? = some (O[k].enc) := by simp [tests, hk']
            have hw : IntKind.i64.wrap ((k : Int) + 1) = (k : Int) + 1 := wrap64 (by omega) (by omega)
            have next : ∃ m, m < O.length - k ∧ ∃ k1 : Nat, m = O.length - k1 ∧ k1 ≤ O.length ∧ (k : Int) + 1 = k1 := ⟨O.length - (k + 1), by omega, k + 1, rfl, by omega, by omega⟩
            by_cases h4 : O[k].kind = 4
            · have hat := okFrom_at p4 k hk' h4
              have hk0 : k ≠ 0 := fun e => by have := hat.1 e; omega
              have hkp : O[k - 1].kind = 1 ∨ O[k - 1].kind = 2 ∨ O[k - 1].kind = 3 := hat.2 (k - 1) (by omega) (by omega)
              have hk1 : k - 1 < O.length := by omega
              have hg1 : (tests O)[k - 1]? = some (O[k - 1].enc) := by simp [tests, hk1]
              have hw1 : IntKind.i64.wrap ((k : Int) - 1) = ((k - 1 : Nat) : Int) := by rw [wrap64] <;> omega
              have hki : ¬ ((k : Int) = 0) := by omega
              generalize O[k - 1] = u at hg1 hkp
              rcases hkp with hkp | hkp | hkp
              all_goals simp [h58, h57, h56, g9, g0, g1, g2, hk', iaSl_at hg, hw, h4, hki, hk0, hw1, iaSl_at hg1, hkp]
              all_goals simpa using next
            · simp [h58, h57, h56, g9, g0, g1, g2, hk', iaSl_at hg, hw, h4]
              simpa using next
          · by_cases hW : notS O = []
            · rw [hW] at nn
              cases hx : evalS a steps es
              all_goals simp only [hx, Bool.not_true, Bool.not_false] at ea eO
              all_goals simp [h58, h57, h56, g9, g0, g1, g2, hk', ea, nn, p1i, vO, eO]
            · obtain ⟨r1, r2, r3, _⟩ := q2 hW
              have eW := fun H => eval7_c (H := H) (t := .shut) (u := t2) (v := t3) hE (notS O) (by omega) steps hs es he
              have nW : ¬ (((notS O).length : Int) = 0) := by
                have : (notS O).length ≠ 0 := fun h => hW (List.eq_nil_of_length_eq_zero h)
                omega
              rw [r3, p3] at eW
              cases hx : evalS a steps es
              all_goals simp only [hx, Bool.not_true, Bool.not_false] at ea eO eW
              all_goals simp [h58, h57, h56, g9, g0, g1, g2, hk', ea, nn, p1i, vO, eO, hW, nW, eW]
        · simp [g0, g1, g2]
      · simp [h34, h33, h32, g0, g1, g2, hk', c5, na, nO, hO0, pO]
        refine wp_loop (fun n T H2 => ∃ k : Nat, n = O.length - k ∧ k ≤ O.length ∧ T 58 = .int .i64 k ∧ T 57 = .int .i64 O.length ∧ T 56 = .sl .shut (tests O) ∧ T 9 = .sl .shut (tests O) ∧ T 0 = .sl t1 (tests a) ∧ T 1 = .sl t2 (strs steps) ∧ T 2 = .sl t3 (ends es) ∧ ∃ L, H2 = H' ++ L) ?_ (n := O.length) ⟨0, ?_⟩
        · rintro n T H2 ⟨k, rfl, hk, h58, h57, h56, g9, g0, g1, g2, L, rfl⟩
          by_cases hk' : k < O.length
          · have hg : (tests O)[k]? = some (O[k].enc) := by simp [tests, hk']
            have hw : IntKind.i64.wrap ((k : Int) + 1) = (k : Int) + 1 := wrap64 (by omega) (by omega)
            have next : ∃ m, m < O.length - k ∧ ∃ k1 : Nat, m = O.length - k1 ∧ k1 ≤ O.length ∧ (k : Int) + 1 = k1 := ⟨O.length - (k + 1), by omega, k + 1, rfl, by omega, by omega⟩
            by_cases h4 : O[k].kind = 4
            · have hat := okFrom_at p4 k hk' h4
              have hk0 : k ≠ 0 := fun e => by have := hat.1 e; omega
              have hkp : O[k - 1].kind = 1 ∨ O[k - 1].kind = 2 ∨ O[k - 1].kind = 3 := hat.2 (k - 1) (by omega) (by omega)
              have hk1 : k - 1 < O.length := by omega
              have hg1 : (tests O)[k - 1]? = some (O[k - 1].enc) := by simp [tests, hk1]
              have hw1 : IntKind.i64.wrap ((k : Int) - 1) = ((k - 1 : Nat) : Int) := by rw [wrap64] <;> omega
              have hki : ¬ ((k : Int) = 0) := by omega
              generalize O[k - 1] = u at hg1 hkp
              rcases hkp with hkp | hkp | hkp
              all_goals simp [h58, h57, h56, g9, g0, g1, g2, hk', iaSl_at hg, hw, h4, hki, hk0, hw1, iaSl_at hg1, hkp]
              all_goals simpa using next
            · simp [h58, h57, h56, g9, g0, g1, g2, hk', iaSl_at hg, hw, h4]
              simpa using next
          · by_cases hW : notS O = []
            · rw [hW] at nn
              cases hx : evalS a steps es
              all_goals simp only [hx, Bool.not_true, Bool.not_false] at ea eO
              all_goals simp [h58, h57, h56, g9, g0, g1, g2, hk', ea, nn, p1i, vO, eO]
            · obtain ⟨r1, r2, r3, _⟩ := q2 hW
              have eW := fun H => eval7_c (H := H) (t := .shut) (u := t2) (v := t3) hE (notS O) (by omega) steps hs es he
              have nW : ¬ (((notS O).length : Int) = 0) := by
                have : (notS O).length ≠ 0 := fun h => hW (List.eq_nil_of_length_eq_zero h)
                omega
              rw [r3, p3] at eW
              cases hx : evalS a steps es
              all_goals simp only [hx, Bool.not_true, Bool.not_false] at ea eO eW
              all_goals simp [h58, h57, h56, g9, g0, g1, g2, hk', ea, nn, p1i, vO, eO, hW, nW, eW]
        · simp [g0, g1, g2]
  · simp
end Go.Flat
