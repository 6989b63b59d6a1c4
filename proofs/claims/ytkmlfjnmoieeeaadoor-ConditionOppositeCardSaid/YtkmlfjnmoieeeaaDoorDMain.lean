/- Part of a proof about a given Go program (text DMain): lemmas, each for every value of its variables, under the hypotheses that it names. -/
import Derived.Test.YtkmlfjnmoieeeaaDoorDLaw
set_option linter.unusedVariables false
set_option linter.unusedSimpArgs false
namespace Go.Flat
variable {E : Env} {H : Heap}
@[simp] theorem tests_nil : tests [] = [] := rfl
theorem tests_append (a b : List Test) : tests a ++ tests b = tests (a ++ b) := by simp [tests]
theorem tests_any : [PV.agg [.int .i64 3, .str [], .int .i64 0, .int .i64 0]] = tests [⟨3, [], 0, 0⟩] := rfl
def Fell (e : End) : Bool := e.ran && e.failed
theorem fell_step {es : List End} {n k : Nat} (hk : k < es.length) : (es.take (min (k + 1) n)).any Fell = ((es.take (min k n)).any Fell || (decide (k < n) && Fell es[k])) := by
  by_cases h : k < n
  · have e1 : min (k + 1) n = k + 1 := by omega
    have e2 : min k n = k := by omega
    rw [e1, e2, List.take_add_one, List.any_append, List.getElem?_eq_getElem hk]
    simp [h]
  · have e1 : min (k + 1) n = n := by omega
    have e2 : min k n = n := by omega
    simp [e1, e2, h]
set_option maxHeartbeats 4000000 in
theorem parts_c (hE : EnvD E) (hf3 : E.func 3 = some F3) (hawake : call E 5 [] H = some (.bool true, H)) {t1 t2 t3 t4 : Tail} (a b : List Test) (steps : List Str) (es : List End)
    (ha : a.length ≤ 9223372036854775807) (hb : b.length ≤ 9223372036854775807) (hs : steps.length ≤ 9223372036854775807) (he : es.length ≤ 9223372036854775807) :
    call E 3 [.sl t1 (tests a), .sl t2 (tests b), .sl t3 (strs steps), .sl t4 (ends es)] H = some (.bool true, H) := by
  refine call_wp hf3 (hE.p _) ⟨rfl, by simp [F3], ?_⟩
  have fa := fun H => few_c (H := H) (t := t1) (u := t3) (v := t4) hE a ha steps hs es he
  have fb := fun H => few_c (H := H) (t := t2) (u := t3) (v := t4) hE b hb steps hs es he
  simp only [F3, wp_seq, wp_region]
  cases h1 : fewS a steps es with
  | false => simp [hawake, fa, fb, h1]
  | true =>
  cases h2 : fewS b steps es with
  | false => simp [hawake, fa, fb, h1, h2]
  | true =>
  by_cases c1 : 12 < a.length
  · have c1' : (12 : Int) < a.length := by omega
    simp [hawake, fa, fb, h1, h2, c1, c1']
  have c1' : ¬ (12 : Int) < a.length := by omega
  by_cases c2 : 12 < b.length
  · have c2' : (12 : Int) < b.length := by omega
    simp [hawake, fa, fb, h1, h2, c1, c1', c2, c2']
  have c2' : ¬ (12 : Int) < b.length := by omega
  simp [hawake, fa, fb, h1, h2, c1, c2, c1', c2']
  obtain ⟨FL, hFL⟩ : ∃ FL : Nat → Bool, ∀ k, FL k = (es.take (min k steps.length)).any Fell := ⟨_, fun _ => rfl⟩
  have hst0 : ∀ k, (hk : k < es.length) → FL (k + 1) = (FL k || (decide (k < steps.length) && Fell es[k])) := fun k hk => by rw [hFL, hFL]; exact fell_step hk
  refine wp_loop (fun n T H' => ∃ k : Nat, n = es.length - k ∧ k ≤ es.length ∧ T 42 = .int .i64 k ∧ T 41 = .int .i64 es.length ∧ T 40 = .sl t4 (ends es) ∧ T 0 = .sl t1 (tests a) ∧ T 1 = .sl t2 (tests b) ∧ T 2 = .sl t3 (strs steps) ∧ T 3 = .sl t4 (ends es) ∧ (∃ L, H' = H ++ L) ∧ T 9 = .bool (FL k)) ?_ (n := es.length) ⟨0, ?_⟩
  · rintro n T H' ⟨k, rfl, hk, h42, h41, h40, g0, g1, g2, g3, ⟨L, rfl⟩, h9⟩
    by_cases hk' : k < es.length
    · have hg : (ends es)[k]? = some (es[k].enc) := by simp [ends, hk']
      have hw : IntKind.i64.wrap ((k : Int) + 1) = (k : Int) + 1 := wrap64 (by omega) (by omega)
      have hst := hst0 k hk'
      have fin : ∀ b : Bool, FL (k + 1) = b → ∃ m, m < es.length - k ∧ ∃ k1 : Nat, m = es.length - k1 ∧ k1 ≤ es.length ∧ (k : Int) + 1 = k1 ∧ b = FL k1 :=
        fun b hb => ⟨es.length - (k + 1), by omega, k + 1, rfl, by omega, by omega, hb.symm⟩
      cases hfl : FL k with
      | true =>
        rw [hfl] at h9 hst
        simp [h42, h41, h40, g0, g1, g2, g3, h9, hk', iaSl_at hg, hw]
        simpa using fin true hst
      | false =>
        rw [hfl] at h9 hst
        by_cases hks : k < steps.length
        · cases hr : es[k].ran <;> cases hfd : es[k].failed
          all_goals simp [h42, h41, h40, g0, g1, g2, g3, h9, hk', iaSl_at hg, hw, hks, hr, hfd]
          all_goals simp [hks, Fell, hr, hfd] at hst
          all_goals simpa using fin _ hst
        · simp [h42, h41, h40, g0, g1, g2, g3, h9, hk', iaSl_at hg, hw, hks]
          simp [hks] at hst
          simpa using fin false hst
    · have hke : k = es.length := by omega
      subst hke
      have e1 : es.take (min es.length steps.length) = es.take steps.length := by
        simp [List.take_eq_take_iff]
        omega
      rw [hFL, e1] at h9
      have v0 := fun H => eval7_c (H := H) (t := .exact) (u := t3) (v := t4) hE [] (by simp) steps hs es he
      have v1 := fun H => eval7_c (H := H) (t := .exact) (u := t3) (v := t4) hE [⟨3, [], 0, 0⟩] (by simp) steps hs es he
      rw [evalS_nil] at v0
      rw [evalS_any] at v1
      simp only [tests_nil] at v0
      rw [← tests_any] at v1
      have hF : (es.take steps.length).any (fun e => e.ran && e.failed) = (es.take steps.length).any Fell := rfl
      rw [hF] at v0 v1
      have va := fun H => eval7_c (H := H) (t := t1) (u := t3) (v := t4) hE a ha steps hs es he
      have vb := fun H => eval7_c (H := H) (t := t2) (u := t3) (v := t4) hE b hb steps hs es he
      have la := fun H => valid_c (H := H) (t := t1) (u := t3) hE a ha steps hs
      have lb := fun H => valid_c (H := H) (t := t2) (u := t3) hE b hb steps hs
      by_cases a0 : a = []
      · subst a0
        simp [h42, h41, h40, g0, g1, g2, g3, h9, hk', v0, v1]
      have na : ¬ ((a.length : Int) = 0) := by
        have : a.length ≠ 0 := fun h0 => a0 (List.eq_nil_of_length_eq_zero h0)
        omega
      by_cases b0 : b = []
      · subst b0
        simp [h42, h41, h40, g0, g1, g2, g3, h9, hk', v0, v1, a0, na]
      have nb : ¬ ((b.length : Int) = 0) := by
        have : b.length ≠ 0 := fun h0 => b0 (List.eq_nil_of_length_eq_zero h0)
        omega
      cases k1 : (onS a steps).isSome with
      | false => simp [h42, h41, h40, g0, g1, g2, g3, h9, hk', v0, v1, a0, na, b0, nb, la, k1]
      | true =>
      cases k2 : (onS b steps).isSome with
      | false => simp [h42, h41, h40, g0, g1, g2, g3, h9, hk', v0, v1, a0, na, b0, nb, la, lb, k1, k2]
      | true =>
      obtain ⟨p1, p2, p3, p4⟩ := parts_law es (by omega) (by omega) a0 b0 k1 k2
      have w5 := fun H t => with_c (H := H) (t := t) hE (a ++ b) (by simp; omega) 5
      have w6 := fun H t => with_c (H := H) (t := t) hE (a ++ b) (by simp; omega) 6
      have w4 := fun H => with_c (H := H) (t := t1) hE a (by omega) 4
      have e5 := fun H => eval7_c (H := H) (t := .shut) (u := t3) (v := t4) hE (withK (a ++ b) 5) (by simp [withK]; omega) steps hs es he
      have e6 := fun H => eval7_c (H := H) (t := .shut) (u := t3) (v := t4) hE (withK (a ++ b) 6) (by simp [withK]; omega) steps hs es he
      have e4 := fun H => eval7_c (H := H) (t := .shut) (u := t3) (v := t4) hE (withK a 4) (by simp [withK]; omega) steps hs es he
      have lab := fun H t => valid_c (H := H) (t := t) (u := t3) hE (a ++ b) (by simp; omega) steps hs
      rw [p1] at e5
      rw [p2] at e6
      rw [p3] at e4
      rw [p4] at lab
      have na' : a.length ≠ 0 := by omega
      have nb' : b.length ≠ 0 := by omega
      have q1 : a.length ≤ 4294967296 := by omega
      have q2 : a.length + b.length ≤ 4294967296 := by omega
      have ut : uniform 4 (tests a) = true := tests_uniform a
      have ub : uniform 4 (tests b) = true := tests_uniform b
      cases x1 : evalS a steps es <;> cases x2 : evalS b steps es
      all_goals
        simp only [x1, x2, Bool.and_true, Bool.and_false, Bool.true_and, Bool.false_and, Bool.or_true, Bool.or_false, Bool.true_or, Bool.false_or, Bool.not_true, Bool.not_false] at va vb e4 e5 e6
        simp [h42, h41, h40, g0, g1, g2, g3, h9, hk', v0, v1, a0, na, b0, nb, la, lb, k1, k2, va, vb, na', nb', q1, q2, ut, ub, tests_append, w4, w5, w6, e4, e5, e6, lab]
  · simp [hFL]
end Go.Flat
