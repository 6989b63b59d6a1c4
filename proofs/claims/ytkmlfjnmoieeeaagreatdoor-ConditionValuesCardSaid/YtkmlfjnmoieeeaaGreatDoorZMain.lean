/- ConditionValues: the law's own function returns true, for every input, under the hypotheses on its environment. -/
import Derived.Test.YtkmlfjnmoieeeaaGreatDoorZRefers3
set_option linter.unusedVariables false
set_option linter.unusedSimpArgs false
namespace Go.Flat
variable {E : Env} {H : Heap}
set_option maxHeartbeats 1000000 in
theorem values_c (hE : EnvD E) (hR : EnvR E) (hS : EnvS E) (hf4 : E.func 4 = some F4) (hawake : call E 6 [] H = some (.bool true, H)) {t1 t3 t4 : Tail} (a : List Test) (steps : List Str) (es : List End)
    (ha : a.length ≤ 9223372036854775807) (hs : steps.length ≤ 9223372036854775807) (he : es.length ≤ 9223372036854775807) :
    call E 4 [.sl t1 (tests a), .sl t3 (strs steps), .sl t4 (ends es)] H = some (.bool true, H) := by
  refine call_wp hf4 (hE.p _ (by decide)) ⟨rfl, by simp [F4], ?_⟩
  have fa := fun H => few_c (H := H) (t := t1) (u := t3) (v := t4) hE a ha steps hs es he
  simp only [F4, wp_seq, wp_region]
  cases h1 : fewS a steps es with
  | false => simp [hawake, fa, h1]
  | true =>
    have hla : a.length ≤ 40 := by
      simp [fewS] at h1
      omega
    have v1 := fun H => valid_c (H := H) (t := t1) (u := t3) hE a ha steps hs
    have v2 := fun H => valid15_c (H := H) (t := t1) (u := t3) hR a (by omega) steps hs
    have e1 := fun H => eval7_c (H := H) (t := t1) (u := t3) (v := t4) hE a ha steps hs es he
    have e2 := fun H => eval17_c (H := H) (t := t1) (u := t3) (v := t4) hR a (by omega) steps hs es he
    have r1 := fun H => refers18_c (H := H) (t := t1) hS a (by omega)
    have r2 := fun H => refers19_c (H := H) (t := t1) hS a (by omega)
    have hlen : (referS a).length ≤ 9223372036854775807 := by
      have := dedup_len (sortS (names a))
      rw [sortS_length] at this
      have := names_len a
      unfold referS
      omega
    have tx := fun H => texts_c (H := H) (t := .shut) (u := .shut) hR (referS a) (insAll a) hlen
    simp only [insAll_eq] at r2 tx
    simp [hawake, fa, h1, v1, v2, e1, e2, r1, r2, tx]
end Go.Flat
