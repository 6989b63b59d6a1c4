/- ConditionWords: the law's own function returns true, for every input, under the hypotheses on its environment. -/
import Derived.Test.YtkmlfjnmoieeeaaGreatDoorZRForm2
import Derived.Test.YtkmlfjnmoieeeaaGreatDoorZCon5
set_option linter.unusedVariables false
set_option linter.unusedSimpArgs false
namespace Go.Flat
variable {E : Env} {H : Heap}
theorem same_c (hE : EnvF E) {t u : Tail} (a b : List Test) (ha : a.length ≤ 1000000) : call E 10 [.sl t (tests a), .sl u (tests b)] H = some (.bool (decide (a = b)), H) := by
  refine call_wp hE.f10 (hE.p _ (by decide)) ⟨rfl, by simp [F10], ?_⟩
  by_cases hlen : a.length = b.length
  · have hlen' : (a.length : Int) = b.length := by omega
    simp [F10, hlen']
    refine wp_loop (fun n T H' => ∃ k : Nat, n = a.length - k ∧ k ≤ a.length ∧ T 5 = .int .i64 k ∧ T 0 = .sl t (tests a) ∧ T 1 = .sl u (tests b) ∧ H' = H ∧ ∀ j (hj : j < a.length) (hj2 : j < b.length), j < k → a[j] = b[j]) ?_ (n := a.length) ⟨0, ?_⟩
    · rintro n T H' ⟨k, rfl, hk, h5, h0, h1, rfl, hno⟩
      by_cases hk' : k < a.length
      · have hk2 : k < b.length := by omega
        have hg : (tests a)[k]? = some (a[k].enc) := by simp [tests, hk']
        have hg2 : (tests b)[k]? = some (b[k].enc) := by simp [tests, hk2]
        have hw : IntKind.i64.wrap ((k : Int) + 1) = (k : Int) + 1 := wrap64 (by omega) (by omega)
        by_cases he : a[k] = b[k]
        · rw [he] at hg
          simp [h5, h0, h1, hk', iaSl_at hg, iaSl_at hg2, hw]
          refine ⟨_, ?_, k + 1, rfl, by omega, by omega, fun j hj hj2 hjk => ?_⟩
          · omega
          · by_cases hjk' : j = k
            · subst hjk'; exact he
            · exact hno j hj hj2 (by omega)
        · have hne : (a[k].kind == b[k].kind && (a[k].step == b[k].step && (a[k].op == b[k].op && a[k].n == b[k].n))) = false := by
            cases hb : (a[k].kind == b[k].kind && (a[k].step == b[k].step && (a[k].op == b[k].op && a[k].n == b[k].n))) with
            | false => rfl
            | true =>
              simp at hb
              exfalso
              apply he
              obtain ⟨h1, h2, h3, h4⟩ := hb
              generalize a[k] = x at *
              generalize b[k] = y at *
              cases x; cases y
              simp_all
          have hab : ¬ a = b := by
            rintro rfl
            exact he rfl
          simp [h5, h0, h1, hk', iaSl_at hg, iaSl_at hg2, hw, hne, hab]
      · have hab : a = b := by
          apply List.ext_getElem hlen
          intro i h1 h2
          exact hno i h1 h2 (by omega)
        subst hab
        simp [h5, h0, h1, hk']
    · simp
  · have hlen' : ¬ (a.length : Int) = b.length := by omega
    have hne : ¬ a = b := fun e => hlen (by rw [e])
    simp [F10, hlen', hne]
set_option maxHeartbeats 1000000 in
theorem words_law (hE : EnvF E) (hf3 : E.func 3 = some F3) (hawake : call E 6 [] H = some (.bool true, H)) {t1 t2 : Tail} (ws : List Str) (ts : List Test) (hw : ws.length ≤ 9223372036854775807) (hsz : ∀ w ∈ ws, w.length ≤ 281474976710656)
    (ht : ts.length ≤ 9223372036854775807) : call E 3 [.sl t1 (strs ws), .sl t2 (tests ts)] H = some (.bool true, H) := by
  refine call_wp hf3 (hE.p _ (by decide)) ⟨rfl, by simp [F3], ?_⟩
  by_cases h60 : 60 < ws.length
  · have h60' : (60 : Int) < ws.length := by omega
    simp [F3, hawake, h60, h60']
  · have h60' : ¬ (60 : Int) < ws.length := by omega
    have hfew : ∀ (τ : Tail) (H : Heap), call E 7 [.sl t2 (tests ts), .sl τ (strs (ws.take 8)), .sl .exact []] H = some (.bool (fewS ts (ws.take 8) []), H) := fun τ H => few_c (t := t2) (u := τ) (v := .exact) hE.t.q.e.d ts (by omega) (ws.take 8) (by simp; omega) [] (by simp)
    have hu : uniform 1 (strs ws) = true := Nm.strs_uniform ws
    have htk : (strs ws).take 8 = strs (ws.take 8) := by simp [strs]
    have hfull : ws.length < 8 → ws.take 8 = ws := fun h => List.take_of_length_le (by omega)
    have hp := fun H => parse_c (H0 := H) (t := t1) hE.t.q.e ws ⟨by omega, hsz⟩
    have hrp := fun H => rparse_c (H0 := H) (t := t1) hE.t ws ⟨by omega, hsz⟩
    have hrp' : ∀ H, call E 9 [.sl t1 (strs ws)] H = some (.tup [.sl .shut (tests (parseS ws).1), .int .i64 (parseS ws).2.1, .int .i64 (parseS ws).2.2], H) := by
      intro H
      obtain ⟨r, h1, h2⟩ := hrp H
      rw [h2]
      unfold ParseR at h1
      rw [h1, parse_eq]
    by_cases h40 : 40 < ts.length
    · have hff : ∀ l, fewS ts l [] = false := by
        intro l
        have : ¬ ts.length ≤ 40 := by omega
        simp [fewS, this]
      by_cases h8 : ws.length < 8
      · have h8' : (ws.length : Int) < 8 := by omega
        have htake : (strs ws).take ws.length = strs ws := List.take_of_length_le (by simp)
        have hf2 := fun τ H => hfew τ H
        rw [hfull h8, hff] at hf2
        simp [F3, hawake, h60, h60', h8, h8', hu, htake, hf2]
      · have h8' : ¬ (ws.length : Int) < 8 := by omega
        have h8l : 8 ≤ ws.length := by omega
        rw [hff] at hfew
        simp [F3, hawake, h60, h60', h8, h8', h8l, hu, htk, hfew]
    have hfo := fun H => format_c (H := H) (t := t2) hE ts (by omega)
    have hrf : ∀ H, call E 13 [.sl t2 (tests ts)] H = some (.sl .shut (strs (formatS ts)), H) := by
      intro H
      obtain ⟨r, h1, h2⟩ := rformat_c (H := H) (t := t2) hE ts (by omega)
      rw [h2]
      unfold FormR at h1
      rw [h1]
    have hpl : (parseS ws).1.length ≤ 32 := by
      unfold parseS
      split
      · simp
      · split
        · simp
        · split
          · simp
          · split
            · simp
            · simp
              omega
    have hsm := fun H => same_c (H := H) (t := .shut) (u := .shut) hE (parseS ws).1 (parseS ws).1 (by omega)
    have hfl : (formatS ts).length ≤ 9223372036854775807 := by
      unfold formatS
      split
      · rename_i x hx
        have h1 := (wordsN_len x 0).2
        have h2 := tree_sz hx
        omega
      · simp
    have htx := fun H => texts_c (H := H) (t := .shut) (u := .shut) hE.t.r (formatS ts) (formatS ts) hfl
    by_cases h8 : ws.length < 8
    · have h8' : (ws.length : Int) < 8 := by omega
      have hf2 := fun τ H => hfew τ H
      rw [hfull h8] at hf2
      have htake : (strs ws).take ws.length = strs ws := List.take_of_length_le (by simp)
      cases hfw : fewS ts ws [] with
      | false =>
        simp [hfw] at hf2
        simp [F3, hawake, h60, h60', h8, h8', hu, htake, hf2]
      | true =>
        simp [hfw] at hf2
        simp [F3, hawake, h60, h60', h8, h8', hu, htake, hf2, hp, hrp', hsm, hfo, hrf, htx]
    · have h8' : ¬ (ws.length : Int) < 8 := by omega
      have h8l : 8 ≤ ws.length := by omega
      cases hfw : fewS ts (ws.take 8) [] with
      | false =>
        simp [hfw] at hfew
        simp [F3, hawake, h60, h60', h8, h8', h8l, hu, htk, hfew]
      | true =>
        simp [hfw] at hfew
        simp [F3, hawake, h60, h60', h8, h8', h8l, hu, htk, hfew, hp, hrp', hsm, hfo, hrf, htx]
end Go.Flat
