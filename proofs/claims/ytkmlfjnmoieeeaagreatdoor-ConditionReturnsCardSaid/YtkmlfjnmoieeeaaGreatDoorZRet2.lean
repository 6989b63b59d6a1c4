/- ConditionReturns: the law's own function returns true, for every input, under the hypotheses on its environment. -/
import Derived.Test.YtkmlfjnmoieeeaaGreatDoorZRet
set_option linter.unusedVariables false
set_option linter.unusedSimpArgs false
namespace Go.Flat
variable {E : Env} {H : Heap}
theorem mem_dd : ∀ (l : List Str) (p x : Str), x ∈ l → x = p ∨ x ∈ dd p l
  | [], p, x, h => by simp at h
  | b :: l, p, x, h => by
    simp only [dd]
    rcases List.mem_cons.1 h with rfl | h
    · by_cases hx : x = p
      · exact .inl hx
      · rw [if_neg hx]
        exact .inr (by simp)
    · by_cases hb : b = p
      · rw [if_pos hb]
        exact mem_dd l p x h
      · rw [if_neg hb]
        rcases mem_dd l b x h with rfl | h2
        · exact .inr (by simp)
        · exact .inr (by simp [h2])
theorem mem_dedup {l : List Str} {x : Str} (h : x ∈ l) : x ∈ dedup l := by
  match l with
  | [] => simp at h
  | a :: l =>
    simp only [dedup]
    rcases List.mem_cons.1 h with rfl | h
    · simp
    · rcases mem_dd l a x h with rfl | h2
      · simp
      · simp [h2]
theorem mem_refers {l : List Test} {t : Test} (h : t ∈ l) (hs : t.step ≠ []) : t.step ∈ referS l := by
  unfold referS
  apply mem_dedup
  unfold sortS
  rw [List.mem_mergeSort]
  unfold names
  rw [List.mem_filter]
  exact ⟨List.mem_map_of_mem h, by simp [hs]⟩
theorem tstep_leafs {kn : Str → Bool} {i : Int} {t : Test} {st st' : List Node} (h : tstep kn i t st = some st') : isLeaf kn t = true ∨ (t.kind = 4 ∧ t.bare = true) ∨ ((t.kind = 5 ∨ t.kind = 6) ∧ t.bare = true) := by
  unfold tstep at h
  split at h
  · rename_i hc; exact .inr (.inl hc)
  · split at h
    · rename_i hc; exact .inr (.inr hc)
    · split at h
      · rename_i hc; exact .inl hc
      · simp at h
theorem trun_kn {kn kn' : Str → Bool} : ∀ {l : List Test} {i : Int} {st st' : List Node}, (∀ t ∈ l, isLeaf kn t = true → isLeaf kn' t = true) → trun kn i l st = some st' → trun kn' i l st = some st'
  | [], i, st, st', hm, h => h
  | t :: l, i, st, st', hm, h => by
    simp only [trun] at h ⊢
    cases hs : tstep kn i t st with
    | none => simp [hs] at h
    | some s1 =>
      simp [hs] at h
      have hs' : tstep kn' i t st = some s1 := by
        unfold tstep at hs ⊢
        split
        · rename_i hc
          rwa [if_pos hc] at hs
        · rename_i hc
          rw [if_neg hc] at hs
          split
          · rename_i hc2
            rwa [if_pos hc2] at hs
          · rename_i hc2
            rw [if_neg hc2] at hs
            split at hs
            · rename_i hl
              rw [if_pos (hm t (by simp) hl)]
              exact hs
            · simp at hs
      rw [hs']
      exact trun_kn (fun u hu => hm u (by simp [hu])) h
theorem leaf_refers {l : List Test} {t : Test} (ht : t ∈ l) (h : isLeaf Nm.stepN t = true) : isLeaf (fun s => decide (s ∈ referS l)) t = true := by
  have ho : okL t := h
  rcases okL_cases ho with rfl | ⟨hs, hc⟩
  · simp [isLeaf, opT, Test.bare]
  · have hne : t.step ≠ [] := by intro e; rw [e, step_nil] at hs; simp at hs
    have hm := mem_refers ht hne
    rcases hc with hc | hc | ⟨o, n, hc, h1, h2⟩
    · rw [hc]; simp [isLeaf, hm]
    · rw [hc]; simp [isLeaf, hm]
    · rw [hc]; simp [isLeaf, hm]; omega
theorem valid_refers {l : List Test} {x : Node} (h : tree Nm.stepN l = some x) : (onS l (referS l)).isSome = true := by
  obtain ⟨h1, h2⟩ := tree_run h
  unfold onS
  split
  · rfl
  · have h3 := trun_kn (kn' := fun s => decide (s ∈ referS l)) (fun t ht hl => leaf_refers ht hl) h2
    unfold tree
    rw [if_neg (by omega), h3]
    rfl
theorem words_short : ∀ (x : Node) (least : Int), x.All okL → ∀ w ∈ wordsN x least, w.length ≤ 10000 := by
  have hpar : ∀ (s least : Int) (l : List Str), (∀ w ∈ l, w.length ≤ 10000) → ∀ w ∈ par s least l, w.length ≤ 10000 := by
    intro s least l h w hw
    unfold par at hw
    split at hw
    · simp at hw
      rcases hw with rfl | hw | rfl
      · simp [wOpen]
      · exact h w hw
      · simp [wClose]
    · exact h w hw
  intro x
  induction x with
  | leaf t i =>
    intro least h
    refine hpar _ _ _ ?_
    have ho : okL t := h
    rcases okL_cases ho with rfl | ⟨hs, hc⟩
    · intro w hw
      simp [leafW, opT] at hw
      subst hw
      simp [wFailed]
    · have hsl : t.step.length ≤ 31 := by
        simp [Nm.stepN, Nm.valid] at hs
        exact hs.1.1.2
      rcases hc with hc | hc | ⟨o, n, hc, h1, h2⟩
      · rw [hc]
        intro w hw
        simp [leafW] at hw
        rcases hw with rfl | rfl
        · omega
        · simp [wFailed]
      · rw [hc]
        intro w hw
        simp [leafW] at hw
        rcases hw with rfl | rfl
        · omega
        · simp [wRan]
      · rw [hc]
        intro w hw
        simp [leafW] at hw
        rcases hw with rfl | rfl | rfl | rfl
        · omega
        · simp [wRc]
        · have : o = 0 ∨ o = 1 ∨ o = 2 ∨ o = 3 ∨ o = 4 ∨ o = 5 := by omega
          rcases this with rfl | rfl | rfl | rfl | rfl | rfl <;> simp [rels]
        · rw [itoa_nat]
          have := (dec_len n).2
          omega
  | neg a ih =>
    intro least h
    refine hpar _ _ _ fun w hw => ?_
    rcases List.mem_cons.1 hw with rfl | hw
    · simp [wNot]
    · exact ih 2 h w hw
  | pair and a b iha ihb =>
    intro least h
    refine hpar _ _ _ fun w hw => ?_
    rcases List.mem_append.1 hw with hw | hw
    · exact iha _ h.1 w hw
    · rcases List.mem_cons.1 hw with rfl | hw
      · cases and <;> simp [wAnd, wOr]
      · exact ihb _ h.2 w hw
theorem parse_fw (hE : EnvF E) {t : Tail} {l : List Test} {x : Node} (h : tree Nm.stepN l = some x) : call E 8 [.sl t (strs (wordsN x 0))] H = some (.tup [.sl .shut (tests l), .int .i64 0, .int .i64 0], H) := by
  have h1 := words_short x 0 (tree_All (fun t ht => ht) h)
  have h2 := (wordsN_len x 0).2
  have h3 := tree_sz h
  have := parse_c (H0 := H) (t := t) hE.t.q.e (wordsN x 0) ⟨by omega, fun w hw => Nat.le_trans (h1 w hw) (by omega)⟩
  rw [parse_back h] at this
  exact this
set_option maxHeartbeats 2000000 in
theorem returns_law (hE : EnvF E) (hS : EnvS E) (hf5 : E.func 5 = some F5) (hawake : call E 6 [] H = some (.bool true, H)) {t1 t2 : Tail} (ts : List Test) (ws : List Str) (ht : ts.length ≤ 9223372036854775807) (hw : ws.length ≤ 9223372036854775807) :
    call E 5 [.sl t1 (tests ts), .sl t2 (strs ws)] H = some (.bool true, H) := by
  refine call_wp hf5 (hE.p _ (by decide)) ⟨rfl, by simp [F5], ?_⟩
  have hfew : ∀ (H : Heap), call E 7 [.sl t1 (tests ts), .sl .exact [], .sl .exact []] H = some (.bool (fewS ts [] []), H) := fun H => few_c (t := t1) (u := .exact) (v := .exact) hE.t.q.e.d ts ht [] (by simp) [] (by simp)
  cases hfw : fewS ts [] [] with
  | false =>
    simp [hfw] at hfew
    simp [F5, hawake, hfew]
  | true =>
    simp [hfw] at hfew
    have h40 : ts.length ≤ 40 := by simp [fewS] at hfw; omega
    by_cases h60 : 60 < ws.length
    · have h60' : (60 : Int) < ws.length := by omega
      simp [F5, hawake, hfew, h60, h60']
    · have h60' : ¬ (60 : Int) < ws.length := by omega
      simp [F5, hawake, hfew, h60, h60']
      refine wp_loop (fun n T H' => ∃ k : Nat, n = ws.length - k ∧ k ≤ ws.length ∧ T 29 = .int .i64 k ∧ T 28 = .int .i64 ws.length ∧ T 27 = .sl t2 (strs ws) ∧ T 0 = .sl t1 (tests ts) ∧ T 1 = .sl t2 (strs ws) ∧ (∃ L, H' = H ++ L) ∧ ∀ j (hj : j < ws.length), j < k → ws[j].length ≤ 40) ?_ (n := ws.length) ⟨0, ?_⟩
      · rintro n T H' ⟨k, rfl, hk, h29, h28, h27, h0, h1, ⟨L, rfl⟩, hno⟩
        by_cases hk' : k < ws.length
        · have hg : (strs ws)[k]? = some (.str ws[k]) := by simp [strs, hk']
          have hwk : IntKind.i64.wrap ((k : Int) + 1) = (k : Int) + 1 := wrap64 (by omega) (by omega)
          by_cases hc : ws[k].length ≤ 40
          · have hc' : ¬ (40 < ws[k].length) := by omega
            have hc2 : ¬ ((40 : Int) < ws[k].length) := by omega
            simp [h29, h28, h27, h0, h1, hk', iaSl_at hg, hwk, hc', hc2]
            refine ⟨_, ?_, k + 1, rfl, by omega, by omega, fun j hj hjk => ?_⟩
            · omega
            · by_cases hjk' : j = k
              · subst hjk'; exact hc
              · exact hno j hj (by omega)
          · have hc' : (40 < ws[k].length) := by omega
            have hc2 : ((40 : Int) < ws[k].length) := by omega
            simp [h29, h28, h27, h0, h1, hk', iaSl_at hg, hwk, hc', hc2]
        · have hshort : ∀ w ∈ ws, w.length ≤ 281474976710656 := by
            intro w hw
            obtain ⟨i, hi, rfl⟩ := List.getElem_of_mem hw
            have := hno i hi (by omega)
            omega
          have hfo := fun H => format_c (H := H) (t := t1) hE ts (by omega)
          have hp := fun H => parse_c (H0 := H) (t := t2) hE.t.q.e ws ⟨by omega, hshort⟩
          have hfmt : ∀ {l : List Test} {x : Node}, tree Nm.stepN l = some x → formatS l = wordsN x 0 := fun h => by simp [formatS, h]
          have hp0 : ∀ H, ∃ a : Int, call E 8 [.sl t2 (strs ws)] H = some (.tup [.sl .shut (tests (parseS ws).1), .int .i64 (parseS ws).2.1, .int .i64 (parseS ws).2.2], H) := fun H => ⟨0, hp H⟩
          have second : ((parseS ws).2.2 ≠ 0 ∧ (parseS ws).1 = []) ∨ (∃ l fw, parseS ws = (l, 0, 0) ∧ l.length ≤ 32 ∧ formatS l = fw ∧ (∀ H, call E 8 [.sl .shut (strs fw)] H = some (.tup [.sl .shut (tests l), .int .i64 0, .int .i64 0], H)) ∧ (onS l (referS l)).isSome = true) := by
            by_cases he : (parseS ws).2.2 = 0
            · right
              rcases parse_tree ws he with ⟨_, h⟩ | ⟨l, x, h, hx⟩
              · refine ⟨[], [], h, by simp, by simp [formatS, tree, trun, single], fun H => ?_, by simp [onS]⟩
                have := parse_c (H0 := H) (t := .shut) hE.t.q.e [] ⟨by simp, by simp⟩
                simpa [parseS] using this
              · exact ⟨l, wordsN x 0, h, (tree_run hx).1, hfmt hx, fun H => parse_fw hE hx, valid_refers hx⟩
            · exact .inl ⟨he, parse_err ws he⟩
          have first : formatS ts = [] ∨ (0 < (formatS ts).length ∧ (∀ H, call E 8 [.sl .shut (strs (formatS ts))] H = some (.tup [.sl .shut (tests ts), .int .i64 0, .int .i64 0], H))) := by
            cases hx : tree Nm.stepN ts with
            | none => left; simp [formatS, hx]
            | some x =>
              right
              rw [hfmt hx]
              exact ⟨(wordsN_len x 0).1, fun H => parse_fw hE hx⟩
          have hs1 := fun H => same_c (H := H) (t := .shut) (u := t1) hE ts ts (by omega)
          have hnil : strs ([] : List Str) = [] := rfl
          rcases first with hf1 | ⟨hf1, hf2⟩
          · rw [hf1] at hfo
            rcases second with ⟨s1, s2⟩ | ⟨l, fw, s1, s2, s3, s4, s5⟩
            · rw [s2] at hp
              simp [h29, h28, h27, h0, h1, hk', hfo, hnil, hp, s1]
            · rw [s1] at hp
              have hfl := fun H => format_c (H := H) (t := .shut) hE l (by omega)
              rw [s3] at hfl
              have hs2 := fun H => same_c (H := H) (t := .shut) (u := .shut) hE l l (by omega)
              have hr := fun H => refers18_c (H := H) (t := .shut) hS l (by omega)
              have hrl : (referS l).length ≤ 9223372036854775807 := by
                have h1 := dedup_len (sortS (names l))
                rw [sortS_length] at h1
                have := names_len l
                unfold referS
                omega
              have hv := fun H => valid_c (H := H) (t := .shut) (u := .shut) hE.t.q.e.d l (by omega) (referS l) hrl
              rw [s5] at hv
              simp [h29, h28, h27, h0, h1, hk', hfo, hnil, hp, hfl, s4, hs2, hr, hv]
          · have hf1' : (0 : Int) < (formatS ts).length := by omega
            rcases second with ⟨s1, s2⟩ | ⟨l, fw, s1, s2, s3, s4, s5⟩
            · rw [s2] at hp
              simp [h29, h28, h27, h0, h1, hk', hfo, hf1, hf1', hf2, hs1, hp, s1]
            · rw [s1] at hp
              have hfl := fun H => format_c (H := H) (t := .shut) hE l (by omega)
              rw [s3] at hfl
              have hs2 := fun H => same_c (H := H) (t := .shut) (u := .shut) hE l l (by omega)
              have hr := fun H => refers18_c (H := H) (t := .shut) hS l (by omega)
              have hrl : (referS l).length ≤ 9223372036854775807 := by
                have h1 := dedup_len (sortS (names l))
                rw [sortS_length] at h1
                have := names_len l
                unfold referS
                omega
              have hv := fun H => valid_c (H := H) (t := .shut) (u := .shut) hE.t.q.e.d l (by omega) (referS l) hrl
              rw [s5] at hv
              simp [h29, h28, h27, h0, h1, hk', hfo, hf1, hf1', hf2, hs1, hp, hfl, s4, hs2, hr, hv]
      · simp
end Go.Flat
