/- Refers of the reference: what it comes to, for every input; and that it is as the program's. -/
import Derived.Test.YtkmlfjnmoieeeaaGreatDoorZRefers2
import Derived.Sort.Walk0
set_option linter.unusedVariables false
set_option linter.unusedSimpArgs false
namespace Go.Flat
variable {E : Env} {H : Heap} {c : CallT} {T : Temps}
def ins (s : Str) (out : List Str) : List Str :=
  if s = [] then out else
    let j := (out.takeWhile (fun x => decide (x < s))).length
    if out[j]? = some s then out else out.take j ++ s :: out.drop j
def insAll (l : List Test) : List Str := l.foldl (fun out t => ins t.step out) []
theorem insAll_take {l : List Test} {k : Nat} (h : k < l.length) : insAll (l.take (k + 1)) = ins l[k].step (insAll (l.take k)) := by
  rw [List.take_succ_eq_append_getElem h, insAll, List.foldl_append]
  rfl
theorem ins_len (s : Str) (out : List Str) : (ins s out).length ≤ out.length + 1 := by
  unfold ins
  have := (List.takeWhile_sublist (fun x => decide (x < s)) (l := out)).length_le
  split
  · omega
  · simp only
    split <;> simp
    omega
theorem insAll_len : ∀ (k : Nat) (l : List Test), k ≤ l.length → (insAll (l.take k)).length ≤ k
  | 0, l, _ => by simp [insAll]
  | k + 1, l, h => by
    rw [insAll_take h]
    have := insAll_len k l (by omega)
    have := ins_len (l[k]'h).step (insAll (l.take k))
    omega
theorem takeWhile_at {p : Str → Bool} : ∀ {l : List Str} {j : Nat}, j ≤ l.length → (∀ i (h : i < l.length), i < j → p l[i] = true) → (∀ h : j < l.length, p l[j] = false) → (l.takeWhile p).length = j
  | [], j, h, _, _ => by simp at h; simp [h]
  | a :: l, 0, _, _, h2 => by
    have := h2 (by simp)
    simp only [List.getElem_cons_zero] at this
    rw [List.takeWhile_cons, this]
    rfl
  | a :: l, j + 1, h, h1, h2 => by
    have h0 := h1 0 (by simp) (by omega)
    simp only [List.getElem_cons_zero] at h0
    rw [List.takeWhile_cons, h0]
    simp only [if_true, List.length_cons]
    rw [takeWhile_at (j := j) (by simpa using h) (fun i hi hij => by have := h1 (i + 1) (by simpa using hi) (by omega); rwa [List.getElem_cons_succ] at this) (fun hj => by have := h2 (by simpa using hj); rwa [List.getElem_cons_succ] at this)]
theorem strs_take (l : List Str) (j : Nat) : (strs l).take j = strs (l.take j) := by simp [strs]
theorem strs_drop (l : List Str) (j : Nat) : (strs l).drop j = strs (l.drop j) := by simp [strs]
theorem strs_append (l m : List Str) : strs l ++ strs m = strs (l ++ m) := by simp [strs]
theorem strs_cons (s : Str) (l : List Str) : PV.str s :: strs l = strs (s :: l) := by simp [strs]
theorem strs_nil : strs [] = [] := rfl
theorem strs_inj {l m : List Str} : strs l = strs m ↔ l = m := by
  constructor
  · intro h
    have := congrArg unstrs h
    rw [strs, strs, unstrs_map, unstrs_map] at this
    injection this
  · intro h; rw [h]
set_option maxHeartbeats 2000000 in
theorem refers19_c (hE : EnvS E) {t : Tail} (l : List Test) (hl : l.length ≤ 1000000) : call E 19 [.sl t (tests l)] H = some (.sl .shut (strs (insAll l)), H) := by
  refine call_wp hE.f19 hE.p19 ⟨rfl, by simp [F19], ?_⟩
  simp [F19]
  refine wp_loop (fun n T H' => ∃ k : Nat, n = l.length - k ∧ k ≤ l.length ∧ T 4 = .int .i64 k ∧ T 0 = .sl t (tests l) ∧ (∃ τ, T 3 = .sl τ (strs (insAll (l.take k)))) ∧ ∃ L, H' = H ++ L) ?_ (n := l.length) ⟨0, ?_⟩
  · rintro n T H' ⟨k, rfl, hk, h4, h0, ⟨τ, h3⟩, L, rfl⟩
    by_cases hk' : k < l.length
    · have hg : (tests l)[k]? = some (l[k].enc) := by simp [tests, hk']
      have hw : IntKind.i64.wrap ((k : Int) + 1) = (k : Int) + 1 := wrap64 (by omega) (by omega)
      have hnt := insAll_take hk'
      have hlen := insAll_len k l hk
      generalize l[k] = te at hg hnt
      obtain ⟨kd, s, o, m⟩ := te
      simp only at hnt
      have next : ∀ (xs : List PV), xs = strs (insAll (l.take (k + 1))) → ∃ m, m < l.length - k ∧ ∃ k1 : Nat, m = l.length - k1 ∧ k1 ≤ l.length ∧ (k : Int) + 1 = k1 ∧ xs = strs (insAll (l.take k1)) :=
        fun xs h2 => ⟨l.length - (k + 1), by omega, k + 1, rfl, by omega, by omega, h2⟩
      generalize insAll (l.take k) = out at h3 hnt hlen
      simp [h4, h0, hk', iaSl_at hg]
      refine wp_loop (fun n T H' => ∃ j : Nat, n = out.length - j ∧ j ≤ out.length ∧ T 6 = .int .i64 j ∧ T 4 = .int .i64 k ∧ T 0 = .sl t (tests l) ∧ T 3 = .sl τ (strs out) ∧ T 5 = .str s ∧ H ++ L = H' ∧ ∀ i (h : i < out.length), i < j → decide (out[i] < s) = true) ?_ (n := out.length) ⟨0, ?_⟩
      · rintro n T H' ⟨j, rfl, hj, h6, h4, h0, h3, h5, rfl, hlt⟩
        have hwj : IntKind.i64.wrap ((j : Int) + 1) = (j : Int) + 1 := wrap64 (by omega) (by omega)
        by_cases hj' : j < out.length
        · have hgj : (strs out)[j]? = some (.str out[j]) := by simp [strs, hj']
          by_cases hls : out[j] < s
          · have hb : Op.bytesLess out[j] s = true := by rw [Go.Proofs.bytesLess_eq]; simpa using hls
            simp [h6, h4, h0, h3, h5, hj', iaSl_at hgj, hb, hwj]
            refine ⟨_, ?_, j + 1, rfl, by omega, by omega, fun i hi hij => ?_⟩
            · omega
            · by_cases e : i = j
              · subst e; exact hls
              · simpa using hlt i hi (by omega)
          · have hb : Op.bytesLess out[j] s = false := by rw [Go.Proofs.bytesLess_eq]; simpa using hls
            have hpos : (out.takeWhile (fun x => decide (x < s))).length = j := takeWhile_at hj hlt (fun _ => by simpa using hls)
            have hins : ins s out = if s = [] then out else if out[j] = s then out else out.take j ++ s :: out.drop j := by
              simp [ins, hpos, hj']
            have hbe : ¬ ((j : Int) = out.length) := by omega
            by_cases hs : s = []
            · subst hs
              have hn := next (strs out) (by rw [hnt, hins, if_pos rfl])
              simp [h6, h4, h0, h3, h5, hj', iaSl_at hgj, hb, hw]
              simpa using hn
            · by_cases he : out[j] = s
              · have hn := next (strs out) (by rw [hnt, hins, if_neg hs, if_pos he])
                have hne : ¬ j = out.length := by omega
                have hbs : Op.bytesLess s s = false := by rw [he] at hb; exact hb
                simp [h6, h4, h0, h3, h5, hj', iaSl_at hgj, hb, hbs, hw, hs, he, hne, hbe]
                simpa using hn
              · have hn := next (strs (out.take j ++ s :: out.drop j)) (by rw [hnt, hins, if_neg hs, if_neg he])
                have hne : ¬ j = out.length := by omega
                have hjl : j ≤ out.length := by omega
                have hjne : ¬ out.length ≤ j := by omega
                have hsz : out.length + 1 ≤ 4294967296 := by omega
                rcases Nat.eq_zero_or_pos j with hj0 | hj0
                · subst hj0
                  have hon : ¬ out = [] := by intro e; subst e; simp at hj'
                  have hia0 : iaSlA 1 (.sl τ (strs out)) 0 = some (.fp [.str out[0]]) := iaSl_at (i := 0) hgj rfl
                  have hpo : 0 < out.length := by omega
                  have hne0 : ¬ (0 : Int) = out.length := by omega
                  simp [h6, h4, h0, h3, h5, hj', hia0, hb, hw, hs, he, hne0, strs_uniform, hpo, hon, hsz, Nat.add_comm 1 out.length]
                  simpa [strs_cons] using hn
                · have hj1 : ¬ j = 0 := by omega
                  have hj4 : j ≤ 4294967296 := by omega
                  have hj7 : ¬ out.length - j = 0 := by omega
                  have hun : uniform 1 (strs (out.take j) ++ [PV.str s]) = true := by
                    rw [show strs (out.take j) ++ [PV.str s] = strs (out.take j ++ [s]) by simp [strs]]
                    exact strs_uniform _
                  have hj5 : j + 1 ≤ 4294967296 := by omega
                  have hj6 : j + 1 + (out.length - j) ≤ 4294967296 := by omega
                  simp [h6, h4, h0, h3, h5, hj', iaSl_at hgj, hb, hw, hs, he, hne, hbe, hjl, strs_uniform, strs_take, strs_drop, hj1, Nat.min_eq_left hjl, hjne, hj4, hj5, hj6, hj7, hun]
                  simpa [strs_cons, strs_append] using hn
        · have hje : j = out.length := by omega
          subst hje
          have hpos : (out.takeWhile (fun x => decide (x < s))).length = out.length := takeWhile_at hj hlt (fun h => by omega)
          have hins : ins s out = if s = [] then out else out ++ [s] := by
            simp [ins, hpos]
          by_cases hs : s = []
          · subst hs
            have hn := next (strs out) (by rw [hnt, hins, if_pos rfl])
            simp [h6, h4, h0, h3, h5, hw]
            simpa using hn
          · have hn := next (strs (out ++ [s])) (by rw [hnt, hins, if_neg hs])
            by_cases ho : out = []
            · subst ho
              simp [h6, h4, h0, h3, h5, hw, hs, strs_nil]
              simpa [strs] using hn
            · have hdrop : List.drop out.length (strs out) = [] := List.drop_eq_nil_of_le (by simp)
              have htake : List.take out.length (strs out) = strs out := List.take_of_length_le (by simp)
              have hun : uniform 1 (strs out ++ [PV.str s]) = true := by
                rw [show strs out ++ [PV.str s] = strs (out ++ [s]) by simp [strs]]
                exact strs_uniform _
              have hz4 : out.length ≤ 4294967296 := by omega
              have hz5 : out.length + 1 ≤ 4294967296 := by omega
              simp [h6, h4, h0, h3, h5, hw, hs, strs_uniform, ho, hdrop, htake, hz4, hz5, hun]
              simpa [strs] using hn
      · simp [h3, h4, h0]
    · have hke : k = l.length := by omega
      subst hke
      rw [List.take_length] at h3
      simp [h4, h0, h3]
      exact leave_sl (strs_plain _) L
  · refine ⟨by simp, Nat.zero_le _, by simp, by simp, ⟨.exact, by simp [insAll, strs]⟩, [], by simp⟩
/-! ### The plain law -/
theorem ins_mem (s : Str) (out : List Str) (x : Str) : x ∈ ins s out ↔ x ∈ out ∨ (x = s ∧ s ≠ []) := by
  unfold ins
  by_cases hs : s = []
  · simp [hs]
  · simp only [if_neg hs]
    split
    · rename_i h
      have hm : s ∈ out := List.mem_of_getElem? h
      constructor
      · exact .inl
      · rintro (h | ⟨rfl, _⟩)
        · exact h
        · exact hm
    · conv => rhs; rw [← List.take_append_drop (out.takeWhile (fun x => decide (x < s))).length out]
      simp only [List.mem_append, List.mem_cons, hs, ne_eq, not_false_eq_true, and_true]
      constructor
      · rintro (h | h | h)
        · exact .inl (.inl h)
        · exact .inr h
        · exact .inl (.inr h)
      · rintro ((h | h) | h)
        · exact .inl h
        · exact .inr (.inr h)
        · exact .inr (.inl h)
theorem drop_takeWhile_ge {s : Str} : ∀ {out : List Str}, Inc out → ∀ y ∈ out.drop (out.takeWhile (fun x => decide (x < s))).length, s ≤ y
  | [], _, y, hy => by simp at hy
  | a :: l, hi, y, hy => by
    have hi' := List.pairwise_cons.1 hi
    rw [List.takeWhile_cons] at hy
    by_cases ha : a < s
    · simp only [ha, decide_true, if_true, List.length_cons, List.drop_succ_cons] at hy
      exact drop_takeWhile_ge hi'.2 y hy
    · simp only [ha, decide_false, Bool.false_eq_true, if_false, List.length_nil, List.drop_zero] at hy
      have hsa : s ≤ a := List.not_lt.1 ha
      rcases List.mem_cons.1 hy with e | h
      · subst e; exact hsa
      · exact List.le_trans hsa (List.le_of_lt (hi'.1 y h))
theorem take_takeWhile_lt {s : Str} (out : List Str) : ∀ y ∈ out.take (out.takeWhile (fun x => decide (x < s))).length, y < s := by
  intro y hy
  have h := List.prefix_iff_eq_take.1 (List.takeWhile_prefix (fun x : Str => decide (x < s)) (l := out))
  rw [← h] at hy
  simpa using List.all_eq_true.1 (List.all_takeWhile (l := out) (p := fun x => decide (x < s))) y hy
theorem ins_inc {s : Str} {out : List Str} (hi : Inc out) : Inc (ins s out) := by
  unfold ins
  by_cases hs : s = []
  · rw [if_pos hs]; exact hi
  · simp only [if_neg hs]
    split
    · exact hi
    · rename_i hne
      have hge := drop_takeWhile_ge (s := s) hi
      have hlt := take_takeWhile_lt (s := s) out
      revert hne hge hlt
      generalize (out.takeWhile (fun x => decide (x < s))).length = j
      intro hne hge hlt
      have hall := hi
      rw [← List.take_append_drop j out] at hall
      obtain ⟨h1, h2, h3⟩ := List.pairwise_append.1 hall
      have hgt : ∀ y ∈ out.drop j, s < y := by
        intro y hy
        refine lt_of_le_ne (hge y hy) (fun e => ?_)
        subst e
        cases hd : out.drop j with
        | nil => rw [hd] at hy; simp at hy
        | cons z r =>
          have hz : out[j]? = some z := by
            have := congrArg (fun l : List Str => l[0]?) hd
            simpa using this
          rw [hd] at hy
          rcases List.mem_cons.1 hy with e | hy
          · subst e; exact hne hz
          · rw [hd] at h2
            have := (List.pairwise_cons.1 h2).1 s hy
            exact absurd this (List.not_lt.2 (hge z (by rw [hd]; simp)))
      refine List.pairwise_append.2 ⟨h1, List.pairwise_cons.2 ⟨hgt, h2⟩, fun x hx y hy => ?_⟩
      rcases List.mem_cons.1 hy with e | hy
      · subst e; exact hlt x hx
      · exact h3 x hx y hy
theorem foldIns : ∀ (l : List Test) (out : List Str), Inc out → Inc (l.foldl (fun out t => ins t.step out) out) ∧ ∀ x, x ∈ l.foldl (fun out t => ins t.step out) out ↔ x ∈ out ∨ x ∈ names l
  | [], out, h => ⟨h, fun x => by simp [names]⟩
  | t :: l, out, h => by
    obtain ⟨h1, h2⟩ := foldIns l (ins t.step out) (ins_inc h)
    refine ⟨h1, fun x => ?_⟩
    simp only [List.foldl_cons]
    rw [h2 x, ins_mem]
    have : names (t :: l) = if t.step = [] then names l else t.step :: names l := by
      by_cases hs : t.step = [] <;> simp [names, hs]
    rw [this]
    by_cases hs : t.step = []
    · simp [hs]
    · simp [hs, or_assoc]
theorem insAll_eq (l : List Test) : insAll l = referS l := by
  obtain ⟨h1, h2⟩ := foldIns l [] List.Pairwise.nil
  refine inc_unique h1 (referS_inc l) fun x => ?_
  rw [referS_mem]
  exact (h2 x).trans (by simp)
end Go.Flat
