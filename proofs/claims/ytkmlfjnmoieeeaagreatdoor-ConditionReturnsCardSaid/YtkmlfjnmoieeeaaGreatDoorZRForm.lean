/- The reference's Format, its parts: what tests are valid, parentheses, joining. -/
import Derived.Test.YtkmlfjnmoieeeaaGreatDoorZForm
import Derived.Test.YtkmlfjnmoieeeaaGreatDoorZEval
set_option linter.unusedVariables false
set_option linter.unusedSimpArgs false
namespace Go.Flat
variable {E : Env} {H : Heap}
theorem basicF_c (hE : EnvF E) (t : Test) : call E 57 [t.enc, .sl .exact [], .bool true] H = some (.bool (isLeaf Nm.stepN t), H) := by
  refine call_wp hE.f57 (hE.p _ (by decide)) ⟨rfl, by simp [F57], ?_⟩
  have hi : ∀ H : Heap, call E 49 [.sl .exact [], .str t.step] H = some (.int .i64 (-1), H) := fun H => indexR_c (H := H) (t := .exact) hE.t.r [] t.step (by simp)
  have hst := fun H => Nm.rstep_c (H := H) hE.t.q.e.n t.step
  obtain ⟨k, s, o, m⟩ := t
  simp only at hi hst
  have hkc : k = 0 ∨ k = 1 ∨ k = 2 ∨ k = 3 ∨ (k ≠ 0 ∧ k ≠ 1 ∧ k ≠ 2 ∧ k ≠ 3) := by omega
  cases hm : Nm.stepN s with
  | false =>
    rw [hm] at hst
    rcases hkc with rfl | rfl | rfl | rfl | ⟨h0, h1, h2, h3⟩
    · simp [F57, Test.enc, hi, hst, isLeaf, Test.bare, hm]
    · simp [F57, Test.enc, hi, hst, isLeaf, Test.bare, hm]
    · simp [F57, Test.enc, hi, hst, isLeaf, Test.bare, hm]
    · simp [F57, Test.enc, hi, hst, isLeaf, Test.bare, hm]
      by_cases c0 : s = [] <;> by_cases c1 : o = 0 <;> by_cases c2 : m = 0 <;> simp [c0, c1, c2]
    · simp [F57, Test.enc, hi, hst, isLeaf, Test.bare, hm, h0, h1, h2, h3]
  | true =>
    rw [hm] at hst
    rcases hkc with rfl | rfl | rfl | rfl | ⟨h0, h1, h2, h3⟩
    · by_cases c1 : 0 ≤ o <;> by_cases c2 : o ≤ 5 <;> by_cases c3 : 0 ≤ m <;> by_cases c4 : m ≤ 4095 <;> simp [F57, Test.enc, hi, hst, isLeaf, Test.bare, hm, c1, c2, c3, c4]
    · by_cases c1 : o = 0 <;> by_cases c2 : m = 0 <;> simp [F57, Test.enc, hi, hst, isLeaf, Test.bare, hm, c1, c2]
    · by_cases c1 : o = 0 <;> by_cases c2 : m = 0 <;> simp [F57, Test.enc, hi, hst, isLeaf, Test.bare, hm, c1, c2]
    · simp [F57, Test.enc, hi, hst, isLeaf, Test.bare, hm]
      by_cases c0 : s = [] <;> by_cases c1 : o = 0 <;> by_cases c2 : m = 0 <;> simp [c0, c1, c2]
    · simp [F57, Test.enc, hi, hst, isLeaf, Test.bare, hm, h0, h1, h2, h3]
def validF (l : List Test) : Bool := decide (l = []) || (tree Nm.stepN l).isSome
theorem drun_valid (l : List Test) : (match drun Nm.stepN l 0 with
  | some d => decide (l.length ≤ 32) && (decide (d = 1) || decide (l.length = 0))
  | none => false) = validF l := by
  unfold validF
  have h := drun_trun Nm.stepN l 0 []
  simp only [List.length_nil] at h
  by_cases h0 : l = []
  · subst h0
    simp [drun]
  · have hl : ¬ l.length = 0 := fun e => h0 (List.eq_nil_of_length_eq_zero e)
    rw [← h]
    unfold tree
    by_cases h32 : 32 < l.length
    · have : ¬ l.length ≤ 32 := by omega
      simp [h32, this, h0]
      cases trun Nm.stepN 0 l [] <;> rfl
    · have h33 : l.length ≤ 32 := by omega
      simp only [h32, if_false]
      cases ht : trun Nm.stepN 0 l [] with
      | none => simp [single, h0]
      | some st =>
        match st with
        | [] => simp [single, hl, h0]
        | [a] => simp [single, h33]
        | a :: b :: r => simp [single, hl, h0]
set_option maxHeartbeats 1000000 in
theorem validF_c (hE : EnvF E) {t : Tail} (l : List Test) (hl : l.length ≤ 9223372036854775800) :
    call E 28 [.sl t (tests l), .sl .exact [], .bool true] H = some (.bool (validF l), H) := by
  rw [← drun_valid]
  refine call_wp hE.f28 (hE.p _ (by decide)) ⟨rfl, by simp [F28], ?_⟩
  generalize hV : (match drun Nm.stepN l 0 with
    | some d => decide (l.length ≤ 32) && (decide (d = 1) || decide (l.length = 0))
    | none => false) = V
  simp [F28]
  refine wp_loop (fun n T H' => ∃ (k d : Nat), n = l.length - k ∧ k ≤ l.length ∧ T 8 = .int .i64 k ∧ T 7 = .int .i64 d ∧ T 0 = .sl t (tests l) ∧ T 1 = .sl .exact [] ∧ T 2 = .bool true ∧ (∃ L, H' = H ++ L) ∧ d ≤ k ∧ drun Nm.stepN l 0 = drun Nm.stepN (l.drop k) d) ?_ (n := l.length) ⟨0, 0, ?_⟩
  · rintro n T H' ⟨k, d, rfl, hk, h8, h7, h0, h1, h2, ⟨L, rfl⟩, hdk, hrun⟩
    by_cases hk' : k < l.length
    · have hg : (tests l)[k]? = some (l[k].enc) := by simp [tests, hk']
      have hw : IntKind.i64.wrap ((k : Int) + 1) = (k : Int) + 1 := wrap64 (by omega) (by omega)
      have hw2 : IntKind.i64.wrap ((d : Int) + 1) = (d : Int) + 1 := wrap64 (by omega) (by omega)
      have hd : l.drop k = l[k] :: l.drop (k + 1) := by rw [List.drop_eq_getElem_cons hk']
      rw [hd, drun] at hrun
      have bad : dstep Nm.stepN l[k] d = none → V = false := by
        intro h
        rw [h] at hrun
        rw [← hV, hrun]
        rfl
      have next : ∀ d', dstep Nm.stepN l[k] d = some d' → d' ≤ k + 1 → ∃ m, m < l.length - k ∧ ∃ k1 : Nat, m = l.length - k1 ∧ k1 ≤ l.length ∧ (k : Int) + 1 = k1 ∧ ∃ x : Nat, (d' : Int) = x ∧ x ≤ k1 ∧ drun Nm.stepN l 0 = drun Nm.stepN (l.drop k1) x := by
        intro d' h hle
        rw [h] at hrun
        exact ⟨l.length - (k + 1), by omega, k + 1, rfl, by omega, by omega, d', rfl, hle, hrun⟩
      have hb := fun H => basicF_c (H := H) hE l[k]
      generalize l[k] = te at hg bad next hb
      by_cases h4 : te = ⟨4, [], 0, 0⟩
      · subst h4
        by_cases c : d < 1
        · have c' : (d : Int) < 1 := by omega
          have hbad := bad (by simp [dstep, c])
          simp [h8, h7, h0, h1, h2, hk', iaSl_at hg, c', hbad]
        · have c' : ¬ (d : Int) < 1 := by omega
          have hn := next d (by simp [dstep, c]) (by omega)
          simp [h8, h7, h0, h1, h2, hk', iaSl_at hg, c', hw]
          simpa using hn
      · by_cases h56 : te = ⟨5, [], 0, 0⟩ ∨ te = ⟨6, [], 0, 0⟩
        · by_cases c : d < 2
          · have c' : (d : Int) < 2 := by omega
            have hbad := bad (by simp [dstep, h4, h56, c])
            rcases h56 with rfl | rfl
            all_goals simp [h8, h7, h0, h1, h2, hk', iaSl_at hg, c', hbad]
          · have c' : ¬ (d : Int) < 2 := by omega
            have hw3 : IntKind.i64.wrap ((d : Int) - 1) = ((d - 1 : Nat) : Int) := by rw [wrap64] <;> omega
            have hn := next (d - 1) (by simp [dstep, h4, h56, c]) (by omega)
            rcases h56 with rfl | rfl
            all_goals simp [h8, h7, h0, h1, h2, hk', iaSl_at hg, c', hw, hw3]
            all_goals simpa using hn
        · have h5 : ¬ te = ⟨5, [], 0, 0⟩ := fun e => h56 (.inl e)
          have h6 : ¬ te = ⟨6, [], 0, 0⟩ := fun e => h56 (.inr e)
          have hst : dstep Nm.stepN te d = if isLeaf Nm.stepN te then some (d + 1) else none := by simp only [dstep, if_neg h4, if_neg h56]
          obtain ⟨kd, s, o, m⟩ := te
          have ne : ∀ q : Int, ¬ (⟨kd, s, o, m⟩ : Test) = ⟨q, [], 0, 0⟩ → (kd == q && (List.isEmpty s && (o == 0 && m == 0))) = false := by
            intro q hq
            cases hbb : (kd == q && (List.isEmpty s && (o == 0 && m == 0))) with
            | false => rfl
            | true =>
              simp at hbb
              exact absurd (by rw [hbb.1, hbb.2.1, hbb.2.2.1, hbb.2.2.2]) hq
          have e4 := ne 4 h4
          have e5 := ne 5 h5
          have e6 := ne 6 h6
          unfold Test.enc at hb
          cases hlf : isLeaf Nm.stepN ⟨kd, s, o, m⟩ with
          | false =>
            simp only [hlf] at hb
            have hbad := bad (by rw [hst, hlf]; rfl)
            simp [h8, h7, h0, h1, h2, hk', iaSl_at hg, e4, e5, e6, hb, hbad]
          | true =>
            simp only [hlf] at hb
            have hn := next (d + 1) (by rw [hst, hlf]; rfl) (by omega)
            simp [h8, h7, h0, h1, h2, hk', iaSl_at hg, e4, e5, e6, hb, hw, hw2]
            simpa using hn
    · have hke : k = l.length := by omega
      subst hke
      simp only [List.drop_length, drun] at hrun
      rw [hrun] at hV
      simp only at hV
      subst hV
      by_cases c1 : (l.length : Int) ≤ 32 <;> by_cases c2 : (d : Int) = 1 <;> by_cases c3 : l = []
      all_goals
        have d1 : l.length ≤ 32 ↔ (l.length : Int) ≤ 32 := by omega
        have d2 : d = 1 ↔ (d : Int) = 1 := by omega
        first
          | (simp [h8, h7, h0, h1, h2, c1, c2, c3, d1, d2]; done)
          | (simp [h8, h7, h0, h1, h2, c1, c2, c3, d1, d2]; rw [← c3, hrun])
  · simp
/-! ### Words in a value -/
def WV (H : Heap) (v : PV) (ws : List Str) : Prop := (∃ τ, v = .sl τ (strs ws)) ∨ ∃ id es, v = .view id 1 0 ws.length ∧ H[id]? = some (.vec 1 es) ∧ ws.length ≤ es.length ∧ es.take ws.length = strs ws ∧ id + 1 < H.length
theorem wv_elems {v : PV} {ws : List Str} (h : WV H v ws) : elemsOf H v = some (strs ws) := by
  rcases h with ⟨τ, rfl⟩ | ⟨id, es, rfl, h2, h3, h4, _⟩
  · rfl
  · simp [h2, h3, h4]
theorem wv_more {v : PV} {ws : List Str} (h : WV H v ws) (M : Heap) : WV (H ++ M) v ws := by
  rcases h with ⟨τ, rfl⟩ | ⟨id, es, rfl, h2, h3, h4, h5⟩
  · exact .inl ⟨τ, rfl⟩
  · exact .inr ⟨id, es, rfl, get_more h2 M, h3, h4, by simp; omega⟩
theorem wv_set {v : PV} {ws : List Str} (h : WV H v ws) {i : Nat} {es : List PV} (hi : H[i]? = some (.vec 2 es)) (o : HObj) : WV (H.set i o) v ws := by
  rcases h with ⟨τ, rfl⟩ | ⟨id, fs, rfl, h2, h3, h4, h5⟩
  · exact .inl ⟨τ, rfl⟩
  · refine .inr ⟨id, fs, rfl, ?_, h3, h4, by simpa using h5⟩
    rw [List.getElem?_set_ne]
    · exact h2
    · rintro rfl
      rw [h2] at hi
      simp at hi
theorem wv_cell {v : PV} {ws : List Str} (h : WV H v ws) : v.isCell = true ∧ v.cells = [v] := by
  rcases h with ⟨τ, rfl⟩ | ⟨id, es, rfl, _⟩ <;> exact ⟨rfl, rfl⟩
theorem appendA_elems {size bytes : Nat} {mu : Bool} {x y : PV} {ys : List PV} (h : elemsOf H y = some ys) : appendA H size bytes mu x y = appendA H size bytes mu x (.sl .shut ys) := by
  unfold appendA
  rw [h]
  rfl
theorem leave_wv {v : PV} {ws : List Str} (h : WV H v ws) (M : Heap) : ∃ v', leave true H v (H ++ M) = (v', H) ∧ WV H v' ws := by
  rcases h with ⟨τ, rfl⟩ | ⟨id, es, rfl, h2, h3, h4, h5⟩
  · exact ⟨_, leave_sl (Nm.strs_plain ws) M, .inl ⟨_, rfl⟩⟩
  · refine ⟨.view id 1 0 ws.length, ?_, .inr ⟨id, es, rfl, h2, h3, h4, h5⟩⟩
    unfold leave
    have e1 : (PV.view id 1 0 ws.length).frz (H ++ M) H.length = .view id 1 0 ws.length := by
      simp only [PV.frz, get_more h2 M]
      rw [if_neg (by omega)]
    have e2 : (((PV.view id 1 0 ws.length).frz (H ++ M) H.length).frz (H ++ M) H.length).strip = .view id 1 0 ws.length := by
      rw [e1, e1]
      rfl
    rw [if_pos rfl, e2]
    simp [PV.idsLt, h5]
def WrapR (H : Heap) (ws : List Str) (r : PV × Heap) : Prop := ∃ v, r = (v, H) ∧ WV H v ws
theorem wrap_c (hE : EnvF E) {v : PV} {ws : List Str} (h : WV H v ws) (hl : ws.length ≤ 1000000) (s least : Int) : ∃ r, WrapR H (par s least ws) r ∧ call E 30 [.agg [v, .int .i64 s], .int .i64 least] H = some r := by
  refine call_wpQ hE.f30 (hE.p _ (by decide)) ⟨rfl, by simp [F30], ?_⟩
  have hc := wv_cell h
  by_cases hs : s < least
  · have hs2 : ¬ least ≤ s := by omega
    have hap : ∀ M x, appendA (H ++ M) 1 16 false x v = appendA (H ++ M) 1 16 false x (.sl .shut (strs ws)) := fun M x => appendA_elems (wv_elems (wv_more h M))
    have hu := Nm.strs_uniform ws
    have hu2 : uniform 1 (strs ws) = true := hu
    by_cases hw : ws = []
    · subst hw
      simp [F30, hc, hs2, uniform, hap, strs]
      have := leave_sl (H := H) (t := .tok (H.length + 1)) (xs := [.str [40], .str [41]]) rfl [.cells [v, .int .i64 s], .tail 2]
      exact ⟨_, this, .inl ⟨.shut, by simp [par, hs, wOpen, wClose, strs]⟩⟩
    · have b1 : 1 + ws.length ≤ 4294967296 := by omega
      have b2 : ws.length ≤ 4294967294 := by omega
      have b3 : 1 + ws.length = ws.length + 1 := by omega
      have b4 : ws.length ≤ 4294967295 := by omega
      simp [F30, hc, hs2, uniform_cons, hap, hu2, hw, b1, b2, b3, b4]
      refine ⟨.sl .shut (strs (par s least ws)), ?_, .inl ⟨.shut, rfl⟩⟩
      exact leave_at_strs (l := par s least ws) (by simp [par, hs, wOpen, wClose, strs]) _
  · have hs2 : least ≤ s := by omega
    simp [F30, hc, hs2]
    obtain ⟨v', h1, h2⟩ := leave_wv h [.cells [v, .int .i64 s]]
    exact ⟨v', h1, by simpa [par, hs] using h2⟩
theorem join_c (hE : EnvF E) {v u : PV} {a b : List Str} (ha : WV H v a) (hb : WV H u b) (hla : 0 < a.length ∧ a.length ≤ 1000000) (hlb : 0 < b.length ∧ b.length ≤ 1000000) (w : Str) :
    call E 31 [v, .str w, u] H = some (.sl .shut (strs (a ++ (w :: b))), H) := by
  refine call_wp hE.f31 (hE.p _ (by decide)) ⟨rfl, by simp [F31], ?_⟩
  have h1 : ∀ M x, appendA (H ++ M) 1 16 false x v = appendA (H ++ M) 1 16 false x (.sl .shut (strs a)) := fun M x => appendA_elems (wv_elems (wv_more ha M))
  have h10 : ∀ x, appendA H 1 16 false x v = appendA H 1 16 false x (.sl .shut (strs a)) := fun x => appendA_elems (wv_elems ha)
  have h2 : ∀ M x, appendA (H ++ M) 1 16 false x u = appendA (H ++ M) 1 16 false x (.sl .shut (strs b)) := fun M x => appendA_elems (wv_elems (wv_more hb M))
  have ua : uniform 1 (strs a) = true := Nm.strs_uniform a
  have ub : uniform 1 (strs b) = true := Nm.strs_uniform b
  have uab : uniform 1 (strs a ++ [.str w]) = true := by
    have : strs a ++ [.str w] = strs (a ++ [w]) := by simp [strs]
    rw [this]
    exact Nm.strs_uniform (a ++ [w])
  have na : a ≠ [] := by rintro rfl; simp at hla
  have nb : b ≠ [] := by rintro rfl; simp at hlb
  have b1 : a.length ≤ 4294967296 := by omega
  have b2 : a.length + 1 ≤ 4294967296 := by omega
  have b3 : a.length + 1 + b.length ≤ 4294967296 := by omega
  simp [F31, h1, h10, h2, ua, ub, uab, na, nb, b1, b2, b3, uniform_cons]
  exact leave_at_strs (l := a ++ (w :: b)) (by simp [strs]) _
end Go.Flat
