/- The reference's Valid, value and Texts. -/
import Derived.Test.YtkmlfjnmoieeeaaGreatDoorZRef
set_option linter.unusedVariables false
set_option linter.unusedSimpArgs false
namespace Go.Flat
variable {E : Env} {H : Heap}
def isOp (t : Test) (k : Int) : Prop := t = ⟨k, [], 0, 0⟩
instance (t : Test) (k : Int) : Decidable (isOp t k) := inferInstanceAs (Decidable (t = _))
/-- The reference's count of open parts. -/
def dstep (kn : Str → Bool) (t : Test) (d : Nat) : Option Nat :=
  if t = ⟨4, [], 0, 0⟩ then (if d < 1 then none else some d)
  else if t = ⟨5, [], 0, 0⟩ ∨ t = ⟨6, [], 0, 0⟩ then (if d < 2 then none else some (d - 1))
  else if isLeaf kn t then some (d + 1) else none
def drun (kn : Str → Bool) : List Test → Nat → Option Nat
  | [], d => some d
  | t :: l, d => (dstep kn t d).bind (drun kn l)
theorem bare_iff {t : Test} {k : Int} : t = ⟨k, [], 0, 0⟩ ↔ t.kind = k ∧ t.bare = true := by
  obtain ⟨a, s, o, n⟩ := t
  simp [Test.bare]
theorem dstep_tstep (kn : Str → Bool) (i : Int) (t : Test) (st : List Node) : (tstep kn i t st).map List.length = dstep kn t st.length := by
  unfold tstep dstep
  by_cases h4 : t = ⟨4, [], 0, 0⟩
  · have h := bare_iff.1 h4
    rw [if_pos h, if_pos h4]
    cases st with
    | nil => rfl
    | cons a r => simp
  · have h : ¬ (t.kind = 4 ∧ t.bare = true) := fun e => h4 (bare_iff.2 e)
    rw [if_neg h, if_neg h4]
    by_cases h56 : t = ⟨5, [], 0, 0⟩ ∨ t = ⟨6, [], 0, 0⟩
    · have h : (t.kind = 5 ∨ t.kind = 6) ∧ t.bare = true := by
        rcases h56 with e | e
        · exact ⟨.inl (bare_iff.1 e).1, (bare_iff.1 e).2⟩
        · exact ⟨.inr (bare_iff.1 e).1, (bare_iff.1 e).2⟩
      rw [if_pos h, if_pos h56]
      match st with
      | [] => rfl
      | [a] => rfl
      | b :: a :: r => simp
    · have h : ¬ ((t.kind = 5 ∨ t.kind = 6) ∧ t.bare = true) := fun ⟨e1, e2⟩ => h56 (e1.elim (fun e => .inl (bare_iff.2 ⟨e, e2⟩)) (fun e => .inr (bare_iff.2 ⟨e, e2⟩)))
      rw [if_neg h, if_neg h56]
      split <;> rfl
theorem drun_trun (kn : Str → Bool) : ∀ (l : List Test) (i : Int) (st : List Node), (trun kn i l st).map List.length = drun kn l st.length
  | [], i, st => rfl
  | t :: l, i, st => by
    simp only [trun, drun, ← dstep_tstep kn i t st]
    cases tstep kn i t st with
    | none => rfl
    | some s => exact drun_trun kn l (i + 1) s
def rvalid (steps : List Str) (l : List Test) : Bool :=
  match drun (inS steps) l 0 with
  | some d => decide (l.length ≤ 32) && (decide (d = 1) || decide (l.length = 0))
  | none => false
theorem rvalid_eq (steps : List Str) (l : List Test) : rvalid steps l = (onS l steps).isSome := by
  unfold rvalid onS
  have h := drun_trun (inS steps) l 0 []
  simp only [List.length_nil] at h
  by_cases h0 : l = []
  · subst h0
    simp [drun]
  · have hl : ¬ l.length = 0 := fun e => h0 (List.eq_nil_of_length_eq_zero e)
    rw [if_neg h0, ← h]
    unfold tree
    by_cases h32 : 32 < l.length
    · have : ¬ l.length ≤ 32 := by omega
      simp [h32, this]
      cases trun (inS steps) 0 l [] <;> rfl
    · have h33 : l.length ≤ 32 := by omega
      simp only [h32, if_false]
      cases ht : trun (inS steps) 0 l [] with
      | none => rfl
      | some st =>
        match st with
        | [] => simp [single, hl]
        | [a] => simp [single, h33]
        | a :: b :: r => simp [single, hl]
set_option maxHeartbeats 1000000 in
theorem valid28_c (hE : EnvR E) {t u : Tail} (l : List Test) (hl : l.length ≤ 9223372036854775800) (steps : List Str) (hs : steps.length ≤ 9223372036854775807) :
    call E 28 [.sl t (tests l), .sl u (strs steps), .bool false] H = some (.bool (rvalid steps l), H) := by
  refine call_wp hE.f28 (hE.p _ (by decide)) ⟨rfl, by simp [F28], ?_⟩
  simp [F28]
  refine wp_loop (fun n T H' => ∃ (k d : Nat), n = l.length - k ∧ k ≤ l.length ∧ T 8 = .int .i64 k ∧ T 7 = .int .i64 d ∧ T 0 = .sl t (tests l) ∧ T 1 = .sl u (strs steps) ∧ T 2 = .bool false ∧ (∃ L, H' = H ++ L) ∧ d ≤ k ∧ drun (inS steps) l 0 = drun (inS steps) (l.drop k) d) ?_ (n := l.length) ⟨0, 0, ?_⟩
  · rintro n T H' ⟨k, d, rfl, hk, h8, h7, h0, h1, h2, ⟨L, rfl⟩, hdk, hrun⟩
    by_cases hk' : k < l.length
    · have hg : (tests l)[k]? = some (l[k].enc) := by simp [tests, hk']
      have hw : IntKind.i64.wrap ((k : Int) + 1) = (k : Int) + 1 := wrap64 (by omega) (by omega)
      have hw2 : IntKind.i64.wrap ((d : Int) + 1) = (d : Int) + 1 := wrap64 (by omega) (by omega)
      have hd : l.drop k = l[k] :: l.drop (k + 1) := by rw [List.drop_eq_getElem_cons hk']
      rw [hd, drun] at hrun
      have bad : dstep (inS steps) l[k] d = none → rvalid steps l = false := by
        intro h
        rw [h] at hrun
        simp [rvalid, hrun]
      have next : ∀ d', dstep (inS steps) l[k] d = some d' → d' ≤ k + 1 → ∃ m, m < l.length - k ∧ ∃ k1 : Nat, m = l.length - k1 ∧ k1 ≤ l.length ∧ (k : Int) + 1 = k1 ∧ ∃ x : Nat, (d' : Int) = x ∧ x ≤ k1 ∧ drun (inS steps) l 0 = drun (inS steps) (l.drop k1) x := by
        intro d' h hle
        rw [h] at hrun
        exact ⟨l.length - (k + 1), by omega, k + 1, rfl, by omega, by omega, d', rfl, hle, hrun⟩
      have hb := fun H => basicR_c (H := H) (u := u) hE l[k] steps hs
      generalize l[k] = te at hg bad next hb
      by_cases h4 : te = ⟨4, [], 0, 0⟩
      · subst h4
        by_cases c : d < 1
        · have c' : (d : Int) < 1 := by omega
          have hbad := bad (by simp [dstep, c])
          simp [h8, h7, h0, h1, h2, hk', iaSl_at hg, c', hbad]
        · have c' : ¬ (d : Int) < 1 := by omega
          have hn := next d (by simp [dstep, c]) (by omega)
          simp [h8, h7, h0, h1, h2, hk', iaSl_at hg, c', hw]
          simpa using hn
      · by_cases h56 : te = ⟨5, [], 0, 0⟩ ∨ te = ⟨6, [], 0, 0⟩
        · by_cases c : d < 2
          · have c' : (d : Int) < 2 := by omega
            have hbad := bad (by simp [dstep, h4, h56, c])
            rcases h56 with rfl | rfl
            all_goals simp [h8, h7, h0, h1, h2, hk', iaSl_at hg, c', hbad]
          · have c' : ¬ (d : Int) < 2 := by omega
            have hw3 : IntKind.i64.wrap ((d : Int) - 1) = ((d - 1 : Nat) : Int) := by rw [wrap64] <;> omega
            have hn := next (d - 1) (by simp [dstep, h4, h56, c]) (by omega)
            rcases h56 with rfl | rfl
            all_goals simp [h8, h7, h0, h1, h2, hk', iaSl_at hg, c', hw, hw3]
            all_goals simpa using hn
        · have h5 : ¬ te = ⟨5, [], 0, 0⟩ := fun e => h56 (.inl e)
          have h6 : ¬ te = ⟨6, [], 0, 0⟩ := fun e => h56 (.inr e)
          have hst : dstep (inS steps) te d = if isLeaf (inS steps) te then some (d + 1) else none := by simp only [dstep, if_neg h4, if_neg h56]
          obtain ⟨kd, s, o, m⟩ := te
          have ne : ∀ q : Int, ¬ (⟨kd, s, o, m⟩ : Test) = ⟨q, [], 0, 0⟩ → (kd == q && (List.isEmpty s && (o == 0 && m == 0))) = false := by
            intro q hq
            cases hbb : (kd == q && (List.isEmpty s && (o == 0 && m == 0))) with
            | false => rfl
            | true =>
              simp at hbb
              exact absurd (by rw [hbb.1, hbb.2.1, hbb.2.2.1, hbb.2.2.2]) hq
          have e4 := ne 4 h4
          have e5 := ne 5 h5
          have e6 := ne 6 h6
          unfold Test.enc at hb
          cases hlf : isLeaf (inS steps) ⟨kd, s, o, m⟩ with
          | false =>
            simp only [hlf] at hb
            have hbad := bad (by rw [hst, hlf]; rfl)
            simp [h8, h7, h0, h1, h2, hk', iaSl_at hg, e4, e5, e6, hb, hbad]
          | true =>
            simp only [hlf] at hb
            have hn := next (d + 1) (by rw [hst, hlf]; rfl) (by omega)
            simp [h8, h7, h0, h1, h2, hk', iaSl_at hg, e4, e5, e6, hb, hw, hw2]
            simpa using hn
    · have hke : k = l.length := by omega
      subst hke
      simp only [List.drop_length, drun] at hrun
      by_cases c1 : (l.length : Int) ≤ 32 <;> by_cases c2 : (d : Int) = 1 <;> by_cases c3 : l = []
      all_goals
        have d1 : l.length ≤ 32 ↔ (l.length : Int) ≤ 32 := by omega
        have d2 : d = 1 ↔ (d : Int) = 1 := by omega
        first
          | (simp [h8, h7, h0, h1, h2, c1, c2, c3, rvalid, hrun, d1, d2]; done)
          | (simp [h8, h7, h0, h1, h2, c1, c2, c3, rvalid, d1, d2]; rw [← c3, hrun])
  · simp
theorem valid15_c (hE : EnvR E) {t u : Tail} (l : List Test) (hl : l.length ≤ 9223372036854775800) (steps : List Str) (hs : steps.length ≤ 9223372036854775807) :
    call E 15 [.sl t (tests l), .sl u (strs steps)] H = some (.bool (onS l steps).isSome, H) := by
  refine call_wp hE.f15 (hE.p _ (by decide)) ⟨rfl, by simp [F15], ?_⟩
  simp [F15, valid28_c hE l hl steps hs, rvalid_eq]
theorem texts_c (hE : EnvR E) {t u : Tail} (a b : List Str) (ha : a.length ≤ 9223372036854775807) : call E 11 [.sl t (strs a), .sl u (strs b)] H = some (.bool (decide (a = b)), H) := by
  refine call_wp hE.f11 (hE.p _ (by decide)) ⟨rfl, by simp [F11], ?_⟩
  by_cases hlen : a.length = b.length
  · have hlen' : (a.length : Int) = b.length := by omega
    simp [F11, hlen']
    refine wp_loop (fun n T H' => ∃ k : Nat, n = a.length - k ∧ k ≤ a.length ∧ T 5 = .int .i64 k ∧ T 0 = .sl t (strs a) ∧ T 1 = .sl u (strs b) ∧ H' = H ∧ ∀ j (hj : j < a.length) (hj2 : j < b.length), j < k → a[j] = b[j]) ?_ (n := a.length) ⟨0, ?_⟩
    · rintro n T H' ⟨k, rfl, hk, h5, h0, h1, rfl, hno⟩
      by_cases hk' : k < a.length
      · have hk2 : k < b.length := by omega
        have hg : (strs a)[k]? = some (.str a[k]) := by simp [strs, hk']
        have hg2 : (strs b)[k]? = some (.str b[k]) := by simp [strs, hk2]
        have hw : IntKind.i64.wrap ((k : Int) + 1) = (k : Int) + 1 := wrap64 (by omega) (by omega)
        by_cases he : a[k] = b[k]
        · simp [h5, h0, h1, hk', iaSl_at hg, iaSl_at hg2, hw, he]
          refine ⟨_, ?_, k + 1, rfl, by omega, by omega, fun j hj hj2 hjk => ?_⟩
          · omega
          · by_cases hjk' : j = k
            · subst hjk'; exact he
            · exact hno j hj hj2 (by omega)
        · simp [h5, h0, h1, hk', iaSl_at hg, iaSl_at hg2, hw, he]
          intro e
          subst e
          exact he rfl
      · simp [h5, h0, h1, hk']
        apply List.ext_getElem hlen
        intro i h1 h2
        exact hno i h1 h2 (by omega)
    · simp
  · have hlen' : ¬ (a.length : Int) = b.length := by omega
    have hne : ¬ a = b := fun e => hlen (by rw [e])
    simp [F11, hlen', hne]
/-! ### The value of a basic test -/
theorem take_get (es : List End) (n k : Nat) (h : k < n) : (es.take n)[k]? = es[k]? := by rw [List.getElem?_take, if_pos h]
set_option maxHeartbeats 1000000 in
theorem value_c (hE : EnvR E) {u v : Tail} (t : Test) (steps : List Str) (hs : steps.length ≤ 9223372036854775807) (es : List End) (he : es.length ≤ 9223372036854775807) (hok : t.kind = 3 ∨ t.step ∈ steps) :
    call E 39 [t.enc, .sl u (strs steps), .sl v (ends es)] H = some (.bool (leafVal steps (es.take steps.length) t), H) := by
  refine call_wp hE.f39 (hE.p _ (by decide)) ⟨rfl, by simp [F39], ?_⟩
  have hi := fun H => indexR_c (H := H) (t := u) hE steps t.step hs
  obtain ⟨kd, s, o, m⟩ := t
  simp only at hi hok
  by_cases h3 : kd = 3
  · subst h3
    simp [F39, Test.enc]
    refine wp_loop (fun n T H' => ∃ k : Nat, n = es.length - k ∧ k ≤ es.length ∧ T 7 = .int .i64 k ∧ T 1 = .sl u (strs steps) ∧ T 2 = .sl v (ends es) ∧ (∃ L, H' = H ++ L) ∧ ∀ j (hj : j < es.length), j < k → j < steps.length ∧ (es[j].ran && es[j].failed) = false) ?_ (n := es.length) ⟨0, ?_⟩
    · rintro n T H' ⟨k, rfl, hk, h7, h1, h2, ⟨L, rfl⟩, hno⟩
      have hfin : (es.length ≤ k ∨ steps.length ≤ k) → leafVal steps (es.take steps.length) ⟨3, s, o, m⟩ = false := by
        intro hor
        simp only [leafVal, if_true]
        rw [List.any_eq_false]
        intro x hx
        obtain ⟨i, hi, rfl⟩ := List.getElem_of_mem hx
        have hi' : i < steps.length ∧ i < es.length := by
          simp at hi
          omega
        have := (hno i hi'.2 (by omega)).2
        simp only [List.getElem_take]
        simp [this]
      by_cases hk' : k < es.length
      · by_cases hk2 : k < steps.length
        · have hg : (ends es)[k]? = some (es[k].enc) := by simp [ends, hk']
          have hw : IntKind.i64.wrap ((k : Int) + 1) = (k : Int) + 1 := wrap64 (by omega) (by omega)
          have next : (es[k].ran && es[k].failed) = false → ∃ m, m < es.length - k ∧ ∃ k1 : Nat, m = es.length - k1 ∧ k1 ≤ es.length ∧ (k : Int) + 1 = k1 ∧ ∀ j (hj : j < es.length), j < k1 → j < steps.length ∧ (es[j].ran && es[j].failed) = false := by
            intro hb
            refine ⟨es.length - (k + 1), by omega, k + 1, rfl, by omega, by omega, fun j hj hjk => ?_⟩
            by_cases hjk' : j = k
            · subst hjk'; exact ⟨hk2, hb⟩
            · exact hno j hj (by omega)
          cases hr : es[k].ran <;> cases hf : es[k].failed
          case true.true =>
            simp [h7, h1, h2, hk', hk2, iaSl_at hg, hr, hf]
            simp only [leafVal, if_true]
            rw [List.any_eq_true]
            refine ⟨es[k], ?_, by simp [hr, hf]⟩
            rw [List.mem_take_iff_getElem]
            exact ⟨k, by omega, rfl⟩
          all_goals
            have hn := next (by simp [hr, hf])
            simp [h7, h1, h2, hk', hk2, iaSl_at hg, hr, hf, hw]
            simpa using hn
        · simp [h7, h1, h2, hk', hk2]
          exact (hfin (.inr (by omega))).symm ▸ rfl
      · simp [h7, h1, h2, hk']
        exact (hfin (.inl (by omega))).symm ▸ rfl
    · simp
  · have hm : s ∈ steps := hok.resolve_left h3
    obtain ⟨k, hkx⟩ : ∃ k, steps.findIdx? (· == s) = some k := by
      cases hf : steps.findIdx? (· == s) with
      | some k => exact ⟨k, rfl⟩
      | none =>
        rw [List.findIdx?_eq_none_iff] at hf
        simpa using hf _ hm
    have hks : k < steps.length := (List.findIdx?_eq_some_iff_getElem.1 hkx).1
    have hix : Index steps s = k := by simp [Index, hkx]
    rw [hix] at hi
    have hlv : leafVal steps (es.take steps.length) ⟨kd, s, o, m⟩ = match es[k]? with | some e => holds ⟨kd, s, o, m⟩ e | none => false := by
      simp only [leafVal, if_neg h3, hkx, take_get es _ _ hks]
      cases es[k]? <;> rfl
    rw [hlv]
    by_cases hlt : k < es.length
    · have hg : (ends es)[k]? = some (es[k].enc) := by simp [ends, hlt]
      have hlt' : ¬ ((es.length : Int) ≤ k) := by omega
      have hlt2 : ¬ (es.length ≤ k) := by omega
      have hrel := fun H => relatedR_c (H := H) hE es[k].code o m
      rw [List.getElem?_eq_getElem hlt]
      have hkc : kd = 0 ∨ kd = 1 ∨ (kd ≠ 0 ∧ kd ≠ 1) := by omega
      cases hr : es[k].ran <;> cases hf : es[k].failed <;> rcases hkc with rfl | rfl | ⟨n0, n1⟩
      all_goals first
        | simp [F39, Test.enc, h3, hi, hlt, hlt', hlt2, iaSl_at hg, hr, hf, hrel, holds, n0, n1]
        | simp [F39, Test.enc, h3, hi, hlt, hlt', hlt2, iaSl_at hg, hr, hf, hrel, holds]
    · have hlt' : ((es.length : Int) ≤ k) := by omega
      have hlt2 : (es.length ≤ k) := by omega
      have hn : es[k]? = none := by simp; omega
      rw [hn]
      simp [F39, Test.enc, h3, hi, hlt', hlt2]
end Go.Flat
