/- Names of data sets, further: splitting, whole names, names of steps. -/
import Derived.Test.YtkmlfjnmoieeeaaDoorDName
set_option linter.unusedVariables false
set_option linter.unusedSimpArgs false
namespace Go.Flat
variable {E : Env} {H : Heap}
namespace Nm
def strs (l : List (List UInt8)) : List PV := l.map .str
@[simp] theorem strs_length (l : List (List UInt8)) : (strs l).length = l.length := by simp [strs]
theorem strs_plain (l : List (List UInt8)) : plainL (strs l) = true := plainL_of (by intro p hp; simp [strs] at hp; obtain ⟨e, _, rfl⟩ := hp; rfl)
theorem strs_uniform (l : List (List UInt8)) : uniform 1 (strs l) = true := uniform_of (by intro p hp; simp [strs] at hp; obtain ⟨e, _, rfl⟩ := hp; exact ⟨rfl, rfl⟩)
theorem dots_le (s : List UInt8) : dots s ≤ s.length := List.count_le_length
theorem frz_view {n : Nat} {es : List PV} {l : Heap} (h : l[0]? = some (.vec 1 es)) (hn : n ≤ es.length) (hp : plainL (es.take n) = true) :
    leave true H (.view H.length 1 0 n) (H ++ l) = (.sl .shut (es.take n), H) := by
  unfold leave
  have e1 : (PV.view H.length 1 0 n).frz (H ++ l) H.length = .sl .shut (es.take n) := by
    simp only [PV.frz, get_end0, h]
    rw [if_pos ⟨Nat.le_refl _, trivial, by omega⟩]
    simp
  have e2 : ((PV.sl .shut (es.take n)).frz (H ++ l) H.length).strip = .sl .shut (es.take n) := by
    simp only [PV.frz, plainL_frz _ _ hp, PV.strip, plainL_strip hp]
  have e3 : (PV.sl .shut (es.take n)).idsLt H.length = true := PV.plain_ids _ (by simp [PV.plain, hp])
  simp [e1, e2, e3]
theorem gen_c (hE : EnvN E) (s : List UInt8) (hs : s.length ≤ 4294967294) : call E 65 [.str s, .str [46], .int .i64 0, .int .i64 (-1)] H = some (.sl .shut (strs (split s)), H) := by
  refine call_wp hE.f65 (hE.p _) ⟨rfl, by simp [F65], ?_⟩
  have hc := fun H => count_c (H := H) hE s
  have hd := dots_le s
  have w1 : IntKind.i64.wrap ((dots s : Int) + 1) = (dots s : Int) + 1 := wrap64 (by omega) (by omega)
  have w2 : IntKind.i64.wrap ((s.length : Int) + 1) = (s.length : Int) + 1 := wrap64 (by omega) (by omega)
  have w3 : IntKind.i64.wrap ((dots s : Int) + 1 - 1) = (dots s : Int) := by rw [wrap64] <;> omega
  have c1 : ¬ ((s.length : Int) + 1 < (dots s : Int) + 1) := by omega
  have c1' : ¬ ((s.length : Int) < (dots s : Int)) := by omega
  have c1'' : ¬ (s.length < dots s) := by omega
  have c2 : (0 : Int) ≤ (dots s : Int) + 1 := by omega
  have c3 : (dots s : Int) + 1 ≤ 4294967296 := by omega
  have c4 : ((dots s : Int) + 1).toNat = dots s + 1 := by omega
  have w4 : IntKind.i64.wrap ((dots s : Int)) = (dots s : Int) := by rw [wrap64] <;> omega
  simp [F65, hc, w1, w2, w3, w4, c1, c1', c1'', c2, c3, c4]
  refine wp_loop (fun n T H' => ∃ (k : Nat) (pre : List (List UInt8)) (r : List UInt8) (L : Heap), n = dots s - k ∧ k ≤ dots s ∧ pre.length = k ∧ dots r = dots s - k ∧ split s = pre ++ split r ∧ r.length ≤ s.length ∧
    T 0 = .str r ∧ T 1 = .str [46] ∧ T 2 = .int .i64 0 ∧ T 3 = .int .i64 (dots s) ∧ T 9 = .view H.length 1 0 (dots s + 1) ∧ T 10 = .int .i64 k ∧ H' = H ++ L ∧ L[0]? = some (.vec 1 (strs pre ++ List.replicate (dots s + 1 - k) (.str [])))) ?_ (n := dots s) ⟨0, [], s, [.vec 1 (List.replicate (dots s + 1) (.str [])), .dead], ?_⟩
  · rintro n T H' ⟨k, pre, r, L, rfl, hk, hpl, hdr, hsp, hrl, h0, h1, h2, h3, h9, h10, rfl, hL⟩
    have hix := fun H => index53_c (H := H) hE r
    have hxl : (strs pre ++ List.replicate (dots s + 1 - k) (PV.str []))[k]? = some (.str []) := by
      rw [List.getElem?_append_right (by simp [hpl]), strs_length, hpl, Nat.sub_self, List.getElem?_replicate, if_pos (by omega)]
    have hset : ∀ x : List UInt8, (strs pre ++ List.replicate (dots s + 1 - k) (PV.str [])).set k (.str x) = strs (pre ++ [x]) ++ List.replicate (dots s + 1 - (k + 1)) (.str []) := by
      intro x
      obtain ⟨m, hm⟩ : ∃ m, dots s + 1 - k = m + 1 := ⟨dots s - k, by omega⟩
      rw [List.set_append_right _ _ (by simp [hpl]), hm, show dots s + 1 - (k + 1) = m by omega]
      simp [hpl, strs, List.replicate_succ]
    have hkl : (k : Int) < (dots s : Int) + 1 := by omega
    have hkn : k < dots s + 1 := by omega
    by_cases hk' : k < dots s
    · have hge : 0 ≤ Lib.indexByte r 46 := by
        rcases Int.lt_or_le (Lib.indexByte r 46) 0 with h | h
        · have := (index_none h).2
          omega
        · exact h
      obtain ⟨j, hj1, hj2, hj3, hj4⟩ := index_some hge
      rw [hj1] at hix
      have hn : ¬ ((j : Int) < 0) := by omega
      have v1 : IntKind.i64.wrap (j : Int) = (j : Int) := wrap64 (by omega) (by omega)
      have v2 : IntKind.i64.wrap ((j : Int) + 1) = (j : Int) + 1 := wrap64 (by omega) (by omega)
      have v3 : IntKind.i64.wrap ((k : Int) + 1) = (k : Int) + 1 := wrap64 (by omega) (by omega)
      have v4 : (0 : Int) ≤ (j : Int) + 1 := by omega
      have v5 : ((j : Int) + 1).toNat = j + 1 := by omega
      have v6 : j ≤ r.length := by omega
      have v7 : j + 1 ≤ r.length := by omega
      simp [h0, h1, h2, h3, h9, h10, hk', hix, hn, v1, v2, v3, v4, v5, v6, v7, hkl, hkn, hL, storeV_at hxl, hset]
      refine ⟨dots s - (k + 1), by omega, k + 1, rfl, by omega, pre ++ [r.take j], by simp [hpl], r.drop (j + 1), by omega, by rw [hsp, hj3]; simp, by simp; omega, rfl, by omega, ?_⟩
      have hL0 : L ≠ [] := by rintro rfl; simp at hL
      rw [List.getElem?_set_self (List.length_pos_iff.2 hL0), show dots s + 1 - (k + 1) = dots s - k by omega]
    · have hke : k = dots s := by omega
      subst hke
      have hsr : split r = [r] := by
        rcases Int.lt_or_le (Lib.indexByte r 46) 0 with h | h
        · exact (index_none h).1
        · obtain ⟨j, _, _, _, hj4⟩ := index_some h
          omega
      have v3 : IntKind.i64.wrap ((dots s : Int) + 1) = (dots s : Int) + 1 := w1
      have q1 : (0 : Int) ≤ (dots s : Int) + 1 := by omega
      have hL0 : L ≠ [] := by rintro rfl; simp at hL
      have q2 : (dots s : Int) < (dots s : Int) + 1 := by omega
      have e1 : dots s + 1 - dots s = 1 := by omega
      have hset1 : ∀ x : List UInt8, (strs pre ++ [PV.str []]).set (dots s) (.str x) = strs (pre ++ [x]) := by
        intro x
        have := hset x
        simpa [e1] using this
      rw [e1] at hxl hL
      simp only [List.replicate_one] at hxl hL
      simp [h0, h1, h2, h3, h9, h10, hL, storeV_at hxl, hset1, v3, q1, q2, c4]
      have hv := frz_view (H := H) (n := dots s + 1) (es := strs (pre ++ [r])) (l := L.set 0 (.vec 1 (strs (pre ++ [r])))) (List.getElem?_set_self (List.length_pos_iff.2 hL0)) (by simp [hpl]) (by rw [List.take_of_length_le (by simp [hpl])]; exact strs_plain _)
      rw [hv, List.take_of_length_le (by simp [hpl]), hsp, hsr]
  · simp [strs]
theorem split_c (hE : EnvN E) (s : List UInt8) (hs : s.length ≤ 4294967294) : call E 60 [.str s, .str [46]] H = some (.sl .shut (strs (split s)), H) := by
  refine call_wp hE.f60 (hE.p _) ⟨rfl, by simp [F60], ?_⟩
  simp [F60, gen_c hE s hs]
  exact leave_plain0 (by simp [PV.plain, strs_plain])
theorem split_part (s : List UInt8) : ∀ q ∈ split s, q.length ≤ s.length := by
  induction s with
  | nil => simp [split]
  | cons b s ih =>
    simp only [split]
    split
    · intro q hq
      rcases List.mem_cons.1 hq with rfl | hq
      · simp
      · have := ih q hq
        simp; omega
    · cases hs : split s with
      | nil => exact absurd hs (split_ne s)
      | cons p ps =>
        rw [hs] at ih
        intro q hq
        rcases List.mem_cons.1 hq with rfl | hq
        · have := ih p (by simp)
          simpa using this
        · have := ih q (by simp [hq])
          simp; omega
def valid (s : List UInt8) : Bool := decide (1 ≤ s.length) && decide (s.length ≤ 31) && (split s).all qual
theorem all_c (hE : EnvN E) (s : List UInt8) : call E 46 [.str s, .int .i64 31, .func (.func 47) [] []] H = some (.bool (valid s), H) := by
  refine call_wp hE.f46 (hE.p _) ⟨rfl, by simp [F46], ?_⟩
  by_cases h1 : (s.length : Int) < 1
  · have h1' : ¬ 1 ≤ s.length := by omega
    have h1'' : s = [] := List.eq_nil_of_length_eq_zero (by omega)
    subst h1''
    simp [F46, valid]
  by_cases h2 : (31 : Int) < s.length
  · have h2' : ¬ s.length ≤ 31 := by omega
    simp [F46, h1, h2, valid, h2']
  have hsp := fun H => split_c (H := H) hE s (by omega)
  have hlen := split_len s
  have hdl := dots_le s
  simp [F46, h1, h2, hsp]
  refine wp_loop (fun n T H' => ∃ k : Nat, n = (split s).length - k ∧ k ≤ (split s).length ∧ T 21 = .int .i64 k ∧ T 20 = .int .i64 (split s).length ∧ T 19 = .sl .shut (strs (split s)) ∧ T 2 = .func (.func 47) [] [] ∧ H' = H ∧ ∀ j (hj : j < (split s).length), j < k → qual (split s)[j] = true) ?_ (n := (split s).length) ⟨0, ?_⟩
  · rintro n T H' ⟨k, rfl, hk, h21, h20, h19, h2, rfl, hno⟩
    have e1 : decide (1 ≤ s.length) = true := decide_eq_true (by omega)
    have e2 : decide (s.length ≤ 31) = true := decide_eq_true (by omega)
    by_cases hk' : k < (split s).length
    · have hg : (strs (split s))[k]? = some (.str (split s)[k]) := by simp [strs, hk']
      have hw : IntKind.i64.wrap ((k : Int) + 1) = (k : Int) + 1 := wrap64 (by omega) (by omega)
      have hq := fun H => qual1_c (H := H) hE (split s)[k] (by have := split_part s _ (List.getElem_mem hk'); omega)
      cases hql : qual (split s)[k] with
      | false =>
        simp only [hql] at hq
        simp [h21, h20, h19, h2, hk', iaSl_at hg, hq]
        simp only [valid, e1, e2, Bool.true_and]
        rw [List.all_eq_false]
        exact ⟨_, List.getElem_mem hk', by simp [hql]⟩
      | true =>
        simp only [hql] at hq
        simp [h21, h20, h19, h2, hk', iaSl_at hg, hq, hw]
        refine ⟨_, ?_, k + 1, rfl, by omega, by omega, fun j hj hjk => ?_⟩
        · omega
        · by_cases hjk' : j = k
          · subst hjk'; exact hql
          · simpa using hno j hj (by omega)
    · simp [h21, h20, h19, h2, hk']
      simp only [valid, e1, e2, Bool.true_and]
      rw [List.all_eq_true]
      intro x hx
      obtain ⟨i, hi, rfl⟩ := List.getElem_of_mem hx
      exact hno i hi (by omega)
  · simp
theorem valid_c (hE : EnvN E) (s : List UInt8) : call E 37 [.str s] H = some (.bool (valid s), H) := by
  refine call_wp hE.f37 (hE.p _) ⟨rfl, by simp [F37], ?_⟩
  simp [F37, all_c hE s]
def stepN (s : List UInt8) : Bool := valid s && decide (dots s < 2)
theorem step_c (hE : EnvN E) (s : List UInt8) : call E 25 [.str s] H = some (.bool (stepN s), H) := by
  refine call_wp hE.f25 (hE.p _) ⟨rfl, by simp [F25], ?_⟩
  have hv := fun H => valid_c (H := H) hE s
  have hc := fun H => count_c (H := H) hE s
  cases hvs : valid s with
  | false =>
    simp only [hvs] at hv
    simp [F25, hv, stepN, hvs]
  | true =>
    simp only [hvs] at hv
    by_cases hd : dots s < 2
    · have hd' : (dots s : Int) < 2 := by omega
      simp [F25, hv, hc, stepN, hvs, hd, hd']
    · have hd' : ¬ (dots s : Int) < 2 := by omega
      simp [F25, hv, hc, stepN, hvs, hd, hd']
end Nm
end Go.Flat
