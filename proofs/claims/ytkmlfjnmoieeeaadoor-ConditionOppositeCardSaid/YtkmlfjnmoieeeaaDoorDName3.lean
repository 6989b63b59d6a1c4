/- Names of data sets: the reference's functions come to the same. -/
import Derived.Test.YtkmlfjnmoieeeaaDoorDName2
set_option linter.unusedVariables false
set_option linter.unusedSimpArgs false
namespace Go.Flat
variable {E : Env} {H : Heap}
namespace Nm
/-- What the reference's loop over the bytes makes: the parts so far, the last one open. -/
def push (l : List (List UInt8)) (b : UInt8) : List (List UInt8) := if b = 46 then l ++ [[]] else l.dropLast ++ [l.getLast?.getD [] ++ [b]]
theorem push_ne (l : List (List UInt8)) (b : UInt8) : push l b ≠ [] := by
  unfold push
  split <;> simp
theorem foldl_push (s : List UInt8) : ∀ (pre : List (List UInt8)) (q : List UInt8), s.foldl push (pre ++ [q]) = pre ++ (match split s with | p :: ps => (q ++ p) :: ps | [] => [q]) := by
  induction s with
  | nil => intro pre q; simp [split]
  | cons b s ih =>
    intro pre q
    simp only [List.foldl_cons, split]
    by_cases hb : b = 46
    · subst hb
      have : push (pre ++ [q]) 46 = (pre ++ [q]) ++ [[]] := by simp [push]
      rw [this, ih]
      cases hs : split s with
      | nil => exact absurd hs (split_ne s)
      | cons p ps => simp
    · have : push (pre ++ [q]) b = pre ++ [q ++ [b]] := by simp [push, hb]
      rw [this, ih]
      cases hs : split s with
      | nil => exact absurd hs (split_ne s)
      | cons p ps => simp [hb]
theorem fold_split (s : List UInt8) : s.foldl push [[]] = split s := by
  have := foldl_push s [] []
  simp only [List.nil_append] at this
  rw [this]
  cases hs : split s with
  | nil => exact absurd hs (split_ne s)
  | cons p ps => rfl
theorem push_len (l : List (List UInt8)) (b : UInt8) (h : l ≠ []) : (push l b).length ≤ l.length + 1 ∧ 1 ≤ (push l b).length := by
  have := List.length_pos_iff.2 h
  unfold push
  split <;> simp <;> omega
theorem parts_c (hE : EnvN E) (s : List UInt8) (hs : s.length ≤ 4294967290) : call E 23 [.str s] H = some (.sl .shut (strs (split s)), H) := by
  refine call_wp hE.f23 (hE.p _) ⟨rfl, by simp [F23], ?_⟩
  simp [F23]
  refine wp_loop (fun n T H' => ∃ (k : Nat) (l : List (List UInt8)) (L : Heap) (j : Nat), n = s.length - k ∧ k ≤ s.length ∧ T 0 = .str s ∧ T 4 = .int .i64 k ∧ H' = H ++ L ∧ L[j]? = some (.vec 1 (strs l)) ∧ T 3 = .view (H.length + j) 1 0 l.length ∧ l ≠ [] ∧ l.length ≤ k + 1 ∧ (∀ q ∈ l, q.length ≤ k) ∧ (s.drop k).foldl push l = split s) ?_ (n := s.length) ⟨0, [[]], [.vec 1 [.str []], .dead], 0, ?_⟩
  · rintro n T H' ⟨k, l, L, j, rfl, hk, h0, h4, rfl, hL, h3, hne, hll, hql, hfold⟩
    have hw : IntKind.i64.wrap ((k : Int) + 1) = (k : Int) + 1 := wrap64 (by omega) (by omega)
    by_cases hk' : k < s.length
    · have hg : s[k]? = some s[k] := List.getElem?_eq_getElem hk'
      have hd : s.drop k = s[k] :: s.drop (k + 1) := by rw [List.drop_eq_getElem_cons hk']
      rw [hd, List.foldl_cons] at hfold
      obtain ⟨m, hm⟩ : ∃ m, l.length = m + 1 := ⟨l.length - 1, by have := List.length_pos_iff.2 hne; omega⟩
      by_cases hb : s[k] = 46
      · have hb' : s[k].toNat = 46 := by rw [hb]; rfl
        have hbi : ((s[k].toNat : Nat) : Int) = 46 := by omega
        have q1 : l.length + 1 ≤ 4294967296 := by omega
        have hj' := get_more hL
        have t1 : (strs l).take l.length = strs l := List.take_of_length_le (by simp)
        simp [h0, h4, h3, hk', hg, hbi, hw, q1, hb', hj', t1]
        refine ⟨s.length - (k + 1), by omega, k + 1, rfl, by omega, by omega, l ++ [[]], L.length + 2, ?_, ⟨rfl, by simp⟩, by simp, by simp; omega, ?_, ?_⟩
        · rw [List.getElem?_append_right (by simp)]
          simp [strs]
        · intro q hq
          rcases List.mem_append.1 hq with h | h
          · have := hql q h
            omega
          · simp at h
            subst h
            simp
        · rw [← hfold]
          simp [push, hb]
      · have hb' : ¬ s[k].toNat = 46 := fun e => hb (by rw [← UInt8.toNat_inj]; exact e)
        have hbi : ¬ ((s[k].toNat : Nat) : Int) = 46 := by omega
        have hbq : (((s[k].toNat : Nat) : Int) == 46) = false := by simpa using hbi
        obtain ⟨l0, q, rfl⟩ : ∃ l0 q, l = l0 ++ [q] := ⟨l.dropLast, l.getLast hne, (List.dropLast_concat_getLast hne).symm⟩
        simp at hm hll
        have hxl : (strs (l0 ++ [q]))[l0.length]? = some (.str q) := by simp [strs]
        have hqq : q.length ≤ k := hql q (by simp)
        have p1 : IntKind.i64.wrap ((l0.length : Int) + 1 - 1) = (l0.length : Int) := by rw [wrap64] <;> omega
        have p2 : IntKind.i64.wrap ((l0.length : Int)) = (l0.length : Int) := by rw [wrap64] <;> omega
        have p3 : (l0.length : Int) < (l0.length : Int) + 1 := by omega
        have p4 : (0 : Int) ≤ (k : Int) + 1 := by omega
        have p5 : ((k : Int) + 1).toNat = k + 1 := by omega
        have p6 : k + 1 ≤ s.length := by omega
        have p7 : (s.take (k + 1)).drop k = [s[k]] := by
          rw [List.drop_take, Nat.add_sub_cancel_left, hd]
          rfl
        have p8 : q.length + 1 ≤ 9223372036854775807 := by omega
        simp [h0, h4, h3, hL, hk', hg, hbi, hbq, hw, hb', p1, p2, p3, p4, p5, p6, p7, p8, loadV_at hxl, storeV_at hxl]
        have hjl := (List.getElem?_eq_some_iff.1 hL).1
        refine ⟨s.length - (k + 1), by omega, k + 1, rfl, by omega, by omega, l0 ++ [q ++ [s[k]]], j, ?_, ⟨rfl, by simp⟩, by simp, by simp; omega, ?_, ?_⟩
        · rw [List.getElem?_set_self hjl]
          simp [strs]
        · intro r hr
          rcases List.mem_append.1 hr with h | h
          · have := hql r (by simp [h])
            omega
          · simp at h
            subst h
            simp
            exact hqq
        · rw [← hfold]
          simp [push, hb]
    · have hke : k = s.length := by omega
      subst hke
      simp only [List.drop_length, List.foldl_nil] at hfold
      subst hfold
      simp [h0, h4, h3, hL]
      rw [leave_view hL (by simp) (by rw [List.take_of_length_le (by simp)]; exact strs_plain _), List.take_of_length_le (by simp)]
  · simp [strs]
    exact fold_split s
theorem qual_all (q : List UInt8) : qual q = (decide (1 ≤ q.length) && decide (q.length ≤ 8) && (match q with | [] => true | c :: _ => !dig c) && q.all fun c => up c || dig c) := by
  cases q with
  | nil => rfl
  | cons c r =>
    simp only [qual, List.length_cons, List.all_cons]
    have h1 : decide (1 ≤ r.length + 1) = true := decide_eq_true (by omega)
    have hx : up c = true → dig c = false := by
      simp only [up, dig, Bool.and_eq_true, decide_eq_true_eq]
      intro h
      have : ¬ (c.toNat ≤ 57) := by omega
      simp [this]
    rw [h1]
    cases hu : up c with
    | true =>
      rw [show (pl : UInt8 → Bool) = fun c => up c || dig c from rfl]
      simp [hx hu]
    | false => cases hd : dig c <;> simp [hu, hd]
theorem rpart_c (hE : EnvN E) (q : List UInt8) (hq : q.length ≤ 4611686018427387904) : call E 45 [.str q, .bool false] H = some (.bool (qual q), H) := by
  refine call_wp hE.f45 (hE.p _) ⟨rfl, by simp [F45], ?_⟩
  rw [qual_all]
  cases q with
  | nil => simp [F45]
  | cons c r =>
    simp at hq
    have h1 : ¬ ((r.length : Int) + 1 < 1) := by omega
    by_cases h8 : 8 < r.length + 1
    · have h8' : (8 : Int) < r.length + 1 := by omega
      have h9 : ¬ (r.length + 1 ≤ 8) := by omega
      simp [F45, h8', h1, h9]
    · have h8' : ¬ (8 : Int) < r.length + 1 := by omega
      have h9 : r.length + 1 ≤ 8 := by omega
      have hd := fun H => rdigit_c (H := H) hE c
      cases hc : dig c with
      | true =>
        simp only [hc] at hd
        simp [F45, h8', h1, hd, hc]
      | false =>
        simp only [hc] at hd
        simp [F45, h8', h1, hd]
        refine wp_loop (fun n T H' => ∃ k : Nat, n = r.length + 1 - k ∧ k ≤ r.length + 1 ∧ T 5 = .int .i64 k ∧ T 0 = .str (c :: r) ∧ T 1 = .bool false ∧ H' = H ∧ ∀ j (hj : j < (c :: r).length), j < k → (up (c :: r)[j] || dig (c :: r)[j]) = true) ?_ (n := r.length + 1) ⟨0, ?_⟩
        · rintro n T H' ⟨k, rfl, hk, h5, h0, h1', rfl, hno⟩
          have e1 : decide (1 ≤ (c :: r).length) = true := decide_eq_true (by simp)
          have e2 : decide ((c :: r).length ≤ 8) = true := decide_eq_true (by simpa using h9)
          by_cases hk' : k < (c :: r).length
          · have hw : IntKind.i64.wrap ((k : Int) + 1) = (k : Int) + 1 := wrap64 (by simp at hk'; omega) (by simp at hk'; omega)
            have hki : (k : Int) < r.length + 1 := by simp at hk'; omega
            have hg : (c :: r)[k]? = some (c :: r)[k] := List.getElem?_eq_getElem hk'
            have hl := fun H => letter_c (H := H) hE (c :: r)[k]
            have hd2 := fun H => rdigit_c (H := H) hE (c :: r)[k]
            have bad : (up (c :: r)[k] || dig (c :: r)[k]) = false → ((decide (1 ≤ (c :: r).length) && decide ((c :: r).length ≤ 8) && !dig c) && (c :: r).all fun c => up c || dig c) = false := by
              intro hb
              rw [e1, e2, hc]
              simp only [Bool.true_and, Bool.not_false]
              rw [List.all_eq_false]
              exact ⟨_, List.getElem_mem hk', by simp [hb]⟩
            have next : (up (c :: r)[k] || dig (c :: r)[k]) = true → ∃ m, m < r.length + 1 - k ∧ ∃ k1 : Nat, m = r.length + 1 - k1 ∧ k1 ≤ r.length + 1 ∧ (k : Int) + 1 = k1 ∧ ∀ j (hj : j < (c :: r).length), j < k1 → (up (c :: r)[j] || dig (c :: r)[j]) = true := by
              intro hb
              refine ⟨r.length + 1 - (k + 1), by omega, k + 1, rfl, by omega, by omega, fun j hj hjk => ?_⟩
              by_cases hjk' : j = k
              · subst hjk'; exact hb
              · exact hno j hj (by omega)
            generalize hx : (c :: r)[k] = x at hg hl hd2 bad next
            cases hu : up x with
            | true =>
              simp only [hu] at hl
              have := next (by simp [hu])
              simp [h5, h0, h1', hki, hg, hl, hw]
              simpa using this
            | false =>
              simp only [hu] at hl
              cases hdx : dig x with
              | true =>
                simp only [hdx] at hd2
                have := next (by simp [hdx])
                simp [h5, h0, h1', hki, hg, hl, hd2, hw]
                simpa using this
              | false =>
                simp only [hdx] at hd2
                have := bad (by simp [hu, hdx])
                simp [h5, h0, h1', hki, hg, hl, hd2, hw]
                simpa using this
          · have hki : ¬ (k : Int) < r.length + 1 := by simp at hk'; omega
            simp [h5, h0, h1', hki]
            have hall : ((c :: r).all fun c => up c || dig c) = true := by
              rw [List.all_eq_true]
              intro y hy
              obtain ⟨i, hi, rfl⟩ := List.getElem_of_mem hy
              exact hno i hi (by omega)
            have : ((decide (1 ≤ (c :: r).length) && decide ((c :: r).length ≤ 8) && !dig c) && (c :: r).all fun c => up c || dig c) = true := by
              rw [e1, e2, hc, hall]
              rfl
            simpa using this
        · simp
theorem rvalid0_c (hE : EnvN E) (s : List UInt8) : call E 36 [.str s, .bool false] H = some (.bool (valid s), H) := by
  refine call_wp hE.f36 (hE.p _) ⟨rfl, by simp [F36], ?_⟩
  by_cases h1 : (s.length : Int) < 1
  · have h1'' : s = [] := List.eq_nil_of_length_eq_zero (by omega)
    subst h1''
    simp [F36, valid]
  by_cases h2 : (31 : Int) < s.length
  · have h2' : ¬ s.length ≤ 31 := by omega
    simp [F36, h1, h2, valid, h2']
  have hsp := fun H => parts_c (H := H) hE s (by omega)
  have hlen := split_len s
  have hdl := dots_le s
  simp [F36, h1, h2, hsp]
  refine wp_loop (fun n T H' => ∃ k : Nat, n = (split s).length - k ∧ k ≤ (split s).length ∧ T 6 = .int .i64 k ∧ T 5 = .sl .shut (strs (split s)) ∧ T 1 = .bool false ∧ H' = H ∧ ∀ j (hj : j < (split s).length), j < k → qual (split s)[j] = true) ?_ (n := (split s).length) ⟨0, ?_⟩
  · rintro n T H' ⟨k, rfl, hk, h6, h5, h1', rfl, hno⟩
    have e1 : decide (1 ≤ s.length) = true := decide_eq_true (by omega)
    have e2 : decide (s.length ≤ 31) = true := decide_eq_true (by omega)
    by_cases hk' : k < (split s).length
    · have hg : (strs (split s))[k]? = some (.str (split s)[k]) := by simp [strs, hk']
      have hw : IntKind.i64.wrap ((k : Int) + 1) = (k : Int) + 1 := wrap64 (by omega) (by omega)
      have hq := fun H => rpart_c (H := H) hE (split s)[k] (by have := split_part s _ (List.getElem_mem hk'); omega)
      cases hql : qual (split s)[k] with
      | false =>
        simp only [hql] at hq
        simp [h6, h5, h1', hk', iaSl_at hg, hq]
        simp only [valid, e1, e2, Bool.true_and]
        rw [List.all_eq_false]
        exact ⟨_, List.getElem_mem hk', by simp [hql]⟩
      | true =>
        simp only [hql] at hq
        simp [h6, h5, h1', hk', iaSl_at hg, hq, hw]
        refine ⟨_, ?_, k + 1, rfl, by omega, by omega, fun j hj hjk => ?_⟩
        · omega
        · by_cases hjk' : j = k
          · subst hjk'; exact hql
          · simpa using hno j hj (by omega)
    · simp [h6, h5, h1', hk']
      simp only [valid, e1, e2, Bool.true_and]
      rw [List.all_eq_true]
      intro x hx
      obtain ⟨i, hi, rfl⟩ := List.getElem_of_mem hx
      exact hno i hi (by omega)
  · simp
theorem rvalid_c (hE : EnvN E) (s : List UInt8) : call E 22 [.str s] H = some (.bool (valid s), H) := by
  refine call_wp hE.f22 (hE.p _) ⟨rfl, by simp [F22], ?_⟩
  simp [F22, rvalid0_c hE s]
theorem rstep_c (hE : EnvN E) (s : List UInt8) : call E 10 [.str s] H = some (.bool (stepN s), H) := by
  refine call_wp hE.f10 (hE.p _) ⟨rfl, by simp [F10], ?_⟩
  have hv := fun H => rvalid_c (H := H) hE s
  cases hvs : valid s with
  | false =>
    simp only [hvs] at hv
    simp [F10, hv, stepN, hvs]
  | true =>
    have hl : s.length ≤ 31 := by
      simp only [valid, Bool.and_eq_true, decide_eq_true_eq] at hvs
      exact hvs.1.2
    have hp := fun H => parts_c (H := H) hE s (by omega)
    have hlen := split_len s
    simp only [hvs] at hv
    by_cases hd : dots s < 2
    · have hd' : ((split s).length : Int) ≤ 2 := by omega
      simp [F10, hv, hp, stepN, hvs, hd, hd']
    · have hd' : ¬ ((split s).length : Int) ≤ 2 := by omega
      simp [F10, hv, hp, stepN, hvs, hd, hd']
end Nm
end Go.Flat
