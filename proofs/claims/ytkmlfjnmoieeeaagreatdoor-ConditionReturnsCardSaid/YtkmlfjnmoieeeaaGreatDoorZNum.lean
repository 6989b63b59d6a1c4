/- Numbers' texts: the reference's Digits and number, for every number and text. -/
import Derived.Test.YtkmlfjnmoieeeaaGreatDoorZParse
import Derived.Lib.ItoaNum
set_option linter.unusedVariables false
set_option linter.unusedSimpArgs false
namespace Go.Flat
variable {E : Env} {H : Heap}
structure EnvQ (E : Env) : Prop where
  e : EnvP E
  f29 : E.func 29 = some F29
  f50 : E.func 50 = some F50
@[simp] theorem bin_rem {k : IntKind} {a b : Int} : binA .rem (.int k a) (.int k b) = if b = 0 then none else some (.int k (a.tmod b)) := by simp [binA, intBin]
@[simp] theorem bin_quo {k : IntKind} {a b : Int} : binA .quo (.int k a) (.int k b) = if b = 0 then none else some (.int k (k.wrap (a.tdiv b))) := by simp [binA, intBin]
@[simp] theorem exec_toStr {c : CallT} {T : Temps} {x : Opd} : execA c (.toStr x) T H = keepH H (toStrA H (x.ev T)) := rfl
theorem toStr_one {t : Tail} {n : Int} : toStrA H (.sl t [.int .u8 n]) = some (.str [UInt8.ofNat n.toNat]) := rfl
def dgB (u : Nat) : UInt8 := UInt8.ofNat (48 + u % 10)
theorem dec_lt {u : Nat} (h : u < 10) : Lib.decDigits u = [dgB u] := by rw [Lib.decDigits, dif_pos h]; simp [dgB, Nat.mod_eq_of_lt h]
theorem dec_ge {u : Nat} (h : ¬ u < 10) : Lib.decDigits u = Lib.decDigits (u / 10) ++ [dgB u] := by rw [Lib.decDigits, dif_neg h]; rfl
theorem dgB_nat (u : Nat) : (dgB u).toNat = 48 + u % 10 := by
  simp [dgB]
  omega
theorem dec_len : ∀ u : Nat, 1 ≤ (Lib.decDigits u).length ∧ (Lib.decDigits u).length ≤ u + 1 := by
  intro u
  induction u using Nat.strongRecOn with
  | _ u ih =>
    by_cases h : u < 10
    · rw [dec_lt h]; simp
    · rw [dec_ge h]
      have := ih (u / 10) (by omega)
      simp
      omega
theorem u8_wrap {n : Int} (h0 : 0 ≤ n) (h1 : n ≤ 255) : IntKind.u8.wrap n = n := by
  simp [IntKind.wrap, IntKind.signed, IntKind.bits]
  omega
/-- Digits at least of one digit. -/
theorem digits_c (hE : EnvQ E) (u : Nat) (hu : u ≤ 4611686018427387904) : call E 29 [.int .i64 u, .int .i64 1] H = some (.str (Lib.itoa u), H) := by
  have hit : Lib.itoa (u : Int) = Lib.decDigits u := by unfold Lib.itoa; rw [if_neg (by omega)]; simp
  rw [hit]
  refine call_wp hE.f29 (hE.e.p _ (by decide)) ⟨rfl, by simp [F29], ?_⟩
  simp [F29]
  refine wp_loop (fun n T H' => ∃ (m : Nat) (s : List UInt8), n = m + (if s = [] then 1 else 0) ∧ m ≤ u ∧ T 0 = .int .i64 m ∧ T 1 = .int .i64 1 ∧ T 5 = .str s ∧ H' = H ∧
    ((s = [] ∧ m = u) ∨ (s ≠ [] ∧ (if m = 0 then s = Lib.decDigits u else Lib.decDigits m ++ s = Lib.decDigits u)))) ?_ (n := u + 1) ⟨u, [], ?_⟩
  · rintro n T H' ⟨m, s, rfl, hm, h0, h1, h5, rfl, hs⟩
    have hd : (m : Int).tdiv 10 = ((m / 10 : Nat) : Int) := by rw [Int.tdiv_eq_ediv_of_nonneg (by omega)]; omega
    have hr : (m : Int).tmod 10 = ((m % 10 : Nat) : Int) := by rw [Int.tmod_eq_emod_of_nonneg (by omega)]; omega
    have hw1 : IntKind.i64.wrap ((m / 10 : Nat) : Int) = ((m / 10 : Nat) : Int) := wrap64 (by omega) (by omega)
    have hw2 : IntKind.i64.wrap (48 + ((m % 10 : Nat) : Int)) = 48 + ((m % 10 : Nat) : Int) := wrap64 (by omega) (by omega)
    have hw3 : IntKind.u8.wrap (48 + ((m % 10 : Nat) : Int)) = 48 + ((m % 10 : Nat) : Int) := u8_wrap (by omega) (by omega)
    have hb : UInt8.ofNat (48 + ((m % 10 : Nat) : Int)).toNat = dgB m := by
      unfold dgB
      congr 1
    have hlu := (dec_len u).2
    by_cases hc : m = 0 ∧ s ≠ []
    · obtain ⟨rfl, hne⟩ := hc
      have hs' : s = Lib.decDigits u := by
        rcases hs with ⟨h, _⟩ | ⟨_, h⟩
        · exact absurd h hne
        · simpa using h
      subst hs'
      have hl1 : ¬ (((Lib.decDigits u).length : Int) < 1) := by have := (dec_len u).1; omega
      simp [h0, h1, h5, hl1]
    · have hsl : s.length ≤ u := by
        rcases hs with ⟨rfl, _⟩ | ⟨hne, h⟩
        · simp
        · have hm0 : ¬ m = 0 := fun e => hc ⟨e, hne⟩
          rw [if_neg hm0] at h
          have h1 := congrArg List.length h
          have h2 := (dec_len m).1
          simp at h1
          omega
      have hnew : (if m / 10 = 0 then dgB m :: s = Lib.decDigits u else Lib.decDigits (m / 10) ++ dgB m :: s = Lib.decDigits u) := by
        have hms : Lib.decDigits m ++ s = Lib.decDigits u := by
          rcases hs with ⟨rfl, rfl⟩ | ⟨hne, h⟩
          · simp
          · have hm0 : ¬ m = 0 := fun e => hc ⟨e, hne⟩
            rwa [if_neg hm0] at h
        by_cases hlt : m < 10
        · rw [if_pos (by omega), ← hms, dec_lt hlt]
          rfl
        · rw [if_neg (by omega), ← hms, dec_ge hlt]
          simp
      have hl2 : 1 + s.length ≤ 9223372036854775807 := by omega
      have hfin : ∃ n, n < m + (if s = [] then 1 else 0) ∧ ∃ (m' : Nat) (s' : List UInt8), n = m' + (if s' = [] then 1 else 0) ∧ m' ≤ u ∧ ((m / 10 : Nat) : Int) = m' ∧ dgB m :: s = s' ∧ ((s' = [] ∧ m' = u) ∨ (s' ≠ [] ∧ (if m' = 0 then s' = Lib.decDigits u else Lib.decDigits m' ++ s' = Lib.decDigits u))) := by
        refine ⟨m / 10, ?_, m / 10, _, by simp, by omega, rfl, rfl, .inr ⟨by simp, hnew⟩⟩
        by_cases e : s = []
        · simp [e]; omega
        · have hm0 : ¬ m = 0 := fun h => hc ⟨h, e⟩
          simp [e]; omega
      by_cases hm0 : 0 < m
      · have hm1 : (0 : Int) < m := by omega
        simp at hw1 hw2 hw3 hb hfin hd hr
        simp [h0, h1, h5, hm0, hm1, hd, hr, hw1, hw2, hw3, toStr_one, hb, hl2]
        exact hfin
      · obtain rfl : m = 0 := by omega
        have hse : s = [] := Classical.byContradiction fun h => hc ⟨rfl, h⟩
        subst hse
        have e1 : UInt8.ofNat (IntKind.u8.wrap (IntKind.i64.wrap 48)).toNat = dgB 0 := by decide
        have e2 : IntKind.i64.wrap 0 = 0 := rfl
        simp at hfin
        simp [h0, h1, h5, hd, hr, hw1, hw2, hw3, toStr_one, hb, hl2, e1, e2]
        simpa using hfin
  · simp
/-- What digits spell. -/
def valD (acc : Nat) : List UInt8 → Nat
  | [] => acc
  | c :: r => valD (10 * acc + (c.toNat - 48)) r
theorem valD_app (acc : Nat) (a b : List UInt8) : valD acc (a ++ b) = valD (valD acc a) b := by
  induction a generalizing acc with
  | nil => rfl
  | cons c a ih => exact ih _
theorem valD_dec : ∀ u : Nat, valD 0 (Lib.decDigits u) = u := by
  intro u
  induction u using Nat.strongRecOn with
  | _ u ih =>
    by_cases h : u < 10
    · have h1 := dgB_nat u
      rw [dec_lt h]
      show 10 * 0 + ((dgB u).toNat - 48) = u
      rw [h1]
      omega
    · have h1 := dgB_nat u
      rw [dec_ge h, valD_app, ih _ (by omega)]
      show 10 * (u / 10) + ((dgB u).toNat - 48) = u
      rw [h1]
      omega
theorem valD_ge (acc : Nat) (l : List UInt8) : acc ≤ valD acc l := by
  induction l generalizing acc with
  | nil => exact Nat.le_refl _
  | cons c l ih =>
    refine Nat.le_trans ?_ (ih _)
    generalize c.toNat - 48 = k
    omega
theorem dec_digits : ∀ u : Nat, ∀ c ∈ Lib.decDigits u, 48 ≤ c.toNat ∧ c.toNat ≤ 57 := by
  intro u
  induction u using Nat.strongRecOn with
  | _ u ih =>
    intro c hc
    by_cases h : u < 10
    · rw [dec_lt h] at hc; simp at hc; subst hc; rw [dgB_nat]; omega
    · rw [dec_ge h] at hc
      rcases List.mem_append.1 hc with h1 | h1
      · exact ih _ (by omega) c h1
      · simp at h1; subst h1; rw [dgB_nat]; omega
theorem parse_dec : ∀ (u : Nat) (r : List UInt8), u ≤ 1000000000000000000 → Lib.parseUint10 0 (Lib.decDigits u ++ r) = Lib.parseUint10 u r := by
  intro u
  induction u using Nat.strongRecOn with
  | _ u ih =>
    intro r hu
    by_cases h : u < 10
    · rw [dec_lt h]
      simp only [List.cons_append, List.nil_append, Lib.parseUint10, dgB_nat]
      rw [if_pos (by omega), if_neg (by omega), if_neg (by omega)]
      congr 1
      omega
    · rw [dec_ge h, List.append_assoc, ih _ (by omega) _ (by omega)]
      simp only [List.cons_append, List.nil_append, Lib.parseUint10, dgB_nat]
      rw [if_pos (by omega), if_neg (by omega), if_neg (by omega)]
      congr 1
      omega
theorem atoi_dec (u : Nat) (hu : u ≤ 1000000000000000000) : Lib.atoiAll (Lib.decDigits u) = .ok u := by
  have h1 := dec_len u
  have h2 := dec_digits u
  have h3 := parse_dec u [] hu
  simp only [List.append_nil] at h3
  cases hd : Lib.decDigits u with
  | nil => rw [hd] at h1; simp at h1
  | cons c r =>
    rw [hd] at h2 h3
    have hc := h2 c (by simp)
    have c1 : ¬ (c.toNat = 43 ∨ c.toNat = 45) := by omega
    have c2 : ¬ c.toNat = 45 := by omega
    unfold Lib.atoiAll
    simp only [if_neg c1, Lib.parseMag, List.cons_ne_nil, if_false, h3, Lib.parseUint10]
    rw [if_neg (by omega), if_neg (by omega), if_neg c2]
theorem itoa_nat (u : Nat) : Lib.itoa (u : Int) = Lib.decDigits u := by unfold Lib.itoa; rw [if_neg (by omega)]; simp
theorem numS_dec (u : Nat) (hu : u ≤ 4095) : numS (Lib.decDigits u) = some (u : Int) := by
  unfold numS
  rw [atoi_dec u (by omega)]
  simp only
  rw [if_pos ⟨by omega, by omega, itoa_nat u⟩]
theorem numS_some {v : Str} {n : Int} (h : numS v = some n) : ∃ u : Nat, u ≤ 4095 ∧ n = u ∧ v = Lib.decDigits u := by
  unfold numS at h
  split at h
  · split at h
    · rename_i m hm hc
      injection h with h
      subst h
      obtain ⟨h1, h2, h3⟩ := hc
      refine ⟨m.toNat, by omega, by omega, ?_⟩
      obtain ⟨k, rfl⟩ : ∃ k : Nat, m = k := ⟨m.toNat, by omega⟩
      rw [← h3, itoa_nat]
      rfl
    · simp at h
  · simp at h
def NumR (v : Str) (H : Heap) (r : PV × Heap) : Prop := ∃ (n : Int) (ok : Bool), r = (PV.tup [.int .i64 n, .bool ok], H) ∧ numS v = if ok then some n else none
theorem numR_mk {v : Str} {n : Int} {ok : Bool} (h : numS v = if ok then some n else none) : NumR v H (leave true H (.tup [.int .i64 n, .bool ok]) H) := ⟨n, ok, leave_plain0 rfl, h⟩
set_option maxHeartbeats 400000 in
theorem number_c (hE : EnvQ E) (v : Str) (hv : v.length ≤ 4611686018427387904) : ∃ (n : Int) (ok : Bool), call E 50 [.str v] H = some (.tup [.int .i64 n, .bool ok], H) ∧ numS v = if ok then some n else none := by
  have hq : ∃ r, NumR v H r ∧ call E 50 [.str v] H = some r := by
    refine call_wpQ hE.f50 (hE.e.p _ (by decide)) ⟨rfl, by simp [F50], ?_⟩
    simp [F50]
    refine wp_loop (fun q T H' => ∃ (k n : Nat), q = v.length - k ∧ k ≤ v.length ∧ T 0 = .str v ∧ T 4 = .int .i64 n ∧ T 5 = .int .i64 k ∧ H' = H ∧ n ≤ 41000 ∧ n = valD 0 (v.take k)) ?_ (n := v.length) ⟨0, 0, ?_⟩
    · rintro q T H' ⟨k, n, rfl, hk, h0, h4, h5, rfl, hn, hval⟩
      by_cases hk' : k < v.length
      · have hg : v[k]? = some v[k] := List.getElem?_eq_getElem hk'
        have bad : (¬ (48 ≤ v[k].toNat ∧ v[k].toNat ≤ 57) ∨ 4095 < n) → numS v = none := by
          intro hb
          cases hs : numS v with
          | none => rfl
          | some m =>
            exfalso
            obtain ⟨u, hu, rfl, hvu⟩ := numS_some hs
            rcases hb with hb | hb
            · exact hb (dec_digits u _ (by rw [← hvu]; exact List.getElem_mem hk'))
            · have h1 := valD_dec u
              rw [← hvu, ← List.take_append_drop k v, valD_app, ← hval] at h1
              have := valD_ge n (v.drop k)
              omega
        have hkl : (k : Int) < v.length := by omega
        have hw : IntKind.i64.wrap ((k : Int) + 1) = (k : Int) + 1 := wrap64 (by omega) (by omega)
        generalize v[k] = c at hg bad
        by_cases d1 : 48 ≤ c.toNat
        · by_cases d2 : c.toNat ≤ 57
          · by_cases d3 : 4095 < n
            · have e1 : ¬ ((c.toNat : Int) < 48) := by omega
              have e2 : ¬ ((57 : Int) < c.toNat) := by omega
              have e3 : (4095 : Int) < n := by omega
              simp [h0, h4, h5, hkl, hg, e1, e2, e3]
              exact numR_mk (bad (.inr d3))
            · have e1 : ¬ ((c.toNat : Int) < 48) := by omega
              have e2 : ¬ ((57 : Int) < c.toNat) := by omega
              have e3 : ¬ (4095 : Int) < n := by omega
              have w1 : IntKind.u8.wrap ((c.toNat : Int) - 48) = (c.toNat : Int) - 48 := u8_wrap (by omega) (by omega)
              have w2 : IntKind.i64.wrap ((c.toNat : Int) - 48) = (c.toNat : Int) - 48 := wrap64 (by omega) (by omega)
              have w3 : IntKind.i64.wrap (10 * (n : Int)) = 10 * (n : Int) := wrap64 (by omega) (by omega)
              have w4 : IntKind.i64.wrap (10 * (n : Int) + ((c.toNat : Int) - 48)) = 10 * (n : Int) + ((c.toNat : Int) - 48) := wrap64 (by omega) (by omega)
              simp [h0, h4, h5, hkl, hg, e1, e2, e3, w1, w2, w3, w4, hw]
              refine ⟨v.length - (k + 1), by omega, k + 1, rfl, by omega, 10 * n + (c.toNat - 48), by omega, by omega, by omega, ?_⟩
              rw [List.take_add_one, hg, valD_app, ← hval]
              rfl
          · have e1 : ¬ ((c.toNat : Int) < 48) := by omega
            have e2 : ((57 : Int) < c.toNat) := by omega
            simp [h0, h4, h5, hkl, hg, e1, e2]
            exact numR_mk (bad (.inl fun h => d2 h.2))
        · have e1 : ((c.toNat : Int) < 48) := by omega
          simp [h0, h4, h5, hkl, hg, e1]
          exact numR_mk (bad (.inl fun h => d1 h.1))
      · obtain rfl : k = v.length := by omega
        by_cases l0 : v = []
        · subst l0
          simp [h0, h4, h5]
          exact numR_mk (by rfl)
        · have hl0 : 0 < v.length := List.length_pos_iff.2 l0
          have hl1 : (0 : Int) < v.length := by omega
          rw [List.take_length] at hval
          by_cases d3 : n ≤ 4095
          · have e3 : (n : Int) ≤ 4095 := by omega
            have hdg := fun H => digits_c (H := H) hE n (by omega)
            rw [itoa_nat] at hdg
            by_cases he : Lib.decDigits n = v
            · simp [h0, h4, h5, hl0, hl1, e3, hdg, he]
              exact numR_mk (by rw [← he, numS_dec n d3]; rfl)
            · simp [h0, h4, h5, hl0, hl1, e3, hdg, he]
              refine numR_mk ?_
              cases hs : numS v with
              | none => simp [he]
              | some m =>
                exfalso
                obtain ⟨u, hu, rfl, hvu⟩ := numS_some hs
                rw [hvu, valD_dec] at hval
                exact he (by rw [hvu, hval])
          · have e3 : ¬ (n : Int) ≤ 4095 := by omega
            simp [h0, h4, h5, hl0, hl1, e3]
            refine numR_mk ?_
            cases hs : numS v with
            | none => rfl
            | some m =>
              exfalso
              obtain ⟨u, hu, rfl, hvu⟩ := numS_some hs
              rw [hvu, valD_dec] at hval
              omega
    · simp
      rfl
  obtain ⟨_, ⟨n, ok, rfl, h1⟩, h2⟩ := hq
  exact ⟨n, ok, h2, h1⟩
end Go.Flat
