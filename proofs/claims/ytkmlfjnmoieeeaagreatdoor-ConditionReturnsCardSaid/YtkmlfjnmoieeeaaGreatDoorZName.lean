/- Names of data sets: what the program's functions and the reference's make of a text, for every text. -/
import Derived.Test.YtkmlfjnmoieeeaaGreatDoorZLit
import Derived.Test.YtkmlfjnmoieeeaaGreatDoorFlatU
set_option linter.unusedVariables false
set_option linter.unusedSimpArgs false
namespace Go.Flat
structure EnvN (E : Env) : Prop where
  p : ∀ f, np f = true → E.prim f = none
  f22 : E.func 22 = some F22
  f47 : E.func 47 = some F47
  f48 : E.func 48 = some F48
  f26 : E.func 26 = some F26
  f67 : E.func 67 = some F67
  f51 : E.func 51 = some F51
  f52 : E.func 52 = some F52
  f90 : E.func 90 = some F90
  f68 : E.func 68 = some F68
  f69 : E.func 69 = some F69
  f70 : E.func 70 = some F70
  f71 : E.func 71 = some F71
  f72 : E.func 72 = some F72
  f75 : E.func 75 = some F75
  f102 : E.func 102 = some F102
  f103 : E.func 103 = some F103
  f91 : E.func 91 = some F91
  f92 : E.func 92 = some F92
  f93 : E.func 93 = some F93
  f104 : E.func 104 = some F104
  f105 : E.func 105 = some F105
variable {E : Env} {H : Heap}
namespace Nm
def up (c : UInt8) : Bool := decide (65 ≤ c.toNat) && decide (c.toNat ≤ 90)
def dig (c : UInt8) : Bool := decide (48 ≤ c.toNat) && decide (c.toNat ≤ 57)
def pl (c : UInt8) : Bool := up c || dig c
def rng (lo hi : Int) (n : Int) : Bool := decide (lo ≤ n) && decide (n ≤ hi)
theorem up_rng (c : UInt8) : rng 65 90 (c.toNat : Int) = up c := by
  simp only [rng, up]
  congr 1 <;> exact decide_eq_decide.2 (by omega)
theorem dig_rng (c : UInt8) : rng 48 57 (c.toNat : Int) = dig c := by
  simp only [rng, dig]
  congr 1 <;> exact decide_eq_decide.2 (by omega)
theorem upper_c (hE : EnvN E) (c : UInt8) : call E 71 [.int .u8 (c.toNat : Int)] H = some (.bool (up c), H) := by
  refine call_wp hE.f71 (hE.p _ (by decide)) ⟨rfl, by simp [F71], ?_⟩
  rw [← up_rng]
  by_cases h1 : (65 : Int) ≤ c.toNat <;> by_cases h2 : (c.toNat : Int) ≤ 90 <;> simp [F71, h1, h2, rng]
theorem digit_c (hE : EnvN E) (c : UInt8) : call E 92 [.int .u8 (c.toNat : Int)] H = some (.bool (dig c), H) := by
  refine call_wp hE.f92 (hE.p _ (by decide)) ⟨rfl, by simp [F92], ?_⟩
  rw [← dig_rng]
  by_cases h1 : (48 : Int) ≤ c.toNat <;> by_cases h2 : (c.toNat : Int) ≤ 57 <;> simp [F92, h1, h2, rng]
theorem rdigit_c (hE : EnvN E) (c : UInt8) : call E 102 [.int .u8 (c.toNat : Int)] H = some (.bool (dig c), H) := by
  refine call_wp hE.f102 (hE.p _ (by decide)) ⟨rfl, by simp [F102], ?_⟩
  rw [← dig_rng]
  by_cases h1 : (48 : Int) ≤ c.toNat <;> by_cases h2 : (c.toNat : Int) ≤ 57 <;> simp [F102, h1, h2, rng]
theorem letter_c (hE : EnvN E) (c : UInt8) : call E 103 [.int .u8 (c.toNat : Int)] H = some (.bool (up c), H) := by
  refine call_wp hE.f103 (hE.p _ (by decide)) ⟨rfl, by simp [F103], ?_⟩
  rw [← up_rng]
  by_cases h1 : (65 : Int) ≤ c.toNat <;> by_cases h2 : (c.toNat : Int) ≤ 90 <;> simp [F103, h1, h2, rng]
theorem plain_c (hE : EnvN E) (c : UInt8) : call E 72 [.int .u8 (c.toNat : Int)] H = some (.bool (pl c), H) := by
  refine call_wp hE.f72 (hE.p _ (by decide)) ⟨rfl, by simp [F72], ?_⟩
  have h1 := fun H => upper_c (H := H) hE c
  have h2 := fun H => digit_c (H := H) hE c
  cases hu : up c <;> cases hd : dig c <;> simp [hu, hd] at h1 h2 <;> simp [F72, h1, h2, pl, hu, hd]
def qual : List UInt8 → Bool
  | [] => false
  | c :: r => decide (r.length + 1 ≤ 8) && up c && r.all pl
theorem qual_c (hE : EnvN E) (q : List UInt8) (hq : q.length ≤ 4611686018427387904) : call E 70 [.str q, .func (.func 71) [] [], .func (.func 72) [] []] H = some (.bool (qual q), H) := by
  refine call_wp hE.f70 (hE.p _ (by decide)) ⟨rfl, by simp [F70], ?_⟩
  cases q with
  | nil => simp [F70, qual]
  | cons c r =>
    simp at hq
    by_cases h8 : 8 < r.length + 1
    · have h8' : (8 : Int) < r.length + 1 := by omega
      have h1 : ¬ ((r.length : Int) + 1 < 1) := by omega
      have h9 : ¬ (r.length + 1 ≤ 8) := by omega
      simp [F70, qual, h8', h1, h9]
    · have h8' : ¬ (8 : Int) < r.length + 1 := by omega
      have h1 : ¬ ((r.length : Int) + 1 < 1) := by omega
      have h9 : r.length + 1 ≤ 8 := by omega
      have hu := fun H => upper_c (H := H) hE c
      cases hc : up c with
      | false =>
        simp only [hc] at hu
        simp [F70, qual, h8', h1, h9, hc, hu]
      | true =>
        simp only [hc] at hu
        simp [F70, h8', h1, hu]
        refine wp_loop (fun n T H' => ∃ k : Nat, n = r.length + 1 - k ∧ 1 ≤ k ∧ k ≤ r.length + 1 ∧ T 7 = .int .i64 k ∧ T 0 = .str (c :: r) ∧ T 2 = .func (.func 72) [] [] ∧ H' = H ∧ ∀ j (hj : j < r.length), j + 1 < k → pl r[j] = true) ?_ (n := r.length) ⟨1, ?_⟩
        · rintro n T H' ⟨k, rfl, hk1, hk, h7, h0, h2, rfl, hno⟩
          by_cases hk' : k < r.length + 1
          · have hw : IntKind.i64.wrap ((k : Int) + 1) = (k : Int) + 1 := wrap64 (by omega) (by omega)
            have hki : (k : Int) < r.length + 1 := by omega
            have hg : (c :: r)[k]? = some r[k - 1] := by
              obtain ⟨j, rfl⟩ : ∃ j, k = j + 1 := ⟨k - 1, by omega⟩
              simp
            have hp := fun H => plain_c (H := H) hE r[k - 1]
            cases hpl : pl r[k - 1] with
            | false =>
              simp only [hpl] at hp
              simp [h7, h0, h2, hki, hg, hp]
              simp only [qual, h9, hc, decide_true, Bool.true_and]
              rw [List.all_eq_false]
              exact ⟨r[k - 1], List.getElem_mem _, by simp [hpl]⟩
            | true =>
              simp only [hpl] at hp
              simp [h7, h0, h2, hki, hg, hp, hw]
              refine ⟨r.length + 1 - (k + 1), by omega, k + 1, rfl, by omega, by omega, by omega, fun j hj hjk => ?_⟩
              by_cases hjk' : j + 1 = k
              · subst hjk'; simpa using hpl
              · simpa using hno j hj (by omega)
          · have hki : ¬ (k : Int) < r.length + 1 := by omega
            simp [h7, h0, h2, hki]
            simp only [qual, h9, hc, decide_true, Bool.true_and]
            rw [List.all_eq_true]
            intro x hx
            obtain ⟨i, hi, rfl⟩ := List.getElem_of_mem hx
            exact hno i hi (by omega)
        · simp
theorem qual1_c (hE : EnvN E) (q : List UInt8) (hq : q.length ≤ 4611686018427387904) : call E 69 [.str q] H = some (.bool (qual q), H) := by
  refine call_wp hE.f69 (hE.p _ (by decide)) ⟨rfl, by simp [F69], ?_⟩
  simp [F69, qual_c hE q hq]
/-! ### Splitting at full stops -/
def split : List UInt8 → List (List UInt8)
  | [] => [[]]
  | b :: s => if b = 46 then [] :: split s else match split s with
    | p :: ps => (b :: p) :: ps
    | [] => [[b]]
def dots (s : List UInt8) : Nat := Go.Lib.countByte s 46
theorem split_ne (s : List UInt8) : split s ≠ [] := by
  cases s with
  | nil => simp [split]
  | cons b s =>
    simp only [split]
    split
    · simp
    · split <;> simp
theorem split_len (s : List UInt8) : (split s).length = dots s + 1 := by
  induction s with
  | nil => rfl
  | cons b s ih =>
    simp only [split, dots, Lib.countByte, List.count_cons]
    by_cases hb : b = 46
    · subst hb
      simp only [dots, Lib.countByte] at ih
      simp [ih]
    · simp only [hb, if_false]
      simp only [dots, Lib.countByte] at ih
      cases hs : split s with
      | nil => exact absurd hs (split_ne s)
      | cons p ps =>
        rw [hs] at ih
        simpa [hb] using ih
theorem index_none {s : List UInt8} (h : Go.Lib.indexByte s 46 < 0) : split s = [s] ∧ dots s = 0 := by
  induction s with
  | nil => exact ⟨rfl, rfl⟩
  | cons b s ih =>
    simp only [Lib.indexByte] at h
    split at h
    · simp at h
    · rename_i hb
      have hb' : ¬ b = 46 := by simpa using hb
      split at h
      · rename_i hm
        have hm' : Lib.indexByte s 46 = -1 := by simpa using hm
        obtain ⟨h1, h2⟩ := ih (by omega)
        refine ⟨by simp [split, hb', h1], ?_⟩
        simp only [dots, Lib.countByte, List.count_cons] at h2 ⊢
        simp [h2, hb']
      · rename_i hm
        have := Lib.indexByte_ge s 46
        have hm' : ¬ Lib.indexByte s 46 = -1 := by simpa using hm
        omega
theorem index_some {s : List UInt8} (h : 0 ≤ Go.Lib.indexByte s 46) : ∃ k : Nat, Go.Lib.indexByte s 46 = k ∧ k < s.length ∧ split s = s.take k :: split (s.drop (k + 1)) ∧ dots s = dots (s.drop (k + 1)) + 1 := by
  induction s with
  | nil => simp [Lib.indexByte] at h
  | cons b s ih =>
    simp only [Lib.indexByte] at h ⊢
    by_cases hb : b = 46
    · subst hb
      refine ⟨0, by simp, by simp, by simp [split], ?_⟩
      simp [dots, Lib.countByte]
    · have hb' : (b == 46) = false := by simpa using hb
      simp only [hb', Bool.false_eq_true, if_false] at h ⊢
      have hge := Lib.indexByte_ge s 46
      by_cases hm : Lib.indexByte s 46 = -1
      · simp [hm] at h
      · have hm' : (Lib.indexByte s 46 == -1) = false := by simpa using hm
        obtain ⟨k, h1, h2, h3, h4⟩ := ih (by omega)
        refine ⟨k + 1, by simp [h1], by simp; omega, ?_, ?_⟩
        · simp [split, hb, h3]
        · simp only [dots, Lib.countByte, List.count_cons] at h4 ⊢
          simp [h4, hb]
/-! ### The library's splitting -/
theorem count_c (hE : EnvN E) (s : List UInt8) : call E 52 [.str s, .str [46]] H = some (.int .i64 (dots s), H) := by
  refine call_wp hE.f52 (hE.p _ (by decide)) ⟨rfl, by simp [F52], ?_⟩
  simp [F52, dots]
theorem ibyte_c (hE : EnvN E) (s : List UInt8) : call E 105 [.str s, .int .u8 46] H = some (.int .i64 (Lib.indexByte s 46), H) := by
  refine call_wp hE.f105 (hE.p _ (by decide)) ⟨rfl, by simp [F105], ?_⟩
  simp [F105]
theorem index_c (hE : EnvN E) (s : List UInt8) : call E 93 [.str s, .str [46]] H = some (.int .i64 (Lib.indexByte s 46), H) := by
  refine call_wp hE.f93 (hE.p _ (by decide)) ⟨rfl, by simp [F93], ?_⟩
  have hi := fun H => ibyte_c (H := H) hE s
  by_cases h : s = [46]
  · subst h
    simp [F93, Lib.indexByte]
  · have h' : ¬ [46] = s := fun e => h e.symm
    simp [F93, hi, h, h']
theorem index53_c (hE : EnvN E) (s : List UInt8) : call E 75 [.str s, .str [46]] H = some (.int .i64 (Lib.indexByte s 46), H) := by
  refine call_wp hE.f75 (hE.p _ (by decide)) ⟨rfl, by simp [F75], ?_⟩
  simp [F75, index_c hE s]
end Nm
end Go.Flat
/- Names of data sets, further: splitting, whole names, names of steps. -/
namespace Go.Flat
variable {E : Env} {H : Heap}
namespace Nm
def strs (l : List (List UInt8)) : List PV := l.map .str
@[simp] theorem strs_length (l : List (List UInt8)) : (strs l).length = l.length := by simp [strs]
theorem strs_plain (l : List (List UInt8)) : plainL (strs l) = true := plainL_of (by intro p hp; simp [strs] at hp; obtain ⟨e, _, rfl⟩ := hp; rfl)
theorem strs_uniform (l : List (List UInt8)) : uniform 1 (strs l) = true := uniform_of (by intro p hp; simp [strs] at hp; obtain ⟨e, _, rfl⟩ := hp; exact ⟨rfl, rfl⟩)
theorem dots_le (s : List UInt8) : dots s ≤ s.length := List.count_le_length
theorem frz_view {n : Nat} {es : List PV} {l : Heap} (h : l[0]? = some (.vec 1 es)) (hn : n ≤ es.length) (hp : plainL (es.take n) = true) :
    leave true H (.view H.length 1 0 n) (H ++ l) = (.sl .shut (es.take n), H) := by
  unfold leave
  have e1 : (PV.view H.length 1 0 n).frz (H ++ l) H.length = .sl .shut (es.take n) := by
    simp only [PV.frz, get_end0, h]
    rw [if_pos ⟨Nat.le_refl _, trivial, by omega⟩]
    simp
  have e2 : ((PV.sl .shut (es.take n)).frz (H ++ l) H.length).strip = .sl .shut (es.take n) := by
    simp only [PV.frz, plainL_frz _ _ hp, PV.strip, plainL_strip hp]
  have e3 : (PV.sl .shut (es.take n)).idsLt H.length = true := PV.plain_ids _ (by simp [PV.plain, hp])
  simp [e1, e2, e3]
theorem gen_c (hE : EnvN E) (s : List UInt8) (hs : s.length ≤ 4294967294) : call E 104 [.str s, .str [46], .int .i64 0, .int .i64 (-1)] H = some (.sl .shut (strs (split s)), H) := by
  refine call_wp hE.f104 (hE.p _ (by decide)) ⟨rfl, by simp [F104], ?_⟩
  have hc := fun H => count_c (H := H) hE s
  have hd := dots_le s
  have w1 : IntKind.i64.wrap ((dots s : Int) + 1) = (dots s : Int) + 1 := wrap64 (by omega) (by omega)
  have w2 : IntKind.i64.wrap ((s.length : Int) + 1) = (s.length : Int) + 1 := wrap64 (by omega) (by omega)
  have w3 : IntKind.i64.wrap ((dots s : Int) + 1 - 1) = (dots s : Int) := by rw [wrap64] <;> omega
  have c1 : ¬ ((s.length : Int) + 1 < (dots s : Int) + 1) := by omega
  have c1' : ¬ ((s.length : Int) < (dots s : Int)) := by omega
  have c1'' : ¬ (s.length < dots s) := by omega
  have c2 : (0 : Int) ≤ (dots s : Int) + 1 := by omega
  have c3 : (dots s : Int) + 1 ≤ 4294967296 := by omega
  have c4 : ((dots s : Int) + 1).toNat = dots s + 1 := by omega
  have w4 : IntKind.i64.wrap ((dots s : Int)) = (dots s : Int) := by rw [wrap64] <;> omega
  simp [F104, hc, w1, w2, w3, w4, c1, c1', c1'', c2, c3, c4]
  refine wp_loop (fun n T H' => ∃ (k : Nat) (pre : List (List UInt8)) (r : List UInt8) (L : Heap), n = dots s - k ∧ k ≤ dots s ∧ pre.length = k ∧ dots r = dots s - k ∧ split s = pre ++ split r ∧ r.length ≤ s.length ∧
    T 0 = .str r ∧ T 1 = .str [46] ∧ T 2 = .int .i64 0 ∧ T 3 = .int .i64 (dots s) ∧ T 9 = .view H.length 1 0 (dots s + 1) ∧ T 10 = .int .i64 k ∧ H' = H ++ L ∧ L[0]? = some (.vec 1 (strs pre ++ List.replicate (dots s + 1 - k) (.str [])))) ?_ (n := dots s) ⟨0, [], s, [.vec 1 (List.replicate (dots s + 1) (.str [])), .dead], ?_⟩
  · rintro n T H' ⟨k, pre, r, L, rfl, hk, hpl, hdr, hsp, hrl, h0, h1, h2, h3, h9, h10, rfl, hL⟩
    have hix := fun H => index53_c (H := H) hE r
    have hxl : (strs pre ++ List.replicate (dots s + 1 - k) (PV.str []))[k]? = some (.str []) := by
      rw [List.getElem?_append_right (by simp [hpl]), strs_length, hpl, Nat.sub_self, List.getElem?_replicate, if_pos (by omega)]
    have hset : ∀ x : List UInt8, (strs pre ++ List.replicate (dots s + 1 - k) (PV.str [])).set k (.str x) = strs (pre ++ [x]) ++ List.replicate (dots s + 1 - (k + 1)) (.str []) := by
      intro x
      obtain ⟨m, hm⟩ : ∃ m, dots s + 1 - k = m + 1 := ⟨dots s - k, by omega⟩
      rw [List.set_append_right _ _ (by simp [hpl]), hm, show dots s + 1 - (k + 1) = m by omega]
      simp [hpl, strs, List.replicate_succ]
    have hkl : (k : Int) < (dots s : Int) + 1 := by omega
    have hkn : k < dots s + 1 := by omega
    by_cases hk' : k < dots s
    · have hge : 0 ≤ Lib.indexByte r 46 := by
        rcases Int.lt_or_le (Lib.indexByte r 46) 0 with h | h
        · have := (index_none h).2
          omega
        · exact h
      obtain ⟨j, hj1, hj2, hj3, hj4⟩ := index_some hge
      rw [hj1] at hix
      have hn : ¬ ((j : Int) < 0) := by omega
      have v1 : IntKind.i64.wrap (j : Int) = (j : Int) := wrap64 (by omega) (by omega)
      have v2 : IntKind.i64.wrap ((j : Int) + 1) = (j : Int) + 1 := wrap64 (by omega) (by omega)
      have v3 : IntKind.i64.wrap ((k : Int) + 1) = (k : Int) + 1 := wrap64 (by omega) (by omega)
      have v4 : (0 : Int) ≤ (j : Int) + 1 := by omega
      have v5 : ((j : Int) + 1).toNat = j + 1 := by omega
      have v6 : j ≤ r.length := by omega
      have v7 : j + 1 ≤ r.length := by omega
      simp [h0, h1, h2, h3, h9, h10, hk', hix, hn, v1, v2, v3, v4, v5, v6, v7, hkl, hkn, hL, storeV_at hxl, hset]
      refine ⟨dots s - (k + 1), by omega, k + 1, rfl, by omega, pre ++ [r.take j], by simp [hpl], r.drop (j + 1), by omega, by rw [hsp, hj3]; simp, by simp; omega, rfl, by omega, ?_⟩
      have hL0 : L ≠ [] := by rintro rfl; simp at hL
      rw [List.getElem?_set_self (List.length_pos_iff.2 hL0), show dots s + 1 - (k + 1) = dots s - k by omega]
    · have hke : k = dots s := by omega
      subst hke
      have hsr : split r = [r] := by
        rcases Int.lt_or_le (Lib.indexByte r 46) 0 with h | h
        · exact (index_none h).1
        · obtain ⟨j, _, _, _, hj4⟩ := index_some h
          omega
      have v3 : IntKind.i64.wrap ((dots s : Int) + 1) = (dots s : Int) + 1 := w1
      have q1 : (0 : Int) ≤ (dots s : Int) + 1 := by omega
      have hL0 : L ≠ [] := by rintro rfl; simp at hL
      have q2 : (dots s : Int) < (dots s : Int) + 1 := by omega
      have e1 : dots s + 1 - dots s = 1 := by omega
      have hset1 : ∀ x : List UInt8, (strs pre ++ [PV.str []]).set (dots s) (.str x) = strs (pre ++ [x]) := by
        intro x
        have := hset x
        simpa [e1] using this
      rw [e1] at hxl hL
      simp only [List.replicate_one] at hxl hL
      simp [h0, h1, h2, h3, h9, h10, hL, storeV_at hxl, hset1, v3, q1, q2, c4]
      have hv := frz_view (H := H) (n := dots s + 1) (es := strs (pre ++ [r])) (l := L.set 0 (.vec 1 (strs (pre ++ [r])))) (List.getElem?_set_self (List.length_pos_iff.2 hL0)) (by simp [hpl]) (by rw [List.take_of_length_le (by simp [hpl])]; exact strs_plain _)
      rw [hv, List.take_of_length_le (by simp [hpl]), hsp, hsr]
  · simp [strs]
theorem split_c (hE : EnvN E) (s : List UInt8) (hs : s.length ≤ 4294967294) : call E 91 [.str s, .str [46]] H = some (.sl .shut (strs (split s)), H) := by
  refine call_wp hE.f91 (hE.p _ (by decide)) ⟨rfl, by simp [F91], ?_⟩
  simp [F91, gen_c hE s hs]
  exact leave_plain0 (by simp [PV.plain, strs_plain])
theorem split_part (s : List UInt8) : ∀ q ∈ split s, q.length ≤ s.length := by
  induction s with
  | nil => simp [split]
  | cons b s ih =>
    simp only [split]
    split
    · intro q hq
      rcases List.mem_cons.1 hq with rfl | hq
      · simp
      · have := ih q hq
        simp; omega
    · cases hs : split s with
      | nil => exact absurd hs (split_ne s)
      | cons p ps =>
        rw [hs] at ih
        intro q hq
        rcases List.mem_cons.1 hq with rfl | hq
        · have := ih p (by simp)
          simpa using this
        · have := ih q (by simp [hq])
          simp; omega
def valid (s : List UInt8) : Bool := decide (1 ≤ s.length) && decide (s.length ≤ 31) && (split s).all qual
theorem all_c (hE : EnvN E) (s : List UInt8) : call E 68 [.str s, .int .i64 31, .func (.func 69) [] []] H = some (.bool (valid s), H) := by
  refine call_wp hE.f68 (hE.p _ (by decide)) ⟨rfl, by simp [F68], ?_⟩
  by_cases h1 : (s.length : Int) < 1
  · have h1' : ¬ 1 ≤ s.length := by omega
    have h1'' : s = [] := List.eq_nil_of_length_eq_zero (by omega)
    subst h1''
    simp [F68, valid]
  by_cases h2 : (31 : Int) < s.length
  · have h2' : ¬ s.length ≤ 31 := by omega
    simp [F68, h1, h2, valid, h2']
  have hsp := fun H => split_c (H := H) hE s (by omega)
  have hlen := split_len s
  have hdl := dots_le s
  simp [F68, h1, h2, hsp]
  refine wp_loop (fun n T H' => ∃ k : Nat, n = (split s).length - k ∧ k ≤ (split s).length ∧ T 21 = .int .i64 k ∧ T 20 = .int .i64 (split s).length ∧ T 19 = .sl .shut (strs (split s)) ∧ T 2 = .func (.func 69) [] [] ∧ H' = H ∧ ∀ j (hj : j < (split s).length), j < k → qual (split s)[j] = true) ?_ (n := (split s).length) ⟨0, ?_⟩
  · rintro n T H' ⟨k, rfl, hk, h21, h20, h19, h2, rfl, hno⟩
    have e1 : decide (1 ≤ s.length) = true := decide_eq_true (by omega)
    have e2 : decide (s.length ≤ 31) = true := decide_eq_true (by omega)
    by_cases hk' : k < (split s).length
    · have hg : (strs (split s))[k]? = some (.str (split s)[k]) := by simp [strs, hk']
      have hw : IntKind.i64.wrap ((k : Int) + 1) = (k : Int) + 1 := wrap64 (by omega) (by omega)
      have hq := fun H => qual1_c (H := H) hE (split s)[k] (by have := split_part s _ (List.getElem_mem hk'); omega)
      cases hql : qual (split s)[k] with
      | false =>
        simp only [hql] at hq
        simp [h21, h20, h19, h2, hk', iaSl_at hg, hq]
        simp only [valid, e1, e2, Bool.true_and]
        rw [List.all_eq_false]
        exact ⟨_, List.getElem_mem hk', by simp [hql]⟩
      | true =>
        simp only [hql] at hq
        simp [h21, h20, h19, h2, hk', iaSl_at hg, hq, hw]
        refine ⟨_, ?_, k + 1, rfl, by omega, by omega, fun j hj hjk => ?_⟩
        · omega
        · by_cases hjk' : j = k
          · subst hjk'; exact hql
          · simpa using hno j hj (by omega)
    · simp [h21, h20, h19, h2, hk']
      simp only [valid, e1, e2, Bool.true_and]
      rw [List.all_eq_true]
      intro x hx
      obtain ⟨i, hi, rfl⟩ := List.getElem_of_mem hx
      exact hno i hi (by omega)
  · simp
theorem valid_c (hE : EnvN E) (s : List UInt8) : call E 51 [.str s] H = some (.bool (valid s), H) := by
  refine call_wp hE.f51 (hE.p _ (by decide)) ⟨rfl, by simp [F51], ?_⟩
  simp [F51, all_c hE s]
def stepN (s : List UInt8) : Bool := valid s && decide (dots s < 2)
theorem step_c (hE : EnvN E) (s : List UInt8) : call E 26 [.str s] H = some (.bool (stepN s), H) := by
  refine call_wp hE.f26 (hE.p _ (by decide)) ⟨rfl, by simp [F26], ?_⟩
  have hv := fun H => valid_c (H := H) hE s
  have hc := fun H => count_c (H := H) hE s
  cases hvs : valid s with
  | false =>
    simp only [hvs] at hv
    simp [F26, hv, stepN, hvs]
  | true =>
    simp only [hvs] at hv
    by_cases hd : dots s < 2
    · have hd' : (dots s : Int) < 2 := by omega
      simp [F26, hv, hc, stepN, hvs, hd, hd']
    · have hd' : ¬ (dots s : Int) < 2 := by omega
      simp [F26, hv, hc, stepN, hvs, hd, hd']
end Nm
end Go.Flat
/- Names of data sets: the reference's functions come to the same. -/
namespace Go.Flat
variable {E : Env} {H : Heap}
namespace Nm
/-- What the reference's loop over the bytes makes: the parts so far, the last one open. -/
def push (l : List (List UInt8)) (b : UInt8) : List (List UInt8) := if b = 46 then l ++ [[]] else l.dropLast ++ [l.getLast?.getD [] ++ [b]]
theorem push_ne (l : List (List UInt8)) (b : UInt8) : push l b ≠ [] := by
  unfold push
  split <;> simp
theorem foldl_push (s : List UInt8) : ∀ (pre : List (List UInt8)) (q : List UInt8), s.foldl push (pre ++ [q]) = pre ++ (match split s with | p :: ps => (q ++ p) :: ps | [] => [q]) := by
  induction s with
  | nil => intro pre q; simp [split]
  | cons b s ih =>
    intro pre q
    simp only [List.foldl_cons, split]
    by_cases hb : b = 46
    · subst hb
      have : push (pre ++ [q]) 46 = (pre ++ [q]) ++ [[]] := by simp [push]
      rw [this, ih]
      cases hs : split s with
      | nil => exact absurd hs (split_ne s)
      | cons p ps => simp
    · have : push (pre ++ [q]) b = pre ++ [q ++ [b]] := by simp [push, hb]
      rw [this, ih]
      cases hs : split s with
      | nil => exact absurd hs (split_ne s)
      | cons p ps => simp [hb]
theorem fold_split (s : List UInt8) : s.foldl push [[]] = split s := by
  have := foldl_push s [] []
  simp only [List.nil_append] at this
  rw [this]
  cases hs : split s with
  | nil => exact absurd hs (split_ne s)
  | cons p ps => rfl
theorem push_len (l : List (List UInt8)) (b : UInt8) (h : l ≠ []) : (push l b).length ≤ l.length + 1 ∧ 1 ≤ (push l b).length := by
  have := List.length_pos_iff.2 h
  unfold push
  split <;> simp <;> omega
theorem parts_c (hE : EnvN E) (s : List UInt8) (hs : s.length ≤ 4294967290) : call E 48 [.str s] H = some (.sl .shut (strs (split s)), H) := by
  refine call_wp hE.f48 (hE.p _ (by decide)) ⟨rfl, by simp [F48], ?_⟩
  simp [F48]
  refine wp_loop (fun n T H' => ∃ (k : Nat) (l : List (List UInt8)) (L : Heap) (j : Nat), n = s.length - k ∧ k ≤ s.length ∧ T 0 = .str s ∧ T 4 = .int .i64 k ∧ H' = H ++ L ∧ L[j]? = some (.vec 1 (strs l)) ∧ T 3 = .view (H.length + j) 1 0 l.length ∧ l ≠ [] ∧ l.length ≤ k + 1 ∧ (∀ q ∈ l, q.length ≤ k) ∧ (s.drop k).foldl push l = split s) ?_ (n := s.length) ⟨0, [[]], [.vec 1 [.str []], .dead], 0, ?_⟩
  · rintro n T H' ⟨k, l, L, j, rfl, hk, h0, h4, rfl, hL, h3, hne, hll, hql, hfold⟩
    have hw : IntKind.i64.wrap ((k : Int) + 1) = (k : Int) + 1 := wrap64 (by omega) (by omega)
    by_cases hk' : k < s.length
    · have hg : s[k]? = some s[k] := List.getElem?_eq_getElem hk'
      have hd : s.drop k = s[k] :: s.drop (k + 1) := by rw [List.drop_eq_getElem_cons hk']
      rw [hd, List.foldl_cons] at hfold
      obtain ⟨m, hm⟩ : ∃ m, l.length = m + 1 := ⟨l.length - 1, by have := List.length_pos_iff.2 hne; omega⟩
      by_cases hb : s[k] = 46
      · have hb' : s[k].toNat = 46 := by rw [hb]; rfl
        have hbi : ((s[k].toNat : Nat) : Int) = 46 := by omega
        have q1 : l.length + 1 ≤ 4294967296 := by omega
        have hj' := get_more hL
        have t1 : (strs l).take l.length = strs l := List.take_of_length_le (by simp)
        simp [h0, h4, h3, hk', hg, hbi, hw, q1, hb', hj', t1]
        refine ⟨s.length - (k + 1), by omega, k + 1, rfl, by omega, by omega, l ++ [[]], L.length + 2, ?_, ⟨rfl, by simp⟩, by simp, by simp; omega, ?_, ?_⟩
        · rw [List.getElem?_append_right (by simp)]
          simp [strs]
        · intro q hq
          rcases List.mem_append.1 hq with h | h
          · have := hql q h
            omega
          · simp at h
            subst h
            simp
        · rw [← hfold]
          simp [push, hb]
      · have hb' : ¬ s[k].toNat = 46 := fun e => hb (by rw [← UInt8.toNat_inj]; exact e)
        have hbi : ¬ ((s[k].toNat : Nat) : Int) = 46 := by omega
        have hbq : (((s[k].toNat : Nat) : Int) == 46) = false := by simpa using hbi
        obtain ⟨l0, q, rfl⟩ : ∃ l0 q, l = l0 ++ [q] := ⟨l.dropLast, l.getLast hne, (List.dropLast_concat_getLast hne).symm⟩
        simp at hm hll
        have hxl : (strs (l0 ++ [q]))[l0.length]? = some (.str q) := by simp [strs]
        have hqq : q.length ≤ k := hql q (by simp)
        have p1 : IntKind.i64.wrap ((l0.length : Int) + 1 - 1) = (l0.length : Int) := by rw [wrap64] <;> omega
        have p2 : IntKind.i64.wrap ((l0.length : Int)) = (l0.length : Int) := by rw [wrap64] <;> omega
        have p3 : (l0.length : Int) < (l0.length : Int) + 1 := by omega
        have p4 : (0 : Int) ≤ (k : Int) + 1 := by omega
        have p5 : ((k : Int) + 1).toNat = k + 1 := by omega
        have p6 : k + 1 ≤ s.length := by omega
        have p7 : (s.take (k + 1)).drop k = [s[k]] := by
          rw [List.drop_take, Nat.add_sub_cancel_left, hd]
          rfl
        have p8 : q.length + 1 ≤ 9223372036854775807 := by omega
        simp [h0, h4, h3, hL, hk', hg, hbi, hbq, hw, hb', p1, p2, p3, p4, p5, p6, p7, p8, loadV_at hxl, storeV_at hxl]
        have hjl := (List.getElem?_eq_some_iff.1 hL).1
        refine ⟨s.length - (k + 1), by omega, k + 1, rfl, by omega, by omega, l0 ++ [q ++ [s[k]]], j, ?_, ⟨rfl, by simp⟩, by simp, by simp; omega, ?_, ?_⟩
        · rw [List.getElem?_set_self hjl]
          simp [strs]
        · intro r hr
          rcases List.mem_append.1 hr with h | h
          · have := hql r (by simp [h])
            omega
          · simp at h
            subst h
            simp
            exact hqq
        · rw [← hfold]
          simp [push, hb]
    · have hke : k = s.length := by omega
      subst hke
      simp only [List.drop_length, List.foldl_nil] at hfold
      subst hfold
      simp [h0, h4, h3, hL]
      rw [leave_view hL (by simp) (by rw [List.take_of_length_le (by simp)]; exact strs_plain _), List.take_of_length_le (by simp)]
  · simp [strs]
    exact fold_split s
theorem qual_all (q : List UInt8) : qual q = (decide (1 ≤ q.length) && decide (q.length ≤ 8) && (match q with | [] => true | c :: _ => !dig c) && q.all fun c => up c || dig c) := by
  cases q with
  | nil => rfl
  | cons c r =>
    simp only [qual, List.length_cons, List.all_cons]
    have h1 : decide (1 ≤ r.length + 1) = true := decide_eq_true (by omega)
    have hx : up c = true → dig c = false := by
      simp only [up, dig, Bool.and_eq_true, decide_eq_true_eq]
      intro h
      have : ¬ (c.toNat ≤ 57) := by omega
      simp [this]
    rw [h1]
    cases hu : up c with
    | true =>
      rw [show (pl : UInt8 → Bool) = fun c => up c || dig c from rfl]
      simp [hx hu]
    | false => cases hd : dig c <;> simp [hu, hd]
theorem rpart_c (hE : EnvN E) (q : List UInt8) (hq : q.length ≤ 4611686018427387904) : call E 90 [.str q, .bool false] H = some (.bool (qual q), H) := by
  refine call_wp hE.f90 (hE.p _ (by decide)) ⟨rfl, by simp [F90], ?_⟩
  rw [qual_all]
  cases q with
  | nil => simp [F90]
  | cons c r =>
    simp at hq
    have h1 : ¬ ((r.length : Int) + 1 < 1) := by omega
    by_cases h8 : 8 < r.length + 1
    · have h8' : (8 : Int) < r.length + 1 := by omega
      have h9 : ¬ (r.length + 1 ≤ 8) := by omega
      simp [F90, h8', h1, h9]
    · have h8' : ¬ (8 : Int) < r.length + 1 := by omega
      have h9 : r.length + 1 ≤ 8 := by omega
      have hd := fun H => rdigit_c (H := H) hE c
      cases hc : dig c with
      | true =>
        simp only [hc] at hd
        simp [F90, h8', h1, hd, hc]
      | false =>
        simp only [hc] at hd
        simp [F90, h8', h1, hd]
        refine wp_loop (fun n T H' => ∃ k : Nat, n = r.length + 1 - k ∧ k ≤ r.length + 1 ∧ T 5 = .int .i64 k ∧ T 0 = .str (c :: r) ∧ T 1 = .bool false ∧ H' = H ∧ ∀ j (hj : j < (c :: r).length), j < k → (up (c :: r)[j] || dig (c :: r)[j]) = true) ?_ (n := r.length + 1) ⟨0, ?_⟩
        · rintro n T H' ⟨k, rfl, hk, h5, h0, h1', rfl, hno⟩
          have e1 : decide (1 ≤ (c :: r).length) = true := decide_eq_true (by simp)
          have e2 : decide ((c :: r).length ≤ 8) = true := decide_eq_true (by simpa using h9)
          by_cases hk' : k < (c :: r).length
          · have hw : IntKind.i64.wrap ((k : Int) + 1) = (k : Int) + 1 := wrap64 (by simp at hk'; omega) (by simp at hk'; omega)
            have hki : (k : Int) < r.length + 1 := by simp at hk'; omega
            have hg : (c :: r)[k]? = some (c :: r)[k] := List.getElem?_eq_getElem hk'
            have hl := fun H => letter_c (H := H) hE (c :: r)[k]
            have hd2 := fun H => rdigit_c (H := H) hE (c :: r)[k]
            have bad : (up (c :: r)[k] || dig (c :: r)[k]) = false → ((decide (1 ≤ (c :: r).length) && decide ((c :: r).length ≤ 8) && !dig c) && (c :: r).all fun c => up c || dig c) = false := by
              intro hb
              rw [e1, e2, hc]
              simp only [Bool.true_and, Bool.not_false]
              rw [List.all_eq_false]
              exact ⟨_, List.getElem_mem hk', by simp [hb]⟩
            have next : (up (c :: r)[k] || dig (c :: r)[k]) = true → ∃ m, m < r.length + 1 - k ∧ ∃ k1 : Nat, m = r.length + 1 - k1 ∧ k1 ≤ r.length + 1 ∧ (k : Int) + 1 = k1 ∧ ∀ j (hj : j < (c :: r).length), j < k1 → (up (c :: r)[j] || dig (c :: r)[j]) = true := by
              intro hb
              refine ⟨r.length + 1 - (k + 1), by omega, k + 1, rfl, by omega, by omega, fun j hj hjk => ?_⟩
              by_cases hjk' : j = k
              · subst hjk'; exact hb
              · exact hno j hj (by omega)
            generalize hx : (c :: r)[k] = x at hg hl hd2 bad next
            cases hu : up x with
            | true =>
              simp only [hu] at hl
              have := next (by simp [hu])
              simp [h5, h0, h1', hki, hg, hl, hw]
              simpa using this
            | false =>
              simp only [hu] at hl
              cases hdx : dig x with
              | true =>
                simp only [hdx] at hd2
                have := next (by simp [hdx])
                simp [h5, h0, h1', hki, hg, hl, hd2, hw]
                simpa using this
              | false =>
                simp only [hdx] at hd2
                have := bad (by simp [hu, hdx])
                simp [h5, h0, h1', hki, hg, hl, hd2, hw]
                simpa using this
          · have hki : ¬ (k : Int) < r.length + 1 := by simp at hk'; omega
            simp [h5, h0, h1', hki]
            have hall : ((c :: r).all fun c => up c || dig c) = true := by
              rw [List.all_eq_true]
              intro y hy
              obtain ⟨i, hi, rfl⟩ := List.getElem_of_mem hy
              exact hno i hi (by omega)
            have : ((decide (1 ≤ (c :: r).length) && decide ((c :: r).length ≤ 8) && !dig c) && (c :: r).all fun c => up c || dig c) = true := by
              rw [e1, e2, hc, hall]
              rfl
            simpa using this
        · simp
theorem rvalid0_c (hE : EnvN E) (s : List UInt8) : call E 67 [.str s, .bool false] H = some (.bool (valid s), H) := by
  refine call_wp hE.f67 (hE.p _ (by decide)) ⟨rfl, by simp [F67], ?_⟩
  by_cases h1 : (s.length : Int) < 1
  · have h1'' : s = [] := List.eq_nil_of_length_eq_zero (by omega)
    subst h1''
    simp [F67, valid]
  by_cases h2 : (31 : Int) < s.length
  · have h2' : ¬ s.length ≤ 31 := by omega
    simp [F67, h1, h2, valid, h2']
  have hsp := fun H => parts_c (H := H) hE s (by omega)
  have hlen := split_len s
  have hdl := dots_le s
  simp [F67, h1, h2, hsp]
  refine wp_loop (fun n T H' => ∃ k : Nat, n = (split s).length - k ∧ k ≤ (split s).length ∧ T 6 = .int .i64 k ∧ T 5 = .sl .shut (strs (split s)) ∧ T 1 = .bool false ∧ H' = H ∧ ∀ j (hj : j < (split s).length), j < k → qual (split s)[j] = true) ?_ (n := (split s).length) ⟨0, ?_⟩
  · rintro n T H' ⟨k, rfl, hk, h6, h5, h1', rfl, hno⟩
    have e1 : decide (1 ≤ s.length) = true := decide_eq_true (by omega)
    have e2 : decide (s.length ≤ 31) = true := decide_eq_true (by omega)
    by_cases hk' : k < (split s).length
    · have hg : (strs (split s))[k]? = some (.str (split s)[k]) := by simp [strs, hk']
      have hw : IntKind.i64.wrap ((k : Int) + 1) = (k : Int) + 1 := wrap64 (by omega) (by omega)
      have hq := fun H => rpart_c (H := H) hE (split s)[k] (by have := split_part s _ (List.getElem_mem hk'); omega)
      cases hql : qual (split s)[k] with
      | false =>
        simp only [hql] at hq
        simp [h6, h5, h1', hk', iaSl_at hg, hq]
        simp only [valid, e1, e2, Bool.true_and]
        rw [List.all_eq_false]
        exact ⟨_, List.getElem_mem hk', by simp [hql]⟩
      | true =>
        simp only [hql] at hq
        simp [h6, h5, h1', hk', iaSl_at hg, hq, hw]
        refine ⟨_, ?_, k + 1, rfl, by omega, by omega, fun j hj hjk => ?_⟩
        · omega
        · by_cases hjk' : j = k
          · subst hjk'; exact hql
          · simpa using hno j hj (by omega)
    · simp [h6, h5, h1', hk']
      simp only [valid, e1, e2, Bool.true_and]
      rw [List.all_eq_true]
      intro x hx
      obtain ⟨i, hi, rfl⟩ := List.getElem_of_mem hx
      exact hno i hi (by omega)
  · simp
theorem rvalid_c (hE : EnvN E) (s : List UInt8) : call E 47 [.str s] H = some (.bool (valid s), H) := by
  refine call_wp hE.f47 (hE.p _ (by decide)) ⟨rfl, by simp [F47], ?_⟩
  simp [F47, rvalid0_c hE s]
theorem rstep_c (hE : EnvN E) (s : List UInt8) : call E 22 [.str s] H = some (.bool (stepN s), H) := by
  refine call_wp hE.f22 (hE.p _ (by decide)) ⟨rfl, by simp [F22], ?_⟩
  have hv := fun H => rvalid_c (H := H) hE s
  cases hvs : valid s with
  | false =>
    simp only [hvs] at hv
    simp [F22, hv, stepN, hvs]
  | true =>
    have hl : s.length ≤ 31 := by
      simp only [valid, Bool.and_eq_true, decide_eq_true_eq] at hvs
      exact hvs.1.2
    have hp := fun H => parts_c (H := H) hE s (by omega)
    have hlen := split_len s
    simp only [hvs] at hv
    by_cases hd : dots s < 2
    · have hd' : ((split s).length : Int) ≤ 2 := by omega
      simp [F22, hv, hp, stepN, hvs, hd, hd']
    · have hd' : ¬ ((split s).length : Int) ≤ 2 := by omega
      simp [F22, hv, hp, stepN, hvs, hd, hd']
end Nm
end Go.Flat
