/- Names of data sets: what the program's functions and the reference's make of a text, for every text. -/
import Derived.Test.YtkmlfjnmoieeeaaDoorDLit
import Derived.Test.YtkmlfjnmoieeeaaDoorFlatU
set_option linter.unusedVariables false
set_option linter.unusedSimpArgs false
namespace Go.Flat
structure EnvN (E : Env) : Prop where
  p : ∀ f, E.prim f = none
  f10 : E.func 10 = some F10
  f22 : E.func 22 = some F22
  f23 : E.func 23 = some F23
  f25 : E.func 25 = some F25
  f36 : E.func 36 = some F36
  f37 : E.func 37 = some F37
  f38 : E.func 38 = some F38
  f45 : E.func 45 = some F45
  f46 : E.func 46 = some F46
  f47 : E.func 47 = some F47
  f48 : E.func 48 = some F48
  f49 : E.func 49 = some F49
  f50 : E.func 50 = some F50
  f53 : E.func 53 = some F53
  f58 : E.func 58 = some F58
  f59 : E.func 59 = some F59
  f60 : E.func 60 = some F60
  f61 : E.func 61 = some F61
  f62 : E.func 62 = some F62
  f65 : E.func 65 = some F65
  f66 : E.func 66 = some F66
variable {E : Env} {H : Heap}
namespace Nm
def up (c : UInt8) : Bool := decide (65 ≤ c.toNat) && decide (c.toNat ≤ 90)
def dig (c : UInt8) : Bool := decide (48 ≤ c.toNat) && decide (c.toNat ≤ 57)
def pl (c : UInt8) : Bool := up c || dig c
def rng (lo hi : Int) (n : Int) : Bool := decide (lo ≤ n) && decide (n ≤ hi)
theorem up_rng (c : UInt8) : rng 65 90 (c.toNat : Int) = up c := by
  simp only [rng, up]
  congr 1 <;> exact decide_eq_decide.2 (by omega)
theorem dig_rng (c : UInt8) : rng 48 57 (c.toNat : Int) = dig c := by
  simp only [rng, dig]
  congr 1 <;> exact decide_eq_decide.2 (by omega)
theorem upper_c (hE : EnvN E) (c : UInt8) : call E 49 [.int .u8 (c.toNat : Int)] H = some (.bool (up c), H) := by
  refine call_wp hE.f49 (hE.p _) ⟨rfl, by simp [F49], ?_⟩
  rw [← up_rng]
  by_cases h1 : (65 : Int) ≤ c.toNat <;> by_cases h2 : (c.toNat : Int) ≤ 90 <;> simp [F49, h1, h2, rng]
theorem digit_c (hE : EnvN E) (c : UInt8) : call E 61 [.int .u8 (c.toNat : Int)] H = some (.bool (dig c), H) := by
  refine call_wp hE.f61 (hE.p _) ⟨rfl, by simp [F61], ?_⟩
  rw [← dig_rng]
  by_cases h1 : (48 : Int) ≤ c.toNat <;> by_cases h2 : (c.toNat : Int) ≤ 57 <;> simp [F61, h1, h2, rng]
theorem rdigit_c (hE : EnvN E) (c : UInt8) : call E 58 [.int .u8 (c.toNat : Int)] H = some (.bool (dig c), H) := by
  refine call_wp hE.f58 (hE.p _) ⟨rfl, by simp [F58], ?_⟩
  rw [← dig_rng]
  by_cases h1 : (48 : Int) ≤ c.toNat <;> by_cases h2 : (c.toNat : Int) ≤ 57 <;> simp [F58, h1, h2, rng]
theorem letter_c (hE : EnvN E) (c : UInt8) : call E 59 [.int .u8 (c.toNat : Int)] H = some (.bool (up c), H) := by
  refine call_wp hE.f59 (hE.p _) ⟨rfl, by simp [F59], ?_⟩
  rw [← up_rng]
  by_cases h1 : (65 : Int) ≤ c.toNat <;> by_cases h2 : (c.toNat : Int) ≤ 90 <;> simp [F59, h1, h2, rng]
theorem plain_c (hE : EnvN E) (c : UInt8) : call E 50 [.int .u8 (c.toNat : Int)] H = some (.bool (pl c), H) := by
  refine call_wp hE.f50 (hE.p _) ⟨rfl, by simp [F50], ?_⟩
  have h1 := fun H => upper_c (H := H) hE c
  have h2 := fun H => digit_c (H := H) hE c
  cases hu : up c <;> cases hd : dig c <;> simp [hu, hd] at h1 h2 <;> simp [F50, h1, h2, pl, hu, hd]
def qual : List UInt8 → Bool
  | [] => false
  | c :: r => decide (r.length + 1 ≤ 8) && up c && r.all pl
theorem qual_c (hE : EnvN E) (q : List UInt8) (hq : q.length ≤ 4611686018427387904) : call E 48 [.str q, .func (.func 49) [] [], .func (.func 50) [] []] H = some (.bool (qual q), H) := by
  refine call_wp hE.f48 (hE.p _) ⟨rfl, by simp [F48], ?_⟩
  cases q with
  | nil => simp [F48, qual]
  | cons c r =>
    simp at hq
    by_cases h8 : 8 < r.length + 1
    · have h8' : (8 : Int) < r.length + 1 := by omega
      have h1 : ¬ ((r.length : Int) + 1 < 1) := by omega
      have h9 : ¬ (r.length + 1 ≤ 8) := by omega
      simp [F48, qual, h8', h1, h9]
    · have h8' : ¬ (8 : Int) < r.length + 1 := by omega
      have h1 : ¬ ((r.length : Int) + 1 < 1) := by omega
      have h9 : r.length + 1 ≤ 8 := by omega
      have hu := fun H => upper_c (H := H) hE c
      cases hc : up c with
      | false =>
        simp only [hc] at hu
        simp [F48, qual, h8', h1, h9, hc, hu]
      | true =>
        simp only [hc] at hu
        simp [F48, h8', h1, hu]
        refine wp_loop (fun n T H' => ∃ k : Nat, n = r.length + 1 - k ∧ 1 ≤ k ∧ k ≤ r.length + 1 ∧ T 7 = .int .i64 k ∧ T 0 = .str (c :: r) ∧ T 2 = .func (.func 50) [] [] ∧ H' = H ∧ ∀ j (hj : j < r.length), j + 1 < k → pl r[j] = true) ?_ (n := r.length) ⟨1, ?_⟩
        · rintro n T H' ⟨k, rfl, hk1, hk, h7, h0, h2, rfl, hno⟩
          by_cases hk' : k < r.length + 1
          · have hw : IntKind.i64.wrap ((k : Int) + 1) = (k : Int) + 1 := wrap64 (by omega) (by omega)
            have hki : (k : Int) < r.length + 1 := by omega
            have hg : (c :: r)[k]? = some r[k - 1] := by
              obtain ⟨j, rfl⟩ : ∃ j, k = j + 1 := ⟨k - 1, by omega⟩
              simp
            have hp := fun H => plain_c (H := H) hE r[k - 1]
            cases hpl : pl r[k - 1] with
            | false =>
              simp only [hpl] at hp
              simp [h7, h0, h2, hki, hg, hp]
              simp only [qual, h9, hc, decide_true, Bool.true_and]
              rw [List.all_eq_false]
              exact ⟨r[k - 1], List.getElem_mem _, by simp [hpl]⟩
            | true =>
              simp only [hpl] at hp
              simp [h7, h0, h2, hki, hg, hp, hw]
              refine ⟨r.length + 1 - (k + 1), by omega, k + 1, rfl, by omega, by omega, by omega, fun j hj hjk => ?_⟩
              by_cases hjk' : j + 1 = k
              · subst hjk'; simpa using hpl
              · simpa using hno j hj (by omega)
          · have hki : ¬ (k : Int) < r.length + 1 := by omega
            simp [h7, h0, h2, hki]
            simp only [qual, h9, hc, decide_true, Bool.true_and]
            rw [List.all_eq_true]
            intro x hx
            obtain ⟨i, hi, rfl⟩ := List.getElem_of_mem hx
            exact hno i hi (by omega)
        · simp
theorem qual1_c (hE : EnvN E) (q : List UInt8) (hq : q.length ≤ 4611686018427387904) : call E 47 [.str q] H = some (.bool (qual q), H) := by
  refine call_wp hE.f47 (hE.p _) ⟨rfl, by simp [F47], ?_⟩
  simp [F47, qual_c hE q hq]
/-! ### Splitting at full stops -/
def split : List UInt8 → List (List UInt8)
  | [] => [[]]
  | b :: s => if b = 46 then [] :: split s else match split s with
    | p :: ps => (b :: p) :: ps
    | [] => [[b]]
def dots (s : List UInt8) : Nat := Go.Lib.countByte s 46
theorem split_ne (s : List UInt8) : split s ≠ [] := by
  cases s with
  | nil => simp [split]
  | cons b s =>
    simp only [split]
    split
    · simp
    · split <;> simp
theorem split_len (s : List UInt8) : (split s).length = dots s + 1 := by
  induction s with
  | nil => rfl
  | cons b s ih =>
    simp only [split, dots, Lib.countByte, List.count_cons]
    by_cases hb : b = 46
    · subst hb
      simp only [dots, Lib.countByte] at ih
      simp [ih]
    · simp only [hb, if_false]
      simp only [dots, Lib.countByte] at ih
      cases hs : split s with
      | nil => exact absurd hs (split_ne s)
      | cons p ps =>
        rw [hs] at ih
        simpa [hb] using ih
theorem index_none {s : List UInt8} (h : Go.Lib.indexByte s 46 < 0) : split s = [s] ∧ dots s = 0 := by
  induction s with
  | nil => exact ⟨rfl, rfl⟩
  | cons b s ih =>
    simp only [Lib.indexByte] at h
    split at h
    · simp at h
    · rename_i hb
      have hb' : ¬ b = 46 := by simpa using hb
      split at h
      · rename_i hm
        have hm' : Lib.indexByte s 46 = -1 := by simpa using hm
        obtain ⟨h1, h2⟩ := ih (by omega)
        refine ⟨by simp [split, hb', h1], ?_⟩
        simp only [dots, Lib.countByte, List.count_cons] at h2 ⊢
        simp [h2, hb']
      · rename_i hm
        have := Lib.indexByte_ge s 46
        have hm' : ¬ Lib.indexByte s 46 = -1 := by simpa using hm
        omega
theorem index_some {s : List UInt8} (h : 0 ≤ Go.Lib.indexByte s 46) : ∃ k : Nat, Go.Lib.indexByte s 46 = k ∧ k < s.length ∧ split s = s.take k :: split (s.drop (k + 1)) ∧ dots s = dots (s.drop (k + 1)) + 1 := by
  induction s with
  | nil => simp [Lib.indexByte] at h
  | cons b s ih =>
    simp only [Lib.indexByte] at h ⊢
    by_cases hb : b = 46
    · subst hb
      refine ⟨0, by simp, by simp, by simp [split], ?_⟩
      simp [dots, Lib.countByte]
    · have hb' : (b == 46) = false := by simpa using hb
      simp only [hb', Bool.false_eq_true, if_false] at h ⊢
      have hge := Lib.indexByte_ge s 46
      by_cases hm : Lib.indexByte s 46 = -1
      · simp [hm] at h
      · have hm' : (Lib.indexByte s 46 == -1) = false := by simpa using hm
        obtain ⟨k, h1, h2, h3, h4⟩ := ih (by omega)
        refine ⟨k + 1, by simp [h1], by simp; omega, ?_, ?_⟩
        · simp [split, hb, h3]
        · simp only [dots, Lib.countByte, List.count_cons] at h4 ⊢
          simp [h4, hb]
/-! ### The library's splitting -/
theorem count_c (hE : EnvN E) (s : List UInt8) : call E 38 [.str s, .str [46]] H = some (.int .i64 (dots s), H) := by
  refine call_wp hE.f38 (hE.p _) ⟨rfl, by simp [F38], ?_⟩
  simp [F38, dots]
theorem ibyte_c (hE : EnvN E) (s : List UInt8) : call E 66 [.str s, .int .u8 46] H = some (.int .i64 (Lib.indexByte s 46), H) := by
  refine call_wp hE.f66 (hE.p _) ⟨rfl, by simp [F66], ?_⟩
  simp [F66]
theorem index_c (hE : EnvN E) (s : List UInt8) : call E 62 [.str s, .str [46]] H = some (.int .i64 (Lib.indexByte s 46), H) := by
  refine call_wp hE.f62 (hE.p _) ⟨rfl, by simp [F62], ?_⟩
  have hi := fun H => ibyte_c (H := H) hE s
  by_cases h : s = [46]
  · subst h
    simp [F62, Lib.indexByte]
  · have h' : ¬ [46] = s := fun e => h e.symm
    simp [F62, hi, h, h']
theorem index53_c (hE : EnvN E) (s : List UInt8) : call E 53 [.str s, .str [46]] H = some (.int .i64 (Lib.indexByte s 46), H) := by
  refine call_wp hE.f53 (hE.p _) ⟨rfl, by simp [F53], ?_⟩
  simp [F53, index_c hE s]
end Nm
end Go.Flat
