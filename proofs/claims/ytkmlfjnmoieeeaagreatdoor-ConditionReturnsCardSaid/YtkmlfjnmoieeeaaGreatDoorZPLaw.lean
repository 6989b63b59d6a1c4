/- The program's Parse and the reference's make the same of all words: plain Lean. -/
import Derived.Test.YtkmlfjnmoieeeaaGreatDoorZRParse
set_option linter.unusedVariables false
set_option linter.unusedSimpArgs false
namespace Go.Flat
def Stop (all : Bool) (op : List Str) : Prop := op = [] ∨ ∃ w op', op = w :: op' ∧ (w = wOpen ∨ (w = wOr ∧ all = false))
theorem stop_red {all : Bool} {op : List Str} (h : Stop all op) (out : List Test) : reduceS all out op = (out, op) := by
  rcases h with rfl | ⟨w, op', rfl, h⟩
  · rfl
  · simp [reduceS, h]
theorem red_nots (all : Bool) : ∀ (c : Nat) (out : List Test) (op : List Str), reduceS all out (List.replicate c wNot ++ op) = reduceS all (out ++ List.replicate c (opT 4)) op
  | 0, out, op => by simp
  | c + 1, out, op => by
    rw [List.replicate_succ, List.cons_append, reduceS, if_neg (by simp [wNot, wOpen, wOr])]
    rw [red_nots all c, List.replicate_succ]
    simp [wNot, wOr, wAnd]
theorem red_and (all : Bool) (out : List Test) (op : List Str) : reduceS all out (wAnd :: op) = reduceS all (out ++ [opT 5]) op := by
  rw [reduceS, if_neg (by simp [wAnd, wOpen, wOr])]
  simp [wAnd, wOr]
theorem red_or (out : List Test) (op : List Str) : reduceS true out (wOr :: op) = reduceS true (out ++ [opT 6]) op := by
  rw [reduceS, if_neg (by simp [wOpen, wOr])]
  simp
def PartP (S : List Str → PR) (m : Nat) : Prop := ∀ l, l.length ≤ m → ∀ f out op, l.length < f → match S l with
  | .error e => refGo f out op true l = .error e
  | .ok (ts, r) => ∃ f' o' op', r.length < f' ∧ (∀ all, reduceS all o' op' = reduceS all (out ++ ts) op) ∧ refGo f out op true l = refGo f' o' op' false r
def AndP (S : List Str → PR) (m : Nat) : Prop := ∀ l, l.length ≤ m → ∀ f out op, l.length < f → Stop false op → match S l with
  | .error e => refGo f out op true l = .error e
  | .ok (ts, r) => ∃ f' o' op', r.length < f' ∧ (∀ all, reduceS all o' op' = reduceS all (out ++ ts) op) ∧ refGo f out op true l = refGo f' o' op' false r ∧ r.head? ≠ some wAnd
def OrP (S : List Str → PR) (m : Nat) : Prop := ∀ l, l.length ≤ m → ∀ f out op, l.length < f → Stop true op → match S l with
  | .error e => refGo f out op true l = .error e
  | .ok (ts, r) => ∃ f' o' op', r.length < f' ∧ reduceS true o' op' = (out ++ ts, op) ∧ refGo f out op true l = refGo f' o' op' false r ∧ r.head? ≠ some wAnd ∧ r.head? ≠ some wOr
theorem nots_go : ∀ (l : List Str) (f : Nat) (out : List Test) (op : List Str), l.length < f → refGo f out op true l = refGo (f - (notsS l).1) out (List.replicate (notsS l).1 wNot ++ op) true (notsS l).2
  | [], f, out, op, h => by simp [notsS]
  | x :: r, f, out, op, h => by
    obtain ⟨f, rfl⟩ : ∃ f', f = f' + 1 := ⟨f - 1, by simp at h; omega⟩
    simp only [notsS]
    split
    · rename_i hx
      rw [refGo, if_pos (.inl hx), nots_go r f out (x :: op) (by simp at h; omega)]
      simp only [Nat.add_sub_add_right]
      congr 1
      subst hx
      rw [List.replicate_succ', List.append_assoc]
      rfl
    · simp
theorem part_p {orF : List Str → PR} {m : Nat} (hor : ∀ m', m = m' + 1 → OrP orF m') : PartP (partS orF) m := by
  intro l hl f out op hf
  have hn1 := notsS_len l
  have hn2 := notsS_not l
  have hgo := nots_go l f out op hf
  unfold partS
  generalize (notsS l).1 = c at *
  generalize (notsS l).2 = r0 at *
  have hfc : r0.length < f - c := by omega
  rw [hgo]
  generalize f - c = g at hfc
  obtain ⟨g, rfl⟩ : ∃ g', g = g' + 1 := ⟨g - 1, by omega⟩
  cases r0 with
  | nil => simp [partR, addN, refGo]
  | cons x r =>
    have hx : ¬ x = wNot := fun e => hn2 r (by rw [e])
    simp only [partR]
    by_cases c1 : x = wOpen
    · obtain ⟨m', rfl⟩ : ∃ m', m = m' + 1 := ⟨m - 1, by simp at hn1; omega⟩
      have ho := hor m' rfl r (by simp at hn1; omega) g out (wOpen :: (List.replicate c wNot ++ op)) (by simp at hfc; omega) (.inr ⟨_, _, rfl, .inl rfl⟩)
      rw [if_pos c1, refGo, if_pos (.inr c1)]
      subst c1
      cases hS : orF r with
      | error e =>
        rw [hS] at ho
        simpa [closeS, addN] using ho
      | ok z =>
        obtain ⟨ts, r2⟩ := z
        rw [hS] at ho
        obtain ⟨f', o', op', h1, h2, h3, h4, h5⟩ := ho
        rw [h3]
        obtain ⟨f', rfl⟩ : ∃ f'', f' = f'' + 1 := ⟨f' - 1, by omega⟩
        cases r2 with
        | nil => simp [closeS, addN, refGo, h2]
        | cons y r3 =>
          simp at h4 h5
          by_cases c2 : y = wClose
          · subst c2
            simp only [closeS, if_true, addN]
            refine ⟨f', out ++ ts, List.replicate c wNot ++ op, by simp at h1; omega, fun all => ?_, ?_⟩
            · rw [red_nots]
              simp
            · rw [refGo, if_neg (by simp [wClose, wAnd, wOr]), if_pos rfl, h2]
          · simp only [closeS, if_neg c2, addN]
            rw [refGo, if_neg (by simp [h4, h5]), if_neg c2]
    · rw [if_neg c1, refGo, if_neg (show ¬ (x = wNot ∨ x = wOpen) from fun h => h.elim hx c1)]
      by_cases c2 : x = wFailed
      · rw [if_pos c2, if_pos c2]
        simp only [addN]
        refine ⟨g, out ++ [opT 3], List.replicate c wNot ++ op, by simp at hfc; omega, fun all => ?_, rfl⟩
        rw [red_nots]
        simp
      · rw [if_neg c2, if_neg c2]
        simp only [basicS]
        by_cases c3 : Nm.stepN x = true
        · rw [if_pos c3, if_pos c3]
          have hb := basicS_eats (x :: r).length (x :: r) (Nat.le_refl _)
          simp only [basicS, if_pos c3] at hb
          cases hr : restB x r with
          | error e => simp [addN]
          | ok z =>
            obtain ⟨ts, r'⟩ := z
            rw [hr] at hb
            simp only [Ate] at hb
            simp only [addN]
            refine ⟨g, out ++ ts, List.replicate c wNot ++ op, by have := hb.1; simp at this hfc; omega, fun all => ?_, rfl⟩
            rw [red_nots]
            simp
        · rw [if_neg c3, if_neg c3]
          simp [addN]
theorem and_p {part : List Str → PR} {m n : Nat} (hp : PartP part m) (he : Eats part m) (hn : m < n) : AndP (chainS part wAnd 5 n) m := by
  have key : ∀ (n : Nat) (acc : List Test) (r : List Str) (f : Nat) (o' : List Test) (op' : List Str) (out : List Test) (op : List Str), r.length < n → r.length ≤ m → r.length < f → Stop false op → (∀ all, reduceS all o' op' = reduceS all (out ++ acc) op) →
      match restS part wAnd 5 n acc r with
      | .error e => refGo f o' op' false r = .error e
      | .ok (ts, r2) => ∃ f' o2 op2, r2.length < f' ∧ (∀ all, reduceS all o2 op2 = reduceS all (out ++ ts) op) ∧ refGo f o' op' false r = refGo f' o2 op2 false r2 ∧ r2.head? ≠ some wAnd := by
    intro n
    induction n with
    | zero => intro acc r f o' op' out op h; omega
    | succ n ih =>
      intro acc r f o' op' out op h1 h2 h3 h4 h5
      cases r with
      | nil => exact ⟨f, o', op', h3, h5, rfl, by simp⟩
      | cons x r =>
        simp only [restS]
        by_cases hx : x = wAnd
        · subst hx
          rw [if_pos rfl]
          obtain ⟨f, rfl⟩ : ∃ f'', f = f'' + 1 := ⟨f - 1, by omega⟩
          simp at h1 h2 h3
          have hgo : refGo (f + 1) o' op' false (wAnd :: r) = refGo f (out ++ acc) (wAnd :: op) true r := by
            rw [refGo, if_pos (.inl rfl), show decide (wAnd = wOr) = false from by decide, h5, stop_red h4]
          have hq := hp r (by omega) f (out ++ acc) (wAnd :: op) (by omega)
          have hea := he r (by omega)
          cases hS : part r with
          | error e =>
            rw [hS] at hq
            simp only at hq ⊢
            rw [hgo, hq]
          | ok z =>
            obtain ⟨ts, r'⟩ := z
            rw [hS] at hq hea
            simp only [Ate] at hea
            obtain ⟨f3, o3, op3, g1, g2, g3⟩ := hq
            have := ih (acc ++ ts ++ [opT 5]) r' f3 o3 op3 out op (by omega) (by omega) g1 h4 (fun all => by rw [g2, red_and]; simp)
            simp only
            cases hR : restS part wAnd 5 n (acc ++ ts ++ [opT 5]) r' with
            | error e =>
              rw [hR] at this
              simp only at this ⊢
              rw [hgo, g3, this]
            | ok z =>
              obtain ⟨us, r2⟩ := z
              rw [hR] at this
              obtain ⟨f4, o4, op4, k1, k2, k3, k4⟩ := this
              exact ⟨f4, o4, op4, k1, k2, by rw [hgo, g3, k3], k4⟩
        · rw [if_neg hx]
          exact ⟨f, o', op', h3, h5, rfl, by simp [hx]⟩
  intro l hl f out op hf hs
  have hq := hp l hl f out op hf
  have hea := he l hl
  unfold chainS
  cases hS : part l with
  | error e => rw [hS] at hq; exact hq
  | ok z =>
    obtain ⟨ts, r⟩ := z
    rw [hS] at hq hea
    simp only [Ate] at hea
    obtain ⟨f3, o3, op3, g1, g2, g3⟩ := hq
    have := key n ts r f3 o3 op3 out op (by omega) (by omega) g1 hs g2
    simp only
    cases hR : restS part wAnd 5 n ts r with
    | error e =>
      rw [hR] at this
      simp only at this ⊢
      rw [g3, this]
    | ok z =>
      obtain ⟨us, r2⟩ := z
      rw [hR] at this
      obtain ⟨f4, o4, op4, k1, k2, k3, k4⟩ := this
      exact ⟨f4, o4, op4, k1, k2, by rw [g3, k3], k4⟩
theorem or_p {part : List Str → PR} {m n : Nat} (hp : AndP part m) (he : Eats part m) (hn : m < n) : OrP (chainS part wOr 6 n) m := by
  have key : ∀ (n : Nat) (acc : List Test) (r : List Str) (f : Nat) (o' : List Test) (op' : List Str) (out : List Test) (op : List Str), r.length < n → r.length ≤ m → r.length < f → Stop true op → reduceS true o' op' = (out ++ acc, op) → r.head? ≠ some wAnd →
      match restS part wOr 6 n acc r with
      | .error e => refGo f o' op' false r = .error e
      | .ok (ts, r2) => ∃ f' o2 op2, r2.length < f' ∧ reduceS true o2 op2 = (out ++ ts, op) ∧ refGo f o' op' false r = refGo f' o2 op2 false r2 ∧ r2.head? ≠ some wAnd ∧ r2.head? ≠ some wOr := by
    intro n
    induction n with
    | zero => intro acc r f o' op' out op h; omega
    | succ n ih =>
      intro acc r f o' op' out op h1 h2 h3 h4 h5 h6
      cases r with
      | nil => exact ⟨f, o', op', h3, h5, rfl, by simp, by simp⟩
      | cons x r =>
        simp only [restS]
        by_cases hx : x = wOr
        · subst hx
          rw [if_pos rfl]
          obtain ⟨f, rfl⟩ : ∃ f'', f = f'' + 1 := ⟨f - 1, by omega⟩
          simp at h1 h2 h3
          have hgo : refGo (f + 1) o' op' false (wOr :: r) = refGo f (out ++ acc) (wOr :: op) true r := by
            rw [refGo, if_pos (.inr rfl), show decide (wOr = wOr) = true from by decide, h5]
          have hq := hp r (by omega) f (out ++ acc) (wOr :: op) (by omega) (.inr ⟨_, _, rfl, .inr ⟨rfl, rfl⟩⟩)
          have hea := he r (by omega)
          cases hS : part r with
          | error e =>
            rw [hS] at hq
            simp only at hq ⊢
            rw [hgo, hq]
          | ok z =>
            obtain ⟨ts, r'⟩ := z
            rw [hS] at hq hea
            simp only [Ate] at hea
            obtain ⟨f3, o3, op3, g1, g2, g3, g4⟩ := hq
            have := ih (acc ++ ts ++ [opT 6]) r' f3 o3 op3 out op (by omega) (by omega) g1 h4 (by rw [g2, red_or, stop_red h4]; simp) g4
            simp only
            cases hR : restS part wOr 6 n (acc ++ ts ++ [opT 6]) r' with
            | error e =>
              rw [hR] at this
              simp only at this ⊢
              rw [hgo, g3, this]
            | ok z =>
              obtain ⟨us, r2⟩ := z
              rw [hR] at this
              obtain ⟨f4, o4, op4, k1, k2, k3, k4⟩ := this
              exact ⟨f4, o4, op4, k1, k2, by rw [hgo, g3, k3], k4⟩
        · rw [if_neg hx]
          exact ⟨f, o', op', h3, h5, rfl, h6, by simp [hx]⟩
  intro l hl f out op hf hs
  have hs' : Stop false op := by
    rcases hs with h | ⟨w, op', h, h2⟩
    · exact .inl h
    · refine .inr ⟨w, op', h, ?_⟩
      rcases h2 with h2 | ⟨_, h2⟩
      · exact .inl h2
      · simp at h2
  have hq := hp l hl f out op hf hs'
  have hea := he l hl
  unfold chainS
  cases hS : part l with
  | error e => rw [hS] at hq; exact hq
  | ok z =>
    obtain ⟨ts, r⟩ := z
    rw [hS] at hq hea
    simp only [Ate] at hea
    obtain ⟨f3, o3, op3, g1, g2, g3, g4⟩ := hq
    have := key n ts r f3 o3 op3 out op (by omega) (by omega) g1 hs (by rw [g2, stop_red hs]) g4
    simp only
    cases hR : restS part wOr 6 n ts r with
    | error e =>
      rw [hR] at this
      simp only at this ⊢
      rw [g3, this]
    | ok z =>
      obtain ⟨us, r2⟩ := z
      rw [hR] at this
      obtain ⟨f4, o4, op4, k1, k2, k3, k4⟩ := this
      exact ⟨f4, o4, op4, k1, k2, by rw [g3, k3], k4⟩
theorem orS_p : ∀ n, OrP (orS (n + 1)) n
  | 0 => or_p (and_p (part_p fun m' h => by omega) (partS_eats fun m' h => by omega) (by omega)) (chainS_eats (partS_eats fun m' h => by omega)) (by omega)
  | n + 1 => or_p (and_p (part_p fun m' h => by
      obtain rfl : n = m' := by omega
      exact orS_p n) (partS_eats fun m' h => by
      obtain rfl : n = m' := by omega
      exact orS_eats n) (by omega)) (chainS_eats (partS_eats fun m' h => by
      obtain rfl : n = m' := by omega
      exact orS_eats n)) (by omega)
theorem parse_eq (ws : List Str) : rparseS ws = parseS ws := by
  unfold rparseS parseS
  by_cases h0 : ws = []
  · rw [if_pos h0, if_pos h0]
  · rw [if_neg h0, if_neg h0]
    have h := orS_p ws.length ws (Nat.le_refl _) (ws.length + 1) [] [] (by omega) (.inl rfl)
    cases hS : orS (ws.length + 1) ws with
    | error e =>
      rw [hS] at h
      simp only at h ⊢
      rw [h]
    | ok z =>
      obtain ⟨ts, r⟩ := z
      rw [hS] at h
      obtain ⟨f', o', op', h1, h2, h3, h4, h5⟩ := h
      obtain ⟨f', rfl⟩ : ∃ f'', f' = f'' + 1 := ⟨f' - 1, by omega⟩
      rw [h3]
      cases r with
      | nil => simp [refGo, h2]
      | cons y r3 =>
        simp at h4 h5
        have : refGo (f' + 1) o' op' false (y :: r3) = .error (y :: r3) := by
          rw [refGo, if_neg (by simp [h4, h5])]
          by_cases c : y = wClose
          · rw [if_pos c, h2]
          · rw [if_neg c]
        rw [this]
        simp
end Go.Flat
