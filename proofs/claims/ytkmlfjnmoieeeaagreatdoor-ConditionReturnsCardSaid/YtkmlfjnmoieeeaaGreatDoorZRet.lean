/- The words of a condition lead back to its tests, and tests that are read are a condition: plain Lean. -/
import Derived.Test.YtkmlfjnmoieeeaaGreatDoorZWords
import Derived.Test.YtkmlfjnmoieeeaaGreatDoorZRefers3
set_option linter.unusedVariables false
set_option linter.unusedSimpArgs false
namespace Go.Flat
def post : Node → List Test
  | .leaf t _ => [t]
  | .neg a => post a ++ [opT 4]
  | .pair and a b => post a ++ post b ++ [opT (if and then 5 else 6)]
def posts : List Node → List Test
  | [] => []
  | x :: st => posts st ++ post x
theorem tstep_post {kn : Str → Bool} {i : Int} {t : Test} {st st' : List Node} (h : tstep kn i t st = some st') : posts st' = posts st ++ [t] := by
  unfold tstep at h
  split at h
  · rename_i hc
    have ht : t = opT 4 := bare_iff.2 hc
    split at h
    · injection h with h
      subst h
      simp [posts, post, ht]
    · simp at h
  · split at h
    · rename_i hc
      split at h
      · injection h with h
        subst h
        rcases hc with ⟨hk | hk, hb⟩
        · have ht : t = opT 5 := bare_iff.2 ⟨hk, hb⟩
          simp [posts, post, ht, opT]
        · have ht : t = opT 6 := bare_iff.2 ⟨hk, hb⟩
          simp [posts, post, ht, opT]
      · simp at h
    · split at h
      · injection h with h
        subst h
        simp [posts, post]
      · simp at h
theorem trun_post {kn : Str → Bool} : ∀ {l : List Test} {i : Int} {st st' : List Node}, trun kn i l st = some st' → posts st' = posts st ++ l
  | [], i, st, st', h => by
    simp [trun] at h
    subst h
    simp
  | t :: l, i, st, st', h => by
    simp only [trun] at h
    cases hs : tstep kn i t st with
    | none => simp [hs] at h
    | some s1 =>
      simp [hs] at h
      rw [trun_post h, tstep_post hs]
      simp
theorem tree_post {kn : Str → Bool} {l : List Test} {x : Node} (h : tree kn l = some x) : post x = l := by
  have := trun_post (tree_run h).2
  simpa [posts] using this
def okL (t : Test) : Prop := isLeaf Nm.stepN t = true
theorem step_not : Nm.stepN wNot = false := by decide
theorem step_open : Nm.stepN wOpen = false := by decide
theorem step_failed : Nm.stepN wFailed = false := by decide
theorem step_nil : Nm.stepN [] = false := by decide
theorem okL_cases {t : Test} (h : okL t) : t = opT 3 ∨ (Nm.stepN t.step = true ∧ ((t = ⟨1, t.step, 0, 0⟩) ∨ (t = ⟨2, t.step, 0, 0⟩) ∨ (∃ o n : Nat, t = ⟨0, t.step, o, n⟩ ∧ o < 6 ∧ n ≤ 4095))) := by
  obtain ⟨k, s, o, n⟩ := t
  simp [okL, isLeaf, Test.bare] at h
  simp [opT]
  rcases h with (⟨h1, h2, h3, h4⟩ | ⟨⟨h1, h2, h3⟩, h4⟩) | ⟨⟨h1, h2, h3, h4, h5⟩, h6⟩
  · exact .inl ⟨h1, h2, h3, h4⟩
  · right
    refine ⟨h4, ?_⟩
    rcases h1 with h1 | h1
    · exact .inl ⟨h1, h2, h3⟩
    · exact .inr (.inl ⟨h1, h2, h3⟩)
  · right
    exact ⟨h6, .inr (.inr ⟨o.toNat, n.toNat, ⟨h1, by omega, by omega⟩, by omega, by omega⟩)⟩
theorem rels_at (o : Nat) (ho : o < 6) : rels.findIdx? (· == (rels[o]?.getD [])) = some o := by
  have : o = 0 ∨ o = 1 ∨ o = 2 ∨ o = 3 ∨ o = 4 ∨ o = 5 := by omega
  rcases this with rfl | rfl | rfl | rfl | rfl | rfl <;> decide
theorem notsS_ne {x : Str} (h : ¬ x = wNot) (r : List Str) : notsS (x :: r) = (0, x :: r) := by simp [notsS, h]
theorem addN_zero (R : PR) : addN 0 R = R := by
  cases R with
  | error e => rfl
  | ok z => obtain ⟨ts, r⟩ := z; simp [addN]
theorem part_leaf {orF : List Str → PR} {t : Test} (h : okL t) (r : List Str) : partS orF (leafW t ++ r) = .ok ([t], r) := by
  rcases okL_cases h with rfl | ⟨hs, hc⟩
  · have e : leafW (opT 3) = [wFailed] := by simp [leafW, opT]
    rw [e]
    simp only [List.cons_append, List.nil_append, partS, notsS_ne (show ¬ wFailed = wNot by decide), partR]
    rw [if_neg (by decide), if_pos trivial, addN_zero]
  · have n1 : ¬ t.step = wNot := fun e => by rw [e, step_not] at hs; simp at hs
    have n2 : ¬ t.step = wOpen := fun e => by rw [e, step_open] at hs; simp at hs
    have n3 : ¬ t.step = wFailed := fun e => by rw [e, step_failed] at hs; simp at hs
    have key : ∀ l : List Str, restB t.step (l ++ r) = .ok ([t], r) → partS orF ((t.step :: l) ++ r) = .ok ([t], r) := by
      intro l hl
      simp only [List.cons_append, partS, notsS_ne n1, partR, if_neg n2, if_neg n3, addN_zero, basicS, if_pos hs, hl]
    rcases hc with hc | hc | ⟨o, n, hc, ho, hn⟩
    · have e : leafW t = t.step :: [wFailed] := by rw [hc]; simp [leafW]
      rw [e]
      refine key _ ?_
      simp only [List.cons_append, List.nil_append, restB, if_true]
      rw [← hc]
    · have e : leafW t = t.step :: [wRan] := by rw [hc]; simp [leafW]
      rw [e]
      refine key _ ?_
      simp only [List.cons_append, List.nil_append, restB, if_true]
      rw [if_neg (by decide), ← hc]
    · have e : leafW t = t.step :: [wRc, rels[o]?.getD [], Lib.itoa n] := by rw [hc]; simp [leafW]
      rw [e]
      refine key _ ?_
      simp only [List.cons_append, List.nil_append, restB, if_true]
      rw [if_neg (by decide), if_neg (by decide)]
      simp only [codeB, rels_at o ho, itoa_nat, numS_dec n hn]
      rw [← hc]
theorem part_not {orF : List Str → PR} (l : List Str) : partS orF (wNot :: l) = match partS orF l with
  | .error e => .error e
  | .ok (ts, r) => .ok (ts ++ [opT 4], r) := by
  unfold partS
  simp only [notsS, if_true]
  cases partR orF (notsS l).2 with
  | error e => rfl
  | ok z =>
    obtain ⟨ts, r⟩ := z
    simp only [addN]
    rw [List.replicate_succ', List.append_assoc]
theorem part_open {orF : List Str → PR} (l : List Str) : partS orF (wOpen :: l) = closeS (orF l) := by
  simp only [partS, notsS_ne (show ¬ wOpen = wNot by decide), partR, if_true, addN_zero]
theorem rest_end {part : List Str → PR} {w : Str} {k : Int} {n : Nat} {acc : List Test} {r : List Str} (h : r.head? ≠ some w) (hn : 0 < n) : restS part w k n acc r = .ok (acc, r) := by
  obtain ⟨n, rfl⟩ : ∃ n', n = n' + 1 := ⟨n - 1, by omega⟩
  cases r with
  | nil => rfl
  | cons x r =>
    simp at h
    simp [restS, h]
abbrev andF (m : Nat) : List Str → PR := chainS (partS (orS m)) wAnd 5 (m + 1)
structure Reads (x : Node) : Prop where
  p2 : ∀ (m : Nat) (r : List Str), (wordsN x 2 ++ r).length ≤ m → partS (orS m) (wordsN x 2 ++ r) = .ok (post x, r)
  a1 : ∀ (m n : Nat) (r : List Str), (wordsN x 1 ++ r).length ≤ m → (wordsN x 1 ++ r).length < n → ∃ n', r.length < n' ∧ chainS (partS (orS m)) wAnd 5 n (wordsN x 1 ++ r) = restS (partS (orS m)) wAnd 5 n' (post x) r
  a0 : ∀ (m n : Nat) (r : List Str), (wordsN x 0 ++ r).length ≤ m → (wordsN x 0 ++ r).length < n → r.head? ≠ some wAnd → ∃ n', r.length < n' ∧ chainS (andF m) wOr 6 n (wordsN x 0 ++ r) = restS (andF m) wOr 6 n' (post x) r
theorem and_of {x : Node} (a1 : ∀ (m n : Nat) (r : List Str), (wordsN x 1 ++ r).length ≤ m → (wordsN x 1 ++ r).length < n → ∃ n', r.length < n' ∧ chainS (partS (orS m)) wAnd 5 n (wordsN x 1 ++ r) = restS (partS (orS m)) wAnd 5 n' (post x) r)
    (m : Nat) (r : List Str) (h : (wordsN x 1 ++ r).length ≤ m) (hr : r.head? ≠ some wAnd) : andF m (wordsN x 1 ++ r) = .ok (post x, r) := by
  obtain ⟨n', h1, h2⟩ := a1 m (m + 1) r h (by omega)
  unfold andF
  rw [h2, rest_end hr (by omega)]
theorem or_of {x : Node} (a0 : ∀ (m n : Nat) (r : List Str), (wordsN x 0 ++ r).length ≤ m → (wordsN x 0 ++ r).length < n → r.head? ≠ some wAnd → ∃ n', r.length < n' ∧ chainS (andF m) wOr 6 n (wordsN x 0 ++ r) = restS (andF m) wOr 6 n' (post x) r)
    (m : Nat) (r : List Str) (h : (wordsN x 0 ++ r).length ≤ m) (hr : r.head? ≠ some wAnd) (hr2 : r.head? ≠ some wOr) : orS (m + 1) (wordsN x 0 ++ r) = .ok (post x, r) := by
  obtain ⟨n', h1, h2⟩ := a0 m (m + 1) r h (by omega) hr
  show chainS (andF m) wOr 6 (m + 1) _ = _
  rw [h2, rest_end hr2 (by omega)]
theorem par_p2 {x : Node} (hw : wordsN x 2 = wOpen :: (wordsN x 0 ++ [wClose])) (a0 : ∀ (m n : Nat) (r : List Str), (wordsN x 0 ++ r).length ≤ m → (wordsN x 0 ++ r).length < n → r.head? ≠ some wAnd → ∃ n', r.length < n' ∧ chainS (andF m) wOr 6 n (wordsN x 0 ++ r) = restS (andF m) wOr 6 n' (post x) r)
    (m : Nat) (r : List Str) (h : (wordsN x 2 ++ r).length ≤ m) : partS (orS m) (wordsN x 2 ++ r) = .ok (post x, r) := by
  rw [hw] at h ⊢
  simp at h
  obtain ⟨m, rfl⟩ : ∃ m', m = m' + 1 := ⟨m - 1, by omega⟩
  simp only [List.cons_append, List.append_assoc, part_open]
  rw [List.nil_append, or_of a0 m (wClose :: r) (by simp; omega) (by simp [wClose, wAnd]) (by simp [wClose, wOr])]
  simp [closeS]
theorem reads : ∀ (x : Node), x.All okL → Reads x
  | .leaf t i, h => by
    have hw : ∀ least : Int, least ≤ 2 → wordsN (.leaf t i) least = leafW t := by
      intro least hl
      have : ¬ (2 < least) := by omega
      simp [wordsN, par, this]
    have p2 : ∀ (m : Nat) (r : List Str), partS (orS m) (leafW t ++ r) = .ok ([t], r) := fun m r => part_leaf h r
    have a1 : ∀ (m n : Nat) (r : List Str), (wordsN (.leaf t i) 1 ++ r).length ≤ m → (wordsN (.leaf t i) 1 ++ r).length < n → ∃ n', r.length < n' ∧ chainS (partS (orS m)) wAnd 5 n (wordsN (.leaf t i) 1 ++ r) = restS (partS (orS m)) wAnd 5 n' (post (.leaf t i)) r := by
      intro m n r _ h2
      simp only [List.length_append] at h2
      refine ⟨n, by omega, ?_⟩
      rw [hw 1 (by omega)]
      simp only [chainS, p2, post]
    refine ⟨fun m r _ => by rw [hw 2 (by omega)]; exact p2 m r, a1, fun m n r h1 h2 h3 => ?_⟩
    have ha := and_of a1 m r (by rw [hw 1 (by omega)]; rw [hw 0 (by omega)] at h1; exact h1) h3
    simp only [List.length_append] at h2
    refine ⟨n, by omega, ?_⟩
    rw [hw 0 (by omega)]
    rw [hw 1 (by omega)] at ha
    simp only [chainS] at ha ⊢
    rw [ha]
  | .neg a, h => by
    have ih := reads a h
    have hw : ∀ least : Int, least ≤ 2 → wordsN (.neg a) least = wNot :: wordsN a 2 := by
      intro least hl
      have : ¬ (2 < least) := by omega
      simp [wordsN, par, this]
    have p2 : ∀ (m : Nat) (r : List Str), (wNot :: wordsN a 2 ++ r).length ≤ m → partS (orS m) (wNot :: wordsN a 2 ++ r) = .ok (post (.neg a), r) := by
      intro m r h1
      rw [List.cons_append, part_not, ih.p2 m r (by simp at h1 ⊢; omega)]
      rfl
    have a1 : ∀ (m n : Nat) (r : List Str), (wordsN (.neg a) 1 ++ r).length ≤ m → (wordsN (.neg a) 1 ++ r).length < n → ∃ n', r.length < n' ∧ chainS (partS (orS m)) wAnd 5 n (wordsN (.neg a) 1 ++ r) = restS (partS (orS m)) wAnd 5 n' (post (.neg a)) r := by
      intro m n r h1 h2
      rw [hw 1 (by omega)] at h1 h2 ⊢
      have := p2 m r h1
      simp only [List.length_append] at h2
      refine ⟨n, by omega, ?_⟩
      simp only [chainS, this]
    refine ⟨fun m r h1 => by rw [hw 2 (by omega)] at h1 ⊢; exact p2 m r h1, a1, fun m n r h1 h2 h3 => ?_⟩
    have ha := and_of a1 m r (by rw [hw 1 (by omega)]; rw [hw 0 (by omega)] at h1; exact h1) h3
    simp only [List.length_append] at h2
    refine ⟨n, by omega, ?_⟩
    rw [hw 0 (by omega)]
    rw [hw 1 (by omega)] at ha
    simp only [chainS] at ha ⊢
    rw [ha]
  | .pair true a b, h => by
    have ia := reads a h.1
    have ib := reads b h.2
    have w0 : wordsN (.pair true a b) 0 = wordsN a 1 ++ (wAnd :: wordsN b 2) := by simp [wordsN, par]
    have w1 : wordsN (.pair true a b) 1 = wordsN a 1 ++ (wAnd :: wordsN b 2) := by simp [wordsN, par]
    have w2 : wordsN (.pair true a b) 2 = wOpen :: (wordsN (.pair true a b) 0 ++ [wClose]) := by simp [wordsN, par]
    have a1 : ∀ (m n : Nat) (r : List Str), (wordsN (.pair true a b) 1 ++ r).length ≤ m → (wordsN (.pair true a b) 1 ++ r).length < n → ∃ n', r.length < n' ∧ chainS (partS (orS m)) wAnd 5 n (wordsN (.pair true a b) 1 ++ r) = restS (partS (orS m)) wAnd 5 n' (post (.pair true a b)) r := by
      intro m n r h1 h2
      rw [w1] at h1 h2 ⊢
      rw [List.append_assoc] at h1 h2 ⊢
      obtain ⟨n1, g1, g2⟩ := ia.a1 m n _ h1 h2
      rw [g2]
      simp at g1 h1
      obtain ⟨n1, rfl⟩ : ∃ n', n1 = n' + 1 := ⟨n1 - 1, by omega⟩
      refine ⟨n1, by omega, ?_⟩
      simp only [List.cons_append, restS, if_true]
      rw [ib.p2 m r (by simp; omega)]
      rfl
    have a0 : ∀ (m n : Nat) (r : List Str), (wordsN (.pair true a b) 0 ++ r).length ≤ m → (wordsN (.pair true a b) 0 ++ r).length < n → r.head? ≠ some wAnd → ∃ n', r.length < n' ∧ chainS (andF m) wOr 6 n (wordsN (.pair true a b) 0 ++ r) = restS (andF m) wOr 6 n' (post (.pair true a b)) r := by
      intro m n r h1 h2 h3
      have ha := and_of a1 m r (by rw [w1]; rw [w0] at h1; exact h1) h3
      simp only [List.length_append] at h2
      refine ⟨n, by omega, ?_⟩
      rw [w0]
      rw [w1] at ha
      simp only [chainS] at ha ⊢
      rw [ha]
    exact ⟨par_p2 w2 a0, a1, a0⟩
  | .pair false a b, h => by
    have ia := reads a h.1
    have ib := reads b h.2
    have w0 : wordsN (.pair false a b) 0 = wordsN a 0 ++ (wOr :: wordsN b 1) := by simp [wordsN, par]
    have w2 : wordsN (.pair false a b) 2 = wOpen :: (wordsN (.pair false a b) 0 ++ [wClose]) := by simp [wordsN, par]
    have w12 : wordsN (.pair false a b) 1 = wordsN (.pair false a b) 2 := by simp [wordsN, par]
    have a0 : ∀ (m n : Nat) (r : List Str), (wordsN (.pair false a b) 0 ++ r).length ≤ m → (wordsN (.pair false a b) 0 ++ r).length < n → r.head? ≠ some wAnd → ∃ n', r.length < n' ∧ chainS (andF m) wOr 6 n (wordsN (.pair false a b) 0 ++ r) = restS (andF m) wOr 6 n' (post (.pair false a b)) r := by
      intro m n r h1 h2 h3
      rw [w0] at h1 h2 ⊢
      rw [List.append_assoc] at h1 h2 ⊢
      obtain ⟨n1, g1, g2⟩ := ia.a0 m n _ h1 h2 (by simp [wOr, wAnd])
      rw [g2]
      simp at g1 h1
      obtain ⟨n1, rfl⟩ : ∃ n', n1 = n' + 1 := ⟨n1 - 1, by omega⟩
      refine ⟨n1, by omega, ?_⟩
      simp only [List.cons_append, restS, if_true]
      rw [and_of ib.a1 m r (by simp; omega) h3]
      rfl
    have p2 := par_p2 w2 a0
    refine ⟨p2, fun m n r h1 h2 => ?_, a0⟩
    rw [w12] at h1 h2 ⊢
    have := p2 m r h1
    simp only [List.length_append] at h2
    refine ⟨n, by omega, ?_⟩
    simp only [chainS, this]
/-- The words lead back to the tests. -/
theorem parse_back {l : List Test} {x : Node} (h : tree Nm.stepN l = some x) : parseS (wordsN x 0) = (l, 0, 0) := by
  have hr := reads x (tree_All (fun t ht => ht) h)
  have hl := (wordsN_len x 0).1
  have h0 : wordsN x 0 ≠ [] := by intro e; rw [e] at hl; simp at hl
  have h1 := or_of hr.a0 (wordsN x 0).length [] (by simp) (by simp) (by simp)
  rw [List.append_nil] at h1
  have h2 := (tree_run h).1
  have h3 : ¬ 32 < l.length := by omega
  unfold parseS
  rw [if_neg h0, h1]
  simp [tree_post h, h3]
/-! ### What is read is a condition -/
def Good (ts : List Test) : Prop := ∀ (i : Int) (st : List Node), ∃ x, trun Nm.stepN i ts st = some (x :: st)
theorem trun_app {kn : Str → Bool} : ∀ (a : List Test) (i : Int) (b : List Test) (st : List Node), trun kn i (a ++ b) st = (trun kn i a st).bind (trun kn (i + a.length) b)
  | [], i, b, st => by simp [trun]
  | t :: a, i, b, st => by
    simp only [List.cons_append, trun]
    cases tstep kn i t st with
    | none => rfl
    | some s =>
      simp only [Option.bind_some]
      rw [trun_app a (i + 1) b s]
      have e : i + 1 + (a.length : Int) = i + ((t :: a).length : Nat) := by simp; omega
      rw [e]
theorem good_leaf {t : Test} (h : okL t) : Good [t] := by
  intro i st
  have hk : ¬ (t.kind = 4 ∧ t.bare = true) ∧ ¬ ((t.kind = 5 ∨ t.kind = 6) ∧ t.bare = true) := by
    rcases okL_cases h with rfl | ⟨_, hc | hc | ⟨o, n, hc, _⟩⟩
    · simp [opT]
    · rw [hc]; simp
    · rw [hc]; simp
    · rw [hc]; simp
  refine ⟨.leaf t i, ?_⟩
  unfold okL at h
  simp [trun, tstep, hk.1, hk.2, h]
theorem good_not {ts : List Test} (h : Good ts) : Good (ts ++ [opT 4]) := by
  intro i st
  obtain ⟨x, hx⟩ := h i st
  exact ⟨.neg x, by rw [trun_app, hx]; simp [trun, tstep, opT, Test.bare]⟩
theorem good_nots {ts : List Test} (h : Good ts) : ∀ c, Good (ts ++ List.replicate c (opT 4))
  | 0 => by simpa using h
  | c + 1 => by
    rw [List.replicate_succ', ← List.append_assoc]
    exact good_not (good_nots h c)
theorem good_pair {a b : List Test} (ha : Good a) (hb : Good b) {k : Int} (hk : k = 5 ∨ k = 6) : Good (a ++ b ++ [opT k]) := by
  intro i st
  obtain ⟨x, hx⟩ := ha i st
  obtain ⟨y, hy⟩ := hb (i + a.length) (x :: st)
  refine ⟨.pair (decide (k = 5)) x y, ?_⟩
  rw [trun_app, trun_app, hx]
  simp only [Option.bind_some, hy]
  rcases hk with rfl | rfl <;> simp [trun, tstep, opT, Test.bare]
def GoodP (S : List Str → PR) : Prop := ∀ l ts r, S l = .ok (ts, r) → Good ts
theorem basic_good : GoodP basicS := by
  intro l ts r h
  match l with
  | [] => simp [basicS] at h
  | s :: l =>
    simp only [basicS] at h
    split at h
    case isFalse => simp at h
    rename_i hs
    match l with
    | [] => simp [restB] at h
    | x :: l =>
      simp only [restB] at h
      split at h
      · simp at h
        obtain ⟨rfl, _⟩ := h
        exact good_leaf (by simp [okL, isLeaf, hs])
      · split at h
        · simp at h
          obtain ⟨rfl, _⟩ := h
          exact good_leaf (by simp [okL, isLeaf, hs])
        · split at h
          · match l with
            | [] => simp [codeB] at h
            | o :: l =>
              simp only [codeB] at h
              cases hf : rels.findIdx? (· == o) with
              | none => simp [hf] at h
              | some j =>
                simp only [hf] at h
                match l with
                | [] => simp at h
                | v :: l =>
                  simp only at h
                  cases hn : numS v with
                  | none => simp [hn] at h
                  | some n =>
                    simp [hn] at h
                    obtain ⟨rfl, _⟩ := h
                    obtain ⟨u, hu, rfl, _⟩ := numS_some hn
                    have hj : j < 6 := by
                      obtain ⟨hj, _⟩ := List.findIdx?_eq_some_iff_getElem.1 hf
                      simpa [rels] using hj
                    exact good_leaf (by simp [okL, isLeaf, hs]; omega)
          · simp at h
theorem part_good {orF : List Str → PR} (ho : GoodP orF) : GoodP (partS orF) := by
  intro l ts r h
  unfold partS at h
  generalize (notsS l).1 = c at h
  generalize (notsS l).2 = r0 at h
  have key : ∀ us r', partR orF r0 = .ok (us, r') → Good us := by
    intro us r' hu
    match r0 with
    | [] => simp [partR] at hu
    | x :: r0 =>
      simp only [partR] at hu
      split at hu
      · cases hq : orF r0 with
        | error e => simp [hq, closeS] at hu
        | ok z =>
          obtain ⟨vs, r2⟩ := z
          rw [hq] at hu
          match r2 with
          | [] => simp [closeS] at hu
          | y :: r3 =>
            simp only [closeS] at hu
            split at hu
            · simp at hu
              obtain ⟨rfl, _⟩ := hu
              exact ho _ _ _ hq
            · simp at hu
      · split at hu
        · simp at hu
          obtain ⟨rfl, _⟩ := hu
          exact good_leaf (by simp [okL, isLeaf, opT, Test.bare])
        · exact basic_good _ _ _ hu
  cases hp : partR orF r0 with
  | error e => simp [hp, addN] at h
  | ok z =>
    obtain ⟨us, r'⟩ := z
    rw [hp] at h
    simp only [addN, Except.ok.injEq, Prod.mk.injEq] at h
    obtain ⟨rfl, _⟩ := h
    exact good_nots (key us r' hp) c
theorem rest_good {part : List Str → PR} (hp : GoodP part) {w : Str} {k : Int} (hk : k = 5 ∨ k = 6) : ∀ (n : Nat) (acc : List Test) (l : List Str) (ts : List Test) (r : List Str), Good acc → restS part w k n acc l = .ok (ts, r) → Good ts
  | 0, acc, l, ts, r, ha, h => by simp [restS] at h
  | n + 1, acc, [], ts, r, ha, h => by
    simp [restS] at h
    obtain ⟨rfl, _⟩ := h
    exact ha
  | n + 1, acc, x :: l, ts, r, ha, h => by
    simp only [restS] at h
    split at h
    · cases hq : part l with
      | error e => simp [hq] at h
      | ok z =>
        obtain ⟨us, r'⟩ := z
        rw [hq] at h
        exact rest_good hp hk n _ _ _ _ (good_pair ha (hp _ _ _ hq) hk) h
    · simp at h
      obtain ⟨rfl, _⟩ := h
      exact ha
theorem chain_good {part : List Str → PR} (hp : GoodP part) {w : Str} {k : Int} (hk : k = 5 ∨ k = 6) (n : Nat) : GoodP (chainS part w k n) := by
  intro l ts r h
  unfold chainS at h
  cases hq : part l with
  | error e => simp [hq] at h
  | ok z =>
    obtain ⟨us, r'⟩ := z
    rw [hq] at h
    exact rest_good hp hk n _ _ _ _ (hp _ _ _ hq) h
theorem or_good : ∀ n, GoodP (orS n)
  | 0 => fun l ts r h => by simp [orS] at h
  | n + 1 => chain_good (chain_good (part_good (or_good n)) (.inl rfl) (n + 1)) (.inr rfl) (n + 1)
theorem parse_tree (ws : List Str) (h : (parseS ws).2.2 = 0) : (ws = [] ∧ parseS ws = ([], 0, 0)) ∨ ∃ ts x, parseS ws = (ts, 0, 0) ∧ tree Nm.stepN ts = some x := by
  by_cases h0 : ws = []
  · subst h0
    exact .inl ⟨rfl, rfl⟩
  · right
    unfold parseS at h ⊢
    rw [if_neg h0] at h ⊢
    cases ho : orS (ws.length + 1) ws with
    | error e => rw [ho] at h; simp at h
    | ok z =>
      obtain ⟨ts, r⟩ := z
      rw [ho] at h
      simp only at h ⊢
      by_cases hr : r = []
      · by_cases h32 : 32 < ts.length
        · simp [hr, h32] at h
        · have hg := or_good _ _ _ _ ho
          obtain ⟨x, hx⟩ := hg 0 []
          refine ⟨ts, x, by simp [hr, h32], ?_⟩
          unfold tree
          rw [if_neg h32, hx]
          rfl
      · simp [hr] at h
theorem parse_err (ws : List Str) (h : (parseS ws).2.2 ≠ 0) : (parseS ws).1 = [] := by
  unfold parseS at h ⊢
  split
  · rfl
  · rename_i h0
    rw [if_neg h0] at h
    split
    · rfl
    · split
      · rfl
      · split
        · rfl
        · rename_i a b c d e
          simp_all
end Go.Flat
