/- The opposite of a condition, with no program in sight. -/
import Derived.Test.YtkmlfjnmoieeeaaDoorDLaw
import Derived.Test.YtkmlfjnmoieeeaaDoorDPush
set_option linter.unusedVariables false
set_option linter.unusedSimpArgs false
namespace Go.Flat
open Nm (stepN)
def treeOf : Node → Bool → Node
  | .leaf t _, false => .leaf t 0
  | .leaf t _, true => if t.kind = 0 then .pair false (.pair false (.leaf ⟨t.kind, t.step, oppOp t.op, t.n⟩ 0) (.leaf ⟨1, t.step, 0, 0⟩ 0)) (.neg (.leaf ⟨2, t.step, 0, 0⟩ 0)) else .neg (.leaf t 0)
  | .neg a, o => treeOf a (!o)
  | .pair k a b, o => .pair (k != o) (treeOf a o) (treeOf b o)
theorem isLeaf_kind {kn : Str → Bool} {t : Test} (h : isLeaf kn t = true) : t.kind = 0 ∨ t.kind = 1 ∨ t.kind = 2 ∨ t.kind = 3 := by
  simp [isLeaf] at h
  omega
theorem tstep_leaf {kn : Str → Bool} {i : Int} {t : Test} (h : isLeaf kn t = true) (st : List Node) : tstep kn i t st = some (.leaf t i :: st) := by
  have hk := isLeaf_kind h
  have h4 : ¬ (t.kind = 4 ∧ t.bare = true) := by omega
  have h5 : ¬ ((t.kind = 5 ∨ t.kind = 6) ∧ t.bare = true) := by omega
  simp only [tstep, h4, h5, if_false, h, if_true]
theorem tstep_not {kn : Str → Bool} (a : Node) (r : List Node) : tstep kn 0 ⟨4, [], 0, 0⟩ (a :: r) = some (.neg a :: r) := rfl
theorem tstep_and {kn : Str → Bool} (a b : Node) (r : List Node) : tstep kn 0 ⟨5, [], 0, 0⟩ (b :: a :: r) = some (.pair true a b :: r) := rfl
theorem tstep_or {kn : Str → Bool} (a b : Node) (r : List Node) : tstep kn 0 ⟨6, [], 0, 0⟩ (b :: a :: r) = some (.pair false a b :: r) := rfl
theorem leaf_opp {kn : Str → Bool} {t : Test} (h : isLeaf kn t = true) (hk : t.kind = 0) :
    isLeaf kn ⟨t.kind, t.step, oppOp t.op, t.n⟩ = true ∧ isLeaf kn ⟨1, t.step, 0, 0⟩ = true ∧ isLeaf kn ⟨2, t.step, 0, 0⟩ = true := by
  obtain ⟨k, s, o, n⟩ := t
  simp only at hk
  subst hk
  simp [isLeaf, Test.bare] at h
  obtain ⟨⟨h1, h2, h3, h4⟩, h5⟩ := h
  have h6 : 0 ≤ oppOp o ∧ oppOp o ≤ 5 := by
    unfold oppOp
    have hoc : o = 0 ∨ o = 1 ∨ o = 2 ∨ o = 3 ∨ o = 4 ∨ o = 5 := by omega
    rcases hoc with rfl | rfl | rfl | rfl | rfl | rfl <;> simp
  simp [isLeaf, Test.bare, h6.1, h6.2, h3, h4, h5]
theorem tr0_push {kn : Str → Bool} : ∀ (x : Node) (o : Bool), x.All (fun t => isLeaf kn t = true) → ∀ st, tr0 kn (pushS x o) st = some (treeOf x o :: st)
  | .leaf t i, false, h, st => by
    simp only [pushS, tr0, tstep_leaf h, Option.bind_some, treeOf]
  | .leaf t i, true, h, st => by
    by_cases hk : t.kind = 0
    · obtain ⟨h1, h2, h3⟩ := leaf_opp h hk
      simp only [pushS, leafOpp, if_pos hk, treeOf, tr0, tstep_leaf h1, tstep_leaf h2, tstep_leaf h3, Option.bind_some, tstep_or, tstep_not]
    · simp only [pushS, leafOpp, if_neg hk, treeOf, tr0, tstep_leaf h, Option.bind_some, tstep_not]
  | .neg a, o, h, st => tr0_push a (!o) h st
  | .pair k a b, o, h, st => by
    simp only [pushS, tr0_append, tr0_push a o h.1, tr0_push b o h.2, Option.bind_some]
    cases hko : (k != o)
    · simp [tr0, tstep_or, treeOf, hko]
    · simp [tr0, tstep_and, treeOf, hko]
theorem rel_opp {code op n : Int} (h0 : 0 ≤ op) (h5 : op ≤ 5) : rel code (oppOp op) n = !rel code op n := by
  have hoc : op = 0 ∨ op = 1 ∨ op = 2 ∨ op = 3 ∨ op = 4 ∨ op = 5 := by omega
  rcases hoc with rfl | rfl | rfl | rfl | rfl | rfl <;> simp [rel, oppOp]
  all_goals (rw [← decide_not]; exact decide_eq_decide.2 (by omega))
theorem leafVal_opp {kn : Str → Bool} {t : Test} (h : isLeaf kn t = true) (hk : t.kind = 0) (steps : List Str) (es : List End) :
    ((leafVal steps es ⟨t.kind, t.step, oppOp t.op, t.n⟩ || leafVal steps es ⟨1, t.step, 0, 0⟩) || !leafVal steps es ⟨2, t.step, 0, 0⟩) = !leafVal steps es t := by
  obtain ⟨k, s, o, n⟩ := t
  simp only at hk
  subst hk
  simp [isLeaf, Test.bare] at h
  obtain ⟨⟨h1, h2, h3, h4⟩, h5⟩ := h
  simp only [leafVal]
  cases hf : steps.findIdx? (fun x => x == s) with
  | none => simp
  | some k =>
    cases he : es[k]? with
    | none => simp [he]
    | some e =>
      simp only [he, holds]
      simp [rel_opp h1 h2]
      cases e.ran <;> cases e.failed <;> cases rel e.code o n <;> rfl
theorem val_treeOf {kn : Str → Bool} (steps : List Str) (es : List End) : ∀ (x : Node) (o : Bool), x.All (fun t => isLeaf kn t = true) → (treeOf x o).val (fun t _ => leafVal steps es t) = (x.val (fun t _ => leafVal steps es t) != o)
  | .leaf t i, false, h => by simp [treeOf, Node.val]
  | .leaf t i, true, h => by
    by_cases hk : t.kind = 0
    · have := leafVal_opp h hk steps es
      simp [treeOf, hk, Node.val]
      rw [hk] at this
      simpa using this
    · simp [treeOf, hk, Node.val]
  | .neg a, o, h => by
    rw [treeOf, val_treeOf steps es a (!o) h, Node.val]
    cases a.val (fun t _ => leafVal steps es t) <;> cases o <;> rfl
  | .pair k a b, o, h => by
    simp only [treeOf, Node.val, val_treeOf steps es a o h.1, val_treeOf steps es b o h.2]
    cases a.val (fun t _ => leafVal steps es t) <;> cases b.val (fun t _ => leafVal steps es t) <;> cases o <;> cases k <;> rfl
/-- Not stands only behind failed, ran and the test of any failure. -/
def okFrom : Int → List Test → Prop
  | _, [] => True
  | p, t :: r => (t.kind = 4 → p = 1 ∨ p = 2 ∨ p = 3) ∧ okFrom t.kind r
theorem okFrom_append : ∀ {a b : List Test} {p : Int}, okFrom p a → (∀ q, okFrom q b) → okFrom p (a ++ b)
  | [], b, p, _, hb => hb p
  | t :: a, b, p, ha, hb => ⟨ha.1, okFrom_append ha.2 hb⟩
theorem okFrom_push {kn : Str → Bool} : ∀ (x : Node) (o : Bool), x.All (fun t => isLeaf kn t = true) → ∀ p, okFrom p (pushS x o)
  | .leaf t i, false, h, p => by
    have hk := isLeaf_kind h
    exact ⟨fun h4 => by omega, trivial⟩
  | .leaf t i, true, h, p => by
    have hk := isLeaf_kind h
    by_cases h0 : t.kind = 0
    · simp [pushS, leafOpp, h0, okFrom]
    · simp only [pushS, leafOpp, if_neg h0]
      exact ⟨fun h4 => by omega, fun _ => by omega, trivial⟩
  | .neg a, o, h, p => okFrom_push a (!o) h p
  | .pair k a b, o, h, p => by
    simp only [pushS, List.append_assoc]
    refine okFrom_append (okFrom_push a o h.1 p) fun q => okFrom_append (okFrom_push b o h.2 q) fun r => ⟨fun h4 => ?_, trivial⟩
    simp only at h4
    split at h4 <;> omega
theorem okFrom_at : ∀ {l : List Test} {p : Int}, okFrom p l → ∀ i (hi : i < l.length), l[i].kind = 4 → (i = 0 → p = 1 ∨ p = 2 ∨ p = 3) ∧ (∀ j (hj : j < l.length), i = j + 1 → l[j].kind = 1 ∨ l[j].kind = 2 ∨ l[j].kind = 3)
  | [], p, h, i, hi, h4 => by simp at hi
  | t :: r, p, h, 0, hi, h4 => ⟨fun _ => h.1 h4, fun j hj e => by omega⟩
  | t :: r, p, h, i + 1, hi, h4 => by
    refine ⟨fun e => by omega, fun j hj e => ?_⟩
    have hr := okFrom_at h.2 i (by simpa using hi) (by simpa using h4)
    have hij : i = j := by omega
    subst hij
    cases i with
    | zero => exact hr.1 rfl
    | succ i => simpa using hr.2 i (by simp at hj; omega) rfl
/-- How many leaves, how many tests. -/
def Node.leaves : Node → Nat
  | .leaf .. => 1
  | .neg a => a.leaves
  | .pair _ a b => a.leaves + b.leaves
def Node.sz : Node → Nat
  | .leaf .. => 1
  | .neg a => a.sz + 1
  | .pair _ a b => a.sz + b.sz + 1
theorem Node.leaves_sz : ∀ x : Node, 2 * x.leaves ≤ x.sz + 1 ∧ 1 ≤ x.leaves
  | .leaf .. => by simp [Node.leaves, Node.sz]
  | .neg a => by have := a.leaves_sz; simp [Node.leaves, Node.sz]; omega
  | .pair _ a b => by have := a.leaves_sz; have := b.leaves_sz; simp [Node.leaves, Node.sz]; omega
theorem push_len : ∀ (x : Node) (o : Bool), (pushS x o).length + 1 ≤ 7 * x.leaves
  | .leaf t _, false => by simp [pushS, Node.leaves]
  | .leaf t _, true => by simp only [pushS, leafOpp, Node.leaves]; split <;> simp
  | .neg a, o => by simpa [pushS, Node.leaves] using push_len a (!o)
  | .pair k a b, o => by have := push_len a o; have := push_len b o; simp [pushS, Node.leaves]; omega
def szs (l : List Node) : Nat := (l.map Node.sz).sum
theorem tstep_sz {kn : Str → Bool} {i : Int} {t : Test} {st st' : List Node} (h : tstep kn i t st = some st') : szs st' = szs st + 1 := by
  unfold tstep at h
  split at h
  · match st, h with
    | a :: r, h => simp at h; subst h; simp [szs, Node.sz]; omega
  · split at h
    · match st, h with
      | b :: a :: r, h => simp at h; subst h; simp [szs, Node.sz]; omega
    · split at h
      · injection h with h; subst h; simp [szs, Node.sz]; omega
      · simp at h
theorem trun_sz {kn : Str → Bool} : ∀ {l : List Test} {i : Int} {st st' : List Node}, trun kn i l st = some st' → szs st' = szs st + l.length
  | [], i, st, st', h => by simp [trun] at h; subst h; rfl
  | t :: l, i, st, st', h => by
    simp only [trun] at h
    cases hs : tstep kn i t st with
    | none => simp [hs] at h
    | some s1 =>
      simp [hs] at h
      have := trun_sz h
      have := tstep_sz hs
      simp
      omega
theorem tree_sz {kn : Str → Bool} {l : List Test} {x : Node} (h : tree kn l = some x) : x.sz = l.length ∧ l.length ≤ 32 := by
  unfold tree at h
  split at h
  · simp at h
  · rename_i h32
    cases hr : trun kn 0 l [] with
    | none => simp [hr, single] at h
    | some st =>
      rw [hr] at h
      match st, h, hr with
      | [y], h, hr =>
        simp [single] at h
        subst h
        have := trun_sz hr
        simp [szs] at this
        omega
theorem tstep_le {kn kn' : Str → Bool} (hk : ∀ t, isLeaf kn t = true → isLeaf kn' t = true) {i : Int} {t : Test} {st st' : List Node} (h : tstep kn i t st = some st') : tstep kn' i t st = some st' := by
  unfold tstep at h ⊢
  split at h
  · rename_i hc; rw [if_pos hc]; exact h
  · rename_i hc
    rw [if_neg hc]
    split at h
    · rename_i hc2; rw [if_pos hc2]; exact h
    · rename_i hc2
      rw [if_neg hc2]
      split at h
      · rename_i hl; rw [if_pos (hk _ hl)]; exact h
      · simp at h
theorem trun_le {kn kn' : Str → Bool} (hk : ∀ t, isLeaf kn t = true → isLeaf kn' t = true) : ∀ {l : List Test} {i : Int} {st st' : List Node}, trun kn i l st = some st' → trun kn' i l st = some st'
  | [], i, st, st', h => h
  | t :: l, i, st, st', h => by
    simp only [trun] at h ⊢
    cases hs : tstep kn i t st with
    | none => simp [hs] at h
    | some s1 =>
      simp [hs] at h
      simp [tstep_le hk hs, trun_le hk h]
theorem tree_le {kn kn' : Str → Bool} (hk : ∀ t, isLeaf kn t = true → isLeaf kn' t = true) {l : List Test} {x : Node} (h : tree kn l = some x) : tree kn' l = some x := by
  unfold tree at h ⊢
  split at h
  · simp at h
  · rename_i h32
    rw [if_neg h32]
    cases hr : trun kn 0 l [] with
    | none => simp [hr, single] at h
    | some st => rw [hr] at h; rw [trun_le hk hr]; exact h
theorem leaf_le {steps : List Str} (hs : ∀ s ∈ steps, stepN s = true) : ∀ t, isLeaf (fun s => decide (s ∈ steps)) t = true → isLeaf stepN t = true := by
  intro t h
  simp [isLeaf] at h ⊢
  rcases h with (h | ⟨h1, h2⟩) | ⟨h1, h2⟩
  · exact .inl (.inl h)
  · exact .inl (.inr ⟨h1, hs _ h2⟩)
  · exact .inr ⟨h1, hs _ h2⟩
def notS (l : List Test) : List Test :=
  if l = [] then [⟨3, [], 0, 0⟩] else match tree stepN l with
    | some x => if 32 < (pushS x true).length then [] else pushS x true
    | none => []
theorem opp_law {steps : List Str} (hs : ∀ s ∈ steps, stepN s = true) (es : List End) {l : List Test} (hv : (onS l steps).isSome = true) :
    (l.length ≤ 5 → notS l ≠ []) ∧ (notS l ≠ [] → (notS l).length ≤ 32 ∧ (onS (notS l) steps).isSome = true ∧ evalS (notS l) steps es = !evalS l steps es ∧ okFrom 0 (notS l)) := by
  by_cases h0 : l = []
  · subst h0
    refine ⟨fun _ => by simp [notS], fun _ => ?_⟩
    simp only [notS, if_true]
    refine ⟨by simp, by rfl, ?_, ?_⟩
    · rw [evalS_any, evalS_nil]
      simp
    · exact ⟨fun h => by simp at h, trivial⟩
  · have hon : onS l steps = tree (fun s => decide (s ∈ steps)) l := by simp [onS, h0]
    rw [hon] at hv
    obtain ⟨x, hx⟩ := Option.isSome_iff_exists.1 hv
    have hx2 := tree_le (leaf_le hs) hx
    have hall : x.All (fun t => isLeaf (fun s => decide (s ∈ steps)) t = true) := tree_All (fun _ h => h) hx
    have hn : notS l = if 32 < (pushS x true).length then [] else pushS x true := by simp [notS, h0, hx2]
    have hpos := pushS_pos x true
    have hne : pushS x true ≠ [] := List.length_pos_iff.1 hpos
    obtain ⟨hsz, hl32⟩ := tree_sz hx
    refine ⟨fun h5 => ?_, fun hnn => ?_⟩
    · rw [hn]
      have := push_len x true
      have := x.leaves_sz
      rw [if_neg (by omega)]
      exact hne
    · have hle : ¬ 32 < (pushS x true).length := by
        intro h
        rw [hn, if_pos h] at hnn
        exact hnn rfl
      rw [hn, if_neg hle]
      have htr := tr0_push x true hall []
      refine ⟨by omega, ?_, ?_, okFrom_push x true hall 0⟩
      · rw [valid_eq _ _ hne (by omega), htr]
        rfl
      · rw [evalS_eq _ _ _ hne (by omega), htr]
        simp only [single, evW, val_treeOf steps (es.take steps.length) x true hall]
        simp [evalS, hon, hx]
end Go.Flat
