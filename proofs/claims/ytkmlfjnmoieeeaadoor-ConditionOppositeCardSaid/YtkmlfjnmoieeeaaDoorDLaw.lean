/- Part of a proof about a given Go program (text DLaw): lemmas, each for every value of its variables, under the hypotheses that it names. -/
import Derived.Test.YtkmlfjnmoieeeaaDoorDCon5
set_option linter.unusedVariables false
set_option linter.unusedSimpArgs false
namespace Go.Flat
/-! ### The law, with no program in sight -/
def Node.strip : Node → Node
  | .leaf t _ => .leaf t 0
  | .neg a => .neg a.strip
  | .pair k a b => .pair k a.strip b.strip
theorem Node.val_strip (f : Test → Bool) : ∀ x : Node, x.strip.val (fun t _ => f t) = x.val fun t _ => f t
  | .leaf t _ => rfl
  | .neg a => by simp [Node.strip, Node.val, Node.val_strip f a]
  | .pair k a b => by simp [Node.strip, Node.val, Node.val_strip f a, Node.val_strip f b]
def tr0 (kn : Str → Bool) : List Test → List Node → Option (List Node)
  | [], st => some st
  | t :: ts, st => (tstep kn 0 t st).bind (tr0 kn ts)
theorem tstep_strip (kn : Str → Bool) (i : Int) (t : Test) (st : List Node) : (tstep kn i t st).map (List.map Node.strip) = tstep kn 0 t (st.map Node.strip) := by
  unfold tstep
  split
  · cases st <;> rfl
  · split
    · match st with
      | [] => rfl
      | [a] => rfl
      | b :: a :: r => rfl
    · split <;> simp [Node.strip]
theorem trun_strip (kn : Str → Bool) : ∀ (l : List Test) (i : Int) (st : List Node), (trun kn i l st).map (List.map Node.strip) = tr0 kn l (st.map Node.strip)
  | [], i, st => rfl
  | t :: l, i, st => by
    simp only [trun, tr0, ← tstep_strip kn i t st]
    cases tstep kn i t st with
    | none => rfl
    | some s => exact trun_strip kn l (i + 1) s
theorem single_strip (x : Option (List Node)) : (single x).map Node.strip = single (x.map (List.map Node.strip)) := by
  match x with
  | none => rfl
  | some [] => rfl
  | some [a] => rfl
  | some (a :: b :: r) => rfl
theorem tree_strip (kn : Str → Bool) (l : List Test) (h : l.length ≤ 32) : (tree kn l).map Node.strip = single (tr0 kn l []) := by
  have : ¬ 32 < l.length := by omega
  simp only [tree, this, if_false, single_strip, trun_strip]
  rfl
theorem tr0_append (kn : Str → Bool) : ∀ (a b : List Test) (st : List Node), tr0 kn (a ++ b) st = (tr0 kn a st).bind (tr0 kn b)
  | [], b, st => rfl
  | t :: a, b, st => by
    simp only [List.cons_append, tr0]
    cases tstep kn 0 t st with
    | none => rfl
    | some s => exact tr0_append kn a b s
/-- What lies deeper is not touched. -/
theorem tstep_deep {kn : Str → Bool} {i : Int} {t : Test} {s s' : List Node} (h : tstep kn i t s = some s') (st : List Node) : tstep kn i t (s ++ st) = some (s' ++ st) := by
  unfold tstep at h ⊢
  split at h
  · rename_i hc
    rw [if_pos hc]
    cases s with
    | nil => simp at h
    | cons a r => simp at h; subst h; rfl
  · rename_i hc
    rw [if_neg hc]
    split at h
    · rename_i hc2
      rw [if_pos hc2]
      match s, h with
      | b :: a :: r, h => simp at h; subst h; rfl
    · rename_i hc2
      rw [if_neg hc2]
      split at h
      · rename_i hc3
        rw [if_pos hc3]
        injection h with h
        subst h
        rfl
      · simp at h
theorem tr0_deep {kn : Str → Bool} : ∀ {l : List Test} {s s' : List Node}, tr0 kn l s = some s' → ∀ st, tr0 kn l (s ++ st) = some (s' ++ st)
  | [], s, s', h, st => by simp [tr0] at h; subst h; rfl
  | t :: l, s, s', h, st => by
    simp only [tr0] at h ⊢
    cases hs : tstep kn 0 t s with
    | none => simp [hs] at h
    | some s1 =>
      simp [hs] at h
      simp [tstep_deep hs, tr0_deep h st]
def evW (steps : List Str) (es : List End) (x : Option Node) : Bool :=
  match x with
  | some x => x.val fun t _ => leafVal steps (es.take steps.length) t
  | none => false
theorem evW_strip (steps : List Str) (es : List End) (x : Option Node) : evW steps es (x.map Node.strip) = evW steps es x := by
  cases x with
  | none => rfl
  | some x => exact Node.val_strip (fun t => leafVal steps (es.take steps.length) t) x
theorem evalS_eq (l : List Test) (steps : List Str) (es : List End) (h : l ≠ []) (hl : l.length ≤ 32) : evalS l steps es = evW steps es (single (tr0 (fun s => decide (s ∈ steps)) l [])) := by
  rw [← tree_strip _ _ hl, evW_strip]
  simp only [evalS, onS, h, if_false]
  rfl
theorem valid_eq (l : List Test) (steps : List Str) (h : l ≠ []) (hl : l.length ≤ 32) : (onS l steps).isSome = (single (tr0 (fun s => decide (s ∈ steps)) l [])).isSome := by
  rw [← tree_strip _ _ hl]
  simp [onS, h]
theorem single_some {x : Option (List Node)} (h : (single x).isSome = true) : ∃ y, x = some [y] := by
  match x, h with
  | some [y], _ => exact ⟨y, rfl⟩
theorem evalS_nil (steps : List Str) (es : List End) : evalS [] steps es = !(es.take steps.length).any fun e => e.ran && e.failed := by
  simp [evalS, onS, Node.val, leafVal]
theorem evalS_any (steps : List Str) (es : List End) : evalS [⟨3, [], 0, 0⟩] steps es = (es.take steps.length).any fun e => e.ran && e.failed := by
  rw [evalS_eq _ _ _ (by simp) (by simp)]
  simp [tr0, tstep, isLeaf, Test.bare, single, evW, Node.val, leafVal]
theorem parts_law {a b : List Test} {steps : List Str} (es : List End) (ha : a.length ≤ 12) (hb : b.length ≤ 12) (ha0 : a ≠ []) (hb0 : b ≠ []) (hva : (onS a steps).isSome = true) (hvb : (onS b steps).isSome = true) :
    evalS (withK (a ++ b) 5) steps es = (evalS a steps es && evalS b steps es) ∧ evalS (withK (a ++ b) 6) steps es = (evalS a steps es || evalS b steps es) ∧
      evalS (withK a 4) steps es = !evalS a steps es ∧ (onS (a ++ b) steps).isSome = false := by
  rw [valid_eq _ _ ha0 (by omega)] at hva
  rw [valid_eq _ _ hb0 (by omega)] at hvb
  obtain ⟨x, hx⟩ := single_some hva
  obtain ⟨y, hy⟩ := single_some hvb
  have hab : tr0 (fun s => decide (s ∈ steps)) (a ++ b) [] = some [y, x] := by
    rw [tr0_append, hx]
    exact tr0_deep hy [x]
  have l1 : (withK (a ++ b) 5).length ≤ 32 := by simp [withK]; omega
  have l2 : (withK (a ++ b) 6).length ≤ 32 := by simp [withK]; omega
  have l3 : (withK a 4).length ≤ 32 := by simp [withK]; omega
  have n1 : ∀ l k, withK l k ≠ [] := by intro l k; simp [withK]
  rw [evalS_eq _ _ _ (n1 _ _) l1, evalS_eq _ _ _ (n1 _ _) l2, evalS_eq _ _ _ (n1 _ _) l3, evalS_eq a _ _ ha0 (by omega), evalS_eq b _ _ hb0 (by omega), valid_eq _ _ (by simp [ha0]) (by simp; omega)]
  simp only [withK, tr0_append, hx, hy, hab, Option.bind_some]
  simp [tr0, tstep, Test.bare, single, evW, Node.val]
end Go.Flat
