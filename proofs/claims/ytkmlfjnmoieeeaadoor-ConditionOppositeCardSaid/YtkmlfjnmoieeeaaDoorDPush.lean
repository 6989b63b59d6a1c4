/- Part of a proof about a given Go program (text DPush): lemmas, each for every value of its variables, under the hypotheses that it names. -/
import Derived.Test.YtkmlfjnmoieeeaaDoorDCon4
import Derived.Test.YtkmlfjnmoieeeaaDoorDName3
set_option linter.unusedVariables false
set_option linter.unusedSimpArgs false
namespace Go.Flat
variable {E : Env} {H : Heap}
theorem leave_exact {xs : List PV} (h : plainL xs = true) (l : Heap) : leave false H (.sl .exact xs) (H ++ l) = (.sl .exact xs, H) := by
  unfold leave
  have e : (PV.sl .exact xs).idsLt H.length = true := by simp [PV.idsLt, plainL_ids _ h]
  simp [e]
theorem leave_tok {xs : List PV} {i : Nat} (h : H.length ≤ i) (H' : Heap) : leave false H (.sl (.tok i) xs) H' = (.sl (.tok i) xs, H') := by
  refine leave_stay ?_
  simp [PV.idsLt]
  omega
theorem fin_ext3 {T : Temps} {d : Option Nat} {p : PV} {x : HObj} {m : Heap} : fin .ext d T (H ++ [x]) (some (p, H ++ x :: m)) = some ⟨put T d p, H ++ x :: m⟩ := by
  have : H ++ x :: m = (H ++ [x]) ++ m := by simp
  rw [this]
  exact fin_ext
def oppOp (o : Int) : Int := if o = 0 then 4 else if o = 1 then 5 else if o = 2 then 3 else if o = 3 then 2 else if o = 4 then 0 else if o = 5 then 1 else o
def leafOpp (t : Test) : List Test :=
  if t.kind = 0 then [⟨t.kind, t.step, oppOp t.op, t.n⟩, ⟨1, t.step, 0, 0⟩, ⟨6, [], 0, 0⟩, ⟨2, t.step, 0, 0⟩, ⟨4, [], 0, 0⟩, ⟨6, [], 0, 0⟩] else [t, ⟨4, [], 0, 0⟩]
def pushS : Node → Bool → List Test
  | .leaf t _, false => [t]
  | .leaf t _, true => leafOpp t
  | .neg a, o => pushS a (!o)
  | .pair k a b, o => pushS a o ++ pushS b o ++ [⟨if k != o then 5 else 6, [], 0, 0⟩]
theorem pushS_pos : ∀ (x : Node) (o : Bool), 0 < (pushS x o).length
  | .leaf t _, false => by simp [pushS]
  | .leaf t _, true => by simp [pushS, leafOpp]; split <;> simp
  | .neg a, o => pushS_pos a (!o)
  | .pair k a b, o => by simp [pushS]; omega
def TailAt (H : Heap) (τ : Tail) (L : Heap) (n : Nat) : Prop := τ = .exact ∨ ∃ j, τ = .tok (H.length + j) ∧ L[j]? = some (.tail n)
def NodeCells : Node → Nat
  | .leaf .. => 0
  | .neg a => NodeCells a + 1
  | .pair _ a b => NodeCells a + NodeCells b + 1
set_option maxHeartbeats 4000000 in
theorem push_c (hE : EnvD E) (h26 : E.func 26 = some F26) : ∀ (x : Node) (o : Bool) (H : Heap), (pushS x o).length ≤ 1000000 → ∃ (τ : Tail) (L : Heap), call E 26 [x.enc, .bool o] H = some (.sl τ (tests (pushS x o)), H ++ L) ∧ TailAt H τ L (pushS x o).length
  | .leaf t i, false, H, hl => by
    refine ⟨.exact, [], ?_, .inl rfl⟩
    refine call_wp h26 (hE.p _) ⟨rfl, by simp [F26], ?_⟩
    simp [F26, Node.enc, pushS, tests, Test.enc]
    exact leave_exact (by rfl) _
  | .leaf t i, true, H, hl => by
    refine ⟨.exact, [], ?_, .inl rfl⟩
    refine call_wp h26 (hE.p _) ⟨rfl, by simp [F26], ?_⟩
    obtain ⟨k, s, op, n⟩ := t
    by_cases hk : k = 0
    · subst hk
      have hoc : op = 0 ∨ op = 1 ∨ op = 2 ∨ op = 3 ∨ op = 4 ∨ op = 5 ∨ (op ≠ 0 ∧ op ≠ 1 ∧ op ≠ 2 ∧ op ≠ 3 ∧ op ≠ 4 ∧ op ≠ 5) := by omega
      rcases hoc with rfl | rfl | rfl | rfl | rfl | rfl | ⟨h0, h1, h2, h3, h4, h5⟩
      all_goals first
        | simp [F26, Node.enc, pushS, leafOpp, tests, Test.enc, oppOp, h0, h1, h2, h3, h4, h5]
        | simp [F26, Node.enc, pushS, leafOpp, tests, Test.enc, oppOp]
      all_goals exact leave_exact (by rfl) _
    · simp [F26, Node.enc, pushS, leafOpp, tests, Test.enc, hk]
      exact leave_exact (by rfl) _
  | .neg a, o, H, hl => by
    obtain ⟨τ, L, e, ht⟩ := push_c hE h26 a (!o) (H ++ [.cells [a.enc]]) hl
    simp only [List.append_assoc, List.singleton_append] at e
    rcases ht with rfl | ⟨j, rfl, hj⟩
    · refine ⟨.exact, [], ?_, .inl rfl⟩
      refine call_wp h26 (hE.p _) ⟨rfl, by simp [F26], ?_⟩
      simp [F26, Node.enc, e, pushS]
      exact leave_exact (tests_plain _) _
    · refine ⟨.tok (H.length + (j + 1)), .cells [a.enc] :: L, ?_, .inr ⟨j + 1, rfl, by simpa [pushS] using hj⟩⟩
      refine call_wp h26 (hE.p _) ⟨rfl, by simp [F26], ?_⟩
      simp [F26, Node.enc, e, pushS]
      rw [leave_tok (by omega)]
      rw [show H.length + 1 + j = H.length + (j + 1) by omega]
  | .pair k a b, o, H, hl => by
    simp only [pushS, List.length_append] at hl
    obtain ⟨τa, La, ea, fa⟩ := push_c hE h26 a o (H ++ [.cells [.bool k, a.enc, b.enc]]) (by omega)
    simp only [List.append_assoc, List.singleton_append] at ea
    obtain ⟨τb, Lb, eb, fb⟩ := push_c hE h26 b o (H ++ (.cells [.bool k, a.enc, b.enc] :: La)) (by omega)
    simp only [List.append_assoc, List.cons_append] at eb
    have na := pushS_pos a o
    have nb := pushS_pos b o
    have nb' : (pushS b o).length ≠ 0 := by omega
    have s1 : (pushS a o).length + (pushS b o).length ≤ 4294967296 := by omega
    have s2 : (pushS a o).length + (pushS b o).length + 1 ≤ 4294967296 := by omega
    have ua := tests_uniform (pushS a o)
    have ub := tests_uniform (pushS b o)
    have uab : uniform 4 (tests (pushS a o) ++ tests (pushS b o)) = true := by rw [show tests (pushS a o) ++ tests (pushS b o) = tests (pushS a o ++ pushS b o) by simp [tests]]; exact tests_uniform _
    have fin1 : ∀ q : Int, tests (pushS a o) ++ (tests (pushS b o) ++ [PV.agg [.int .i64 q, .str [], .int .i64 0, .int .i64 0]]) = tests (pushS a o ++ pushS b o ++ [⟨q, [], 0, 0⟩]) := by
      intro q
      simp [tests, Test.enc]
    rcases fa with rfl | ⟨ja, rfl, hja⟩
    · refine ⟨.tok (H.length + (La.length + Lb.length + 1)), .cells [.bool k, a.enc, b.enc] :: (La ++ Lb ++ [.tail ((pushS a o).length + (pushS b o).length + 1)]), ?_, .inr ⟨_, rfl, ?_⟩⟩
      · refine call_wp h26 (hE.p _) ⟨rfl, by simp [F26], ?_⟩
        cases k <;> cases o
        all_goals simp [F26, Node.enc, fin_ext3, ea, eb, nb', s1, s2, ua, ub, uab]
        all_goals rw [leave_tok (by omega)]
        all_goals simp [pushS, tests, Test.enc]
      · rw [List.getElem?_cons_succ, List.getElem?_append_right (by simp)]
        simp [pushS, Nat.add_assoc]
    · rw [show (H ++ [HObj.cells [.bool k, a.enc, b.enc]]).length + ja = H.length + (ja + 1) by simp; omega] at ea
      have hja' := get_more hja
      have hjl := (List.getElem?_eq_some_iff.1 hja).1
      have hset : ∀ (M : Heap) (n : HObj), ((La ++ M).set ja n)[ja]? = some n := fun M n => List.getElem?_set_self (by simp; omega)
      refine ⟨.tok (H.length + (ja + 1)), .cells [.bool k, a.enc, b.enc] :: (La ++ Lb).set ja (.tail ((pushS a o).length + (pushS b o).length + 1)), ?_, .inr ⟨_, rfl, ?_⟩⟩
      · refine call_wp h26 (hE.p _) ⟨rfl, by simp [F26], ?_⟩
        cases k <;> cases o
        all_goals simp [F26, Node.enc, fin_ext3, ea, eb, nb', s1, s2, ua, ub, uab, hja', hset]
        all_goals rw [leave_tok (by omega)]
        all_goals simp [pushS, tests, Test.enc]
      · rw [List.getElem?_cons_succ, hset]
        simp [pushS, Nat.add_assoc]
end Go.Flat
