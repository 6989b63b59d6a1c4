/- Part of a proof about a given Go program (texts ZCon2): lemmas, each for every value of its variables, under the hypotheses that it names. -/
import Derived.Test.YtkmlfjnmoieeeaaGreatDoorZCon
set_option linter.unusedVariables false
set_option linter.unusedSimpArgs false
namespace Go.Flat
variable {E : Env} {H : Heap}
theorem indexFunc_c (hE : EnvD E) {t : Tail} (l : List End) (hl : l.length ≤ 9223372036854775807) :
    call E 60 [.sl t (ends l), .func (.func 36) [] []] H = some (.int .i64 (match l.findIdx? (fun e => e.ran && e.failed) with | some i => i | none => -1), H) := by
  refine call_wp hE.f60 (hE.p _ (by decide)) ⟨rfl, by simp [F60], ?_⟩
  simp [F60]
  refine wp_loop (fun n T H' => ∃ k : Nat, n = l.length - k ∧ k ≤ l.length ∧ T 8 = .int .i64 k ∧ T 7 = .int .i64 l.length ∧ T 0 = .sl t (ends l) ∧ T 1 = .func (.func 36) [] [] ∧ H' = H ∧ ∀ j (hj : j < l.length), j < k → (l[j].ran && l[j].failed) = false) ?_ (n := l.length) ⟨0, ?_⟩
  · rintro n T H' ⟨k, rfl, hk, h8, h7, h0, h1, rfl, hno⟩
    by_cases hk' : k < l.length
    · have hg : (ends l)[k]? = some (l[k].enc) := by simp [ends, hk']
      have hw : IntKind.i64.wrap ((k : Int) + 1) = (k : Int) + 1 := wrap64 (by omega) (by omega)
      have hc := failed_c (H := H') hE l[k]
      unfold End.enc at hc
      cases hb : (l[k].ran && l[k].failed) with
      | true =>
        rw [hb] at hc
        simp [h8, h7, h0, h1, hk', iaSl_at hg, hw, hc]
        rw [findIdx_at hk' (by simpa using hb) hno]
      | false =>
        rw [hb] at hc
        simp [h8, h7, h0, h1, hk', iaSl_at hg, hw, hc]
        refine ⟨_, ?_, k + 1, rfl, by omega, by omega, fun j hj hjk => ?_⟩
        · omega
        · by_cases hjk' : j = k
          · subst hjk'; simpa using hb
          · simpa using hno j hj (by omega)
    · simp [h8, h7, h0, h1, hk']
      rw [findIdx_none (fun j hj => hno j hj (by omega))]
  · simp [ends]
theorem containsFunc_c (hE : EnvD E) {t : Tail} (l : List End) (hl : l.length ≤ 9223372036854775807) :
    call E 35 [.sl t (ends l), .func (.func 36) [] []] H = some (.bool (l.any fun e => e.ran && e.failed), H) := by
  refine call_wp hE.f35 (hE.p _ (by decide)) ⟨rfl, by simp [F35], ?_⟩
  simp [F35, indexFunc_c hE l hl]
  cases h : l.findIdx? (fun e => e.ran && e.failed) with
  | none =>
    rw [List.findIdx?_eq_none_iff] at h
    simp
    intro e he
    simpa using h e he
  | some i =>
    obtain ⟨hi, h1, _⟩ := List.findIdx?_eq_some_iff_getElem.1 h
    simp
    exact ⟨l[i], List.getElem_mem hi, by simpa using h1⟩

/-! ### Trees -/
inductive Node where
  | leaf (t : Test) (i : Int)
  | neg (a : Node)
  | pair (and : Bool) (a b : Node)
def Node.enc : Node → PV
  | .leaf t i => .iface 64 (.agg [.int .i64 t.kind, .str t.step, .int .i64 t.op, .int .i64 t.n, .int .i64 i])
  | .neg a => .iface 85 (.agg [a.enc])
  | .pair and a b => .iface 87 (.agg [.bool and, a.enc, b.enc])
@[simp] theorem Node.isCell (x : Node) : x.enc.isCell = true := by cases x <;> rfl
@[simp] theorem Node.enc_cells (x : Node) : x.enc.cells = [x.enc] := by cases x <;> rfl
theorem Node.plain (x : Node) : x.enc.plain = true := by
  induction x with
  | leaf t i => rfl
  | neg a ih => simp [Node.enc, PV.plain, plainL, ih]
  | pair and a b iha ihb => simp [Node.enc, PV.plain, plainL, iha, ihb]
def Node.val (f : Test → Int → Bool) : Node → Bool
  | .leaf t i => f t i
  | .neg a => !a.val f
  | .pair and a b => if and then a.val f && b.val f else a.val f || b.val f
def Node.All (P : Test → Prop) : Node → Prop
  | .leaf t _ => P t
  | .neg a => a.All P
  | .pair _ a b => a.All P ∧ b.All P
theorem eval_c (hE : EnvD E) {P : Test → Prop} {kf : PV} (hc : kf.isCell = true) {f : Test → Int → Bool} : ∀ (x : Node) (H : Heap), x.All P →
    (∀ t i L, P t → callVal (call E) kf [.agg [.int .i64 t.kind, .str t.step, .int .i64 t.op, .int .i64 t.n, .int .i64 i]] (H ++ L) = some (.bool (f t i), H ++ L)) →
    call E 33 [x.enc, kf] H = some (.bool (x.val f), H)
  | .leaf t i, H, ha, hk => by
    refine call_wp hE.f33 (hE.p _ (by decide)) ⟨rfl, by simp [F33], ?_⟩
    have hk0 := fun L => hk t i L ha
    simp [F33, Node.enc, hk0, Node.val]
  | .neg a, H, ha, hk => by
    refine call_wp hE.f33 (hE.p _ (by decide)) ⟨rfl, by simp [F33], ?_⟩
    have h1 := fun L => eval_c hE hc a (H ++ L) ha (fun t i L' hp => by rw [List.append_assoc]; exact hk t i _ hp)
    simp [F33, Node.enc, h1, Node.val]
  | .pair true a b, H, ha, hk => by
    refine call_wp hE.f33 (hE.p _ (by decide)) ⟨rfl, by simp [F33], ?_⟩
    have h1 := fun L => eval_c hE hc a (H ++ L) ha.1 (fun t i L' hp => by rw [List.append_assoc]; exact hk t i _ hp)
    have h2 := fun L => eval_c hE hc b (H ++ L) ha.2 (fun t i L' hp => by rw [List.append_assoc]; exact hk t i _ hp)
    cases hv : a.val f <;> simp [F33, Node.enc, h1, h2, Node.val, hv]
  | .pair false a b, H, ha, hk => by
    refine call_wp hE.f33 (hE.p _ (by decide)) ⟨rfl, by simp [F33], ?_⟩
    have h1 := fun L => eval_c hE hc a (H ++ L) ha.1 (fun t i L' hp => by rw [List.append_assoc]; exact hk t i _ hp)
    have h2 := fun L => eval_c hE hc b (H ++ L) ha.2 (fun t i L' hp => by rw [List.append_assoc]; exact hk t i _ hp)
    cases hv : a.val f <;> simp [F33, Node.enc, h1, h2, Node.val, hv]
end Go.Flat
