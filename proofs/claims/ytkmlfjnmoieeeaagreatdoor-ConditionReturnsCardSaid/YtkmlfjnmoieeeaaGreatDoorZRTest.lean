/- The reference's reading of a basic test, for all words. -/
import Derived.Test.YtkmlfjnmoieeeaaGreatDoorZNum
set_option linter.unusedVariables false
set_option linter.unusedSimpArgs false
namespace Go.Flat
variable {E : Env} {H : Heap}
/-- What stands on top, handed on as it is. -/
def F24n : AFunc := { F24 with fz := false }
structure EnvT (E : Env) : Prop where
  q : EnvQ E
  r : EnvR E
  p : ∀ f, np f = true → E.prim f = none
  f9 : E.func 9 = some F9
  f22 : E.func 22 = some F22
  f23 : E.func 23 = some F23
  f24 : E.func 24 = some F24n
def TestR (s : Str) (r : List Str) (H : Heap) (q : PV × Heap) : Prop := ∃ (te : Test) (k : Int), q = (.tup [te.enc, .int .i64 k], H) ∧ match restB s r with
  | .error e => k < 0 ∧ (e.length : Int) - k = r.length + 1
  | .ok (ts, r') => ts = [te] ∧ 0 < k ∧ (r'.length : Int) + k = r.length + 1 ∧ (s :: r).drop k.toNat = r'
theorem testR_mk {s : Str} {r : List Str} {M : Heap} (a : Int) (b : Str) (c d : Int) (k : Int) (h : match restB s r with
  | .error e => k < 0 ∧ (e.length : Int) - k = r.length + 1
  | .ok (ts, r') => ts = [⟨a, b, c, d⟩] ∧ 0 < k ∧ (r'.length : Int) + k = r.length + 1 ∧ (s :: r).drop k.toNat = r') :
    TestR s r H (leave true H (.tup [.agg [.int .i64 a, .str b, .int .i64 c, .int .i64 d], .int .i64 k]) (H ++ M)) := ⟨⟨a, b, c, d⟩, k, leave_plain rfl M, h⟩
@[simp] theorem resultA_cell_tmp {T : Temps} {t size u : Nat} {agg : Bool} : resultA T H [.cell t size agg, .tmp u] = (loadA H size agg (T t)).map fun p => .tup [p, T u] := by
  simp only [resultA, resL, resA]
  cases loadA H size agg (T t) <;> rfl
theorem index_rels (o : Str) : Index rels o = match rels.findIdx? (· == o) with | some j => (j : Int) | none => -1 := rfl
set_option maxHeartbeats 1000000 in
theorem test_c (hE : EnvT E) {t : Tail} (s : Str) (r : List Str) (hlen : r.length ≤ 1000000) (hsz : ∀ w ∈ r, w.length ≤ 281474976710656) : ∃ q, TestR s r H q ∧ call E 23 [.sl t (strs (s :: r))] H = some q := by
  refine call_wpQ hE.f23 (hE.p _ (by decide)) ⟨rfl, by simp [F23], ?_⟩
  have hg0 := iaSl_at (t := t) (size := 1) (show (strs (s :: r))[0]? = some (.str s) from rfl) rfl
  simp at hg0
  match r with
  | [] =>
    simp [F23, hg0]
    refine testR_mk _ _ _ _ _ ?_
    simp [restB]
  | x :: r =>
    have hg1 := iaSl_at (t := t) (size := 1) (show (strs (s :: x :: r))[1]? = some (.str x) from rfl) rfl
    simp at hg1
    have l2 : ¬ ((r.length : Int) + 1 + 1 < 2) := by omega
    by_cases c1 : x = wFailed
    · subst c1
      simp only [wFailed] at hg0 hg1
      simp [F23, hg0, hg1, l2, wFailed]
      refine testR_mk _ _ _ _ _ ?_
      simp [restB, wFailed]; omega
    · have d1 : ¬ x = [102, 97, 105, 108, 101, 100] := c1
      by_cases c2 : x = wRan
      · subst c2
        simp only [wRan] at hg0 hg1
        simp [F23, hg0, hg1, l2, wRan]
        refine testR_mk _ _ _ _ _ ?_
        simp [restB, wRan, wFailed]; omega
      · have d2 : ¬ x = [114, 97, 110] := c2
        by_cases c3 : x = wRc
        · subst c3
          have hco : restB s (wRc :: r) = codeB s r := by simp [restB, c1, c2]
          match r with
          | [] =>
            simp only [wRc] at hg0 hg1
            simp [F23, hg0, hg1, l2, wRc]
            refine testR_mk _ _ _ _ _ ?_
            rw [show ([114, 99] : Str) = wRc from rfl, hco]; simp [codeB]
          | o :: r =>
            have hg2 := iaSl_at (t := t) (size := 1) (show (strs (s :: wRc :: o :: r))[2]? = some (.str o) from rfl) rfl
            simp at hg2
            have hix := fun H => indexR_c (H := H) (t := .exact) hE.r rels o (by decide)
            rw [index_rels] at hix
            have hse : strs rels = [.str [60], .str [60, 61], .str [61], .str [33, 61], .str [62, 61], .str [62]] := rfl
            rw [hse] at hix
            have l3 : (2 : Int) < (r.length : Int) + 1 + 1 + 1 := by omega
            cases hf : rels.findIdx? (· == o) with
            | none =>
              simp only [hf] at hix
              simp only [wRc] at hg0 hg1 hg2
              simp [F23, hg0, hg1, hg2, l2, l3, wRc, uniform, hix]
              have hco' : restB s ([114, 99] :: o :: r) = .error (o :: r) := by
                show restB s (wRc :: o :: r) = _
                rw [hco]
                simp [codeB, hf]
              refine testR_mk _ _ _ _ _ ?_
              rw [hco']
              simp
              omega
            | some j =>
              simp only [hf] at hix
              have hj : ¬ ((j : Int) < 0) := by omega
              simp only [wRc] at hg0 hg1 hg2
              match r with
              | [] =>
                simp [F23, hg0, hg1, hg2, l2, l3, wRc, uniform, hix, hj]
                have hco' : restB s ([[114, 99], o]) = .error [] := by
                  show restB s (wRc :: [o]) = _
                  rw [hco]
                  simp [codeB, hf]
                refine testR_mk _ _ _ _ _ ?_
                rw [hco']
                simp
              | v :: r =>
                have hg3 := iaSl_at (t := t) (size := 1) (show (strs (s :: wRc :: o :: v :: r))[3]? = some (.str v) from rfl) rfl
                simp at hg3
                simp only [wRc] at hg3
                have l4 : ¬ ((r.length : Int) + 1 + 1 + 1 + 1 < 4) := by omega
                have l5 : (2 : Int) < (r.length : Int) + 1 + 1 + 1 + 1 := by omega
                have hvl : v.length ≤ 281474976710656 := hsz v (by simp)
                have hnum := fun H => number_c (H := H) hE.q v (by omega)
                have hH := fun L : Heap => (hnum (H ++ L))
                cases hn : numS v with
                | none =>
                  have hn' : ∀ L : Heap, ∃ n, call E 50 [.str v] (H ++ L) = some (.tup [.int .i64 n, .bool false], H ++ L) := by
                    intro L
                    obtain ⟨n, ok, h1, h2⟩ := hH L
                    rw [hn] at h2
                    cases ok
                    · exact ⟨n, h1⟩
                    · simp at h2
                  obtain ⟨f, hf'⟩ := Classical.axiomOfChoice hn'
                  simp [F23, hg0, hg1, hg2, hg3, l2, l3, l4, l5, wRc, uniform, hix, hj, hf']
                  have hco' : restB s ([114, 99] :: o :: v :: r) = .error (v :: r) := by
                    show restB s (wRc :: o :: v :: r) = _
                    rw [hco]
                    simp [codeB, hf, hn]
                  refine testR_mk _ _ _ _ _ ?_
                  rw [hco']
                  simp
                  omega
                | some n =>
                  have hn' : ∀ L : Heap, call E 50 [.str v] (H ++ L) = some (.tup [.int .i64 n, .bool true], H ++ L) := by
                    intro L
                    obtain ⟨m, ok, h1, h2⟩ := hH L
                    rw [hn] at h2
                    cases ok
                    · simp at h2
                    · simp at h2
                      rw [h1, h2]
                  simp [F23, hg0, hg1, hg2, hg3, l2, l3, l4, l5, wRc, uniform, hix, hj, hn']
                  have hco' : restB s ([114, 99] :: o :: v :: r) = .ok ([⟨0, s, j, n⟩], r) := by
                    show restB s (wRc :: o :: v :: r) = _
                    rw [hco]
                    simp [codeB, hf, hn]
                  refine testR_mk _ _ _ _ _ ?_
                  rw [hco']
                  simp
                  omega
        · have d3 : ¬ x = [114, 99] := c3
          simp [F23, hg0, hg1, l2, d1, d2, d3]
          refine testR_mk _ _ _ _ _ ?_
          simp [restB, c1, c2, c3]
end Go.Flat
