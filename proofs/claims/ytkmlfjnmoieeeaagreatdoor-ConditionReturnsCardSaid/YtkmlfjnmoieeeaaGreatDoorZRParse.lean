/- The reference's Parse: a stack machine; what it makes of words, for all words. -/
import Derived.Test.YtkmlfjnmoieeeaaGreatDoorZRTest
set_option linter.unusedVariables false
set_option linter.unusedSimpArgs false
namespace Go.Flat
variable {E : Env} {H0 : Heap}
/-- A list that a value stands for: in a row of its own that is written. -/
def Row (n : Nat) (L : Heap) (k : Nat) (v : PV) (l : List PV) : Prop :=
  (l = [] ∧ v = .sl .exact []) ∨ ∃ j es, v = .view (n + j) k 0 l.length ∧ L[j]? = some (.vec k es) ∧ l.length ≤ es.length ∧ es.take l.length = l
def rowL (n : Nat) (L : Heap) : PV → Heap
  | .view id _ _ _ => L.set (id - n) .dead
  | _ => L
theorem rowL_len (n : Nat) (L : Heap) (v : PV) : (rowL n L v).length = L.length := by
  unfold rowL
  split <;> simp
theorem rowL_other {n k k' : Nat} {L M : Heap} {v u : PV} {l l' : List PV} (h : Row n L k v l) (h' : Row n L k' u l') (hk : k ≠ k') : Row n (rowL n L v ++ M) k' u l' := by
  rcases h' with h' | ⟨j, es, rfl, h2, h3, h4⟩
  · exact .inl h'
  · refine .inr ⟨j, es, rfl, ?_, h3, h4⟩
    obtain ⟨hl, _⟩ := List.getElem?_eq_some_iff.1 h2
    rw [List.getElem?_append_left (by rw [rowL_len]; exact hl)]
    rcases h with ⟨_, rfl⟩ | ⟨i, fs, rfl, g2, _, _⟩
    · exact h2
    · have e : n + i - n = i := by omega
      simp only [rowL, e]
      by_cases hij : i = j
      · subst hij
        rw [g2] at h2
        injection h2 with h2
        injection h2 with h2 _
        exact absurd h2 hk
      · rw [List.getElem?_set_ne hij]
        exact h2
theorem row_app {n k bytes : Nat} (hn : n = H0.length) {L : Heap} {v : PV} {l : List PV} (h : Row n L k v l) {p : PV} (hp : p.cells.length = k ∧ allCells p.cells = true) (hk : 0 < k) (hb : bytes ≤ 4096) (hl : l.length + 1 ≤ 4294967296)
    (hu : uniform k l = true) {t : Tail} :
    appendA (H0 ++ L) k bytes true v (.sl t [p]) = some (.view (n + L.length) k 0 (l.length + 1), H0 ++ (rowL n L v ++ [.vec k (l ++ [p]), .dead])) := by
  subst hn
  obtain ⟨hp1, hp2⟩ := hp
  rcases h with ⟨rfl, rfl⟩ | ⟨j, es, rfl, h2, h3, h4⟩
  · simp [hp1, hp2, hk, hb, rowL]
  · have e : H0.length + j - H0.length = j := by omega
    obtain ⟨hlt, _⟩ := List.getElem?_eq_some_iff.1 h2
    simp [h2, h3, hl, hb, hk, hp1, hp2, h4, rowL]
theorem row_new {n k : Nat} {L M : Heap} {v : PV} {l : List PV} : Row n (rowL n L v ++ .vec k l :: M) k (.view (n + L.length) k 0 l.length) l := by
  refine .inr ⟨L.length, l, rfl, ?_, Nat.le_refl _, List.take_length⟩
  rw [List.getElem?_append_right (by rw [rowL_len]; exact Nat.le_refl _), rowL_len]
  simp
theorem row_pop {n k : Nat} {L : Heap} {v : PV} {l : List PV} {p : PV} (h : Row n L k v (l ++ [p])) : ∃ j es, v = .view (n + j) k 0 (l.length + 1) ∧ L[j]? = some (.vec k es) ∧ es[l.length]? = some p ∧ Row n L k (.view (n + j) k 0 l.length) l := by
  rcases h with ⟨h, _⟩ | ⟨j, es, rfl, h2, h3, h4⟩
  · simp at h
  · simp at h3 h4
    refine ⟨j, es, by simp, h2, ?_, .inr ⟨j, es, rfl, h2, by omega, ?_⟩⟩
    · have := congrArg (·[l.length]?) h4
      simpa [List.getElem?_take] using this
    · have := congrArg (List.take l.length) h4
      simpa [List.take_take] using this
theorem row_len {n k : Nat} {L : Heap} {v : PV} {l : List PV} (h : Row n L k v l) : lenL v = some (.int .i64 l.length) := by
  rcases h with ⟨rfl, rfl⟩ | ⟨j, es, rfl, _, _, _⟩ <;> rfl
/-! ### What stands on top -/
def reduceS (all : Bool) : List Test → List Str → List Test × List Str
  | out, [] => (out, [])
  | out, w :: op => if w = wOpen ∨ (w = wOr ∧ all = false) then (out, w :: op) else reduceS all (out ++ [opT (if w = wOr then 6 else if w = wAnd then 5 else 4)]) op
theorem reduceS_len (all : Bool) : ∀ (op : List Str) (out : List Test), (reduceS all out op).1.length + (reduceS all out op).2.length = out.length + op.length
  | [], out => rfl
  | w :: op, out => by
    simp only [reduceS]
    split
    · rfl
    · rw [reduceS_len all op]
      simp
      omega
def Rows (H0 : Heap) (out : List Test) (op : List Str) (r : PV × Heap) : Prop := ∃ v u L', r = (.tup [v, u], H0 ++ L') ∧ Row H0.length L' 4 v (tests out) ∧ Row H0.length L' 1 u (strs op.reverse)
theorem strs_app (a b : List Str) : strs (a ++ b) = strs a ++ strs b := by simp [strs]
theorem tests_app (a b : List Test) : tests (a ++ b) = tests a ++ tests b := by simp [tests]
open Classical in
theorem leave_false {H H' : Heap} {r : PV} : leave false H r H' = if H'.take H.length = H ∧ r.idsLt H.length = true then (r, H) else (r, H') := by
  unfold leave
  simp
theorem rows_leave {out : List Test} {op : List Str} {L L' : Heap} {v u : PV} (h1 : Row H0.length L' 4 v (tests out)) (h2 : Row H0.length L' 1 u (strs op.reverse)) : Rows H0 out op (leave false (H0 ++ L) (.tup [v, u]) (H0 ++ L')) := by
  rw [leave_false]
  by_cases hc : (H0 ++ L').take (H0 ++ L).length = H0 ++ L ∧ (PV.tup [v, u]).idsLt (H0 ++ L).length = true
  · rw [if_pos hc]
    obtain ⟨c1, c2⟩ := hc
    rw [List.take_append, List.take_of_length_le (by simp)] at c1
    have c1 := List.append_cancel_left c1
    simp only [List.length_append, Nat.add_sub_cancel_left] at c1
    have back : ∀ {k : Nat} {w : PV} {l : List PV}, w.idsLt (H0 ++ L).length = true → Row H0.length L' k w l → Row H0.length L k w l := by
      intro k w l hid h
      rcases h with h | ⟨j, es, rfl, g2, g3, g4⟩
      · exact .inl h
      · refine .inr ⟨j, es, rfl, ?_, g3, g4⟩
        have hj : j < L.length := by
          simp [PV.idsLt] at hid
          omega
        rw [← c1, List.getElem?_take, if_pos hj]
        exact g2
    simp [PV.idsLt, idsLtL] at c2
    exact ⟨v, u, L, rfl, back (by simpa using c2.1) h1, back (by simpa using c2.2) h2⟩
  · rw [if_neg hc]
    exact ⟨v, u, L', rfl, h1, h2⟩
set_option maxHeartbeats 1000000 in
theorem reduce_c (hE : EnvT E) {out : List Test} {op : List Str} {L : Heap} {v u : PV} (all : Bool) (h1 : Row H0.length L 4 v (tests out)) (h2 : Row H0.length L 1 u (strs op.reverse)) (hl : out.length + op.length ≤ 1000000) :
    ∃ r, Rows H0 (reduceS all out op).1 (reduceS all out op).2 r ∧ call E 24 [v, u, .bool all] (H0 ++ L) = some r := by
  refine call_wpQ hE.f24 (hE.p _ (by decide)) ⟨rfl, by simp [F24n, F24], ?_⟩
  generalize hR : reduceS all out op = R
  simp [F24n, F24]
  refine wp_loop (fun q T H' => ∃ (out' : List Test) (op' : List Str) (v' u' : PV) (L' : Heap), q = op'.length ∧ T 0 = v' ∧ T 1 = u' ∧ T 2 = .bool all ∧ H' = H0 ++ L' ∧ Row H0.length L' 4 v' (tests out') ∧ Row H0.length L' 1 u' (strs op'.reverse) ∧
    out'.length + op'.length ≤ 1000000 ∧ reduceS all out' op' = R) ?_ (n := op.length) ⟨out, op, v, u, L, ?_⟩
  · rintro q T H' ⟨out', op', v', u', L', rfl, hv, hu, h2', rfl, r1, r2, hlen, hRR⟩
    have e2 := row_len r2
    match op' with
    | [] =>
      simp [strs] at e2
      simp [reduceS] at hRR
      subst hRR
      simp [hv, hu, h2', e2]
      exact rows_leave r1 r2
    | w :: op' =>
      have r2o := r2
      simp only [List.reverse_cons, strs_app] at r2
      obtain ⟨j, es, rfl, g2, g3, g4⟩ := row_pop r2
      have g2' : ∀ M, (L' ++ M)[j]? = some (.vec 1 es) := fun M => get_more g2 M
      simp at g3 g4
      simp at hlen
      have b1 : (0 : Int) < (op'.length : Int) + 1 := by omega
      have w1 : IntKind.i64.wrap (op'.length : Int) = (op'.length : Int) := by rw [wrap64] <;> omega
      have hla := loadV_at (k := 1) (i := op'.length) (o := 0) (size := 1) (agg := false) g3
      have b2 : (op'.length : Int) < (op'.length : Int) + 1 := by omega
      by_cases hstop : w = wOpen ∨ (w = wOr ∧ all = false)
      · simp [reduceS, hstop] at hRR
        subst hRR
        have hst : ((w == [40]) || (w == [111, 114] && !all)) = true := by
          rcases hstop with rfl | ⟨rfl, rfl⟩ <;> rfl
        cases all with
        | true =>
          have hw : w = wOpen := by
            rcases hstop with h | ⟨_, h⟩
            · exact h
            · simp at h
          subst hw
          simp only [wOpen] at g3 g4 hla r2
          simp [hv, hu, h2', b1, b2, w1, g2, g2', hla]
          exact rows_leave r1 (by simpa only [wOpen, wOr, List.length_reverse, strs_length] using r2o)
        | false =>
          rcases hstop with rfl | ⟨rfl, _⟩
          · simp only [wOpen] at g3 g4 hla r2
            simp [hv, hu, h2', b1, b2, w1, g2, g2', hla]
            exact rows_leave r1 (by simpa only [wOpen, wOr, List.length_reverse, strs_length] using r2o)
          · simp only [wOr] at g3 g4 hla r2
            simp [hv, hu, h2', b1, b2, w1, g2, g2', hla]
            exact rows_leave r1 (by simpa only [wOpen, wOr, List.length_reverse, strs_length] using r2o)
      · simp [reduceS, hstop] at hRR
        have hn1 : ¬ w = [40] := fun h => hstop (.inl h)
        generalize hk : (if w = wOr then (6 : Int) else if w = wAnd then 5 else 4) = kd at hRR
        have hap := fun M => row_app (H0 := H0) (bytes := 40) (t := .exact) rfl (L := L') r1 (p := .agg [.int .i64 kd, .str [], .int .i64 0, .int .i64 0]) ⟨rfl, rfl⟩ (by omega) (by omega) (by simp; omega) (tests_uniform out')
        have hnew : ∀ M, Row H0.length (rowL H0.length L' v' ++ .vec 4 (tests out' ++ [.agg [.int .i64 kd, .str [], .int .i64 0, .int .i64 0]]) :: M) 4 (.view (H0.length + L'.length) 4 0 (out'.length + 1)) (tests (out' ++ [opT kd])) := by
          intro M
          have := row_new (n := H0.length) (k := 4) (L := L') (M := M) (v := v') (l := tests (out' ++ [opT kd]))
          simpa [tests, opT, Test.enc] using this
        have hfin : ∀ M, ∃ m, m < op'.length + 1 ∧ ∃ out2 op2, m = List.length op2 ∧ Row H0.length (rowL H0.length L' v' ++ .vec 4 (tests out' ++ [.agg [.int .i64 kd, .str [], .int .i64 0, .int .i64 0]]) :: M) 4 (.view (H0.length + L'.length) 4 0 (out'.length + 1)) (tests out2) ∧
            Row H0.length (rowL H0.length L' v' ++ .vec 4 (tests out' ++ [.agg [.int .i64 kd, .str [], .int .i64 0, .int .i64 0]]) :: M) 1 (.view (H0.length + j) 1 0 op'.length) (strs op2.reverse) ∧ out2.length + op2.length ≤ 1000000 ∧ reduceS all out2 op2 = R := by
          intro M
          refine ⟨op'.length, by omega, out' ++ [opT kd], op', rfl, hnew M, ?_, by simp; omega, hRR⟩
          have := rowL_other (M := .vec 4 (tests out' ++ [.agg [.int .i64 kd, .str [], .int .i64 0, .int .i64 0]]) :: M) r1 g4 (by omega)
          simpa using this
        simp at hap
        by_cases hor : w = wOr
        · have hall : all = true := by
            cases all
            · exact absurd (.inr ⟨hor, rfl⟩) hstop
            · rfl
          subst hall
          rw [if_pos hor] at hk
          subst hk
          subst hor
          simp only [wOr] at g3 g4 hla
          simp [hv, hu, h2', b1, b2, w1, g2, g2', hla, hap]
          exact hfin _
        · have hn2 : ¬ w = [111, 114] := hor
          rw [if_neg hor] at hk
          by_cases hand : w = wAnd
          · rw [if_pos hand] at hk
            subst hk
            subst hand
            simp only [wAnd] at g3 g4 hla
            simp [hv, hu, h2', b1, b2, w1, g2, g2', hla, hap]
            exact hfin _
          · have hn3 : ¬ w = [97, 110, 100] := hand
            rw [if_neg hand] at hk
            subst hk
            simp [hv, hu, h2', b1, b2, w1, g2, g2', hla, hap, hn1, hn2, hn3]
            exact hfin _
  · simp [h1, h2, hl, hR]
end Go.Flat
/- The reference's Parse, further: the whole. -/
namespace Go.Flat
variable {E : Env} {H0 : Heap}
def refGo : Nat → List Test → List Str → Bool → List Str → Except (List Str) (List Test)
  | 0, _, _, _, l => .error l
  | _ + 1, out, op, opd, [] => if opd = true ∨ (reduceS true out op).2 ≠ [] then .error [] else .ok (reduceS true out op).1
  | n + 1, out, op, true, w :: r =>
    if w = wNot ∨ w = wOpen then refGo n out (w :: op) true r
    else if w = wFailed then refGo n (out ++ [opT 3]) op false r
    else if Nm.stepN w = true then (match restB w r with
      | .error e => .error e
      | .ok (ts, r') => refGo n (out ++ ts) op false r')
    else .error (w :: r)
  | n + 1, out, op, false, w :: r =>
    if w = wAnd ∨ w = wOr then refGo n (reduceS (decide (w = wOr)) out op).1 (w :: (reduceS (decide (w = wOr)) out op).2) true r
    else if w = wClose then (match (reduceS true out op).2 with
      | [] => .error (w :: r)
      | _ :: op' => refGo n (reduceS true out op).1 op' false r)
    else .error (w :: r)
def rparseS (ws : List Str) : List Test × Nat × Int :=
  if ws = [] then ([], 0, 0) else
  match refGo (ws.length + 1) [] [] true ws with
  | .error e => ([], ws.length - e.length, 3)
  | .ok ts => if 32 < ts.length then ([], 0, 8) else (ts, 0, 0)
theorem row_ext {n k : Nat} {L : Heap} {v : PV} {l : List PV} (h : Row n L k v l) (M : Heap) : Row n (L ++ M) k v l := by
  rcases h with h | ⟨j, es, rfl, h2, h3, h4⟩
  · exact .inl h
  · exact .inr ⟨j, es, rfl, get_more h2 M, h3, h4⟩
theorem leave_tup_row {L : Heap} {v : PV} {l : List Test} (h : Row H0.length L 4 v (tests l)) (a b : Int) : leave true H0 (.tup [v, .int .i64 a, .int .i64 b]) (H0 ++ L) = (.tup [.sl .shut (tests l), .int .i64 a, .int .i64 b], H0) := by
  have hp := tests_plain l
  rcases h with ⟨h1, rfl⟩ | ⟨j, es, rfl, h2, h3, h4⟩
  · rw [h1]
    exact leave_tup rfl _
  · unfold leave
    have e1 : (PV.view (H0.length + j) 4 0 (tests l).length).frz (H0 ++ L) H0.length = .sl .shut (tests l) := by
      simp only [PV.frz, get_end, h2]
      rw [if_pos ⟨by omega, trivial, by omega⟩]
      simp only [List.drop_zero, h4]
    have e2 : (((PV.tup [.view (H0.length + j) 4 0 (tests l).length, .int .i64 a, .int .i64 b]).frz (H0 ++ L) H0.length).frz (H0 ++ L) H0.length).strip = .tup [.sl .shut (tests l), .int .i64 a, .int .i64 b] := by
      simp only [PV.frz, frzL]
      have e1' := e1
      simp only [PV.frz] at e1'
      simp only [e1', PV.frz, frzL, plainL_frz _ _ hp, PV.strip, stripL, plainL_strip hp]
    have e3 : (PV.tup [.sl .shut (tests l), .int .i64 a, .int .i64 b]).idsLt H0.length = true := PV.plain_ids _ (by simp [PV.plain, plainL, hp])
    rw [if_pos rfl, e2]
    simp [e3]
def ParseR (H0 : Heap) (q : List Test × Nat × Int) (r : PV × Heap) : Prop := r = (.tup [.sl .shut (tests q.1), .int .i64 q.2.1, .int .i64 q.2.2], H0)
theorem parseR_bad {a b : Int} {L : Heap} {q : List Test × Nat × Int} (h : q.1 = [] ∧ (q.2.1 : Int) = a ∧ q.2.2 = b) : ParseR H0 q (leave true H0 (.tup [.sl .exact [], .int .i64 a, .int .i64 b]) (H0 ++ L)) := by
  obtain ⟨h1, h2, h3⟩ := h
  unfold ParseR
  rw [h1, h2, h3]
  exact leave_tup rfl _
theorem parseR_ok {L : Heap} {v : PV} {l : List Test} (h : Row H0.length L 4 v (tests l)) {q : List Test × Nat × Int} (hq : q = (l, 0, 0)) : ParseR H0 q (leave true H0 (.tup [v, .int .i64 0, .int .i64 0]) (H0 ++ L)) := by
  subst hq
  exact leave_tup_row h 0 0
set_option maxHeartbeats 4000000 in
theorem rparse_c (hE : EnvT E) {t : Tail} (ws : List Str) (hws : ws.length ≤ 1000000 ∧ ∀ w ∈ ws, w.length ≤ 281474976710656) :
    ∃ r, ParseR H0 (rparseS ws) r ∧ call E 9 [.sl t (strs ws)] H0 = some r := by
  refine call_wpQ hE.f9 (hE.p _ (by decide)) ⟨rfl, by simp [F9], ?_⟩
  by_cases hne : ws = []
  · subst hne
    simp [F9]
    simpa using parseR_bad (H0 := H0) (L := []) (q := rparseS []) (a := 0) (b := 0) ⟨rfl, rfl, rfl⟩
  have hlen0 : ¬ (ws.length : Int) = 0 := by
    have := List.length_pos_iff.2 hne
    omega
  have hlen1 : ¬ ws.length = 0 := by omega
  have hrp : rparseS ws = (match refGo (ws.length + 1) [] [] true ws with
    | .error e => ([], ws.length - e.length, 3)
    | .ok ts => if 32 < ts.length then ([], 0, 8) else (ts, 0, 0)) := by
    unfold rparseS
    rw [if_neg hne]
  generalize hR : refGo (ws.length + 1) [] [] true ws = R at hrp
  generalize rparseS ws = Q at hrp
  have hbad : ∀ (e : List Str) (a : Int) (L : Heap), R = .error e → a + e.length = ws.length → 0 ≤ a → ParseR H0 Q (leave true H0 (.tup [.sl .exact [], .int .i64 a, .int .i64 3]) (H0 ++ L)) := by
    intro e a L h1 h2 h3
    rw [h1] at hrp
    subst hrp
    exact parseR_bad ⟨rfl, by simp; omega, rfl⟩
  simp [F9, hlen0, hlen1, hne]
  refine wp_loop (fun q T H' => ∃ (f k : Nat) (out : List Test) (op : List Str) (opd : Bool) (v u : PV) (L : Heap), q = ws.length - k ∧ k ≤ ws.length ∧ T 8 = .int .i64 k ∧ T 7 = .bool opd ∧ T 5 = v ∧ T 6 = u ∧ T 0 = .sl t (strs ws) ∧ H' = H0 ++ L ∧
    Row H0.length L 4 v (tests out) ∧ Row H0.length L 1 u (strs op.reverse) ∧ out.length + op.length ≤ k ∧ ws.length - k < f ∧ refGo f out op opd (ws.drop k) = R) ?_ (n := ws.length) ⟨ws.length + 1, 0, [], [], true, .sl .exact [], .sl .exact [], [], ?_⟩
  · rintro q T H' ⟨f, k, out, op, opd, v, u, L, rfl, hk, h8, h7, h5, h6, h0, rfl, r1, r2, hlo, hf, hgo⟩
    obtain ⟨f, rfl⟩ : ∃ f', f = f' + 1 := ⟨f - 1, by omega⟩
    cases hd : ws.drop k with
    | nil =>
      have hkl : k = ws.length := by simp at hd; omega
      subst hkl
      rw [hd] at hgo
      obtain ⟨_, ⟨v', u', L', rfl, s1, s2⟩, hr⟩ := reduce_c (H0 := H0) hE true r1 r2 (by omega)
      have e2 := row_len s2
      have e1 := row_len s1
      simp only [refGo] at hgo
      simp at e1 e2
      cases opd with
      | true =>
        simp at hgo
        simp [h8, h7, h5, h6, h0, hr]
        exact hbad [] _ _ hgo.symm (by simp) (by omega)
      | false =>
        by_cases hop : (reduceS true out op).2 = []
        · simp [hop] at hgo
          rw [hop] at e2
          simp at e2
          by_cases h32 : 32 < (reduceS true out op).1.length
          · have h32' : (32 : Int) < (reduceS true out op).1.length := by omega
            simp [h8, h7, h5, h6, h0, hr, e1, e2, h32, h32']
            rw [← hgo] at hrp
            simp [h32] at hrp
            subst hrp
            exact parseR_bad ⟨rfl, rfl, rfl⟩
          · have h32' : ¬ (32 : Int) < (reduceS true out op).1.length := by omega
            simp [h8, h7, h5, h6, h0, hr, e1, e2, h32, h32']
            rw [← hgo] at hrp
            simp [h32] at hrp
            exact parseR_ok s1 hrp
        · simp [hop] at hgo
          have hp : 0 < (reduceS true out op).2.length := List.length_pos_iff.2 hop
          have hp' : (0 : Int) < (reduceS true out op).2.length := by omega
          simp [h8, h7, h5, h6, h0, hr, e2, hp, hp', hop]
          exact hbad [] _ _ hgo.symm (by simp) (by omega)
    | cons w r =>
      have hgw : ws[k]? = some w := drop_head.2 ⟨r, hd⟩
      have hkl : k < ws.length := (List.getElem?_eq_some_iff.1 hgw).1
      have hkl' : (k : Int) < ws.length := by omega
      have hg : (strs ws)[k]? = some (.str w) := by simp [strs, hgw]
      have hd1 := drop_succ hd
      have hrl : ws.length = k + (r.length + 1) := by
        have : (ws.drop k).length = r.length + 1 := by rw [hd]; rfl
        simp at this
        omega
      rw [hd] at hgo
      have hw1 : IntKind.i64.wrap ((k : Int) + 1) = (k : Int) + 1 := wrap64 (by omega) (by omega)
      have hapo := fun te : Test => row_app (H0 := H0) (bytes := 40) (t := .exact) rfl (L := L) r1 (p := te.enc) ⟨rfl, rfl⟩ (by omega) (by omega) (by simp; omega) (tests_uniform out)
      have hapu := fun s : Str => row_app (H0 := H0) (bytes := 16) (t := .exact) rfl (L := L) r2 (p := .str s) ⟨rfl, rfl⟩ (by omega) (by omega) (by simp; omega) (Nm.strs_uniform op.reverse)
      have hrstep := fun H => Nm.rstep_c (H := H) hE.q.e.n w
      have hpu : ∀ s : Str, Row H0.length (rowL H0.length L u ++ [.vec 1 (strs op.reverse ++ [.str s]), .dead]) 1 (.view (H0.length + L.length) 1 0 (op.length + 1)) (strs (s :: op).reverse) := by
        intro s
        have := row_new (n := H0.length) (k := 1) (L := L) (M := [.dead]) (v := u) (l := strs (s :: op).reverse)
        simpa [strs] using this
      have hpo : ∀ te : Test, Row H0.length (rowL H0.length L v ++ [.vec 4 (tests out ++ [te.enc]), .dead]) 4 (.view (H0.length + L.length) 4 0 (out.length + 1)) (tests (out ++ [te])) := by
        intro te
        have := row_new (n := H0.length) (k := 4) (L := L) (M := [.dead]) (v := v) (l := tests (out ++ [te]))
        simpa [tests] using this
      have hdr : (strs ws).drop k = strs (w :: r) := by rw [← hd]; simp [strs]
      cases opd with
      | true =>
        simp only [refGo] at hgo
        by_cases c1 : w = wNot ∨ w = wOpen
        · rw [if_pos c1] at hgo
          have hap := hapu w
          have hnx : ∃ m, m < ws.length - k ∧ ∃ f k_1, m = ws.length - k_1 ∧ k_1 ≤ ws.length ∧ (k : Int) + 1 = (k_1 : Nat) ∧ ∃ x, Row H0.length (rowL H0.length L u ++ [.vec 1 (strs op.reverse ++ [.str w]), .dead]) 4 v (tests x) ∧
              ∃ x_1 : List Str, Row H0.length (rowL H0.length L u ++ [.vec 1 (strs op.reverse ++ [.str w]), .dead]) 1 (.view (H0.length + L.length) 1 0 (op.length + 1)) (strs x_1.reverse) ∧ x.length + x_1.length ≤ k_1 ∧ ws.length - k_1 < f ∧ refGo f x x_1 true (ws.drop k_1) = R :=
            ⟨ws.length - (k + 1), by omega, f, k + 1, rfl, by omega, by omega, out, rowL_other r2 r1 (by omega), w :: op, hpu w, by simp; omega, by omega, by rw [hd1]; exact hgo⟩
          simp at hap
          rcases c1 with rfl | rfl
          · simp only [wNot] at hg hap hnx
            simp [h8, h7, h5, h6, h0, hkl, hkl', iaSl_at hg, hap, hw1, wNot]
            simpa using hnx
          · simp only [wOpen] at hg hap hnx
            simp [h8, h7, h5, h6, h0, hkl, hkl', iaSl_at hg, hap, hw1, wOpen]
            simpa using hnx
        · rw [if_neg c1] at hgo
          have d1 : ¬ w = [110, 111, 116] := fun e => c1 (.inl e)
          have d2 : ¬ w = [40] := fun e => c1 (.inr e)
          by_cases c2 : w = wFailed
          · rw [if_pos c2] at hgo
            have hap := hapo (opT 3)
            have hnx : ∃ m, m < ws.length - k ∧ ∃ f k_1, m = ws.length - k_1 ∧ k_1 ≤ ws.length ∧ (k : Int) + 1 = (k_1 : Nat) ∧ ∃ x, Row H0.length (rowL H0.length L v ++ [.vec 4 (tests out ++ [(opT 3).enc]), .dead]) 4 (.view (H0.length + L.length) 4 0 (out.length + 1)) (tests x) ∧
                ∃ x_1 : List Str, Row H0.length (rowL H0.length L v ++ [.vec 4 (tests out ++ [(opT 3).enc]), .dead]) 1 u (strs x_1.reverse) ∧ x.length + x_1.length ≤ k_1 ∧ ws.length - k_1 < f ∧ refGo f x x_1 false (ws.drop k_1) = R :=
              ⟨ws.length - (k + 1), by omega, f, k + 1, rfl, by omega, by omega, out ++ [opT 3], hpo (opT 3), op, rowL_other r1 r2 (by omega), by simp; omega, by omega, by rw [hd1]; exact hgo⟩
            subst c2
            simp only [wFailed] at hg
            simp [opT, Test.enc] at hap hnx
            simp [h8, h7, h5, h6, h0, hkl, hkl', iaSl_at hg, hap, hw1, wFailed]
            simpa using hnx
          · rw [if_neg c2] at hgo
            have d3 : ¬ w = [102, 97, 105, 108, 101, 100] := c2
            by_cases c3 : Nm.stepN w = true
            · rw [if_pos c3] at hgo
              rw [c3] at hrstep
              obtain ⟨_, ⟨te, n, rfl, hte⟩, hcall⟩ := test_c (H := H0 ++ L) hE (t := if k = 0 then t else .shut) w r (by omega) (fun x hx => hws.2 x (by
                have : x ∈ ws.drop k := by rw [hd]; simp [hx]
                exact List.mem_of_mem_drop this))
              have hun := Nm.strs_uniform ws
              have hun' : uniform 1 (strs ws) = true := hun
              have hkle : k ≤ ws.length := hk
              cases hrb : restB w r with
              | error e =>
                rw [hrb] at hte hgo
                simp only at hte hgo
                have hn : n < 0 := hte.1
                have hwn : IntKind.i64.wrap ((k : Int) - n) = (k : Int) - n := wrap64 (by omega) (by omega)
                simp only [Test.enc] at hcall
                simp [h8, h7, h5, h6, h0, hkl, hkl', iaSl_at hg, d1, d2, d3, hrstep, hun', hkle, hdr, hcall, hn, hwn]
                exact hbad e _ _ hgo.symm (by omega) (by omega)
              | ok z =>
                obtain ⟨ts, r'⟩ := z
                rw [hrb] at hte hgo
                simp only at hte hgo
                obtain ⟨rfl, hn0, hn1, hn2⟩ := hte
                have hn : ¬ n < 0 := by omega
                have hwn : IntKind.i64.wrap ((k : Int) + n) = (k : Int) + n := wrap64 (by omega) (by omega)
                have hwn2 : IntKind.i64.wrap ((k : Int) + n - 1) = (k : Int) + n - 1 := wrap64 (by omega) (by omega)
                have hwn3 : IntKind.i64.wrap ((k : Int) + n) = (k : Int) + n := hwn
                obtain ⟨n', rfl⟩ : ∃ n' : Nat, n = n' := ⟨n.toNat, by omega⟩
                have hdk : ws.drop (k + n') = r' := by
                  rw [← List.drop_drop, hd]
                  simpa using hn2
                have r1' := row_ext r1 [.cells [.int .i64 te.kind, .str te.step, .int .i64 te.op, .int .i64 te.n]]
                have r2' := row_ext r2 [.cells [.int .i64 te.kind, .str te.step, .int .i64 te.op, .int .i64 te.n]]
                have hap := row_app (H0 := H0) (bytes := 40) (t := .exact) rfl r1' (p := te.enc) ⟨rfl, rfl⟩ (by omega) (by omega) (by simp; omega) (tests_uniform out)
                have hro : Row H0.length (rowL H0.length (L ++ [.cells [.int .i64 te.kind, .str te.step, .int .i64 te.op, .int .i64 te.n]]) v ++ [.vec 4 (tests out ++ [te.enc]), .dead]) 4 (.view (H0.length + (L.length + 1)) 4 0 (out.length + 1)) (tests (out ++ [te])) := by
                  have := row_new (n := H0.length) (k := 4) (L := L ++ [.cells [.int .i64 te.kind, .str te.step, .int .i64 te.op, .int .i64 te.n]]) (M := [.dead]) (v := v) (l := tests (out ++ [te]))
                  simpa [tests] using this
                have hru := rowL_other (M := [.vec 4 (tests out ++ [te.enc]), .dead]) r1' r2' (by omega)
                simp only [Test.enc] at hcall hap hro hru
                simp at hap
                simp [h8, h7, h5, h6, h0, hkl, hkl', iaSl_at hg, d1, d2, d3, hrstep, hun', hkle, hdr, hcall, hn, hwn, hwn2, hap]
                exact ⟨ws.length - (k + n'), by omega, f, k + n', rfl, by omega, by omega, out ++ [te], hro, op, hru, by simp; omega, by omega, by rw [hdk]; exact hgo⟩
            · rw [if_neg c3] at hgo
              have hst : Nm.stepN w = false := by simpa using c3
              rw [hst] at hrstep
              simp [h8, h7, h5, h6, h0, hkl, hkl', iaSl_at hg, d1, d2, d3, hrstep]
              exact hbad (w :: r) _ _ hgo.symm (by simp; omega) (by omega)
      | false =>
        simp only [refGo] at hgo
        by_cases c4 : w = wAnd ∨ w = wOr
        · rw [if_pos c4] at hgo
          obtain ⟨_, ⟨v', u', L', rfl, s1, s2⟩, hr⟩ := reduce_c (H0 := H0) hE (decide (w = wOr)) r1 r2 (by omega)
          have hlr := reduceS_len (decide (w = wOr)) op out
          generalize (reduceS (decide (w = wOr)) out op).1 = out' at *
          generalize (reduceS (decide (w = wOr)) out op).2 = op' at *
          have hap := row_app (H0 := H0) (bytes := 16) (t := .exact) rfl s2 (p := .str w) ⟨rfl, rfl⟩ (by omega) (by omega) (by simp; omega) (Nm.strs_uniform op'.reverse)
          have hnu : Row H0.length (rowL H0.length L' u' ++ [.vec 1 (strs op'.reverse ++ [.str w]), .dead]) 1 (.view (H0.length + L'.length) 1 0 (op'.length + 1)) (strs (w :: op').reverse) := by
            have := row_new (n := H0.length) (k := 1) (L := L') (M := [.dead]) (v := u') (l := strs (w :: op').reverse)
            simpa [strs] using this
          have hnx : ∃ m, m < ws.length - k ∧ ∃ f k_1, m = ws.length - k_1 ∧ k_1 ≤ ws.length ∧ (k : Int) + 1 = (k_1 : Nat) ∧ ∃ x, Row H0.length (rowL H0.length L' u' ++ [.vec 1 (strs op'.reverse ++ [.str w]), .dead]) 4 v' (tests x) ∧
              ∃ x_1 : List Str, Row H0.length (rowL H0.length L' u' ++ [.vec 1 (strs op'.reverse ++ [.str w]), .dead]) 1 (.view (H0.length + L'.length) 1 0 (op'.length + 1)) (strs x_1.reverse) ∧ x.length + x_1.length ≤ k_1 ∧ ws.length - k_1 < f ∧ refGo f x x_1 true (ws.drop k_1) = R :=
            ⟨ws.length - (k + 1), by omega, f, k + 1, rfl, by omega, by omega, out', rowL_other s2 s1 (by omega), w :: op', hnu, by simp; omega, by omega, by rw [hd1]; exact hgo⟩
          simp at hap
          rcases c4 with rfl | rfl
          · simp only [wAnd] at hg hap hnx hr
            simp [wOr] at hr
            simp [h8, h7, h5, h6, h0, hkl, hkl', iaSl_at hg, hr, hap, hw1, wAnd]
            simpa using hnx
          · simp only [wOr] at hg hap hnx hr
            simp at hr
            simp [h8, h7, h5, h6, h0, hkl, hkl', iaSl_at hg, hr, hap, hw1, wOr]
            simpa using hnx
        · rw [if_neg c4] at hgo
          have d1 : ¬ w = [97, 110, 100] := fun e => c4 (.inl e)
          have d2 : ¬ w = [111, 114] := fun e => c4 (.inr e)
          by_cases c5 : w = wClose
          · rw [if_pos c5] at hgo
            obtain ⟨_, ⟨v', u', L', rfl, s1, s2⟩, hr⟩ := reduce_c (H0 := H0) hE true r1 r2 (by omega)
            have hlr := reduceS_len true op out
            have e2 := row_len s2
            subst c5
            simp only [wClose] at hg
            generalize (reduceS true out op).1 = out' at *
            generalize (reduceS true out op).2 = op' at *
            cases op' with
            | nil =>
              simp [strs] at e2
              simp at hgo
              simp [h8, h7, h5, h6, h0, hkl, hkl', iaSl_at hg, hr, e2, wClose]
              exact hbad _ _ _ hgo.symm (by simp; omega) (by omega)
            | cons x op' =>
              simp at hgo
              simp only [List.reverse_cons, strs_app] at s2
              obtain ⟨j, es, rfl, g2, g3, g4⟩ := row_pop s2
              simp at g4 hlr
              have b1 : ¬ ((op'.length : Int) + 1 = 0) := by omega
              have w1 : IntKind.i64.wrap (op'.length : Int) = (op'.length : Int) := by rw [wrap64] <;> omega
              simp [h8, h7, h5, h6, h0, hkl, hkl', iaSl_at hg, hr, e2, wClose, b1, w1, hw1]
              exact ⟨ws.length - (k + 1), by omega, f, k + 1, rfl, by omega, by omega, out', s1, op', by simpa using g4, by omega, by omega, by rw [hd1]; exact hgo⟩
          · rw [if_neg c5] at hgo
            have d3 : ¬ w = [41] := c5
            simp [h8, h7, h5, h6, h0, hkl, hkl', iaSl_at hg, d1, d2, d3]
            exact hbad (w :: r) _ _ hgo.symm (by simp; omega) (by omega)
  · refine ⟨by simp, by omega, by simp, by simp, by simp, by simp, by simp, by simp, .inl ⟨rfl, rfl⟩, .inl ⟨rfl, rfl⟩, by simp, by omega, by simpa using hR⟩
end Go.Flat
