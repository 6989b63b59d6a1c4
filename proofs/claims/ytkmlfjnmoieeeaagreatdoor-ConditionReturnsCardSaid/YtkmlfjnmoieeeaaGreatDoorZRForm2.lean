/- The reference's Format, and the program's: the same words, for all tests. -/
import Derived.Test.YtkmlfjnmoieeeaaGreatDoorZRForm
import Derived.Test.YtkmlfjnmoieeeaaGreatDoorZPLaw
set_option linter.unusedVariables false
set_option linter.unusedSimpArgs false
namespace Go.Flat
variable {E : Env} {H : Heap}
def Node.strg : Node → Int
  | .leaf _ _ => 2
  | .neg _ => 2
  | .pair and _ _ => if and then 1 else 0
theorem wordsN_par : ∀ (x : Node) (least : Int), wordsN x least = par x.strg least (wordsN x 0)
  | .leaf t i, least => by simp [wordsN, Node.strg, par]
  | .neg a, least => by simp [wordsN, Node.strg, par]
  | .pair true a b, least => by simp [wordsN, Node.strg, par]
  | .pair false a b, least => by simp [wordsN, Node.strg, par]
def szs : List Node → Nat
  | [] => 0
  | x :: st => x.sz + szs st
theorem tstep_sz {kn : Str → Bool} {i : Int} {t : Test} {st st' : List Node} (h : tstep kn i t st = some st') : szs st' ≤ szs st + 1 := by
  unfold tstep at h
  split at h
  · split at h
    · injection h with h
      subst h
      simp [szs, Node.sz]
      omega
    · simp at h
  · split at h
    · split at h
      · injection h with h
        subst h
        simp [szs, Node.sz]
        omega
      · simp at h
    · split at h
      · injection h with h
        subst h
        simp [szs, Node.sz]
        omega
      · simp at h
theorem trun_sz {kn : Str → Bool} : ∀ {l : List Test} {i : Int} {st st' : List Node}, trun kn i l st = some st' → szs st' ≤ szs st + l.length
  | [], i, st, st', h => by
    simp [trun] at h
    subst h
    simp
  | t :: l, i, st, st', h => by
    simp only [trun] at h
    cases hs : tstep kn i t st with
    | none => simp [hs] at h
    | some s1 =>
      simp [hs] at h
      have h1 := tstep_sz hs
      have h2 := trun_sz h
      simp
      omega
theorem isLeaf_okF {kn : Str → Bool} {t : Test} (h : isLeaf kn t = true) : okF t := by
  intro h0
  simp [isLeaf, h0] at h
  obtain ⟨⟨h1, h2, h3, h4⟩, _⟩ := h
  exact ⟨⟨h1, h2⟩, h3, h4⟩
theorem tree_run {kn : Str → Bool} {l : List Test} {x : Node} (h : tree kn l = some x) : l.length ≤ 32 ∧ trun kn 0 l [] = some [x] := by
  unfold tree at h
  split at h
  · simp at h
  · refine ⟨by omega, ?_⟩
    match hR : trun kn 0 l [], h with
    | some [y], h => simpa [single] using h
    | some (a :: b :: r), h => simp [single] at h
theorem tree_sz {kn : Str → Bool} {l : List Test} {x : Node} (h : tree kn l = some x) : x.sz ≤ 32 := by
  obtain ⟨h1, h2⟩ := tree_run h
  have := trun_sz h2
  simp [szs] at this
  omega
def formatS (l : List Test) : List Str :=
  match tree Nm.stepN l with
  | some x => wordsN x 0
  | none => []
theorem format_c (hE : EnvF E) {t : Tail} (l : List Test) (hl : l.length ≤ 9223372036854775807) : call E 12 [.sl t (tests l)] H = some (.sl .shut (strs (formatS l)), H) := by
  refine call_wp hE.f12 (hE.p _ (by decide)) ⟨rfl, by simp [F12], ?_⟩
  have htr := tree_c (H := H) (t := t) hE.t.q.e.d (kn := Nm.stepN) (kf := .func (.func 26) [] []) rfl (fun s L => by
    rw [callVal_func]
    exact Nm.step_c hE.t.q.e.n s) l hl
  cases hx : tree Nm.stepN l with
  | none =>
    rw [hx] at htr
    simp [resT] at htr
    simp [F12, htr, formatS, hx]
    exact leave_at_strs (l := []) rfl [] |> (by simpa [strs] using ·)
  | some x =>
    rw [hx] at htr
    simp [resT] at htr
    have hw := words_c hE x H 0 (tree_All (fun t ht => isLeaf_okF ht) hx) (by have := tree_sz hx; omega)
    simp [F12, htr, formatS, hx, hw]
    exact leave_at_strs (l := wordsN x 0) rfl [] |> (by simpa [strs] using ·)
def eT (p : PV × Node) : PV := .agg [p.1, .int .i64 p.2.strg]
theorem row_top {n k : Nat} {L : Heap} {j : Nat} {es l : List PV} {p' : PV} (h2 : L[j]? = some (.vec k es)) (hr : Row n L k (.view (n + j) k 0 l.length) l) (hl : l.length < es.length) : Row n (L.set j (.vec k (es.set l.length p'))) k (.view (n + j) k 0 (l.length + 1)) (l ++ [p']) := by
  refine .inr ⟨j, es.set l.length p', by simp, ?_, by simp; omega, ?_⟩
  · rw [List.getElem?_set_self (List.getElem?_eq_some_iff.1 h2).1]
  · rcases hr with ⟨rfl, hv⟩ | ⟨j', es', hv, g2, g3, g4⟩
    · simp at hv
    · simp at hv
      subst hv
      rw [h2] at g2
      injection g2 with g2
      injection g2 with _ g2
      subst g2
      have h5 : (es.set l.length p').take (l.length + 1) = es.take l.length ++ [p'] := by
        rw [List.take_add_one, List.getElem?_set_self hl, List.take_set, List.set_eq_of_length_le (by simp; omega)]
        rfl
      simp only [List.length_append, List.length_cons, List.length_nil]
      rw [h5, g4]
def rowT (st : List (PV × Node)) : List PV := st.reverse.map eT
@[simp] theorem rowT_length (st : List (PV × Node)) : (rowT st).length = st.length := by simp [rowT]
theorem rowT_cons (p : PV × Node) (st : List (PV × Node)) : rowT (p :: st) = rowT st ++ [eT p] := by simp [rowT]
theorem rowT_uniform {st : List (PV × Node)} (h : ∀ p ∈ st, p.1.isCell = true) : uniform 2 (rowT st) = true := by
  apply uniform_of
  intro q hq
  simp [rowT] at hq
  obtain ⟨a, b, hp, rfl⟩ := hq
  exact ⟨rfl, by simp [eT, h _ hp]⟩
def WN (n : Nat) (H : Heap) (v : PV) (ws : List Str) : Prop := WV H v ws ∧ ∀ id k i m, v = .view id k i m → n ≤ id
theorem wn_more {n : Nat} {v : PV} {ws : List Str} (h : WN n H v ws) (M : Heap) : WN n (H ++ M) v ws := ⟨wv_more h.1 M, h.2⟩
theorem wn_set {n : Nat} {v : PV} {ws : List Str} (h : WN n H v ws) {i : Nat} {es : List PV} (hi : H[i]? = some (.vec 2 es)) (o : HObj) : WN n (H.set i o) v ws := ⟨wv_set h.1 hi o, h.2⟩
theorem wn_sl {n : Nat} {τ : Tail} {ws : List Str} : WN n H (.sl τ (strs ws)) ws := ⟨.inl ⟨τ, rfl⟩, fun _ _ _ _ h => by simp at h⟩
def FormR (H : Heap) (l : List Str) (r : PV × Heap) : Prop := r = (.sl .shut (strs l), H)
set_option maxHeartbeats 8000000 in
theorem rformat_c (hE : EnvF E) {t : Tail} (l : List Test) (hl : l.length ≤ 9223372036854775800) : ∃ r, FormR H (formatS l) r ∧ call E 13 [.sl t (tests l)] H = some r := by
  refine call_wpQ hE.f13 (hE.p _ (by decide)) ⟨rfl, by simp [F13], ?_⟩
  have hv := fun H => validF_c (H := H) (t := t) hE l hl
  cases hx : tree Nm.stepN l with
  | none =>
    have hf : formatS l = [] := by simp [formatS, hx]
    rw [hf]
    by_cases h0 : l = []
    · subst h0
      have hvt : ∀ H, call E 28 [.sl t [], .sl .exact [], .bool true] H = some (.bool true, H) := by
        intro H
        have := hv H
        simpa [validF, tests] using this
      simp [F13, tests, hvt, uniform]
      refine wp_loop (fun n T H' => n = 0 ∧ T 4 = .int .i64 0 ∧ T 0 = .sl t [] ∧ T 3 = .sl .exact [] ∧ H' = H) ?_ (n := 0) ⟨rfl, ?_⟩
      · rintro n T H' ⟨rfl, h4, h0, h3, rfl⟩
        simp [h4, h0, h3]
        exact leave_sl (H := H') (t := .exact) (xs := []) rfl [] |> (by simpa [FormR, strs] using ·)
      · simp
    · have hvf : validF l = false := by simp [validF, hx, h0]
      rw [hvf] at hv
      simp [F13, hv]
      exact leave_sl (H := H) (t := .exact) (xs := []) rfl [] |> (by simpa [FormR, strs] using ·)
  | some x =>
    obtain ⟨h32, hrun0⟩ := tree_run hx
    have hf : formatS l = wordsN x 0 := by simp [formatS, hx]
    have hvf : validF l = true := by simp [validF, hx]
    have hxs := tree_sz hx
    rw [hvf] at hv
    rw [hf]
    simp [F13, hv, uniform]
    refine wp_loop (fun n T H' => ∃ (k : Nat) (L : Heap) (st : List (PV × Node)) (v : PV), n = l.length - k ∧ k ≤ l.length ∧ T 4 = .int .i64 k ∧ T 0 = .sl t (tests l) ∧ T 3 = v ∧ H' = H ++ L ∧ Row H.length L 2 v (rowT st) ∧ szs (st.map (·.2)) ≤ k ∧ st.length ≤ k ∧ (∀ p ∈ st, WN H.length (H ++ L) p.1 (wordsN p.2 0)) ∧
      trun Nm.stepN k (l.drop k) (st.map (·.2)) = some [x]) ?_ (n := l.length) ⟨0, [], [], .sl .exact [], ?_⟩
    · rintro n T H' ⟨k, L, st, v, rfl, hk, h4, h0, h3, rfl, hr, hsz, hsk, hwv, hrun⟩
      by_cases hk' : k < l.length
      · have hg : (tests l)[k]? = some (l[k].enc) := by simp [tests, hk']
        have hw : IntKind.i64.wrap ((k : Int) + 1) = (k : Int) + 1 := wrap64 (by omega) (by omega)
        have hd : l.drop k = l[k] :: l.drop (k + 1) := by rw [List.drop_eq_getElem_cons hk']
        have hkl : (k : Int) < l.length := by omega
        rw [hd, trun] at hrun
        generalize l[k] = te at hg hrun
        have e2 := row_len hr
        simp at e2
        cases hstep : tstep Nm.stepN k te (st.map (·.2)) with
        | none => rw [hstep] at hrun; simp at hrun
        | some st' =>
          rw [hstep] at hrun
          simp at hrun
          have hsz' := tstep_sz hstep
          obtain ⟨kd, s, o, m⟩ := te
          have rL := row_ext hr [.cells [.int .i64 kd, .str s, .int .i64 o, .int .i64 m]]
          have hwL : ∀ p ∈ st, WN H.length (H ++ (L ++ [.cells [.int .i64 kd, .str s, .int .i64 o, .int .i64 m]])) p.1 (wordsN p.2 0) := fun p hp => by
            rw [← List.append_assoc]
            exact wn_more (hwv p hp) _
          have hul : uniform 2 (rowT st) = true := rowT_uniform fun p hp => (wv_cell (hwv p hp).1).1
          clear hr hwv
          generalize hL1 : L ++ [HObj.cells [.int .i64 kd, .str s, .int .i64 o, .int .i64 m]] = L1 at rL hwL
          have hgL : L1[L.length]? = some (.cells [.int .i64 kd, .str s, .int .i64 o, .int .i64 m]) := by rw [← hL1]; simp
          have next : ∀ (L2 : Heap) (st2 : List (PV × Node)) (v2 : PV), st2.map (·.2) = st' → Row H.length L2 2 v2 (rowT st2) → st2.length ≤ k + 1 → (∀ p ∈ st2, WN H.length (H ++ L2) p.1 (wordsN p.2 0)) →
              ∃ m, m < l.length - k ∧ ∃ k1, m = l.length - k1 ∧ k1 ≤ l.length ∧ (k : Int) + 1 = (k1 : Nat) ∧ ∃ st3, Row H.length L2 2 v2 (rowT st3) ∧ szs (st3.map (·.2)) ≤ k1 ∧ st3.length ≤ k1 ∧ (∀ p ∈ st3, WN H.length (H ++ L2) p.1 (wordsN p.2 0)) ∧ trun Nm.stepN k1 (l.drop k1) (st3.map (·.2)) = some [x] := by
            intro L2 st2 v2 e1 e2 e3 e4
            exact ⟨l.length - (k + 1), by omega, k + 1, rfl, by omega, by omega, st2, e2, by rw [e1]; omega, e3, e4, by rw [e1]; exact hrun⟩
          unfold tstep at hstep
          simp only at hstep
          by_cases c4 : kd = 4 ∧ Test.bare ⟨kd, s, o, m⟩ = true
          · rw [if_pos c4] at hstep
            obtain ⟨rfl, hb⟩ := c4
            match st, rL, hwL, hul, hsz, hsk, hsz', hstep with
            | a :: r, rL, hwL, hul, hsz, hsk, hsz', hstep =>
              simp at hstep
              subst hstep
              obtain ⟨wv, na⟩ := a
              rw [rowT_cons] at rL
              obtain ⟨j, es, rfl, g2, g3, g4⟩ := row_pop rL
              simp at g3 g4 hsk
              have g2' : (H ++ L1)[H.length + j]? = some (.vec 2 es) := by simpa using g2
              have hwa := (hwL (wv, na) (by simp)).1
              simp only at hwa
              have hna : (wordsN na 0).length ≤ 1000000 := by
                have := (wordsN_len na 0).2
                simp [szs] at hsz
                omega
              obtain ⟨_, ⟨rv, rfl, hrv⟩, hrc⟩ := wrap_c hE hwa hna na.strg 2
              rw [← wordsN_par] at hrv
              have hrl := (wordsN_len na 2)
              have hap : ∀ x, appendA (H ++ L1) 1 16 true x rv = appendA (H ++ L1) 1 16 true x (.sl .shut (strs (wordsN na 2))) := fun x => appendA_elems (wv_elems hrv)
              have hu1 := Nm.strs_uniform (wordsN na 2)
              have hu2 : uniform 1 (strs (wordsN na 2)) = true := hu1
              have hne : wordsN na 2 ≠ [] := by intro e; rw [e] at hrl; simp at hrl
              have hsn : na.sz ≤ 33 := by simp [szs] at hsz; omega
              have hb1 : 1 + (wordsN na 2).length ≤ 4294967296 := by omega
              have w1 : IntKind.i64.wrap (r.length : Int) = (r.length : Int) := by rw [wrap64] <;> omega
              have b1 : (r.length : Int) < (r.length : Int) + 1 := by omega
              have hld := loadV_at (k := 2) (i := r.length) (o := 0) (size := 2) (agg := true) g3
              simp [eT] at hld hrc
              simp at e2
              have hjl : j < L1.length := (List.getElem?_eq_some_iff.1 g2).1
              generalize hM : [HObj.vec 1 (PV.str [110, 111, 116] :: strs (wordsN na 2)), HObj.dead] = M
              have g2m : (L1 ++ M)[j]? = some (.vec 2 es) := get_more g2 M
              generalize hp' : PV.agg [PV.view (H.length + L1.length) 1 0 (1 + (wordsN na 2).length), PV.int .i64 2] = p'
              have hst : storeV (H ++ (L1 ++ M)) (H.length + j) 2 r.length 0 2 p' (some (.vec 2 es)) = some ((H ++ (L1 ++ M)).set (H.length + j) (.vec 2 (es.set r.length p'))) := by
                rw [← hp']
                exact storeV_at g3 (by omega) rfl rfl rfl
              have hesl : r.length < es.length := (List.getElem?_eq_some_iff.1 g3).1
              have g4' := row_ext g4 M
              have g4' : Row H.length (L1 ++ M) 2 (.view (H.length + j) 2 0 (rowT r).length) (rowT r) := by simpa using g4'
              have hrt := row_top (p' := p') g2m g4' (by simpa using hesl)
              rw [rowT_length] at hrt
              have hnx := next ((L1 ++ M).set j (.vec 2 (es.set r.length p'))) ((.view (H.length + L1.length) 1 0 (1 + (wordsN na 2).length), .neg na) :: r) (.view (H.length + j) 2 0 (r.length + 1)) (by simp) (by
                rw [rowT_cons, show eT (PV.view (H.length + L1.length) 1 0 (1 + (wordsN na 2).length), Node.neg na) = p' by rw [← hp']; rfl]
                exact hrt) (by simp; omega) (fun p hp => by
                rw [← set_end]
                refine wn_set (es := es) ?_ (by simpa using g2m) _
                rcases List.mem_cons.1 hp with rfl | hp
                · refine ⟨.inr ⟨H.length + L1.length, PV.str [110, 111, 116] :: strs (wordsN na 2), ?_, ?_, ?_, ?_, ?_⟩, fun id _ _ _ h => ?_⟩
                  · simp [wordsN, par, Nat.add_comm]
                  · rw [← hM]; simp
                  · simp [wordsN, par]
                  · simp [wordsN, par, strs, wNot]
                    exact List.take_of_length_le (by simp)
                  · rw [← hM]; simp; omega
                  · simp at h; omega
                · rw [← List.append_assoc]
                  exact wn_more (hwL p (by simp [hp])) M)
              simp at hnx
              simp [h4, h0, h3, hk', hkl, iaSl_at hg, hw, e2, hL1, hgL, w1, b1, g2, hld, hrc, hap, hu2, hne, hb1, hM, hp', g2m, hst]
              exact hnx
          · rw [if_neg c4] at hstep
            by_cases c56 : (kd = 5 ∨ kd = 6) ∧ Test.bare ⟨kd, s, o, m⟩ = true
            · rw [if_pos c56] at hstep
              match st, rL, hwL, hul, hsz, hsk, hsz', hstep, e2 with
              | [], rL, hwL, hul, hsz, hsk, hsz', hstep, e2 => simp at hstep
              | [a], rL, hwL, hul, hsz, hsk, hsz', hstep, e2 => simp at hstep
              | (wb, nb) :: (wa, na) :: r, rL, hwL, hul, hsz, hsk, hsz', hstep, e2 =>
                simp at hstep
                subst hstep
                rw [rowT_cons, rowT_cons] at rL
                obtain ⟨j, es, rfl, g2, g3, g4⟩ := row_pop rL
                obtain ⟨j2, es2, hv2, g5, g6, g7⟩ := row_pop g4
                simp at hv2
                subst hv2
                rw [g2] at g5
                injection g5 with g5
                injection g5 with _ g5
                subst g5
                simp at g3 g6 g7 hsk
                obtain ⟨hwa, hia⟩ := hwL (wa, na) (by simp)
                obtain ⟨hwb, hib⟩ := hwL (wb, nb) (by simp)
                simp only at hwa hwb
                have hsn : na.sz + nb.sz ≤ 33 := by simp [szs] at hsz; omega
                have la0 := wordsN_len na 0
                have lb0 := wordsN_len nb 0
                have la1 := wordsN_len na 1
                have lb1 := wordsN_len nb 1
                have lb2 := wordsN_len nb 2
                obtain ⟨_, ⟨ra, rfl, hra⟩, hca⟩ := wrap_c hE hwa (by omega) na.strg 1
                obtain ⟨_, ⟨rb, rfl, hrb⟩, hcb⟩ := wrap_c hE hwb (by omega) nb.strg 2
                obtain ⟨_, ⟨rb1, rfl, hrb1⟩, hcb1⟩ := wrap_c hE hwb (by omega) nb.strg 1
                rw [← wordsN_par] at hra hrb hrb1
                have hj5 := join_c hE hra hrb (by omega) (by omega) wAnd
                have hj6 := join_c hE hwa hrb1 (by omega) (by omega) wOr
                simp only [wAnd] at hj5
                simp only [wOr] at hj6
                have hul2 : uniform 2 (rowT r) = true := rowT_uniform fun p hp => (wv_cell (hwL p (by simp [hp])).1).1
                have hr32 : r.length + 1 + 1 ≤ 32 := by omega
                have ee : H.length + j - H.length = j := by omega
                have hjl : j < L1.length := (List.getElem?_eq_some_iff.1 g2).1
                have hnx := fun (b : Bool) (ws : List Str) (hws : wordsN (.pair b na nb) 0 = ws) (hb : (if b then (5 : Int) else 6) = kd) => next (L1.set j .dead ++ [.vec 2 (rowT r ++ [.agg [.sl .shut (strs ws), .int .i64 (if b then 1 else 0)]]), .dead]) ((.sl .shut (strs ws), .pair b na nb) :: r) (.view (H.length + L1.length) 2 0 (r.length + 1)) (by
                    cases b <;> simp at hb <;> subst hb <;> simp) (by
                    have := row_new (n := H.length) (k := 2) (L := L1) (M := [.dead]) (v := .view (H.length + j) 2 0 r.length) (l := rowT ((.sl .shut (strs ws), .pair b na nb) :: r))
                    simpa [rowT_cons, eT, Node.strg, rowL, ee] using this) (by simp; omega) (fun p hp => by
                    rw [← List.append_assoc]
                    refine wn_more ?_ _
                    rcases List.mem_cons.1 hp with rfl | hp
                    · simp only [hws]
                      exact wn_sl
                    · rw [← set_end]
                      exact wn_set (hwL p (by simp [hp])) (es := es) (by simpa using g2) _)
                have hla := loadV_at (k := 2) (i := r.length) (o := 0) (size := 2) (agg := true) g6
                have hlb := loadV_at (k := 2) (i := r.length + 1) (o := 0) (size := 2) (agg := true) g3
                have hla1 := loadV_at (k := 2) (i := r.length) (o := 0) (size := 1) (agg := false) g6
                simp [eT] at hla hlb hla1
                have w1 : IntKind.i64.wrap ((r.length : Int) + 1) = (r.length : Int) + 1 := by rw [wrap64] <;> omega
                have w2 : IntKind.i64.wrap ((r.length : Int) + 1 + 1 - 2) = (r.length : Int) := by rw [wrap64] <;> omega
                have b3 : (0 : Int) ≤ (r.length : Int) + 1 := by omega
                have b4 : ((r.length : Int) + 1).toNat = r.length + 1 := by omega
                have b5 : (r.length : Int) < (r.length : Int) + 1 + 1 := by omega
                have b6 : (r.length : Int) < (r.length : Int) + 1 := by omega
                have hp3 : r.length ≤ r.length + 1 + 1 := by omega
                have w3 : IntKind.i64.wrap (r.length : Int) = (r.length : Int) := by rw [wrap64] <;> omega
                have hle : r.length ≤ es.length := Nat.le_of_lt (List.getElem?_eq_some_iff.1 g6).1
                have hle2 : r.length ≤ 4294967295 := by omega
                have htk : es.take r.length = rowT r := by
                  rcases g7 with ⟨_, hv⟩ | ⟨j3, es3, hv, q2, q3, q4⟩
                  · simp at hv
                  · simp at hv
                    subst hv
                    rw [g2] at q2
                    injection q2 with q2
                    injection q2 with _ q2
                    subst q2
                    simpa using q4
                rcases c56.1 with rfl | rfl
                · have hn5 := hnx true _ (by simp [wordsN, par]; rfl) rfl
                  simp [wAnd] at hn5
                  simp [h4, h0, h3, hk', hkl, iaSl_at hg, hw, hL1, hgL, w1, w2, w3, b3, b4, b5, b6, hp3, g2, hla, hlb, hca, hcb, hj5, hle, hle2, htk]
                  exact hn5
                · have hn6 := hnx false _ (by simp [wordsN, par]; rfl) rfl
                  simp [wOr] at hn6
                  simp [h4, h0, h3, hk', hkl, iaSl_at hg, hw, hL1, hgL, w1, w2, w3, b3, b4, b5, b6, hp3, g2, hla1, hlb, hcb1, hj6, hle, hle2, htk]
                  exact hn6
            · rw [if_neg c56] at hstep
              split at hstep
              case isFalse => simp at hstep
              case isTrue hlf =>
              simp at hstep
              subst hstep
              have hok := isLeaf_okF hlf
              have hkc : kd = 0 ∨ kd = 1 ∨ kd = 2 ∨ kd = 3 := by
                simp [isLeaf] at hlf
                omega
              have push : ∀ (ws : List Str), wordsN (.leaf ⟨kd, s, o, m⟩ k) 0 = ws → appendA (H ++ L1) 2 32 true v (.sl .exact [.agg [.sl .exact (strs ws), .int .i64 2]]) = some (.view (H.length + L1.length) 2 0 (st.length + 1), H ++ (rowL H.length L1 v ++ [.vec 2 (rowT st ++ [.agg [.sl .exact (strs ws), .int .i64 2]]), .dead])) ∧
                  ∃ m, m < l.length - k ∧ ∃ k1, m = l.length - k1 ∧ k1 ≤ l.length ∧ (k : Int) + 1 = (k1 : Nat) ∧ ∃ st3, Row H.length (rowL H.length L1 v ++ [.vec 2 (rowT st ++ [.agg [.sl .exact (strs ws), .int .i64 2]]), .dead]) 2 (.view (H.length + L1.length) 2 0 (st.length + 1)) (rowT st3) ∧ szs (st3.map (·.2)) ≤ k1 ∧ st3.length ≤ k1 ∧
                    (∀ p ∈ st3, WN H.length (H ++ (rowL H.length L1 v ++ [.vec 2 (rowT st ++ [.agg [.sl .exact (strs ws), .int .i64 2]]), .dead])) p.1 (wordsN p.2 0)) ∧ trun Nm.stepN k1 (l.drop k1) (st3.map (·.2)) = some [x] := by
                intro ws hws
                have h1 := row_app (H0 := H) (bytes := 32) (t := .exact) rfl rL (p := .agg [.sl .exact (strs ws), .int .i64 2]) ⟨rfl, rfl⟩ (by omega) (by omega) (by simp; omega) hul
                rw [rowT_length] at h1
                refine ⟨h1, next _ ((.sl .exact (strs ws), .leaf ⟨kd, s, o, m⟩ k) :: st) _ (by simp) ?_ (by simp; omega) ?_⟩
                · have := row_new (n := H.length) (k := 2) (L := L1) (M := [.dead]) (v := v) (l := rowT ((.sl .exact (strs ws), .leaf ⟨kd, s, o, m⟩ k) :: st))
                  simpa [rowT_cons, eT, Node.strg] using this
                · intro p hp
                  rcases List.mem_cons.1 hp with rfl | hp
                  · simp only [hws]
                    exact wn_sl
                  · have h2 := hwL p hp
                    rw [← List.append_assoc]
                    refine wn_more ?_ _
                    rcases rL with ⟨_, rfl⟩ | ⟨j, es, rfl, g2, _, _⟩
                    · exact h2
                    · have e : H.length + j - H.length = j := by omega
                      have hj : (H ++ L1)[H.length + j]? = some (.vec 2 es) := by simpa using g2
                      have := wn_set h2 hj .dead
                      simpa [rowL, e] using this
              rcases hkc with rfl | rfl | rfl | rfl
              · obtain ⟨⟨o1, o2⟩, n1, n2⟩ := hok rfl
                simp only at o1 o2 n1 n2
                obtain ⟨oj, rfl⟩ : ∃ j : Nat, o = j := ⟨o.toNat, by omega⟩
                obtain ⟨mj, rfl⟩ : ∃ j : Nat, m = j := ⟨m.toNat, by omega⟩
                have hj : oj < rels.length := by simp [rels]; omega
                have hgr : (strs rels)[oj]? = some (.str rels[oj]) := by simp [strs, hj]
                have hia := iaSl_at (t := .exact) (size := 1) hgr rfl
                have hse : strs rels = [.str [60], .str [60, 61], .str [61], .str [33, 61], .str [62, 61], .str [62]] := rfl
                rw [hse] at hia
                have hdg := fun H => digits_c (H := H) hE.t.q mj (by omega)
                have hp := push [s, wRc, rels[oj], Lib.itoa mj] (by simp [wordsN, par, leafW, hj])
                obtain ⟨hp1, hp2⟩ := hp
                simp [strs, wRc] at hp1 hp2
                simp [h4, h0, h3, hk', hkl, iaSl_at hg, hw, e2, hL1, hgL, uniform, hia, hdg, hp1]
                exact hp2
              · have hp := push [s, wFailed] (by simp [wordsN, par, leafW])
                obtain ⟨hp1, hp2⟩ := hp
                simp [strs, wFailed] at hp1 hp2
                simp [h4, h0, h3, hk', hkl, iaSl_at hg, hw, e2, hL1, hgL, uniform, hp1]
                exact hp2
              · have hp := push [s, wRan] (by simp [wordsN, par, leafW])
                obtain ⟨hp1, hp2⟩ := hp
                simp [strs, wRan] at hp1 hp2
                simp [h4, h0, h3, hk', hkl, iaSl_at hg, hw, e2, hL1, hgL, uniform, hp1]
                exact hp2
              · have hp := push [wFailed] (by simp [wordsN, par, leafW])
                obtain ⟨hp1, hp2⟩ := hp
                simp [strs, wFailed] at hp1 hp2
                simp [h4, h0, h3, hk', hkl, iaSl_at hg, hw, e2, hL1, hgL, uniform, hp1]
                exact hp2
      · obtain rfl : k = l.length := by omega
        simp [trun] at hrun
        match st, hr, hwv, hrun with
        | [(wv, nx)], hr, hwv, hrun =>
          simp at hrun
          subst hrun
          obtain ⟨hw0, hid0⟩ := hwv (wv, nx) (by simp)
          simp only at hw0 hid0
          have hr' : Row H.length L 2 v (rowT [] ++ [eT (wv, nx)]) := by rw [← rowT_cons]; exact hr
          obtain ⟨j, es, rfl, g2, g3, g4⟩ := row_pop hr'
          simp [rowT] at g3 g4
          have hld := loadV_at (k := 2) (i := 0) (o := 0) (size := 1) (agg := false) g3
          simp [eT] at hld
          have hfin : FormR H (wordsN nx 0) (leave true H wv (H ++ L)) := by
            rcases hw0 with ⟨τ, rfl⟩ | ⟨id, fs, rfl, q2, q3, q4, q5⟩
            · exact leave_sl (Nm.strs_plain _) L
            · have hp := Nm.strs_plain (wordsN nx 0)
              have hp' : plainL (strs (wordsN nx 0)) = true := hp
              by_cases hid : H.length ≤ id
              · obtain ⟨i, rfl⟩ : ∃ i, id = H.length + i := ⟨id - H.length, by omega⟩
                have := leave_view (H := H) (j := i) (n := (wordsN nx 0).length) (es := fs) (l := L) (by simpa using q2) q3 (by rw [q4]; exact hp')
                rw [q4] at this
                exact this
              · exact absurd (hid0 id 1 0 _ rfl) hid
          simp [h4, h0, h3, rowT, g2, hld]
          exact hfin
    · exact ⟨by simp, by omega, by simp, by simp, by simp, by simp, .inl ⟨rfl, rfl⟩, by simp [szs], by simp, by simp, by simpa using hrun0⟩
end Go.Flat
