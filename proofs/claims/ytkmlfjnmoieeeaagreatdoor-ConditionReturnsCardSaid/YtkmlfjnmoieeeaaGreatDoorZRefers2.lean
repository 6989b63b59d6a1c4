/- Refers of the program and of the reference: what they come to, for every input; and that these are alike. -/
import Derived.Test.YtkmlfjnmoieeeaaGreatDoorZRefers
set_option linter.unusedVariables false
set_option linter.unusedSimpArgs false
namespace Go.Flat
variable {E : Env} {H : Heap} {c : CallT} {T : Temps}
def F18v : AFunc := ⟨25, [(.tmp 2)], (.seq (.region [⟨(.some 2), (.mv (.lit (.sl .exact []))), .none, .any⟩]) (.seq (.region [⟨(.some 3), (.mv (.lit (.sl .exact []))), .none, .any⟩]) (.seq (.seq (.region [⟨(.some 6), (.mv (.tmp 0)), .none, .any⟩, ⟨(.some 7), (.lenSl (.tmp 6)), .none, .any⟩, ⟨(.some 8), (.mv (.lit (.int .i64 0))), .none, .any⟩]) (.block 0 (.loop (.seq (.region [⟨(.some 9), (.bin .lss (.tmp 8) (.tmp 7)), .none, .any⟩]) (.seq (.cond (.tmp 9) .skip (.exit 0)) (.seq (.block 1 (.seq (.region [⟨(.some 10), (.iaSl 4 (.tmp 6) (.tmp 8)), .none, .any⟩, ⟨(.some 11), (.load 4 true (.tmp 10)), .none, .any⟩, ⟨(.some 5), (.alloc [(.int .i64 0), (.str []), (.int .i64 0), (.int .i64 0)]), .none, .any⟩, ⟨.none, (.store 4 (.tmp 5) (.tmp 11)), .none, .any⟩]) (.seq (.region [⟨(.some 12), (.faddr 1 (.tmp 5)), .none, .any⟩, ⟨(.some 13), (.load 1 false (.tmp 12)), .none, .any⟩, ⟨(.some 14), (.bin .neq (.tmp 13) (.lit (.str []))), .none, .any⟩]) (.cond (.tmp 14) (.region [⟨(.some 15), (.mv (.tmp 3)), .none, .any⟩, ⟨(.some 16), (.faddr 1 (.tmp 5)), .none, .any⟩, ⟨(.some 17), (.load 1 false (.tmp 16)), .none, .any⟩, ⟨(.some 18), (.lit 1 [(.tmp 17)]), .none, .any⟩, ⟨(.some 19), (.append 1 16 true (.tmp 15) (.tmp 18)), .none, .any⟩, ⟨(.some 3), (.mv (.tmp 19)), .none, .any⟩]) .skip)))) (.region [⟨(.some 20), (.bin .add (.tmp 8) (.lit (.int .i64 1))), .none, .any⟩, ⟨(.some 8), (.mv (.tmp 20)), .none, .any⟩]))))))) (.seq (.region [⟨(.some 21), (.mv (.tmp 3)), .none, .any⟩, ⟨(.some 22), (.callF 40 [(.tmp 21)]), .none, .any⟩]) (.seq (.region [⟨(.some 23), (.mv (.tmp 3)), .none, .any⟩, ⟨(.some 24), (.callF 41 [(.tmp 23)]), .none, .any⟩, ⟨(.some 2), (.mv (.tmp 24)), .none, .any⟩]) .ret))))), false, true⟩
structure EnvS (E : Env) : Prop where
  p18 : E.prim 18 = none
  p19 : E.prim 19 = none
  p40 : E.prim 40 = some sortP
  p41 : E.prim 41 = none
  f18 : E.func 18 = some F18v
  f19 : E.func 19 = some F19
  f41 : E.func 41 = some F41
def names (l : List Test) : List Str := (l.map Test.step).filter (fun s => decide (s ≠ []))
def referS (l : List Test) : List Str := dedup (sortS (names l))
theorem names_len (l : List Test) : (names l).length ≤ l.length := by
  have := List.length_filter_le (fun s : Str => decide (s ≠ [])) (l.map Test.step)
  simpa [names] using this
theorem names_take {l : List Test} {k : Nat} (h : k < l.length) : names (l.take (k + 1)) = if l[k].step = [] then names (l.take k) else names (l.take k) ++ [l[k].step] := by
  rw [List.take_succ_eq_append_getElem h]
  simp only [names, List.map_append, List.filter_append, List.map_cons, List.map_nil]
  by_cases hs : l[k].step = [] <;> simp [hs]
theorem compact_none (h41 : E.func 41 = some F41) (hp : E.prim 41 = none) : call E 41 [.sl .exact []] H = some (.sl .shut [], H) := by
  refine call_wp h41 hp ⟨rfl, by simp [F41], ?_⟩
  simp [F41]
  exact leave_sl (xs := []) rfl [] |> fun h => by simpa using h
theorem strs_plain (l : List Str) : plainL (strs l) = true := plainL_of (by intro p hp; simp [strs] at hp; obtain ⟨a, _, rfl⟩ := hp; rfl)
theorem strs_uniform (l : List Str) : uniform 1 (strs l) = true := uniform_of (by intro p hp; simp [strs] at hp; obtain ⟨a, _, rfl⟩ := hp; exact ⟨rfl, by simp [PV.isCell]⟩)
theorem sortP_view {id : Nat} (ss : List Str) (hH : H[id]? = some (.vec 1 (strs ss))) (h0 : 0 < ss.length) (hl : ss.length < 4611686018427387904) : sortP [.view id 1 0 ss.length] H = some (.tup [], H.set id (.vec 1 (strs (sortS ss)))) := by
  have hu : unstrs (strs ss) = some ss := unstrs_map ss
  simp [sortP, hH, h0, hl, hu]
  rfl
theorem sortS_length (l : List Str) : (sortS l).length = l.length := by simp [sortS]
set_option maxHeartbeats 1000000 in
theorem refers18_c (hE : EnvS E) {t : Tail} (l : List Test) (hl : l.length ≤ 1000000) : call E 18 [.sl t (tests l)] H = some (.sl .shut (strs (referS l)), H) := by
  refine call_wp hE.f18 hE.p18 ⟨rfl, by simp [F18v], ?_⟩
  simp [F18v]
  refine wp_loop (fun n T H' => ∃ k : Nat, n = l.length - k ∧ k ≤ l.length ∧ T 8 = .int .i64 k ∧ T 7 = .int .i64 l.length ∧ T 6 = .sl t (tests l) ∧ ∃ st : List Str, StkAt 1 PV.str H (T 3) H' st ∧ st.reverse = names (l.take k)) ?_ (n := l.length) ⟨0, ?_⟩
  · rintro n T H' ⟨k, rfl, hk, h8, h7, h6, st, hst, hnm⟩
    by_cases hk' : k < l.length
    · have hg : (tests l)[k]? = some (l[k].enc) := by simp [tests, hk']
      have hw : IntKind.i64.wrap ((k : Int) + 1) = (k : Int) + 1 := wrap64 (by omega) (by omega)
      have hnt := names_take hk'
      have hsl : st.length ≤ k := by
        have h1 := names_len (l.take k)
        rw [← hnm] at h1
        simp at h1
        omega
      generalize l[k] = te at hg hnt
      obtain ⟨kd, s, o, m⟩ := te
      simp only at hnt
      have next : ∀ (v : PV) (H' : Heap) (st' : List Str), StkAt 1 PV.str H v H' st' → st'.reverse = names (l.take (k + 1)) → ∃ m, m < l.length - k ∧ ∃ k1 : Nat, m = l.length - k1 ∧ k1 ≤ l.length ∧ (k : Int) + 1 = k1 ∧ ∃ st : List Str, StkAt 1 PV.str H v H' st ∧ st.reverse = names (l.take k1) :=
        fun v H' st' h1 h2 => ⟨l.length - (k + 1), by omega, k + 1, rfl, by omega, by omega, st', h1, h2⟩
      by_cases hs : s = []
      · subst hs
        simp only [if_true] at hnt
        obtain ⟨L, rfl, hst'⟩ := hst
        have hn := next (T 3) (H ++ (L ++ [.cells [.int .i64 kd, .str [], .int .i64 o, .int .i64 m]])) st (stk_more ⟨L, rfl, hst'⟩) (by rw [hnt, hnm])
        simp [h8, h7, h6, hk', iaSl_at hg, hw]
        simpa using hn
      · rw [if_neg hs] at hnt
        match st, hst, hnm, hsl with
        | [], hst, hnm, hsl =>
          obtain ⟨L, rfl, h3⟩ := hst
          have hn := next (.view (H.length + (L.length + 1)) 1 0 1) (H ++ ((L ++ [HObj.cells [.int .i64 kd, .str s, .int .i64 o, .int .i64 m]]) ++ [.vec 1 [.str s], .dead])) [s] (stk_new rfl (by simp)) (by rw [hnt, ← hnm]; rfl)
          simp [h8, h7, h6, h3, hk', iaSl_at hg, hw, hs]
          simpa using hn
        | a :: r, hst, hnm, hsl =>
          obtain ⟨L, rfl, j, h3, hj⟩ := hst
          have hj' := get_more hj
          have hr2 : r.length + 1 + 1 ≤ 4294967296 := by simp at hsl; omega
          have hn := next (.view (H.length + (L.length + 1)) 1 0 (r.length + 1 + 1)) (H ++ ((L ++ [HObj.cells [.int .i64 kd, .str s, .int .i64 o, .int .i64 m]]).set j .dead ++ [.vec 1 ((rowOf PV.str (a :: r)).take (r.length + 1) ++ [.str s]), .dead])) (s :: a :: r) (stk_push (st := a :: r) (x := s) (by simp) rfl rfl rfl) (by rw [hnt, ← hnm]; simp)
          simp [h8, h7, h6, h3, hk', iaSl_at hg, hw, hs, hj, hj', hr2]
          simpa using hn
    · have hke : k = l.length := by omega
      subst hke
      rw [List.take_length] at hnm
      match st, hst, hnm with
      | [], hst, hnm =>
        obtain ⟨L, rfl, h3⟩ := hst
        have hr : referS l = [] := by
          simp at hnm
          simp [referS, hnm, sortS, dedup]
        have hlv := leave_sl (H := H) (t := .shut) (xs := []) rfl L
        simp [h8, h7, h6, h3, call_prim hE.p40, sortP, compact_none hE.f41 hE.p41, hr, strs, hlv]
      | a :: r, hst, hnm =>
        obtain ⟨L, rfl, j, h3, hj⟩ := hst
        have hrow : rowOf PV.str (a :: r) = strs (names l) := by rw [← hnm]; rfl
        rw [hrow] at hj
        have hlen : (a :: r).length = (names l).length := by rw [← hnm]; simp
        have hpos : 0 < (names l).length := by rw [← hlen]; simp
        have hnl := names_len l
        rw [hlen] at h3
        have hjl := lt_of_some hj
        have hj1 : (H ++ L)[H.length + j]? = some (.vec 1 (strs (names l))) := by rw [get_end, hj]
        have hs1 := sortP_view (names l) hj1 hpos (by omega)
        have hj2 : (H ++ L.set j (.vec 1 (strs (sortS (names l)))))[H.length + j]? = some (.vec 1 (strs (sortS (names l)))) := by rw [get_end, List.getElem?_set_self hjl]
        have hc := compact_c hE.f41 hE.p41 (sortS (names l)) hj2 (by rw [sortS_length]; omega)
        rw [sortS_length, set_end, List.set_set] at hc
        rw [set_end] at hs1
        have hj3 : (L.set j (.vec 1 (strs (compacted (sortS (names l))))))[j]? = some (.vec 1 (strs (compacted (sortS (names l))))) := List.getElem?_set_self hjl
        have htk : (strs (compacted (sortS (names l)))).take (referS l).length = strs (referS l) := by
          show _ = strs (dedup (sortS (names l)))
          simp [compacted, strs, referS]
        have hlv := leave_view (H := H) (n := (referS l).length) hj3 (by simp [compacted, referS]) (by rw [htk]; exact strs_plain _)
        rw [htk] at hlv
        have hre : dedup (sortS (names l)) = referS l := rfl
        rw [hre] at hc
        simp [h8, h7, h6, h3, call_prim hE.p40, hs1, hc, hlv]
  · refine ⟨by simp, Nat.zero_le _, by simp, by simp, by simp, [], ⟨[], by simp, by simp⟩, by simp [names]⟩
/-! ### The plain law -/
abbrev Inc (l : List Str) : Prop := l.Pairwise (· < ·)
theorem inc_unique : ∀ {a b : List Str}, Inc a → Inc b → (∀ x, x ∈ a ↔ x ∈ b) → a = b
  | [], [], _, _, _ => rfl
  | [], y :: b, _, _, h => by have := (h y).2 (by simp); simp at this
  | x :: a, [], _, _, h => by have := (h x).1 (by simp); simp at this
  | x :: a, y :: b, ha, hb, h => by
    have ha' := List.pairwise_cons.1 ha
    have hb' := List.pairwise_cons.1 hb
    have hxy : x = y := by
      have h1 := (h x).1 (by simp)
      have h2 := (h y).2 (by simp)
      rcases List.mem_cons.1 h1 with e | h1
      · exact e
      · rcases List.mem_cons.1 h2 with e | h2
        · exact e.symm
        · exact absurd (ha'.1 y h2) (List.lt_asymm (hb'.1 x h1))
    subst hxy
    rw [inc_unique ha'.2 hb'.2 fun z => ?_]
    constructor
    · intro hz
      rcases List.mem_cons.1 ((h z).1 (by simp [hz])) with e | h1
      · subst e; exact absurd (ha'.1 z hz) (List.lt_irrefl z)
      · exact h1
    · intro hz
      rcases List.mem_cons.1 ((h z).2 (by simp [hz])) with e | h1
      · subst e; exact absurd (hb'.1 z hz) (List.lt_irrefl z)
      · exact h1
theorem dd_mem : ∀ (l : List Str) (p x : Str), x ∈ p :: dd p l ↔ x ∈ p :: l
  | [], p, x => by simp [dd]
  | b :: l, p, x => by
    simp only [dd]
    split
    · rename_i h; subst h
      rw [dd_mem l b x]
      simp
    · have := dd_mem l b x
      simp only [List.mem_cons] at this ⊢
      rw [this]
theorem dedup_mem (l : List Str) (x : Str) : x ∈ dedup l ↔ x ∈ l := by
  cases l with
  | nil => simp [dedup]
  | cons a l => exact dd_mem l a x
theorem lt_of_le_ne {x y : Str} (h : x ≤ y) (hn : x ≠ y) : x < y := by
  rcases Classical.em (x < y) with h1 | h1
  · exact h1
  · exact absurd (List.le_antisymm h (List.not_lt.1 h1)) hn
theorem dd_inc : ∀ (l : List Str) (p : Str), (p :: l).Pairwise (· ≤ ·) → Inc (p :: dd p l)
  | [], p, _ => by simp [dd]
  | b :: l, p, h => by
    have h1 := List.pairwise_cons.1 h
    simp only [dd]
    split
    · rename_i hb; subst hb
      exact dd_inc l b h1.2
    · rename_i hb
      have hi := dd_inc l b h1.2
      refine List.pairwise_cons.2 ⟨fun y hy => ?_, hi⟩
      have hpb : p < b := lt_of_le_ne (h1.1 b (by simp)) (fun e => hb e.symm)
      rcases List.mem_cons.1 ((dd_mem l b y).1 hy) with e | hy'
      · subst e; exact hpb
      · have hby := (List.pairwise_cons.1 h1.2).1 y hy'
        refine lt_of_le_ne (List.le_trans (List.le_of_lt hpb) hby) (fun e => ?_)
        subst e
        exact List.not_lt.2 hby hpb
theorem dedup_inc {l : List Str} (h : l.Pairwise (· ≤ ·)) : Inc (dedup l) := by
  cases l with
  | nil => simp [dedup]
  | cons a l => exact dd_inc l a h
theorem referS_inc (l : List Test) : Inc (referS l) := by
  refine dedup_inc ?_
  have := List.pairwise_mergeSort (le := fun x y : Str => decide (x ≤ y)) (fun a b c h1 h2 => by simpa using List.le_trans (by simpa using h1) (by simpa using h2)) (fun a b => by simpa using List.le_total a b) (names l)
  exact this.imp (by simp)
theorem referS_mem (l : List Test) (x : Str) : x ∈ referS l ↔ x ∈ names l := by
  rw [referS, dedup_mem, sortS, List.mem_mergeSort]
end Go.Flat
