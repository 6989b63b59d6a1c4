/- Refers: the names that tests mention, sorted, each once; and the reference's. What they come to, for every input. -/
import Derived.Test.YtkmlfjnmoieeeaaGreatDoorZEval
import Derived.Test.YtkmlfjnmoieeeaaGreatDoorFlatY
set_option linter.unusedVariables false
set_option linter.unusedSimpArgs false
namespace Go.Flat
variable {E : Env} {H : Heap} {c : CallT} {T : Temps}
theorem leave_view_old {fz : Bool} {id k i n : Nat} {H' : Heap} (hid : id < H.length) (hl : H'.length = H.length) : leave fz H (.view id k i n) H' = (.view id k i n, H') := by
  have e1 : (PV.view id k i n).frz H' H.length = .view id k i n := by
    simp only [PV.frz]
    split
    · rw [if_neg (by omega)]
    · rfl
  have e2 : (if fz = true then (((PV.view id k i n).frz H' H.length).frz H' H.length).strip else .view id k i n) = .view id k i n := by
    cases fz
    · rfl
    · simp only [e1, if_true, PV.strip]
  unfold leave
  rw [e2]
  split
  · rename_i h
    have h1 := h.1
    rw [List.take_of_length_le (by omega)] at h1
    rw [h1]
  · rfl
@[simp] theorem exec_clearSl {size : Nat} {z : PV} {x : Opd} : execA c (.clearSl size z x) T H = (clearSlA H size z (x.ev T)).map fun H' => (PV.undef, H') := rfl
theorem clearSl_at {id k i n : Nat} {z : PV} {es : List PV} (h : H[id]? = some (.vec k es)) (hk : i + n ≤ es.length) (hz : z.cells.length = k) : clearSlA H k z (.view id k i n) = some (H.set id (.vec k (es.take i ++ List.replicate n z ++ es.drop (i + n)))) := by
  simp [clearSlA, h, hk, hz]
/-! ### Each once -/
def dd (p : Str) : List Str → List Str
  | [] => []
  | b :: l => if b = p then dd p l else b :: dd b l
def dedup : List Str → List Str
  | [] => []
  | a :: l => a :: dd a l
theorem dd_snoc : ∀ (l : List Str) (p x : Str), dd p (l ++ [x]) = if (p :: l).getLast? = some x then dd p l else dd p l ++ [x]
  | [], p, x => by
    simp only [List.nil_append, dd, List.getLast?_singleton, Option.some.injEq]
    by_cases h : x = p
    · simp [h]
    · have h2 : ¬ p = x := fun e => h e.symm
      simp [h, h2]
  | b :: l, p, x => by
    simp only [List.cons_append, dd]
    have h := dd_snoc l
    by_cases hb : b = p
    · subst hb
      simp only [if_true]
      rw [h b x]
      simp [List.getLast?_cons_cons]
    · simp only [if_neg hb]
      rw [h b x]
      simp only [List.getLast?_cons_cons]
      split <;> simp
theorem dedup_snoc (l : List Str) (x : Str) : dedup (l ++ [x]) = if l.getLast? = some x then dedup l else dedup l ++ [x] := by
  cases l with
  | nil => simp [dedup, dd]
  | cons a l =>
    simp only [List.cons_append, dedup]
    rw [dd_snoc]
    split <;> simp
theorem dedup_len : ∀ (l : List Str), (dedup l).length ≤ l.length := by
  have h : ∀ (l : List Str) (p : Str), (dd p l).length ≤ l.length := by
    intro l
    induction l with
    | nil => intro p; simp [dd]
    | cons b l ih =>
      intro p
      simp only [dd]
      split
      · have := ih p; simp; omega
      · have := ih b; simp; omega
  intro l
  cases l with
  | nil => simp [dedup]
  | cons a l => have := h l a; simp [dedup]; omega
theorem take_succ_get {l : List Str} {k : Nat} (h : k < l.length) : l.take (k + 1) = l.take k ++ [l[k]] := by
  rw [List.take_succ_eq_append_getElem h]
theorem last_take {l : List Str} {k : Nat} (h0 : 0 < k) (h : k ≤ l.length) : (l.take k).getLast? = some (l[k - 1]'(by omega)) := by
  rw [List.getLast?_eq_getElem?]
  simp only [List.length_take, Nat.min_eq_left h]
  rw [List.getElem?_take, if_pos (by omega), List.getElem?_eq_getElem (by omega)]
theorem dedup_same {l : List Str} {k : Nat} (h0 : 0 < k) (h : k < l.length) (he : l[k] = l[k - 1]) : dedup (l.take (k + 1)) = dedup (l.take k) := by
  rw [take_succ_get h, dedup_snoc, last_take h0 (by omega), if_pos (by rw [he])]
theorem dedup_next {l : List Str} {k : Nat} (h0 : 0 < k) (h : k < l.length) (he : ¬ l[k] = l[k - 1]) : dedup (l.take (k + 1)) = dedup (l.take k) ++ [l[k]] := by
  rw [take_succ_get h, dedup_snoc, last_take h0 (by omega), if_neg (by intro e; injection e with e; exact he e.symm)]
def compacted (ss : List Str) : List Str := dedup ss ++ List.replicate (ss.length - (dedup ss).length) []
theorem strs_set (l : List Str) (k : Nat) (s : Str) : (strs l).set k (.str s) = strs (l.set k s) := by simp [strs, List.map_set]
set_option maxHeartbeats 1000000 in
theorem compact_c (h41 : E.func 41 = some F41) (hp : E.prim 41 = none) {id : Nat} (ss : List Str) (hH : H[id]? = some (.vec 1 (strs ss))) (hl : ss.length ≤ 4294967296) :
    call E 41 [.view id 1 0 ss.length] H = some (.view id 1 0 (dedup ss).length, H.set id (.vec 1 (strs (compacted ss)))) := by
  have hid := lt_of_some hH
  have hself : H.set id (.vec 1 (strs ss)) = H := by
    apply List.ext_getElem?
    intro i
    by_cases hi : i = id
    · subst hi; rw [List.getElem?_set_self hid, hH]
    · rw [List.getElem?_set_ne (by omega)]
  have hget : ∀ X, (H.set id X)[id]? = some X := fun X => List.getElem?_set_self hid
  have hlv : ∀ n X, leave true H (.view id 1 0 n) (H.set id X) = (.view id 1 0 n, H.set id X) := fun n X => leave_view_old hid (by simp)
  have hlv0 : ∀ n, leave true H (.view id 1 0 n) H = (.view id 1 0 n, H) := fun n => leave_view_old hid rfl
  have hdone : dedup ss = ss → H.set id (.vec 1 (strs (compacted ss))) = H := by
    intro h
    rw [compacted, h]
    simp [hself]
  refine call_wp h41 hp ⟨rfl, by simp [F41], ?_⟩
  by_cases h2 : ss.length < 2
  · have h2' : (ss.length : Int) < 2 := by omega
    have hds : dedup ss = ss := by
      match ss, h2 with
      | [], _ => rfl
      | [a], _ => rfl
    rw [hdone hds]
    simp [F41, h2', hlv0, hds]
  · have h2' : ¬ (ss.length : Int) < 2 := by omega
    simp [F41, h2']
    refine wp_loop (fun n T H' => ∃ k : Nat, n = ss.length - k ∧ 0 < k ∧ k ≤ ss.length ∧ T 3 = .int .i64 k ∧ T 0 = .view id 1 0 ss.length ∧ H = H' ∧ dedup (ss.take k) = ss.take k) ?_ (n := ss.length - 1) ⟨1, ?_⟩
    · rintro n T H' ⟨k, rfl, hk0, hk, h3, h0, rfl, hded⟩
      by_cases hk' : k < ss.length
      · have hw : IntKind.i64.wrap ((k : Int) + 1) = (k : Int) + 1 := wrap64 (by omega) (by omega)
        have hw1 : IntKind.i64.wrap ((k : Int) - 1) = ((k - 1 : Nat) : Int) := by rw [wrap64] <;> omega
        have hg : (strs ss)[k]? = some (.str ss[k]) := by simp [strs, hk']
        have hg1 : (strs ss)[k - 1]? = some (.str (ss[k - 1]'(by omega))) := by
          have : k - 1 < ss.length := by omega
          simp [strs, this]
        have b1 : (((k - 1 : Nat) : Int) < (ss.length : Int)) := by omega
        by_cases he : ss[k] = ss[k - 1]
        · have hkle : k ≤ ss.length := by omega
          simp [h3, h0, hk', hw, hw1, hH, loadV_at hg, loadV_at hg1, b1, he, hkle]
          refine wp_loop (fun n T H' => ∃ (m j : Nat) (es : List Str), n = ss.length - k - j ∧ 0 < j ∧ k + j ≤ ss.length ∧ k ≤ m ∧ m < k + j ∧ es.length = ss.length ∧ T 3 = .int .i64 m ∧ T 5 = .int .i64 j ∧ T 4 = .view id 1 k (ss.length - k) ∧ T 0 = .view id 1 0 ss.length ∧ H.set id (.vec 1 (strs es)) = H' ∧ (∀ p (hp : p < ss.length) (hp2 : p < es.length), m ≤ p → es[p] = ss[p]) ∧ es.take m = dedup (ss.take (k + j))) ?_ (n := ss.length - k - 1) ⟨k, 1, ss, ?_⟩
          · rintro n T H' ⟨m, j, es, rfl, hj0, hj, hkm, hmj, hel, h3, h5, h4, h0, rfl, hes, htk⟩
            have ec : ((ss.length - k : Nat) : Int) = (ss.length : Int) - k := by omega
            by_cases hj' : j < ss.length - k
            · have hjs : k + j < ss.length := by omega
              have hje : k + j < es.length := by omega
              have hj1 : k + (j - 1) < es.length := by omega
              have hwj : IntKind.i64.wrap ((j : Int) + 1) = (j : Int) + 1 := wrap64 (by omega) (by omega)
              have hwj1 : IntKind.i64.wrap ((j : Int) - 1) = ((j - 1 : Nat) : Int) := by rw [wrap64] <;> omega
              have hwm : IntKind.i64.wrap ((m : Int) + 1) = (m : Int) + 1 := wrap64 (by omega) (by omega)
              have hgj : (strs es)[k + j]? = some (.str ss[k + j]) := by
                rw [← hes (k + j) hjs hje (by omega)]
                simp [strs, hje]
              have hgj1 : (strs es)[k + (j - 1)]? = some (.str (ss[k + (j - 1)]'(by omega))) := by
                rw [← hes (k + (j - 1)) (by omega) hj1 (by omega)]
                simp [strs, hj1]
              have hme : m < es.length := by omega
              have hgm : (strs es)[m]? = some (.str es[m]) := by simp [strs, hme]
              have hms : m < ss.length := by omega
              have b2 : ((j - 1 : Nat) : Int) < ((ss.length - k : Nat) : Int) := by omega
              have b3 : (j : Int) < ((ss.length - k : Nat) : Int) := by omega
              have hidx : k + j - 1 = k + (j - 1) := by omega
              have next : ∀ (m1 : Nat) (es1 : List Str), k ≤ m1 → m1 < k + (j + 1) → es1.length = ss.length → (∀ p (hp : p < ss.length) (hp2 : p < es1.length), m1 ≤ p → es1[p] = ss[p]) → es1.take m1 = dedup (ss.take (k + (j + 1))) →
                  ∃ m0, m0 < ss.length - k - j ∧ ∃ (m j' : Nat) (es : List Str), m0 = ss.length - k - j' ∧ 0 < j' ∧ k + j' ≤ ss.length ∧ k ≤ m ∧ m < k + j' ∧ es.length = ss.length ∧ (m1 : Int) = m ∧ (j : Int) + 1 = j' ∧ H.set id (.vec 1 (strs es)) = H.set id (.vec 1 (strs es1)) ∧ (∀ p (hp : p < ss.length) (hp2 : p < es.length), m ≤ p → es[p] = ss[p]) ∧ es.take m = dedup (ss.take (k + j')) :=
                fun m1 es1 a1 a2 a3 a4 a5 => ⟨ss.length - k - (j + 1), by omega, m1, j + 1, es1, rfl, by omega, by omega, a1, a2, a3, rfl, by omega, rfl, a4, a5⟩
              by_cases hne : ss[k + j] = ss[k + (j - 1)]
              · have hds : dedup (ss.take (k + j + 1)) = dedup (ss.take (k + j)) := dedup_same (by omega) hjs (by simpa only [hidx] using hne)
                simp [h3, h5, h4, h0, b2, b3, hwj, hwj1, hget, loadV_at hgj, loadV_at hgj1, hne]
                simpa using next m es hkm (by omega) hel hes (by rw [htk, ← hds]; rfl)
              · have hds : dedup (ss.take (k + j + 1)) = dedup (ss.take (k + j)) ++ [ss[k + j]] := dedup_next (by omega) hjs (by simpa only [hidx] using hne)
                simp [h3, h5, h4, h0, b2, b3, hwj, hwj1, hwm, hget, loadV_at hgj, loadV_at hgj1, hne, hms, storeV_at hgm]
                have hnx := next (m + 1) (es.set m ss[k + j]) (by omega) (by omega) (by simpa using hel) (fun p hp hp2 hmp => by
                  rw [List.getElem_set_ne (by omega)]
                  exact hes p hp (by omega) (by omega)) (by
                  show _ = dedup (ss.take (k + j + 1))
                  rw [hds, ← htk, take_succ_get (by simpa using hme)]
                  simp [List.take_set_of_le])
                rw [← strs_set] at hnx
                simpa using hnx
            · have hjk : j = ss.length - k := by omega
              subst hjk
              have hkj : k + (ss.length - k) = ss.length := by omega
              rw [hkj, List.take_length] at htk
              have hml : m ≤ ss.length := by omega
              have hlen : (dedup ss).length = m := by rw [← htk]; simp; omega
              have hclr := clearSl_at (i := m) (n := ss.length - m) (z := .str []) (hget (.vec 1 (strs es))) (by simp; omega) rfl
              have hfin : (strs es).take m ++ (List.replicate (ss.length - m) (PV.str []) ++ (strs es).drop ss.length) = strs (compacted ss) := by
                rw [List.drop_eq_nil_of_le (by simp; omega), compacted, hlen, ← htk]
                simp [strs]
              simp [h3, h5, h4, h0, hml, hclr, hlv, hlen, hfin]
          · refine ⟨rfl, by omega, by omega, Nat.le_refl _, by omega, rfl, ?_, by simp, by simp, ?_, hself, fun _ _ _ _ => rfl, (dedup_same hk0 hk' he).symm ▸ hded.symm⟩
            · simp [h3]
            · simp [h0]
        · simp [h3, h0, hk', hw, hw1, hH, loadV_at hg, loadV_at hg1, b1, he]
          refine ⟨_, ?_, k + 1, rfl, by omega, by omega, by omega, ?_⟩
          · omega
          · rw [dedup_next hk0 hk' he, hded, take_succ_get hk']
      · have hke : k = ss.length := by omega
        subst hke
        rw [List.take_length] at hded
        rw [hdone hded]
        simp [h3, h0, hlv0, hded]
    · refine ⟨rfl, by omega, by omega, by simp, by simp, rfl, ?_⟩
      match ss, h2 with
      | a :: b :: r, _ => simp [dedup, dd]
      | [a], _ => simp [dedup, dd]
      | [], _ => simp [dedup]
end Go.Flat
