/- The words of a condition: what the program's Format makes of tests, for all tests. -/
import Derived.Test.YtkmlfjnmoieeeaaGreatDoorZRParse
set_option linter.unusedVariables false
set_option linter.unusedSimpArgs false
namespace Go.Flat
def F152 : AFunc := ⟨3, [(.tmp 2)], (.seq (.region [⟨(.some 1), (.box (.tmp 0)), .none, .any⟩, ⟨(.some 2), (.mv (.lit (.int .i64 0))), .none, .any⟩]) (.seq (.region [⟨(.some 2), (.mv (.lit (.int .i64 2))), .none, .any⟩]) .ret)), false, true⟩
def F153 : AFunc := ⟨3, [(.tmp 2)], (.seq (.region [⟨(.some 1), (.box (.tmp 0)), .none, .any⟩, ⟨(.some 2), (.mv (.lit (.int .i64 0))), .none, .any⟩]) (.seq (.region [⟨(.some 2), (.mv (.lit (.int .i64 2))), .none, .any⟩]) .ret)), false, true⟩
def F56 : AFunc := ⟨5, [(.tmp 2)], (.seq (.region [⟨(.some 1), (.box (.tmp 0)), .none, .any⟩, ⟨(.some 2), (.mv (.lit (.int .i64 0))), .none, .any⟩]) (.seq (.seq (.region [⟨(.some 3), (.faddr 0 (.tmp 1)), .none, .any⟩, ⟨(.some 4), (.load 1 false (.tmp 3)), .none, .any⟩]) (.cond (.tmp 4) (.seq (.region [⟨(.some 2), (.mv (.lit (.int .i64 1))), .none, .any⟩]) .ret) .skip)) (.seq (.region [⟨(.some 2), (.mv (.lit (.int .i64 0))), .none, .any⟩]) .ret))), false, true⟩
def F6 : AFunc := ⟨54, [(.tmp 0)], (.seq (.region [⟨(.some 0), (.mv (.lit (.bool false))), .none, .any⟩]) (.seq (.region [⟨(.some 8), (.lit 1 [(.lit (.str [83, 49])), (.lit (.str [114, 99])), (.lit (.str [60, 61])), (.lit (.str [52])), (.lit (.str [97, 110, 100])), (.lit (.str [110, 111, 116])), (.lit (.str [83, 50])), (.lit (.str [102, 97, 105, 108, 101, 100]))]), .none, .any⟩, ⟨(.some 9), (.callF 8 [(.tmp 8)]), .none, .any⟩, ⟨(.some 7), (.mv (.tmp 9)), .none, .any⟩, ⟨(.some 10), (.ext 0 (.tmp 7)), .none, .any⟩, ⟨(.some 11), (.ext 1 (.tmp 7)), .none, .any⟩, ⟨(.some 12), (.ext 2 (.tmp 7)), .none, .any⟩, ⟨(.some 1), (.mv (.tmp 10)), .none, .any⟩, ⟨(.some 2), (.mv (.tmp 11)), .none, .any⟩, ⟨(.some 3), (.mv (.tmp 12)), .none, .any⟩]) (.seq (.region [⟨(.some 13), (.lit 1 [(.lit (.str [83, 49])), (.lit (.str [83, 50]))]), .none, .any⟩, ⟨(.some 4), (.mv (.tmp 13)), .none, .any⟩]) (.seq (.region [⟨(.some 15), (.mv (.tmp 1)), .none, .any⟩, ⟨(.some 16), (.mv (.tmp 4)), .none, .any⟩, ⟨(.some 17), (.build [(.bool false), (.bool false), (.int .i64 0)] [(0, (1, (.lit (.bool true)))), (2, (1, (.lit (.int .i64 8))))]), .none, .any⟩, ⟨(.some 18), (.lit 3 [(.tmp 17)]), .none, .any⟩, ⟨(.some 19), (.callF 20 [(.tmp 15), (.tmp 16), (.tmp 18)]), .none, .any⟩, ⟨(.some 14), (.mv (.tmp 19)), .none, .any⟩, ⟨(.some 20), (.ext 0 (.tmp 14)), .none, .any⟩, ⟨(.some 21), (.ext 1 (.tmp 14)), .none, .any⟩, ⟨(.some 5), (.mv (.tmp 20)), .none, .any⟩, ⟨(.some 6), (.mv (.tmp 21)), .none, .any⟩]) (.seq (.region [⟨(.some 22), (.mv (.tmp 3)), .none, .any⟩, ⟨(.some 23), (.bin .eql (.tmp 22) (.lit (.int .i64 0))), .none, .any⟩, ⟨(.some 24), (.mv (.tmp 23)), .none, .any⟩, ⟨(.some 25), (.mv (.tmp 1)), (.some (24, true)), .any⟩, ⟨(.some 26), (.lenSl (.tmp 25)), (.some (24, true)), .any⟩, ⟨(.some 27), (.bin .eql (.tmp 26) (.lit (.int .i64 4))), (.some (24, true)), .any⟩, ⟨(.some 28), (.pick (.tmp 24) (.tmp 27) (.lit (.bool false))), .none, .any⟩, ⟨(.some 29), (.mv (.tmp 28)), .none, .any⟩, ⟨(.some 30), (.mv (.tmp 1)), (.some (29, true)), .any⟩, ⟨(.some 31), (.mv (.tmp 4)), (.some (29, true)), .any⟩, ⟨(.some 32), (.callF 14 [(.tmp 30), (.tmp 31)]), (.some (29, true)), .any⟩, ⟨(.some 33), (.pick (.tmp 29) (.tmp 32) (.lit (.bool false))), .none, .any⟩, ⟨(.some 34), (.mv (.tmp 33)), .none, .any⟩, ⟨(.some 35), (.mv (.tmp 1)), (.some (34, true)), .any⟩, ⟨(.some 36), (.mv (.tmp 4)), (.some (34, true)), .any⟩, ⟨(.some 37), (.build [(.bool false), (.bool false), (.int .i64 0)] [(0, (1, (.lit (.bool true)))), (2, (1, (.lit (.int .i64 4))))]), (.some (34, true)), .any⟩, ⟨(.some 38), (.lit 3 [(.tmp 37)]), (.some (34, true)), .any⟩, ⟨(.some 39), (.callF 16 [(.tmp 35), (.tmp 36), (.tmp 38)]), (.some (34, true)), .any⟩, ⟨(.some 40), (.pick (.tmp 34) (.tmp 39) (.lit (.bool false))), .none, .any⟩, ⟨(.some 41), (.mv (.tmp 40)), .none, .any⟩, ⟨(.some 42), (.mv (.tmp 5)), (.some (41, true)), .any⟩, ⟨(.some 43), (.un .not (.tmp 42)), (.some (41, true)), .any⟩, ⟨(.some 44), (.pick (.tmp 41) (.tmp 43) (.lit (.bool false))), .none, .any⟩, ⟨(.some 45), (.mv (.tmp 44)), .none, .any⟩, ⟨(.some 46), (.mv (.tmp 6)), (.some (45, true)), .any⟩, ⟨(.some 47), (.pick (.tmp 45) (.tmp 46) (.lit (.bool false))), .none, .any⟩, ⟨(.some 48), (.mv (.tmp 47)), .none, .any⟩, ⟨(.some 49), (.mv (.tmp 1)), (.some (48, true)), .any⟩, ⟨(.some 50), (.callF 12 [(.tmp 49)]), (.some (48, true)), .any⟩, ⟨(.some 51), (.lenSl (.tmp 50)), (.some (48, true)), .any⟩, ⟨(.some 52), (.bin .eql (.tmp 51) (.lit (.int .i64 8))), (.some (48, true)), .any⟩, ⟨(.some 53), (.pick (.tmp 48) (.tmp 52) (.lit (.bool false))), .none, .any⟩, ⟨(.some 0), (.mv (.tmp 53)), .none, .any⟩]) .ret))))), false, true⟩
variable {E : Env} {H H0 : Heap}
structure EnvF (E : Env) : Prop where
  t : EnvT E
  p : ∀ f, np f = true → E.prim f = none
  f10 : E.func 10 = some F10
  f12 : E.func 12 = some F12
  f13 : E.func 13 = some F13
  f27 : E.func 27 = some F27
  f28 : E.func 28 = some F28
  f30 : E.func 30 = some F30
  f31 : E.func 31 = some F31
  f55 : E.func 55 = some F55
  f56 : E.func 56 = some F56
  f57 : E.func 57 = some F57
  f77 : E.func 77 = some F77
  f152 : E.func 152 = some F152
  f153 : E.func 153 = some F153
theorem strength_leaf (hE : EnvF E) (cs : List PV) (h : allCells cs = true) : call E 152 [.agg cs] H = some (.int .i64 2, H) := by
  refine call_wp hE.f152 (hE.p _ (by decide)) ⟨rfl, by simp [F152], ?_⟩
  simp [F152, h]
theorem strength_neg (hE : EnvF E) (cs : List PV) (h : allCells cs = true) : call E 153 [.agg cs] H = some (.int .i64 2, H) := by
  refine call_wp hE.f153 (hE.p _ (by decide)) ⟨rfl, by simp [F153], ?_⟩
  simp [F153, h]
theorem strength_pair (hE : EnvF E) (b : Bool) (x y : PV) (hx : x.isCell = true) (hy : y.isCell = true) : call E 56 [.agg [.bool b, x, y]] H = some (.int .i64 (if b then 1 else 0), H) := by
  refine call_wp hE.f56 (hE.p _ (by decide)) ⟨rfl, by simp [F56], ?_⟩
  cases b <;> simp [F56, hx, hy]
/-- Appending a whole list to a row that is written. -/
theorem row_apps {n k bytes : Nat} (hn : n = H0.length) {L : Heap} {v : PV} {l ys : List PV} (h : Row n L k v l) (hy : uniform k ys = true) (hk : 0 < k) (hb : bytes ≤ 4096) (hl : l.length + ys.length ≤ 4294967296) {t : Tail} :
    ∃ v' L', appendA (H0 ++ L) k bytes true v (.sl t ys) = some (v', H0 ++ L') ∧ Row n L' k v' (l ++ ys) := by
  subst hn
  rcases h with ⟨rfl, rfl⟩ | ⟨j, es, rfl, h2, h3, h4⟩
  · simp at hl
    by_cases h0 : ys = []
    · subst h0
      exact ⟨.sl .exact [], L, by simp [hb, hk], .inl ⟨rfl, rfl⟩⟩
    · refine ⟨.view (H0.length + L.length) k 0 ys.length, L ++ [.vec k ys, .dead], by simp [hl, hb, hk, hy, h0], .inr ⟨L.length, ys, by simp, by simp, Nat.le_refl _, by simp⟩⟩
  · by_cases h0 : ys = []
    · subst h0
      simp at hl
      refine ⟨.view (H0.length + j) k 0 l.length, L, ?_, .inr ⟨j, es, by simp, h2, by simpa using h3, by simpa using h4⟩⟩
      simp [appendA, h2, h3, hb, hk, hl]
    · have h0' : ys.length ≠ 0 := fun e => h0 (List.eq_nil_of_length_eq_zero e)
      refine ⟨.view (H0.length + L.length) k 0 (l.length + ys.length), L.set j .dead ++ [.vec k (l ++ ys), .dead], ?_, .inr ⟨L.length, l ++ ys, by simp, ?_, Nat.le_refl _, List.take_length⟩⟩
      · rw [append_view_sl h0']
        simp [h2, h3, hl, hb, hk, hy, h0, h4]
      · rw [List.getElem?_append_right (by simp)]
        simp
theorem leave_row {L : Heap} {v : PV} {l : List PV} (h : Row H0.length L 1 v l) (hp : plainL l = true) : leave true H0 v (H0 ++ L) = (.sl .shut l, H0) := by
  rcases h with ⟨rfl, rfl⟩ | ⟨j, es, rfl, h2, h3, h4⟩
  · exact leave_sl rfl L
  · have := leave_view (H := H0) (n := l.length) h2 h3 (by rw [h4]; exact hp)
    rw [h4] at this
    exact this
def capP : PV → Option PV
  | .sl .exact xs => some (.int .i64 xs.length)
  | _ => none
@[simp] theorem capP_sl {xs : List PV} : capP (.sl .exact xs) = some (.int .i64 xs.length) := rfl
@[simp] theorem exec_capSl {c : CallT} {T : Temps} {x : Opd} : execA c (.capSl x) T H = keepH H (capP (x.ev T)) := by
  show (pureA T _).map _ = _
  simp only [pureA]
  generalize x.ev T = v
  cases v with
  | sl t xs => cases t <;> rfl
  | _ => rfl
@[simp] theorem exec_appendZ {c : CallT} {T : Temps} {size bytes : Nat} {z : PV} {a n : Opd} : execA c (.appendZ size bytes z a n) T H = appendZA H size bytes z (a.ev T) (n.ev T) := rfl
@[simp] theorem appendZA_sl {size bytes : Nat} {z : PV} {xs : List PV} {k : IntKind} {m : Int} : appendZA H size bytes z (.sl .exact xs) (.int k m) = if 0 ≤ m ∧ xs.length + m.toNat ≤ 4294967296 ∧ bytes ≤ 4096 ∧ 0 < size ∧ z.cells.length = size ∧ uniform size xs then
      (if m.toNat = 0 then some (.sl .exact xs, H)
      else some (.view H.length size 0 (xs.length + m.toNat), H ++ [.vec size (xs ++ List.replicate m.toNat z), .dead]))
    else none := rfl
def GrowR (H : Heap) (r : PV × Heap) : Prop := ∃ v L', r = (v, H ++ L') ∧ Row H.length L' 1 v []
theorem grow_c (hE : EnvF E) (n : Nat) (hn : n ≤ 1000000) : ∃ r, GrowR H r ∧ call E 77 [.sl .exact [], .int .i64 n] H = some r := by
  refine call_wpQ hE.f77 (hE.p _ (by decide)) ⟨rfl, by simp [F77], ?_⟩
  have w0 : IntKind.i64.wrap (n : Int) = n := wrap64 (by omega) (by omega)
  have w1 : IntKind.i64.wrap 0 = 0 := rfl
  by_cases h0 : n = 0
  · subst h0
    simp [F77, w0, w1, leave_false, PV.idsLt, idsLtL]
    exact ⟨.sl .exact [], [], by simp, .inl ⟨rfl, rfl⟩⟩
  · have h1 : (0 : Int) < n := by omega
    have h2 : 0 < n := by omega
    have h3 : n ≤ 4294967296 := by omega
    have h4 : ¬ (H.length + 1 < H.length) := by omega
    simp [F77, w0, w1, h0, h1, h2, h3, leave_false, PV.idsLt, h4]
    exact ⟨.view H.length 1 0 0, [.vec 1 (List.replicate n (.str [])), .dead], rfl, .inr ⟨0, _, rfl, rfl, by simp, by simp⟩⟩
def lists (ls : List (Tail × List Str)) : List PV := ls.map fun p => .sl p.1 (strs p.2)
def sumL : List (Tail × List Str) → Nat
  | [] => 0
  | p :: ls => p.2.length + sumL ls
def catL : List (Tail × List Str) → List Str
  | [] => []
  | p :: ls => p.2 ++ catL ls
theorem catL_take (ls : List (Tail × List Str)) (k : Nat) (hk : k < ls.length) : catL (ls.take (k + 1)) = catL (ls.take k) ++ ls[k].2 := by
  induction ls generalizing k with
  | nil => simp at hk
  | cons p ls ih =>
    cases k with
    | zero => simp [catL]
    | succ k => simp [catL, ih k (by simpa using hk)]
theorem catL_len (ls : List (Tail × List Str)) : (catL ls).length = sumL ls := by
  induction ls with
  | nil => rfl
  | cons p ls ih => simp [catL, sumL, ih]
theorem sumL_take (ls : List (Tail × List Str)) (k : Nat) : sumL (ls.take k) ≤ sumL ls := by
  induction ls generalizing k with
  | nil => simp
  | cons p ls ih =>
    cases k with
    | zero => simp [sumL]
    | succ k => simp only [List.take_succ_cons, sumL]; have := ih k; omega
set_option maxHeartbeats 1000000 in
theorem concat_c (hE : EnvF E) {t : Tail} (ls : List (Tail × List Str)) (hs : sumL ls ≤ 1000000) (hl : ls.length ≤ 1000000) :
    call E 55 [.sl t (lists ls)] H = some (.sl .shut (strs (catL ls)), H) := by
  refine call_wp hE.f55 (hE.p _ (by decide)) ⟨rfl, by simp [F55], ?_⟩
  have hll : (lists ls).length = ls.length := by simp [lists]
  simp [F55, hll]
  refine wp_loop (fun n T H' => ∃ k : Nat, n = ls.length - k ∧ k ≤ ls.length ∧ T 11 = .int .i64 k ∧ T 10 = .int .i64 ls.length ∧ T 9 = .sl t (lists ls) ∧ T 0 = .sl t (lists ls) ∧ T 3 = .int .i64 (sumL (ls.take k)) ∧ H' = H) ?_ (n := ls.length) ⟨0, ?_⟩
  · rintro n T H' ⟨k, rfl, hk, h11, h10, h9, h0, h3, rfl⟩
    have hsl := sumL_take ls k
    by_cases hk' : k < ls.length
    · have hg : (lists ls)[k]? = some (.sl ls[k].1 (strs ls[k].2)) := by simp [lists, hk']
      have hw : IntKind.i64.wrap ((k : Int) + 1) = (k : Int) + 1 := wrap64 (by omega) (by omega)
      have hsk := sumL_take ls (k + 1)
      have hsum : sumL (ls.take (k + 1)) = sumL (ls.take k) + ls[k].2.length := by
        rw [← catL_len, catL_take ls k hk', List.length_append, catL_len]
      have hw2 : IntKind.i64.wrap ((sumL (ls.take k) : Int) + (ls[k].2.length : Nat)) = (sumL (ls.take k) : Int) + (ls[k].2.length : Nat) := wrap64 (by omega) (by omega)
      have hneg : ¬ ((sumL (ls.take k) : Int) + (ls[k].2.length : Nat) < 0) := by omega
      simp [h11, h10, h9, h0, h3, hk', iaSl_at hg, hw, hw2, hneg]
      exact ⟨ls.length - (k + 1), by omega, k + 1, rfl, by omega, by omega, by omega⟩
    · obtain rfl : k = ls.length := by omega
      rw [List.take_length] at h3 hsl
      obtain ⟨_, ⟨v, L1, rfl, hrow⟩, hgr⟩ := grow_c (H := H') hE (sumL ls) hs
      simp [h11, h10, h9, h0, h3, hgr, hll]
      refine wp_loop (fun n T H'' => ∃ (k : Nat) (v : PV) (L : Heap), n = ls.length - k ∧ k ≤ ls.length ∧ T 27 = .int .i64 k ∧ T 26 = .int .i64 ls.length ∧ T 25 = .sl t (lists ls) ∧ T 6 = v ∧ H'' = H' ++ L ∧ Row H'.length L 1 v (strs (catL (ls.take k)))) ?_ (n := ls.length) ⟨0, v, L1, ?_⟩
      · rintro n T H'' ⟨k, v, L, rfl, hk, h27, h26, h25, h6, rfl, hr⟩
        by_cases hk' : k < ls.length
        · have hg : (lists ls)[k]? = some (.sl ls[k].1 (strs ls[k].2)) := by simp [lists, hk']
          have hw : IntKind.i64.wrap ((k : Int) + 1) = (k : Int) + 1 := wrap64 (by omega) (by omega)
          have hsk := sumL_take ls (k + 1)
          rw [← catL_len, catL_take ls k hk', List.length_append] at hsk
          obtain ⟨v', L', ha, hr'⟩ := row_apps (H0 := H') (bytes := 16) (t := ls[k].1) rfl hr (Nm.strs_uniform ls[k].2) (by omega) (by omega) (by simp; omega)
          have ha' : appendA (H' ++ L) 1 16 true v (.sl ls[k].1 (strs ls[k].2)) = some (v', H' ++ L') := ha
          simp [h27, h26, h25, h6, hk', iaSl_at hg, hw, ha']
          exact ⟨ls.length - (k + 1), by omega, k + 1, rfl, by omega, by omega, by
            rw [catL_take ls k hk', strs_app]
            exact hr'⟩
        · obtain rfl : k = ls.length := by omega
          rw [List.take_length] at hr
          simp [h27, h26, h25, h6]
          exact leave_row hr (Nm.strs_plain _)
      · simpa [catL, strs] using hrow
  · simp [sumL]
end Go.Flat
/- The words of a condition, further: what the program's words and Format make of trees and tests. -/
namespace Go.Flat
variable {E : Env} {H H0 : Heap}
def par (s least : Int) (l : List Str) : List Str := if s < least then wOpen :: (l ++ [wClose]) else l
def leafW (t : Test) : List Str :=
  if t.kind = 0 then [t.step, wRc, rels[t.op.toNat]?.getD [], Lib.itoa t.n] else if t.kind = 1 then [t.step, wFailed] else if t.kind = 2 then [t.step, wRan] else [wFailed]
def wordsN : Node → Int → List Str
  | .leaf t _, least => par 2 least (leafW t)
  | .neg a, least => par 2 least (wNot :: wordsN a 2)
  | .pair and a b, least => par (if and then 1 else 0) least (wordsN a (if and then 1 else 0) ++ ((if and then wAnd else wOr) :: wordsN b ((if and then 1 else 0) + 1)))
def Node.sz : Node → Nat
  | .leaf _ _ => 1
  | .neg a => a.sz + 1
  | .pair _ a b => a.sz + b.sz + 1
def okF (t : Test) : Prop := t.kind = 0 → (0 ≤ t.op ∧ t.op ≤ 5) ∧ 0 ≤ t.n ∧ t.n ≤ 4095
theorem par_len (s least : Int) (l : List Str) : l.length ≤ (par s least l).length ∧ (par s least l).length ≤ l.length + 2 := by
  unfold par
  split
  · simp
    omega
  · simp
theorem leafW_len (t : Test) : 1 ≤ (leafW t).length ∧ (leafW t).length ≤ 4 := by
  unfold leafW
  split
  · simp
  · split
    · simp
    · split <;> simp
theorem wordsN_len : ∀ (x : Node) (least : Int), 1 ≤ (wordsN x least).length ∧ (wordsN x least).length ≤ 6 * x.sz
  | .leaf t i, least => by
    have h1 := leafW_len t
    have h2 := par_len 2 least (leafW t)
    simp only [wordsN, Node.sz]
    omega
  | .neg a, least => by
    have h1 := wordsN_len a 2
    have h2 := par_len 2 least (wNot :: wordsN a 2)
    simp only [List.length_cons] at h2
    simp only [wordsN, Node.sz]
    omega
  | .pair and a b, least => by
    have h1 := wordsN_len a (if and then 1 else 0)
    have h2 := wordsN_len b ((if and then 1 else 0) + 1)
    have h3 := par_len (if and then 1 else 0) least (wordsN a (if and then 1 else 0) ++ ((if and then wAnd else wOr) :: wordsN b ((if and then 1 else 0) + 1)))
    simp only [List.length_append, List.length_cons] at h3
    simp only [wordsN, Node.sz]
    omega
def invA (c : CallT) (args : List PV) (H : Heap) (tab : List (TypeId × FuncId)) : PV → Option (PV × Heap)
  | .iface t v => match tab.find? (·.1 == t) with
      | some (_, f) => c f (v :: args) H
      | none => none
  | _ => none
@[simp] theorem exec_invoke {c : CallT} {T : Temps} {tab : List (TypeId × FuncId)} {x : Opd} {args : List Opd} : execA c (.invoke tab x args) T H = invA c (evs T args) H tab (x.ev T) := by
  simp only [execA]
  generalize x.ev T = v
  cases v <;> rfl
@[simp] theorem invA_hit {c : CallT} {args : List PV} {tab : List (TypeId × FuncId)} {t u : TypeId} {f : FuncId} {v : PV} : invA c args H ((u, f) :: tab) (.iface t v) = if u = t then c f (v :: args) H else invA c args H tab (.iface t v) := by
  by_cases h : u = t
  · simp [invA, List.find?, h]
  · have : (u == t) = false := by simpa using h
    simp [invA, List.find?, h, this]
theorem cat3 (a b d : Tail × List Str) : catL [a, b, d] = a.2 ++ (b.2 ++ d.2) := by simp [catL]
theorem sum3 (a b d : Tail × List Str) : sumL [a, b, d] = a.2.length + (b.2.length + d.2.length) := by simp [sumL]
theorem concat3 (hE : EnvF E) {t t1 t2 t3 : Tail} (a b d : List Str) (h : a.length + (b.length + d.length) ≤ 1000000) :
    call E 55 [.sl t [.sl t1 (strs a), .sl t2 (strs b), .sl t3 (strs d)]] H = some (.sl .shut (strs (a ++ (b ++ d))), H) := by
  have := concat_c (H := H) hE (t := t) [(t1, a), (t2, b), (t3, d)] (by rw [sum3]; exact h) (by simp)
  rw [cat3] at this
  exact this
theorem leave_at_strs {τ : Tail} {xs : List PV} {l : List Str} (h : xs = strs l) (M : Heap) : leave true H (.sl τ xs) (H ++ M) = (.sl .shut (List.map PV.str l), H) := by
  subst h
  exact leave_sl (Nm.strs_plain l) M
set_option maxHeartbeats 4000000 in
theorem words_c (hE : EnvF E) : ∀ (x : Node) (H : Heap) (least : Int), x.All okF → x.sz ≤ 100000 → call E 27 [x.enc, .int .i64 least] H = some (.sl .shut (strs (wordsN x least)), H)
  | .leaf t i, H, least, hok, hsz => by
    refine call_wp hE.f27 (hE.p _ (by decide)) ⟨rfl, by simp [F27], ?_⟩
    have hs := fun H => strength_leaf (H := H) hE [.int .i64 t.kind, .str t.step, .int .i64 t.op, .int .i64 t.n, .int .i64 i] rfl
    obtain ⟨kd, s, o, n⟩ := t
    simp only at hs
    by_cases k0 : kd = 0
    · subst k0
      obtain ⟨⟨o1, o2⟩, n1, n2⟩ := hok rfl
      simp only at o1 o2 n1 n2
      have hit := fun H => hE.t.q.e.itoa n H (by omega) (by omega)
      have hrl := fun H => rels_c (H := H) hE.t.q.e
      obtain ⟨j, rfl⟩ : ∃ j : Nat, o = j := ⟨o.toNat, by omega⟩
      have hj : j < rels.length := by simp [rels]; omega
      have hgr : (strs rels)[j]? = some (.str rels[j]) := by simp [strs, hj]
      have hia := iaSl_at (t := .shut) (size := 1) hgr rfl
      by_cases hl : (2 : Int) < least
      · have hc := fun H => concat3 (H := H) (t := .exact) (t1 := .exact) (t2 := .exact) (t3 := .exact) hE [wOpen] [s, wRc, rels[j], Lib.itoa n] [wClose] (by simp)
        simp [strs, wOpen, wClose, wRc] at hc
        simp [F27, Node.enc, hs, hit, hrl, hia, hl, uniform, hc]
        rw [show strs (wordsN (.leaf ⟨0, s, j, n⟩ i) least) = [.str [40], .str s, .str [114, 99], .str rels[j], .str (Lib.itoa n), .str [41]] by simp [wordsN, par, leafW, strs, hl, wOpen, wClose, wRc, hj]]
        exact leave_sl rfl _
      · simp [F27, Node.enc, hs, hit, hrl, hia, hl, uniform]
        rw [show strs (wordsN (.leaf ⟨0, s, j, n⟩ i) least) = [.str s, .str [114, 99], .str rels[j], .str (Lib.itoa n)] by simp [wordsN, par, leafW, strs, hl, wRc, hj]]
        exact leave_sl rfl _
    · by_cases k1 : kd = 1
      · subst k1
        by_cases hl : (2 : Int) < least
        · have hc := fun H => concat3 (H := H) (t := .exact) (t1 := .exact) (t2 := .exact) (t3 := .exact) hE [wOpen] [s, wFailed] [wClose] (by simp)
          simp [strs, wOpen, wClose, wFailed] at hc
          simp [F27, Node.enc, hs, hl, uniform, hc]
          rw [show strs (wordsN (.leaf ⟨1, s, o, n⟩ i) least) = [.str [40], .str s, .str [102, 97, 105, 108, 101, 100], .str [41]] by simp [wordsN, par, leafW, strs, hl, wOpen, wClose, wFailed]]
          exact leave_sl rfl _
        · simp [F27, Node.enc, hs, hl, uniform]
          rw [show strs (wordsN (.leaf ⟨1, s, o, n⟩ i) least) = [.str s, .str [102, 97, 105, 108, 101, 100]] by simp [wordsN, par, leafW, strs, hl, wFailed]]
          exact leave_sl rfl _
      · by_cases k2 : kd = 2
        · subst k2
          by_cases hl : (2 : Int) < least
          · have hc := fun H => concat3 (H := H) (t := .exact) (t1 := .exact) (t2 := .exact) (t3 := .exact) hE [wOpen] [s, wRan] [wClose] (by simp)
            simp [strs, wOpen, wClose, wRan] at hc
            simp [F27, Node.enc, hs, hl, uniform, hc]
            rw [show strs (wordsN (.leaf ⟨2, s, o, n⟩ i) least) = [.str [40], .str s, .str [114, 97, 110], .str [41]] by simp [wordsN, par, leafW, strs, hl, wOpen, wClose, wRan]]
            exact leave_sl rfl _
          · simp [F27, Node.enc, hs, hl, uniform]
            rw [show strs (wordsN (.leaf ⟨2, s, o, n⟩ i) least) = [.str s, .str [114, 97, 110]] by simp [wordsN, par, leafW, strs, hl, wRan]]
            exact leave_sl rfl _
        · by_cases hl : (2 : Int) < least
          · have hc := fun H => concat3 (H := H) (t := .exact) (t1 := .exact) (t2 := .exact) (t3 := .exact) hE [wOpen] [wFailed] [wClose] (by simp)
            simp [strs, wOpen, wClose, wFailed] at hc
            simp [F27, Node.enc, hs, hl, uniform, hc, k0, k1, k2]
            rw [show strs (wordsN (.leaf ⟨kd, s, o, n⟩ i) least) = [.str [40], .str [102, 97, 105, 108, 101, 100], .str [41]] by simp [wordsN, par, leafW, strs, hl, wOpen, wClose, wFailed, k0, k1, k2]]
            exact leave_sl rfl _
          · simp [F27, Node.enc, hs, hl, uniform, k0, k1, k2]
            rw [show strs (wordsN (.leaf ⟨kd, s, o, n⟩ i) least) = [.str [102, 97, 105, 108, 101, 100]] by simp [wordsN, par, leafW, strs, hl, wFailed, k0, k1, k2]]
            exact leave_sl rfl _
  | .neg a, H, least, hok, hsz => by
    refine call_wp hE.f27 (hE.p _ (by decide)) ⟨rfl, by simp [F27], ?_⟩
    have hs := fun H => strength_neg (H := H) hE [a.enc] (by simp)
    have ih := fun H => words_c hE a H 2 hok (by simp [Node.sz] at hsz; omega)
    have hlen := wordsN_len a 2
    simp only [Node.sz] at hsz
    have hu := Nm.strs_uniform (wordsN a 2)
    have hu2 : uniform 1 (strs (wordsN a 2)) = true := hu
    have hb1 : 1 + (wordsN a 2).length ≤ 4294967296 := by omega
    have hb2 : wordsN a 2 ≠ [] := by intro e; rw [e] at hlen; simp at hlen
    by_cases hl : (2 : Int) < least
    · have hc := fun H M => concat3 (H := H) (t := .exact) (t1 := .exact) (t2 := .tok M) (t3 := .exact) hE [wOpen] (wNot :: wordsN a 2) [wClose] (by simp; omega)
      simp [strs, wOpen, wClose, wNot] at hc
      simp only [strs] at hu2 ih
      simp [F27, Node.enc, hs, ih, hl, uniform, strs, hu2, hb1, hb2, hc]
      exact leave_at_strs (by simp [wordsN, par, strs, hl, wOpen, wClose, wNot]) _
    · simp only [strs] at hu2 ih
      simp [F27, Node.enc, hs, ih, hl, uniform, strs, hu2, hb1, hb2]
      exact leave_at_strs (by simp [wordsN, par, strs, hl, wNot]) _
  | .pair true a b, H, least, hok, hsz => by
    refine call_wp hE.f27 (hE.p _ (by decide)) ⟨rfl, by simp [F27], ?_⟩
    have hs := fun H => strength_pair (H := H) hE true a.enc b.enc (by simp) (by simp)
    simp only [Node.sz] at hsz
    have ia := fun H => words_c hE a H 1 hok.1 (by omega)
    have ib := fun H => words_c hE b H 2 hok.2 (by omega)
    have la := wordsN_len a 1
    have lb := wordsN_len b 2
    have hw : IntKind.i64.wrap 2 = 2 := rfl
    have hc1 := fun H => concat3 (H := H) (t := .exact) (t1 := .shut) (t2 := .exact) (t3 := .shut) hE (wordsN a 1) [wAnd] (wordsN b 2) (by simp; omega)
    have hc2 := fun H => concat3 (H := H) (t := .exact) (t1 := .exact) (t2 := .shut) (t3 := .exact) hE [wOpen] (wordsN a 1 ++ ([wAnd] ++ wordsN b 2)) [wClose] (by simp; omega)
    simp only [Bool.false_eq_true, if_false, if_true] at hs
    simp [strs, wOpen, wClose, wAnd] at hc1 hc2
    simp only [strs] at ia ib
    by_cases hl : (1 : Int) < least
    · simp [F27, Node.enc, hs, ia, ib, hl, uniform, hw, hc1, hc2]
      exact leave_at_strs (by simp [wordsN, par, strs, hl, wOpen, wClose, wAnd]) _
    · simp [F27, Node.enc, hs, ia, ib, hl, uniform, hw, hc1, hc2]
      exact leave_at_strs (by simp [wordsN, par, strs, hl, wAnd]) _
  | .pair false a b, H, least, hok, hsz => by
    refine call_wp hE.f27 (hE.p _ (by decide)) ⟨rfl, by simp [F27], ?_⟩
    have hs := fun H => strength_pair (H := H) hE false a.enc b.enc (by simp) (by simp)
    simp only [Node.sz] at hsz
    have ia := fun H => words_c hE a H 0 hok.1 (by omega)
    have ib := fun H => words_c hE b H 1 hok.2 (by omega)
    have la := wordsN_len a 0
    have lb := wordsN_len b 1
    have hw : IntKind.i64.wrap 1 = 1 := rfl
    have hc1 := fun H => concat3 (H := H) (t := .exact) (t1 := .shut) (t2 := .exact) (t3 := .shut) hE (wordsN a 0) [wOr] (wordsN b 1) (by simp; omega)
    have hc2 := fun H => concat3 (H := H) (t := .exact) (t1 := .exact) (t2 := .shut) (t3 := .exact) hE [wOpen] (wordsN a 0 ++ ([wOr] ++ wordsN b 1)) [wClose] (by simp; omega)
    simp only [Bool.false_eq_true, if_false, if_true] at hs
    simp [strs, wOpen, wClose, wOr] at hc1 hc2
    simp only [strs] at ia ib
    by_cases hl : (0 : Int) < least
    · simp [F27, Node.enc, hs, ia, ib, hl, uniform, hw, hc1, hc2]
      exact leave_at_strs (by simp [wordsN, par, strs, hl, wOpen, wClose, wOr]) _
    · simp [F27, Node.enc, hs, ia, ib, hl, uniform, hw, hc1, hc2]
      exact leave_at_strs (by simp [wordsN, par, strs, hl, wOr]) _
end Go.Flat
