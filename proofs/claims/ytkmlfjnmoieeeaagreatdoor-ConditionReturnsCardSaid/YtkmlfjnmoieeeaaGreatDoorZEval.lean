/- The reference's Eval: a stack of values; what it comes to, for every input. -/
import Derived.Test.YtkmlfjnmoieeeaaGreatDoorZRef2
set_option linter.unusedVariables false
set_option linter.unusedSimpArgs false
namespace Go.Flat
variable {E : Env} {H : Heap} {α : Type}
/-! ### A row as a stack, its top last -/
def rowOf (e : α → PV) (st : List α) : List PV := st.reverse.map e
@[simp] theorem rowOf_length (e : α → PV) (st : List α) : (rowOf e st).length = st.length := by simp [rowOf]
def StkAt (z : Nat) (e : α → PV) (H : Heap) (v : PV) (H' : Heap) (st : List α) : Prop :=
  ∃ L, H' = H ++ L ∧ match st with
    | [] => v = .sl .exact []
    | st => ∃ j, v = .view (H.length + j) z 0 st.length ∧ L[j]? = some (.vec z (rowOf e st))
theorem stk_new {z : Nat} {e : α → PV} {L : Heap} {n : Nat} {x : α} {p : PV} (hp : p = e x) (hn : n = L.length) : StkAt z e H (.view (H.length + n) z 0 1) (H ++ (L ++ [.vec z [p], .dead])) [x] := by
  subst hp
  subst hn
  exact ⟨_, rfl, L.length, rfl, by simp [rowOf]⟩
theorem stk_push {z : Nat} {e : α → PV} {L : Heap} {j n m k : Nat} {st : List α} {x : α} {p : PV} (hk : k = L.length) (hp : p = e x) (hn : n = (x :: st).length) (hm : m = st.length) :
    StkAt z e H (.view (H.length + k) z 0 n) (H ++ (L.set j .dead ++ [.vec z ((rowOf e st).take m ++ [p]), .dead])) (x :: st) := by
  subst hp
  subst hn
  subst hm
  subst hk
  refine ⟨_, rfl, L.length, rfl, ?_⟩
  rw [List.getElem?_append_right (by simp)]
  have e : (rowOf e st).take st.length = rowOf e st := List.take_of_length_le (by simp)
  rw [e]
  simp [rowOf]
theorem stk_pair {z : Nat} {e : α → PV} {L : Heap} {j n m k : Nat} {a b x : α} {r : List α} {p : PV} (hk : k = L.length) (hp : p = e x) (hn : n = (x :: r).length) (hm : m = r.length) :
    StkAt z e H (.view (H.length + k) z 0 n) (H ++ (L.set j .dead ++ [.vec z ((rowOf e (b :: a :: r)).take m ++ [p]), .dead])) (x :: r) := by
  subst hp
  subst hn
  subst hm
  subst hk
  refine ⟨_, rfl, L.length, rfl, ?_⟩
  rw [List.getElem?_append_right (by simp)]
  simp [rowOf]
theorem stk_neg {z : Nat} {e : α → PV} {L : Heap} {j n m : Nat} {a x : α} {r : List α} {p : PV} (hj : L[j]? = some (.vec z (rowOf e (a :: r)))) (hp : p = e x) (hn : n = (a :: r).length) (hm : m = r.length) :
    StkAt z e H (.view (H.length + j) z 0 n) (H ++ L.set j (.vec z ((rowOf e (a :: r)).set m p))) (x :: r) := by
  subst hp
  subst hn
  subst hm
  refine ⟨_, rfl, j, rfl, ?_⟩
  obtain ⟨hl, _⟩ := List.getElem?_eq_some_iff.1 hj
  rw [List.getElem?_set_self hl]
  simp [rowOf]
theorem stk_more {z : Nat} {e : α → PV} {v : PV} {L M : Heap} {st : List α} (h : StkAt z e H v (H ++ L) st) : StkAt z e H v (H ++ (L ++ M)) st := by
  obtain ⟨L', hL, h⟩ := h
  have hL' : L = L' := List.append_cancel_left hL
  subst hL'
  refine ⟨_, rfl, ?_⟩
  cases st with
  | nil => exact h
  | cons a r =>
    obtain ⟨j, h1, h2⟩ := h
    exact ⟨j, h1, get_more h2 M⟩
set_option maxHeartbeats 4000000 in
theorem eval17_c (hE : EnvR E) {t u v : Tail} (l : List Test) (hl : l.length ≤ 9223372036854775800) (steps : List Str) (hs : steps.length ≤ 9223372036854775807) (es : List End) (he : es.length ≤ 9223372036854775807) :
    call E 17 [.sl t (tests l), .sl u (strs steps), .sl v (ends es)] H = some (.bool (evalS l steps es), H) := by
  refine call_wp hE.f17 (hE.p _ (by decide)) ⟨rfl, by simp [F17], ?_⟩
  cases hon : onS l steps with
  | none => simp [F17, valid15_c hE l hl steps hs, hon, evalS]
  | some x =>
    have hval : evalS l steps es = x.val fun t _ => leafVal steps (es.take steps.length) t := by simp [evalS, hon]
    by_cases h0 : l = []
    · subst h0
      have hx : x = .neg (.leaf ⟨3, [], 0, 0⟩ 0) := by simpa [onS] using hon.symm
      subst hx
      have hv := fun H => value_c (H := H) (u := u) (v := v) hE ⟨3, [], 0, 0⟩ steps hs es he (.inl rfl)
      unfold Test.enc at hv
      have hvl : ∀ H, call E 15 [.sl t [], .sl u (strs steps)] H = some (.bool true, H) := by
        intro H
        have h := valid15_c (H := H) (t := t) (u := u) hE [] hl steps hs
        rw [hon] at h
        exact h
      simp [F17, hvl, tests, hv, hval, Node.val]
    · have hlen : ¬ ((l.length : Int) = 0) := by
        have : l.length ≠ 0 := fun e => h0 (List.eq_nil_of_length_eq_zero e)
        omega
      have htr : tree (inS steps) l = some x := by simpa [onS, h0] using hon
      have h32 : l.length ≤ 32 := by
        unfold tree at htr
        split at htr
        · simp at htr
        · omega
      have hrun0 : trun (inS steps) 0 l [] = some [x] := by
        unfold tree at htr
        rw [if_neg (by omega)] at htr
        match hR : trun (inS steps) 0 l [], htr with
        | some [y], htr => simpa [single] using htr
        | some (a :: b :: r), htr => simp [single] at htr
      simp [F17, valid15_c hE l hl steps hs, hon, h0]
      have hz : l.length ≤ 9223372036854775807 := by omega
      generalize hf : (fun (t : Test) (_ : Int) => leafVal steps (es.take steps.length) t) = f at hval
      refine wp_loop (fun n T H' => ∃ k : Nat, n = l.length - k ∧ k ≤ l.length ∧ T 8 = .int .i64 k ∧ T 0 = .sl t (tests l) ∧ T 1 = .sl u (strs steps) ∧ T 2 = .sl v (ends es) ∧ ∃ st : List Node, StkAt 1 (fun x => .bool (x.val f)) H (T 7) H' st ∧ st.length ≤ k ∧ trun (inS steps) k (l.drop k) st = some [x]) ?_ (n := l.length) ⟨0, ?_⟩
      · rintro n T H' ⟨k, rfl, hk, h8, h0, h1, h2, st, hst, hsk, hrun⟩
        by_cases hk' : k < l.length
        · have hg : (tests l)[k]? = some (l[k].enc) := by simp [tests, hk']
          have hw : IntKind.i64.wrap ((k : Int) + 1) = (k : Int) + 1 := wrap64 (by omega) (by omega)
          have hd : l.drop k = l[k] :: l.drop (k + 1) := by rw [List.drop_eq_getElem_cons hk']
          rw [hd, trun] at hrun
          have hvc := fun H => value_c (H := H) (u := u) (v := v) hE l[k] steps hs es he
          generalize l[k] = te at hg hrun hvc
          have next : ∀ (w : PV) (H' : Heap) (st' : List Node), (tstep (inS steps) k te st) = some st' → StkAt 1 (fun x => .bool (x.val f)) H w H' st' → st'.length ≤ k + 1 → ∃ m, m < l.length - k ∧ ∃ k1 : Nat, m = l.length - k1 ∧ k1 ≤ l.length ∧ (k : Int) + 1 = k1 ∧ ∃ st : List Node, StkAt 1 (fun x => .bool (x.val f)) H w H' st ∧ st.length ≤ k1 ∧ trun (inS steps) k1 (l.drop k1) st = some [x] := by
            intro w H' st' h1 h2 h3
            rw [h1] at hrun
            exact ⟨l.length - (k + 1), by omega, k + 1, rfl, by omega, by omega, st', h2, h3, by simpa using hrun⟩
          cases hstep : tstep (inS steps) k te st with
          | none => rw [hstep] at hrun; simp at hrun
          | some st' =>
            have hn := fun w H' => next w H' st' hstep
            clear next hrun
            unfold tstep at hstep
            obtain ⟨kd, s, o, m⟩ := te
            simp only at hstep
            by_cases h4 : kd = 4 ∧ Test.bare ⟨kd, s, o, m⟩ = true
            · rw [if_pos h4] at hstep
              obtain ⟨rfl, hb⟩ := h4
              match st, hst, hsk, hstep with
              | a :: r, hst, hsk, hstep =>
                simp at hstep
                subst hstep
                obtain ⟨L, rfl, j, h7, hj⟩ := hst
                have hj' := get_more hj
                have hgl : (rowOf (fun x : Node => PV.bool (x.val f)) (a :: r))[r.length]? = some (.bool (a.val f)) := by simp [rowOf]
                have hn' := hn (.view (H.length + j) 1 0 (r.length + 1)) (H ++ L.set j (.vec 1 ((rowOf (fun x : Node => PV.bool (x.val f)) (a :: r)).set r.length (.bool (!a.val f))))) (stk_neg hj rfl rfl rfl) (by simp at hsk ⊢; omega)
                have w1 : IntKind.i64.wrap (r.length : Int) = (r.length : Int) := by rw [wrap64] <;> (simp at hsk; omega)
                have b1 : (r.length : Int) < (r.length : Int) + 1 := by omega
                simp [h8, h0, h1, h2, hk', iaSl_at hg, hw, h7, hj, hj', loadV_at hgl, storeV_at hgl, w1, b1]
                simpa using hn'
            · rw [if_neg h4] at hstep
              by_cases h56 : (kd = 5 ∨ kd = 6) ∧ Test.bare ⟨kd, s, o, m⟩ = true
              · rw [if_pos h56] at hstep
                match st, hst, hsk, hstep with
                | [], hst, hsk, hstep => simp at hstep
                | [a], hst, hsk, hstep => simp at hstep
                | b :: a :: r, hst, hsk, hstep =>
                  simp at hstep
                  subst hstep
                  obtain ⟨L, rfl, j, h7, hj⟩ := hst
                  have hj' := get_more hj
                  have hr : r.length + 1 + 1 ≤ 32 := by simp at hsk; omega
                  have hr2 : r.length + 1 ≤ 4294967296 := by omega
                  have hgb : (rowOf (fun x : Node => PV.bool (x.val f)) (b :: a :: r))[r.length + 1]? = some (.bool (b.val f)) := by simp [rowOf]
                  have hga : (rowOf (fun x : Node => PV.bool (x.val f)) (b :: a :: r))[r.length]? = some (.bool (a.val f)) := by simp [rowOf]
                  have w1 : IntKind.i64.wrap ((r.length : Int) + 1) = (r.length : Int) + 1 := by rw [wrap64] <;> omega
                  have w2 : IntKind.i64.wrap ((r.length : Int) + 1 + 1 - 2) = (r.length : Int) := by rw [wrap64] <;> omega
                  have b3 : (0 : Int) ≤ (r.length : Int) + 1 := by omega
                  have b4 : ((r.length : Int) + 1).toNat = r.length + 1 := by omega
                  have b5 : (r.length : Int) < (r.length : Int) + 1 + 1 := by omega
                  have b6 : (r.length : Int) < (r.length : Int) + 1 := by omega
                  have hp3 : r.length ≤ r.length + 1 + 1 := by omega
                  have hn' := fun c : Bool => fun hc : c = (Node.pair (decide (kd = 5)) a b).val f => hn (.view (H.length + L.length) 1 0 (r.length + 1)) (H ++ (L.set j .dead ++ [.vec 1 ((rowOf (fun x : Node => PV.bool (x.val f)) (b :: a :: r)).take r.length ++ [.bool c]), .dead])) (stk_pair rfl (by rw [hc]) rfl rfl) (by simp at hsk ⊢; omega)
                  rcases h56.1 with rfl | rfl
                  · cases hva : a.val f
                    · simp only [hva] at hga
                      have hn1 := hn' false (by simp [Node.val, hva])
                      simp [h8, h0, h1, h2, hk', iaSl_at hg, hw, h7, hj, hj', loadV_at hga, loadV_at hgb, w1, w2, b3, b4, b5, b6, hp3, hr2]
                      simpa using hn1
                    · simp only [hva] at hga
                      have hn1 := hn' (b.val f) (by simp [Node.val, hva])
                      simp [h8, h0, h1, h2, hk', iaSl_at hg, hw, h7, hj, hj', loadV_at hga, loadV_at hgb, w1, w2, b3, b4, b5, b6, hp3, hr2]
                      simpa using hn1
                  · cases hva : a.val f
                    · simp only [hva] at hga
                      have hn1 := hn' (b.val f) (by simp [Node.val, hva])
                      simp [h8, h0, h1, h2, hk', iaSl_at hg, hw, h7, hj, hj', loadV_at hga, loadV_at hgb, w1, w2, b3, b4, b5, b6, hp3, hr2]
                      simpa using hn1
                    · simp only [hva] at hga
                      have hn1 := hn' true (by simp [Node.val, hva])
                      simp [h8, h0, h1, h2, hk', iaSl_at hg, hw, h7, hj, hj', loadV_at hga, loadV_at hgb, w1, w2, b3, b4, b5, b6, hp3, hr2]
                      simpa using hn1
              · rw [if_neg h56] at hstep
                split at hstep
                case isFalse => simp at hstep
                case isTrue hlf =>
                simp at hstep
                subst hstep
                have hok := isLeaf_ok hlf
                have hvc' := fun H => hvc H hok.1
                unfold Test.enc at hvc'
                have hkd : kd ≠ 4 ∧ kd ≠ 5 ∧ kd ≠ 6 := by
                  simp [isLeaf] at hlf
                  refine ⟨?_, ?_, ?_⟩ <;> (rintro rfl; simp at hlf)
                obtain ⟨n4, n5, n6⟩ := hkd
                have hfv : f ⟨kd, s, o, m⟩ k = leafVal steps (es.take steps.length) ⟨kd, s, o, m⟩ := by rw [← hf]
                rw [← hfv] at hvc'
                match st, hst, hsk, hn with
                | [], hst, hsk, hn =>
                  obtain ⟨L, rfl, h7⟩ := hst
                  have hn' := hn (.view (H.length + L.length) 1 0 1) (H ++ (L ++ [.vec 1 [.bool (f ⟨kd, s, o, m⟩ k)], .dead])) (stk_new rfl rfl) (by simp)
                  simp [h8, h0, h1, h2, hk', iaSl_at hg, hw, h7, n4, n5, n6, hvc']
                  simpa using hn'
                | a :: r, hst, hsk, hn =>
                  obtain ⟨L, rfl, j, h7, hj⟩ := hst
                  have hj' := get_more hj
                  have hr2 : r.length + 1 + 1 ≤ 4294967296 := by simp at hsk; omega
                  have hn' := hn (.view (H.length + L.length) 1 0 (r.length + 1 + 1)) (H ++ (L.set j .dead ++ [.vec 1 ((rowOf (fun x : Node => PV.bool (x.val f)) (a :: r)).take (r.length + 1) ++ [.bool (f ⟨kd, s, o, m⟩ k)]), .dead])) (stk_push (st := a :: r) (x := Node.leaf ⟨kd, s, o, m⟩ k) rfl rfl rfl rfl) (by simp at hsk ⊢; omega)
                  simp [h8, h0, h1, h2, hk', iaSl_at hg, hw, h7, hj, hj', n4, n5, n6, hvc', hr2]
                  simpa using hn'
        · have hke : k = l.length := by omega
          subst hke
          simp only [List.drop_length, trun] at hrun
          simp at hrun
          subst hrun
          obtain ⟨L, rfl, j, h7, hj⟩ := hst
          have hgl : (rowOf (fun x : Node => PV.bool (x.val f)) [x])[0]? = some (.bool (x.val f)) := by simp [rowOf]
          simp [h8, h0, h7, hj, loadV_at hgl, hval]
      · refine ⟨by simp, Nat.zero_le _, by simp, by simp, by simp, by simp, [], ⟨[], by simp, by simp⟩, by simp, by simpa using hrun0⟩
end Go.Flat
