/- A machine over plain values. Part S: a step of a range over a map. -/
import Derived.Test.YtkmlfjnmoieeeaaGreatDoorFlatR
set_option linter.unusedVariables false
set_option linter.unusedSimpArgs false
namespace Go.Flat
variable {P : Program} {mu : Bool} {C : Cx} {H : Heap} {w : World} {n : Nat} {T : Temps} {a : Act}

theorem Sim.drew [Globs] (s : Sim C H w) : Sim C H w.drew :=
  ⟨fun id o ho => (s.obj id o ho).keep (Evo.refl C w).drew ⟨fun b o h => ⟨h, rfl, rfl⟩, fun b x _ h _ => h, rfl⟩, s.lt, s.new_at, s.new_tk, s.new_own, s.inv.mono (Evo.refl C w).drew⟩

theorem filter_rel {seen : List Nat} : ∀ {es : List (PV × PV × Nat)} {en : List MapEntry}, es.length = en.length → (∀ (j : Nat) e f, es[j]? = some e → en[j]? = some f → Rep C w e.1 f.key ∧ Rep C w e.2.1 f.val ∧ f.born = e.2.2) →
    (es.filter fun e => !seen.contains e.2.2).length = (en.filter fun e => !seen.contains e.born).length ∧ ∀ (j : Nat) e f, (es.filter fun e => !seen.contains e.2.2)[j]? = some e → (en.filter fun e => !seen.contains e.born)[j]? = some f → Rep C w e.1 f.key ∧ Rep C w e.2.1 f.val ∧ f.born = e.2.2
  | [], [], _, _ => by simp
  | [], f :: en, hl, _ => by simp at hl
  | e :: es, [], hl, _ => by simp at hl
  | e :: es, f :: en, hl, hr => by
    obtain ⟨r1, r2, r3⟩ := hr 0 e f (by simp) (by simp)
    obtain ⟨i1, i2⟩ := filter_rel (seen := seen) (es := es) (en := en) (by simpa using hl) (fun j a b ha hb => hr (j + 1) a b (by simpa using ha) (by simpa using hb))
    rw [List.filter_cons, List.filter_cons, r3]
    split
    · refine ⟨by simp only [List.length_cons, i1], fun j a b ha hb => ?_⟩
      cases j with
      | zero => simp at ha hb; subst ha; subst hb; exact ⟨r1, r2, r3⟩
      | succ j => exact i2 j a b (by simpa using ha) (by simpa using hb)
    · exact ⟨i1, i2⟩

theorem next_ok [Globs] (s : Sim C H w) {it : PV} {v : Value} (hv : Rep C w it v) {l : List (PV × Heap)} (h : nextA H it = some l) (ty : TypeId) : ∃ x ∈ l, Makes P C w (Instr.next v false ty) x.1 x.2 := by
  cases it <;> try (simp [nextA] at h; done)
  rename_i id off
  cases off with
  | succ k => simp [nextA] at h
  | zero =>
    have one : Rep C w (.tup [.bool false]) (.tuple #[.bool false]) := .tup rfl (fun i p v hp hv => by
      cases i with
      | zero => simp at hp hv; subst hp; subst hv; exact .bool _
      | succ i => simp at hp)
    simp only [nextA] at h
    split at h
    case h_3 => simp at h
    · rename_i since seen last hI
      obtain ⟨b, m', rfl, h1, h2, h3, hit⟩ := iter_at s hI hv
      have hm : m' = none := hit
      subst hm
      injection h with h
      subst h
      have hnc : ∀ c t f, Obj.mapIter none since seen.toArray last ≠ .cells c t f := by simp
      refine ⟨_, List.mem_singleton.2 rfl, .tuple #[.bool false], w, C, ?_, Evo.refl _ _, s, one⟩
      simp [Instr.next, run_getObj h3 hnc]
    · rename_i m since seen last hI
      obtain ⟨b, m', rfl, h1, h2, h3, hit⟩ := iter_at s hI hv
      obtain ⟨bm, h4, rfl⟩ := hit
      split at h
      case h_2 => simp at h
      rename_i es clock hM
      split at h
      case isFalse => simp at h
      rename_i hcond
      obtain ⟨c1, c2, c3⟩ := hcond
      subst c1
      obtain ⟨bm', en, e0, g1, g2, g3, g4, g5⟩ := map_at s hM (.map h4)
      injection e0 with e0
      injection e0 with e0
      subst e0
      subst c2
      have hnc : ∀ c t f, Obj.mapIter (some bm) last seen.toArray last ≠ .cells c t f := by simp
      have hnm : ∀ c t f, Obj.map en last ≠ .cells c t f := by simp
      have hborn : ∀ f ∈ en.toList, f.born < last := by
        intro f hf
        obtain ⟨j, hj, rfl⟩ := List.getElem_of_mem hf
        have hj' : j < es.length := by simpa [g4] using hj
        have hj2 : j < en.size := by simpa using hj
        have := (g5 j es[j] en[j] (List.getElem?_eq_getElem hj') (Array.getElem?_eq_getElem hj2)).2.2
        simp only [List.all_eq_true, decide_eq_true_eq] at c3
        have := c3 es[j] (List.getElem_mem hj')
        simp only [Array.getElem_toList]
        omega
      have hgone : (!seen.toArray.isEmpty && !en.isEmpty && en.all (fun e => decide (e.born ≥ last))) = false := by
        cases hen : en.toList with
        | nil =>
          have : en = #[] := by simpa using hen
          subst this
          simp
        | cons f r =>
          have hf := hborn f (by rw [hen]; simp)
          have : en.all (fun e => decide (e.born ≥ last)) = false := by
            rw [← Array.all_toList, hen]
            simp
            omega
          rw [this]; simp
      obtain ⟨f1, f2⟩ := filter_rel (seen := seen) (es := es) (en := en.toList) (by simp [g4]) (fun j e f he hf => g5 j e f he (by simpa using hf))
      have hleft : (en.filter fun e => !seen.toArray.contains e.born).toList = en.toList.filter fun e => !seen.contains e.born := by
        simp
      have hold : ((en.filter fun e => !seen.toArray.contains e.born).filter fun e => decide (e.born < last)) = (en.filter fun e => !seen.toArray.contains e.born) := by
        apply Array.ext'
        rw [Array.toList_filter, hleft, List.filter_eq_self]
        intro f hf
        simpa using hborn f (List.mem_filter.1 hf).1
      have hnew : ((en.filter fun e => !seen.toArray.contains e.born).filter fun e => decide (e.born ≥ last)) = #[] := by
        apply Array.ext'
        rw [Array.toList_filter, hleft]
        show List.filter _ _ = []
        rw [List.filter_eq_nil_iff]
        intro f hf
        have := hborn f (List.mem_filter.1 hf).1
        simp
        omega
      generalize hL : (en.filter fun e => !seen.toArray.contains e.born) = left at hleft hold hnew
      split at h
      · rename_i hnil
        injection h with h
        subst h
        have hz : left = #[] := by
          apply Array.ext'
          rw [hleft]
          exact List.eq_nil_of_length_eq_zero (by rw [← f1, hnil]; rfl)
        refine ⟨_, List.mem_singleton.2 rfl, .tuple #[.bool false], w, C, ?_, Evo.refl _ _, s, one⟩
        subst hz
        simp only [Instr.next, Sem.run_bind, run_getObj h3 hnc, Result.andThen_ok, run_getObj g3 hnm, hgone, Bool.false_eq_true, if_false, hL, hold, hnew]
        simp [Question.forced]
      · rename_i hne
        injection h with h
        have hk : 0 < (es.filter fun e => !seen.contains e.2.2).length := List.length_pos_iff.2 hne
        have hks : left.size = (es.filter fun e => !seen.contains e.2.2).length := by
          rw [f1, ← hleft]; simp only [Array.length_toList]
        have hnz : left.isEmpty = false := by
          simp only [Array.isEmpty_eq_false_iff]
          intro e
          have h0 : left.size = 0 := by rw [e]; rfl
          omega
        -- the entry that is drawn
        have main : ∀ (c : Nat) (w1 : World), c < (es.filter fun e => !seen.contains e.2.2).length → (choose (.mapNext (left.map some).size)).run P w = .ok c w1 → (w1 = w ∨ w1 = w.drew) → ∃ x ∈ l, Makes P C w (Instr.next (.pointer (some ⟨b, 0, none⟩)) false ty) x.1 x.2 := by
          intro c w1 hc hrun hw1
          have he := List.getElem?_eq_getElem hc
          have hcf : c < left.size := by omega
          have hf : (en.toList.filter fun e => !seen.contains e.born)[c]? = some (left[c]'hcf) := by
            rw [← hleft, Array.getElem?_toList]
            exact Array.getElem?_eq_getElem hcf
          generalize hee : (es.filter fun e => !seen.contains e.2.2)[c]'hc = e at he
          generalize hff : left[c]'hcf = f at hf
          obtain ⟨r1, r2, r3⟩ := f2 c e f he hf
          have s1 : Sim C H w1 := by rcases hw1 with rfl | rfl; exact s; exact s.drew
          have ev1 : Evo C w C w1 := by rcases hw1 with rfl | rfl; exact Evo.refl _ _; exact (Evo.refl _ _).drew
          have h3' : w1.heap[b]? = some (.mapIter (some bm) last seen.toArray last) := by rcases hw1 with rfl | rfl <;> exact h3
          have hny : ∀ c t f', Obj.mapIter (some bm) last (seen.toArray.push f.born) last ≠ .cells c t f' := by simp
          have ev2 := s1.evo_setObj (y := .mapIter (some bm) last (seen.toArray.push f.born) last) h2 h3' hnc hny
          have s2 := s1.set_obj (o := .mapIter (some m) last (seen ++ [e.2.2]) last) (lt_of_some hI) h2 h3' hnc hny ⟨b, h1, h2, some bm, by rw [setObj_self h3', r3]; simp, bm, h4, rfl⟩
          refine ⟨(.tup [.bool true, e.1, e.2.1], H.set id (.mapIter (some m) last (seen ++ [e.2.2]) last)), ?_, .tuple #[.bool true, f.key, f.val], _, C, ?_, ev1.trans ev2, s2, ?_⟩
          · rw [← h]
            exact List.mem_map.2 ⟨e, List.mem_of_getElem? he, rfl⟩
          · have hcand : (((if left.isEmpty = true then #[none] else #[]) ++ Array.map some (left ++ #[])) : Array (Option MapEntry)) = left.map some := by
              rw [hnz]; simp
            simp only [Instr.next, Sem.run_bind, run_getObj h3 hnc, Result.andThen_ok, run_getObj g3 hnm, hgone, Bool.false_eq_true, if_false, hL, hold, hnew, hcand, hrun]
            have hget : (left.map some)[c]? = some (some f) := by
              rw [Array.getElem?_map, Array.getElem?_eq_getElem hcf, hff]; rfl
            rw [hget]
            simp only [Sem.run_bind, run_setObj h3' hnc, Result.andThen_ok, Sem.run_pure]
          · refine .tup rfl (fun i p v hp hv => ?_)
            match i, hp, hv with
            | 0, hp, hv => simp at hp hv; subst hp; subst hv; exact .bool _
            | 1, hp, hv => simp at hp hv; subst hp; subst hv; exact (r1.mono ev1).mono ev2
            | 2, hp, hv => simp at hp hv; subst hp; subst hv; exact (r2.mono ev1).mono ev2
        rw [← h]
        rw [← h] at main
        by_cases h1k : (left.map some).size ≤ 1
        · exact main 0 w hk (by rw [run_choose, if_pos (by simp only [Question.forced, decide_eq_true_eq]; exact h1k)]) (.inl rfl)
        · refine main _ w.drew ?_ (by rw [run_choose, if_neg (by simp only [Question.forced, decide_eq_true_eq]; exact h1k)]; rfl) (.inr rfl)
          simp only [Question.cut, Array.size_map]
          rw [← hks]
          exact Nat.mod_lt _ (by omega)

end Go.Flat
