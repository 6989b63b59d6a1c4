/- A machine over plain values. Part Y: functions of the library that are given by their contracts: the sort of a row of texts. -/
import Derived.Test.YtkmlfjnmoieeeaaGreatDoorFlatT
import Derived.Shelf.Sort.Plain
import Derived.Shelf.Slices.In.SortNone
set_option linter.unusedVariables false
set_option linter.unusedSimpArgs false
namespace Go.Flat
def unstrs : List PV → Option (List (List UInt8))
  | [] => some []
  | .str s :: l => (unstrs l).map (s :: ·)
  | _ :: _ => none
theorem unstrs_map : ∀ (l : List (List UInt8)), unstrs (l.map .str) = some l
  | [] => rfl
  | s :: l => by simp [unstrs, unstrs_map l]
theorem unstrs_eq : ∀ {l : List PV} {ss : List (List UInt8)}, unstrs l = some ss → l = ss.map .str
  | [], ss, h => by simp [unstrs] at h; subst h; rfl
  | p :: l, ss, h => by
    cases p
    case str s =>
      simp only [unstrs] at h
      cases hu : unstrs l with
      | none => simp [hu] at h
      | some r =>
        simp [hu] at h
        subst h
        simp [unstrs_eq hu]
    all_goals simp [unstrs] at h
def sortS (l : List (List UInt8)) : List (List UInt8) := l.mergeSort fun x y => decide (x ≤ y)
/-- slices.Sort of a row of texts. -/
def sortP : List PV → Heap → Option (PV × Heap)
  | [.sl _ []], H => some (.tup [], H)
  | [.view id k i n], H =>
    match H[id]? with
    | some (.vec k' es) =>
      if k = 1 ∧ k' = 1 ∧ i = 0 ∧ n = es.length ∧ 0 < n ∧ n < 4611686018427387904 then
        match unstrs es with
        | some ss => some (.tup [], H.set id (.vec 1 ((sortS ss).map .str)))
        | none => none
      else none
    | _ => none
  | _, _ => none
open Go.Sort Go.RowKit Go.Shelf Go.Proofs
variable {P : Program} {C : Cx} {H : Heap} {w : World}
theorem heap_putRow_ne {α : Type} [Inhabited α] (enc : α → Value) (w : World) (b o : Nat) (d : Array α) {k : Nat} (hk : k ≠ b) : (putRow enc w b o d).heap[k]? = w.heap[k]? := by
  simp only [putRow, mapBlock, Array.getElem?_modify]
  rw [if_neg (Ne.symm hk)]
/-- What a contract of a sort leaves. -/
abbrev sorted {α : Type} [Inhabited α] (enc : α → Value) (w : World) (n b o : Nat) (d : Array α) (os : Array Obj) : World := grow (putRow enc (Sort.ahead w n) b o d) os
theorem turn_row [Globs] {α : Type} [Inhabited α] {enc : α → Value} (s : Sim C H w) {id b o c : Nat} {es ys : List PV} (hH : H[id]? = some (.vec 1 es)) (hat : C.at_ id = some (b, o)) (hcap : C.at_ (id + 1) = some (c, 0)) {d0 d : Array α}
    (h0 : Holds enc w b o d0) (hd0 : d0.size = es.length) (hd : d.size = es.length) (hys : ys.length = es.length) (hpos : 0 < es.length) (hcell : ∀ p ∈ ys, p.cells = [p] ∧ p.isCell = true)
    (hrep : ∀ (j : Nat) p, ys[j]? = some p → ∀ C' w', Rep C' w' p (enc d[j]!)) (n : Nat) (os : Array Obj) :
    Evo C w C (sorted enc w n b o d os) ∧ Sim C (H.set id (.vec 1 ys)) (sorted enc w n b o d os) := by
  obtain ⟨b', o', c', g1, g2, g3, g4, g5, g6⟩ := s.obj id _ hH
  rw [hat] at g1
  injection g1 with g1
  injection g1 with e1 e2
  subst e1; subst e2
  rw [hcap] at g2
  injection g2 with g2
  injection g2 with e3 _
  subst e3
  have hall := vec_cells g4 g5 g6
  have hown : ∀ j, j < es.length → C.own b (o + j) = .ob id := fun j hj => (hall j (by omega)).1
  have hblt : b < w.heap.size := s.lt b (o + 0) (by rw [hown 0 hpos]; simp)
  have hsz : (putRow enc (Sort.ahead w n) b o d).heap.size = w.heap.size := by simp
  have hcl : ∀ (x : Addr), x.block < w.heap.size → (sorted enc w n b o d os).cell? x = (putRow enc (Sort.ahead w n) b o d).cell? x := fun x hx => cell?_grow _ _ _ (by rw [hsz]; exact hx)
  have hfr : ∀ (x : Addr), x.block < w.heap.size → (sorted enc w n b o d os).frozen? x = w.frozen? x := fun x hx => by
    rw [frozen?_grow _ _ _ (by rw [hsz]; exact hx), frozen?_putRow, frozen?_ahead]
  have hout : ∀ b' o', b' < w.heap.size → (b' ≠ b ∨ o' < o ∨ o + es.length ≤ o') → cellAt (sorted enc w n b o d os) b' o' = cellAt w b' o' := fun b' o' hb' h => by
    show (sorted enc w n b o d os).cell? _ = _
    rw [hcl _ hb', cell?_putRow_other _ _ _ _ _ _ (by simpa [hd] using h), cell?_ahead]
  have hin : ∀ j, j < es.length → cellAt (sorted enc w n b o d os) b (o + j) = some (enc d[j]!) := fun j hj => by
    show (sorted enc w n b o d os).cell? _ = _
    rw [hcl _ hblt]
    exact cell?_putRow enc _ b o d0 d (holds_ahead enc w n b o d0 h0) (by omega) j (by omega)
  have hheap : ∀ k, k ≠ b → k < w.heap.size → (sorted enc w n b o d os).heap[k]? = w.heap[k]? := fun k hk hlt => by
    show (grow _ os).heap[k]? = _
    rw [heap_grow_old _ _ (by rw [hsz]; exact hlt), heap_putRow_ne _ _ _ _ _ hk]
    rfl
  have hsize : w.heap.size ≤ (sorted enc w n b o d os).heap.size := by simp
  have away : ∀ {b' o' : Nat} {x : Own}, C.own b' o' = x → x ≠ .ob id → b' ≠ b ∨ o' < o ∨ o + es.length ≤ o' := by
    intro b' o' x h hx
    by_cases e : b' = b
    · subst e
      by_cases c : o' < o ∨ o + es.length ≤ o'
      · exact .inr c
      · have := hown (o' - o) (by omega)
        rw [show o + (o' - o) = o' by omega, h] at this
        exact absurd this hx
    · exact .inl e
  have ev : Evo C w C (sorted enc w n b o d os) := by
    refine ⟨rfl, rfl, rfl, hsize, fun b' o' h => ⟨h, ?_⟩, fun _ _ h => h, fun id t h => ⟨t, h, Nat.le_refl _, fun _ => rfl⟩, fun b' hb' hn => ⟨?_, hn⟩⟩
    · exact hout b' o' (s.lt b' o' (by rw [h]; simp)) (away h (by simp))
    · refine hheap b' (fun e => ?_) hb'
      subst e
      exact hn (o + 0) id (hown 0 hpos)
  refine ⟨ev, ⟨fun i y hy => ?_, fun b' o' h => Nat.lt_of_lt_of_le (s.lt b' o' h) hsize, fun i hi => s.new_at i (by simpa using hi), fun i hi => s.new_tk i (by simpa using hi), fun b o i hi => by simpa using s.new_own b o i hi, s.inv.mono ev⟩⟩
  have hidlt := lt_of_some hH
  by_cases hi : i = id
  · subst hi
    rw [List.getElem?_set_self hidlt] at hy
    injection hy with hy
    subst hy
    refine ⟨b, o, c, hat, hcap, by omega, g4, fun t q hq => ?_, fun j h1 h2 => ?_⟩
    · obtain ⟨q1, q2⟩ := hcell q (List.mem_of_getElem? hq)
      have ht := lt_of_some hq
      refine ⟨by rw [q1]; rfl, fun j r hr => ?_⟩
      rw [q1] at hr
      cases j with
      | succ j => simp at hr
      | zero =>
        simp at hr
        subst hr
        refine ⟨q2, ?_, ?_, enc d[t]!, ?_, hrep t q hq _ _⟩
        · simpa using hown t (by omega)
        · rw [hfr _ hblt]
          simpa using (hall t (by omega)).2.1
        · simpa using hin t (by omega)
    · obtain ⟨y1, y2, v, y3⟩ := hall j (by omega)
      refine ⟨y1, (hfr _ hblt).trans y2, v, ?_⟩
      rw [hout b (o + j) hblt (.inr (.inr (by omega)))]
      exact y3
  · rw [List.getElem?_set_ne (by omega)] at hy
    refine (s.obj i y hy).keep ev ⟨fun b' o' h => ?_, fun b' x h hx hnc => ?_, rfl⟩
    · have hb' := s.lt b' o' (by rw [h]; simp)
      exact ⟨h, hout b' o' hb' (away h (by simpa using hi)), hfr _ hb'⟩
    · have hb' := s.lt b' 0 (by rw [h]; simp)
      rw [hheap b' ?_ hb']
      · exact hx
      · rintro rfl
        obtain ⟨_, _, u, hu⟩ := hall 0 (by omega)
        simp only [cellAt, World.cell?, hx] at hu
        cases x <;> simp at hu
        exact hnc _ _ _ rfl
theorem sort_prim [Globs] {ρ : Ren} (Ly : Lays.n190 P ρ) (hf : ∃ fn, P.funcs[ρ.f 190]? = some fn ∧ fn.name ≠ "runtime.NumGoroutine" ∧ fn.body.isSome = true) : PrimOk P (ρ.f 190) sortP := by
  refine ⟨hf, fun args H r H' h C w vs s hr => ?_⟩
  match args, h, hr with
  | [.sl t []], h, hr =>
    simp only [sortP] at h
    injection h with h
    injection h with h1 h2
    subst h1; subst h2
    obtain ⟨v, rfl⟩ : ∃ v, vs = #[v] := by
      obtain ⟨l⟩ := vs
      match l, hr.1 with
      | [v], _ => exact ⟨v, rfl⟩
      | [], h => simp at h
      | _ :: _ :: _, h => simp at h
    have hv := hr.2 0 _ v rfl rfl
    cases hv with
    | sl vs ha ht h hr2 =>
      refine (Any.slices_Sort_string_none Ly _ _ w).mono fun e w' ⟨he, hw⟩ => ?_
      subst hw
      exact ⟨_, C, he, Evo.refl C w', s, .tup rfl (by simp)⟩
  | [.view id k i n], h, hr =>
    simp only [sortP] at h
    split at h
    case h_2 => simp at h
    rename_i k' es hH
    split at h
    case isFalse => simp at h
    rename_i hc
    obtain ⟨rfl, rfl, rfl, rfl, hpos, hlt⟩ := hc
    split at h
    case h_2 => simp at h
    rename_i ss hss
    injection h with h
    injection h with h1 h2
    subst h1; subst h2
    have hes := unstrs_eq hss
    subst hes
    obtain ⟨v, rfl⟩ : ∃ v, vs = #[v] := by
      obtain ⟨l⟩ := vs
      match l, hr.1 with
      | [v], _ => exact ⟨v, rfl⟩
      | [], h => simp at h
      | _ :: _ :: _, h => simp at h
    have hv := hr.2 0 _ v rfl rfl
    obtain ⟨b, o, c, a, rfl, hat, hcap, hl, ha⟩ := view_inv hv
    have ha' := ha (by omega)
    simp at ha'
    subst ha'
    obtain ⟨b', o', c', g1, g2, g3, g4, g5, g6⟩ := s.obj id _ hH
    rw [hat] at g1
    injection g1 with g1
    injection g1 with e1 e2
    subst e1; subst e2
    have hH0 : Holds encStr w b o ss.toArray := by
      intro j hj
      simp at hj
      obtain ⟨z1, z2⟩ := g5 j (.str ss[j]) (by simp [hj])
      obtain ⟨y1, y2, y3, v, y4, y5⟩ := z2 0 (.str ss[j]) rfl
      obtain ⟨s', rfl, hs'⟩ := rep_str y5
      simp at y4 y3
      refine ⟨?_, y3⟩
      show cellAt w b (o + j) = _
      rw [y4]
      have : ss.toArray[j]! = ss[j] := by simp [hj]
      rw [this, ← hs']
    have hblt : b < w.heap.size := by
      obtain ⟨z1, z2⟩ := g5 0 (.str (ss[0]'(by simpa using hpos))) (by simp)
      obtain ⟨y1, y2, _⟩ := z2 0 _ rfl
      exact s.lt b _ (by rw [y2]; simp)
    simp only [List.length_map] at hpos hlt hl ⊢
    refine (Any.slices_Sort_string Ly b o (c - 0) ss w hH0 hblt hlt).mono fun e w' ⟨he, n, os, hw⟩ => ?_
    have ht := turn_row (enc := encStr) s (ys := (sortS ss).map .str) hH hat hcap hH0 (d := (sortS ss).toArray) (by simp) (by simp [sortS]) (by simp [sortS]) (by simpa using hpos) (by
      intro p hp
      simp at hp
      obtain ⟨a, _, rfl⟩ := hp
      exact ⟨rfl, rfl⟩) (by
      intro j p hp C' w'
      simp at hp
      obtain ⟨a, ha, rfl⟩ := hp
      have hj := lt_of_some ha
      have : (sortS ss).toArray[j]! = a := by
        rw [List.getElem?_eq_getElem hj] at ha
        injection ha with ha
        simp [hj, ha]
      rw [this]
      exact Rep.str ⟨a.toArray⟩) n os
    subst hw
    exact ⟨_, C, he, ht.1, ht.2, .tup rfl (by simp)⟩
end Go.Flat
