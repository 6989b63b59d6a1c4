/- A machine over plain values. Part J: the operations that touch the heap. -/
import Derived.Test.YtkmlfjnmoieeeaaGreatDoorFlatI
set_option linter.unusedVariables false
set_option linter.unusedSimpArgs false
namespace Go.Flat
variable {P : Program} {mu : Bool} {C : Cx} {H : Heap} {w : World} {n : Nat} {T : Temps} {a : Act}

theorem ofVal_cells {v : Value} {p : PV} (h : ofVal v = some p) : ∀ q ∈ p.cells, q.isCell = true := by
  unfold ofVal at h
  split at h
  · rename_i cs
    cases hc : ofCells cs.toList with
    | none => simp [hc] at h
    | some ps =>
      simp [hc] at h
      subst h
      exact (ofCells_rep (C := ⟨fun _ _ => .no, fun _ => none, fun _ => none⟩) (w := default) hc).2.1
  · have hc := (ofCell_rep (C := ⟨fun _ _ => .no, fun _ => none, fun _ => none⟩) (w := default) h).2
    have : p.cells = [p] := by cases p <;> first | rfl | simp [PV.isCell] at hc
    rw [this]
    simpa using hc
theorem zeroT_cells {t : TypeId} {z : PV} (h : zeroT P t = some z) : ∀ q ∈ z.cells, q.isCell = true := by
  unfold zeroT at h
  cases hi : P.info? t with
  | none => simp [hi] at h
  | some i =>
    cases hz : i.zero with
    | none => simp [hi, hz] at h
    | some v => simp [hi, hz] at h; exact ofVal_cells h

theorem newVar_ok [Globs] (s : Sim C H w) (t : TypeId) {p : PV} {v : Value} (hp : Rep C w p v) (hc : ∀ q ∈ p.cells, q.isCell = true) :
    (newVar t v).run P w = .ok ⟨w.heap.size, 0, none⟩ (w.alloc (.cells v.cells t)) ∧ Evo C w (C.obj H.length w.heap.size 0) (w.alloc (.cells v.cells t)) ∧ Sim (C.obj H.length w.heap.size 0) (H ++ [.cells p.cells]) (w.alloc (.cells v.cells t)) ∧
      Rep (C.obj H.length w.heap.size 0) (w.alloc (.cells v.cells t)) (.ptr H.length 0) (.pointer (some ⟨w.heap.size, 0, none⟩)) := by
  have e := s.evo_obj (.cells v.cells t)
  have hat : (C.obj H.length w.heap.size 0).at_ H.length = some (w.heap.size, 0) := by simp [Cx.obj]
  obtain ⟨h1, h2⟩ := hp.cells
  refine ⟨by simp [newVar, newRow], e, s.alloc_obj _ _ ⟨w.heap.size, 0, hat, fun j q hj => ⟨hc q (List.mem_of_getElem? hj), by simp [Cx.obj], ?_, ?_⟩⟩, .ptr 0 hat⟩
  · simp
  · have hjl : j < p.cells.length := by
      rcases Nat.lt_or_ge j p.cells.length with h' | h'
      · exact h'
      · rw [List.getElem?_eq_none h'] at hj; simp at hj
    have hv : v.cells[j]? = some (v.cells[j]'(by omega)) := Array.getElem?_eq_getElem _
    exact ⟨_, by rw [cell_new, Nat.zero_add]; exact hv, (h2 j q _ hj hv).mono e⟩

theorem loadCells_ok {b o m : Nat} {ps : List PV} (hl : ps.length = m) (h : ∀ j p, ps[j]? = some p → p.isCell = true ∧ ∃ v, cellAt w b (o + j) = some v ∧ Rep C w p v) :
    ∃ vs : Array Value, (loadCells ⟨b, o, none⟩ m).run P w = .ok vs w ∧ vs.size = m ∧ ∀ (i : Nat) p v, ps[i]? = some p → vs[i]? = some v → Rep C w p v := by
  have hex : ∀ j, j < m → ∃ v, cellAt w b (o + j) = some v := by
    intro j hj
    obtain ⟨_, v, h1, _⟩ := h j (ps[j]'(by omega)) (List.getElem?_eq_getElem _)
    exact ⟨v, h1⟩
  have hrun := run_loadCells (P := P) w ⟨b, o, none⟩ m (fun j => (cellAt w b (o + j)).getD undef) (fun j hj => by
    rw [add_none]
    obtain ⟨v, hv⟩ := hex j hj
    show cellAt w b (o + j) = _
    rw [hv]; rfl)
  refine ⟨_, hrun, by simp, fun i p v hp hv => ?_⟩
  obtain ⟨_, u, h1, h2⟩ := h i p hp
  have hi : i < m := by
    rcases Nat.lt_or_ge i ps.length with h' | h'
    · omega
    · rw [List.getElem?_eq_none h'] at hp; simp at hp
  simp [hi] at hv
  rw [h1] at hv
  simp at hv
  rw [← hv]
  exact h2
theorem loadVar_ok [Globs] {t : TypeId} {size : Nat} {agg : Bool} (hs : sizeT P t = some size) (hg : aggT P t = some agg) {b o off : Nat} {cs : List PV} (h : ∀ j p, cs[j]? = some p → p.isCell = true ∧ ∃ v, cellAt w b (o + j) = some v ∧ Rep C w p v)
    {p : PV} (hp : partA off size agg cs = some p) : Gives P C w (loadVar t ⟨b, o + off, none⟩) p := by
  have hag := run_aggT hg w
  unfold partA at hp
  cases agg
  · simp only [Bool.false_eq_true, if_false] at hp
    obtain ⟨_, v, h1, h2⟩ := h off p hp
    refine ⟨v, ?_, h2⟩
    simp [loadVar, hag]
    show (match cellAt w b (o + off) with | some v => Result.ok v w | none => _) = _
    rw [h1]
  · simp only [if_true] at hp
    split at hp
    · rename_i hle
      injection hp with hp; subst hp
      have hlen : ((cs.drop off).take size).length = size := by simp; omega
      have hcells : ∀ j p, ((cs.drop off).take size)[j]? = some p → p.isCell = true ∧ ∃ v, cellAt w b (o + off + j) = some v ∧ Rep C w p v := by
        intro j p hj
        rw [List.getElem?_take] at hj
        split at hj
        · rw [List.getElem?_drop] at hj
          rw [Nat.add_assoc]
          exact h _ _ hj
        · simp at hj
      obtain ⟨vs, r1, r2, r3⟩ := loadCells_ok (P := P) (o := o + off) hlen hcells
      refine ⟨.agg vs, by simp [loadVar, hag, run_sizeT hs w, r1], .agg (by rw [r2, hlen]) (fun q hq => ?_) r3⟩
      obtain ⟨i, hi, rfl⟩ := List.getElem_of_mem hq
      exact (hcells i _ (List.getElem?_eq_getElem hi)).1
    · simp at hp
theorem load_ok [Globs] (s : Sim C H w) {t : TypeId} {size : Nat} {agg : Bool} (hs : sizeT P t = some size) (hg : aggT P t = some agg) {x p : PV} {v : Value} (hv : Rep C w x v) (h : loadA H size agg x = some p) : Gives P C w (Instr.loadAt t v) p := by
  cases x with
  | ptr id o =>
    simp only [loadA] at h
    split at h
    · rename_i cs hc
      obtain ⟨b, o', h1, h2⟩ := s.obj id _ hc
      cases hv with
      | ptr _ hat =>
        rw [h1] at hat
        injection hat with hat
        injection hat with e1 e2
        subst e1; subst e2
        obtain ⟨u, r1, r2⟩ := loadVar_ok (P := P) (off := o) hs hg (fun j p hj => let ⟨g1, _, _, v, g2, g3⟩ := h2 j p hj; ⟨g1, v, g2, g3⟩) h
        exact ⟨u, by simp [Instr.loadAt, Instr.sureAddr, r1], r2⟩
    · simp at h
  | fp cs =>
    simp only [loadA] at h
    cases hv with
    | fp vs h1 h2 =>
      rename_i b o
      obtain ⟨u, r1, r2⟩ := loadVar_ok (P := P) (off := 0) hs hg (fun j p hj => let ⟨g1, _, g3⟩ := h1 j p hj; ⟨g1, vs j, g3, h2 j p hj⟩) h
      exact ⟨u, by simpa [Instr.loadAt, Instr.sureAddr] using r1, r2⟩
  | eptr id k i o =>
    simp only [loadA] at h
    split at h
    · rename_i k' xs hc
      split at h
      · rename_i hk
        subst hk
        split at h
        · rename_i q hq
          obtain ⟨b, o', c, h1, _, _, _, h2, _⟩ := s.obj id _ hc
          cases hv with
          | eptr _ _ _ hat =>
            rw [h1] at hat
            injection hat with hat
            injection hat with e1 e2
            subst e1; subst e2
            obtain ⟨u, r1, r2⟩ := loadVar_ok (P := P) (o := o' + i * k) (off := o) hs hg (fun j p hj => let ⟨g1, _, _, v, g2, g3⟩ := (h2 i q hq).2 j p hj; ⟨g1, v, g2, g3⟩) h
            exact ⟨u, by simp [Instr.loadAt, Instr.sureAddr, r1], r2⟩
        · simp at h
      · simp at h
    · simp at h
  | _ => simp [loadA] at h

/-! ### Cells set -/
theorem setCells_heap (b : Nat) : ∀ (vs : List Value) (o : Nat) (w : World), (w.setCells b o vs).heap.size = w.heap.size ∧ (w.setCells b o vs).os = w.os ∧ (w.setCells b o vs).tape = w.tape ∧ (w.setCells b o vs).output = w.output ∧ ∀ k, k ≠ b → (w.setCells b o vs).heap[k]? = w.heap[k]?
  | [], _, _ => ⟨rfl, rfl, rfl, rfl, fun _ _ => rfl⟩
  | v :: r, o, w => by
    obtain ⟨h1, h2, h3, h4, h5⟩ := setCells_heap b r (o + 1) (w.setCell ⟨b, o, none⟩ v)
    rw [World.setCells]
    refine ⟨by rw [h1]; simp, h2, h3, h4, fun k hk => ?_⟩
    rw [h5 k hk]
    exact RowKit.Below.heap_setCell _ _ _ _ hk
theorem oneCell_of {p : PV} {v : Value} (h : Rep C w p v) (hc : p.isCell = true) : v.oneCell' = true := by
  cases h <;> first | rfl | simp [PV.isCell] at hc
/-- Cells that an object owns are set. -/
theorem Sim.evo_set [Globs] (s : Sim C H w) {id b o : Nat} {vs : List Value} (hown : ∀ j, j < vs.length → C.own b (o + j) = .ob id) (hne : 0 < vs.length) : Evo C w C (w.setCells b o vs) := by
  obtain ⟨h1, h2, h3, h4, h5⟩ := setCells_heap b vs o w
  refine ⟨h2, h3, h4, by omega, fun b' o' h => ⟨h, ?_⟩, fun _ _ h => h, fun id t h => ⟨t, h, Nat.le_refl _, fun _ => rfl⟩, fun b' hb' hn => ⟨?_, hn⟩⟩
  · refine World.cell?_setCells_out b vs o w ⟨b', o', none⟩ (fun e _ => ?_)
    simp only at e
    subst e
    by_cases c : o' < o ∨ o + vs.length ≤ o'
    · exact c
    · have := hown (o' - o) (by omega)
      rw [show o + (o' - o) = o' by omega, h] at this
      simp at this
  · refine h5 b' (fun e => ?_)
    subst e
    exact hn (o + 0) id (hown 0 hne)
theorem Sim.keep_set [Globs] (s : Sim C H w) {id b o : Nat} {vs : List Value} (hown : ∀ j, j < vs.length → C.own b (o + j) = .ob id) (hcell : ∀ j, j < vs.length → (cellAt w b (o + j)).isSome = true) (hne : 0 < vs.length) {id' : Nat} (hid : id' ≠ id) : Keeps C w C (w.setCells b o vs) id' where
  cell b' o' h := by
    refine ⟨h, ?_, World.frozen?_setCells _ _ _ _ _⟩
    refine World.cell?_setCells_out b vs o w ⟨b', o', none⟩ (fun e _ => ?_)
    simp only at e
    subst e
    by_cases c : o' < o ∨ o + vs.length ≤ o'
    · exact c
    · have := hown (o' - o) (by omega)
      rw [show o + (o' - o) = o' by omega, h] at this
      injection this with this
      exact absurd this hid
  other b' x h hx hnc := by
    rw [(setCells_heap b vs o w).2.2.2.2 b']
    · exact hx
    · rintro rfl
      have := hcell 0 hne
      obtain ⟨u, hu⟩ := Option.isSome_iff_exists.1 this
      simp only [cellAt, World.cell?, hx] at hu
      cases x <;> simp at hu
      exact hnc _ _ _ rfl
  tk := rfl

theorem set_run [Globs] {t : TypeId} {size : Nat} (hs : sizeT P t = some size) {p : PV} {v : Value} (hv : Rep C w p v) (hlen : p.cells.length = size) (hall : p.cells.all (·.isCell) = true) {b o : Nat} (hcell : ∀ j, j < size → (cellAt w b (o + j)).isSome = true) (hfro : ∀ j, j < size → w.frozen? ⟨b, o + j, none⟩ = false) :
    (Instr.storeAt t (.pointer (some ⟨b, o, none⟩)) v).run P w = .ok () (w.setCells b o v.cells.toList) := by
  obtain ⟨v1, v2⟩ := hv.cells
  have hl : v.cells.toList.length = size := by simp; omega
  have hone : ∀ z ∈ v.cells.toList, z.oneCell' = true := by
    intro z hz
    obtain ⟨i, hi, rfl⟩ := List.getElem_of_mem hz
    have hi' : i < p.cells.length := by omega
    have hi2 : i < v.cells.size := by simpa using hi
    have hr := v2 i p.cells[i] v.cells[i] (List.getElem?_eq_getElem hi') (Array.getElem?_eq_getElem hi2)
    have hcc := List.all_eq_true.1 hall _ (List.getElem_mem hi')
    simpa using oneCell_of hr hcc
  have hrun := run_storeCells_cells (P := P) b o v.cells.toList 0 w (fun j hj => hcell j (by omega)) (fun j hj => hfro j (by omega)) hone
  simp only [Instr.storeAt, Instr.sureAddr, Sem.run_bind, Sem.run_pure, Result.andThen_ok, storeVar, run_sizeT hs w]
  rw [if_neg (by omega)]
  simpa using hrun
theorem store_ok [Globs] (s : Sim C H w) {t : TypeId} {size : Nat} (hs : sizeT P t = some size) {x p : PV} {u v : Value} (hu : Rep C w x u) (hv : Rep C w p v) {H' : Heap} (h : storeA H size p x = some H') :
    ∃ w', (Instr.storeAt t u v).run P w = .ok () w' ∧ Evo C w C w' ∧ Sim C H' w' := by
  cases x with
  | ptr id o =>
    simp only [storeA] at h
    split at h
    · rename_i cs hc
      split at h
      · rename_i hcond
        obtain ⟨c1, c2, c3⟩ := hcond
        injection h with h; subst h
        obtain ⟨b, o', h1, h2⟩ := s.obj id _ hc
        cases hu with
        | ptr _ hat =>
          rw [h1] at hat
          injection hat with hat
          injection hat with e1 e2
          subst e1; subst e2
          obtain ⟨v1, v2⟩ := hv.cells
          have hlen : v.cells.toList.length = size := by simp; omega
          have hcs : ∀ j, j < size → ∃ q, cs[o + j]? = some q := fun j hj => ⟨cs[o + j]'(by omega), List.getElem?_eq_getElem _⟩
          have hown : ∀ j, j < v.cells.toList.length → C.own b (o' + o + j) = .ob id := fun j hj => by
            obtain ⟨q, hq⟩ := hcs j (by omega)
            rw [Nat.add_assoc]; exact (h2 _ q hq).2.1
          have hcell : ∀ j, j < v.cells.toList.length → (cellAt w b (o' + o + j)).isSome = true := fun j hj => by
            obtain ⟨q, hq⟩ := hcs j (by omega)
            obtain ⟨_, _, _, z, hz, _⟩ := h2 _ q hq
            rw [Nat.add_assoc, hz]; rfl
          have hfro : ∀ j, j < v.cells.toList.length → w.frozen? ⟨b, o' + o + j, none⟩ = false := fun j hj => by
            obtain ⟨q, hq⟩ := hcs j (by omega)
            rw [Nat.add_assoc]; exact (h2 _ q hq).2.2.1
          have hone : ∀ z ∈ v.cells.toList, z.oneCell' = true := by
            intro z hz
            obtain ⟨i, hi, rfl⟩ := List.getElem_of_mem hz
            have hi' : i < p.cells.length := by omega
            have hi2 : i < v.cells.size := by simpa using hi
            have hr := v2 i p.cells[i] v.cells[i] (List.getElem?_eq_getElem hi') (Array.getElem?_eq_getElem hi2)
            have hcc := List.all_eq_true.1 c3 _ (List.getElem_mem hi')
            simpa using oneCell_of hr hcc
          have hrun := run_storeCells_cells (P := P) b (o' + o) v.cells.toList 0 w hcell hfro hone
          have hrun' : (Instr.storeAt t (.pointer (some ⟨b, o' + o, none⟩)) v).run P w = .ok () (w.setCells b (o' + o) v.cells.toList) := by
            simp only [Instr.storeAt, Instr.sureAddr, Sem.run_bind, Sem.run_pure, Result.andThen_ok, storeVar, run_sizeT hs w]
            rw [if_neg (by omega)]
            simpa using hrun
          by_cases h0 : size = 0
          · have hnil : v.cells.toList = [] := List.eq_nil_of_length_eq_zero (by omega)
            have hpn : p.cells = [] := List.eq_nil_of_length_eq_zero (by omega)
            rw [hnil] at hrun'
            refine ⟨w, hrun', Evo.refl _ _, ?_⟩
            have : H.set id (.cells (cs.take o ++ p.cells ++ cs.drop (o + size))) = H := by
              rw [hpn, h0]
              simp
              rw [List.getElem?_eq_some_iff] at hc
              obtain ⟨hlt, hc⟩ := hc
              rw [← hc]; simp
            rw [this]; exact s
          · have hpos : 0 < v.cells.toList.length := by omega
            have hidlt : id < H.length := by
              rcases Nat.lt_or_ge id H.length with h' | h'
              · exact h'
              · rw [List.getElem?_eq_none h'] at hc; simp at hc
            have ev := s.evo_set hown hpos
            refine ⟨_, hrun', ev, ?_⟩
            refine ⟨fun id' y hy => ?_, fun b o h => ?_, fun i hi => s.new_at i (by simpa using hi), fun i hi => s.new_tk i (by simpa using hi), fun b o i hi => by simpa using s.new_own b o i hi, s.inv.mono ev⟩
            · by_cases hid : id' = id
              · subst hid
                rw [List.getElem?_set_self hidlt] at hy
                injection hy with hy; subst hy
                refine ⟨b, o', h1, fun j q hq => ?_⟩
                by_cases j1 : j < o
                · rw [List.append_assoc, List.getElem?_append_left (by simp; omega), List.getElem?_take, if_pos j1] at hq
                  obtain ⟨g1, g2, g3, z, g4, g5⟩ := h2 j q hq
                  refine ⟨g1, g2, (World.frozen?_setCells _ _ _ _ _).trans g3, z, ?_, g5.mono ev⟩
                  exact (World.cell?_setCells_out b _ _ w ⟨b, o' + j, none⟩ (fun _ _ => .inl (by simp only; omega))).trans g4
                · by_cases j2 : j < o + size
                  · rw [List.append_assoc, List.getElem?_append_right (by simp; omega), List.length_take, Nat.min_eq_left (by omega), List.getElem?_append_left (by omega)] at hq
                    have hj : j - o < v.cells.toList.length := by omega
                    have hin := World.cell?_setCells_in b v.cells.toList (o' + o) w hcell (j - o) hj
                    rw [show o' + o + (j - o) = o' + j by omega] at hin
                    have hq' := hq
                    obtain ⟨r0, hr0⟩ := hcs (j - o) (by omega)
                    rw [show o + (j - o) = j by omega] at hr0
                    obtain ⟨_, g2, g3, _⟩ := h2 j r0 hr0
                    have hvj : v.cells[j - o]? = some (v.cells[j - o]'(by simpa using hj)) := Array.getElem?_eq_getElem _
                    refine ⟨List.all_eq_true.1 c3 _ (List.mem_of_getElem? hq), g2, (World.frozen?_setCells _ _ _ _ _).trans g3, _, hin, ?_⟩
                    have := v2 (j - o) q _ hq hvj
                    simpa using this.mono ev
                  · rw [List.getElem?_append_right (by simp; omega)] at hq
                    simp only [List.length_append, List.length_take, Nat.min_eq_left (show o ≤ cs.length by omega), List.getElem?_drop] at hq
                    rw [show o + size + (j - (o + p.cells.length)) = j by omega] at hq
                    obtain ⟨g1, g2, g3, z, g4, g5⟩ := h2 j q hq
                    refine ⟨g1, g2, (World.frozen?_setCells _ _ _ _ _).trans g3, z, ?_, g5.mono ev⟩
                    exact (World.cell?_setCells_out b _ _ w ⟨b, o' + j, none⟩ (fun _ _ => .inr (by simp only; omega))).trans g4
              · rw [List.getElem?_set_ne (by omega)] at hy
                exact (s.obj id' y hy).keep ev (s.keep_set hown hcell hpos hid)
            · have := s.lt b o h
              rw [(setCells_heap _ _ _ _).1]; exact this
      · simp at h
    · simp at h
  | eptr id k i o =>
    simp only [storeA] at h
    split at h
    · rename_i k' xs hc
      split at h
      · rename_i q hq
        split at h
        · rename_i hcond
          obtain ⟨rfl, c0, c1, c2, c3⟩ := hcond
          injection h with h; subst h
          obtain ⟨b, o', c, h1, h1c, h2, h3, h4, h5⟩ := s.obj id _ hc
          cases hu with
          | eptr _ _ _ hat =>
            rw [h1] at hat
            injection hat with hat
            injection hat with e1 e2
            subst e1; subst e2
            obtain ⟨v1, v2⟩ := hv.cells
            obtain ⟨q1, q2⟩ := h4 i q hq
            have hqc : ∀ j, j < size → ∃ r, q.cells[o + j]? = some r := fun j hj => ⟨q.cells[o + j]'(by omega), List.getElem?_eq_getElem _⟩
            have hlen : v.cells.toList.length = size := by simp; omega
            have hown : ∀ j, j < v.cells.toList.length → C.own b (o' + i * k + o + j) = .ob id := fun j hj => by
              obtain ⟨r, hr⟩ := hqc j (by omega)
              rw [Nat.add_assoc]; exact (q2 _ r hr).2.1
            have hcell : ∀ j, j < v.cells.toList.length → (cellAt w b (o' + i * k + o + j)).isSome = true := fun j hj => by
              obtain ⟨r, hr⟩ := hqc j (by omega)
              obtain ⟨_, _, _, z, hz, _⟩ := q2 _ r hr
              rw [Nat.add_assoc, hz]; rfl
            have hfro : ∀ j, j < v.cells.toList.length → w.frozen? ⟨b, o' + i * k + o + j, none⟩ = false := fun j hj => by
              obtain ⟨r, hr⟩ := hqc j (by omega)
              rw [Nat.add_assoc]; exact (q2 _ r hr).2.2.1
            have hrun := set_run (P := P) hs hv c1 c3 (fun j hj => hcell j (by omega)) (fun j hj => hfro j (by omega))
            have hpos : 0 < v.cells.toList.length := by omega
            have ev := s.evo_set hown hpos
            have hidlt : id < H.length := by
              rcases Nat.lt_or_ge id H.length with h' | h'
              · exact h'
              · rw [List.getElem?_eq_none h'] at hc; simp at hc
            have hilt : i < xs.length := by
              rcases Nat.lt_or_ge i xs.length with h' | h'
              · exact h'
              · rw [List.getElem?_eq_none h'] at hq; simp at hq
            have hcs : (setPart k o size q p).cells = q.cells.take o ++ p.cells ++ q.cells.drop (o + size) := by
              unfold setPart
              split
              · rename_i e
                obtain ⟨rfl, rfl⟩ := e
                simp
                omega
              · rfl
            refine ⟨_, hrun, ev, ?_⟩
            refine ⟨fun id' y hy => ?_, fun b o h => ?_, fun i hi => s.new_at i (by simpa using hi), fun i hi => s.new_tk i (by simpa using hi), fun b o i hi => by simpa using s.new_own b o i hi, s.inv.mono ev⟩
            · by_cases hid : id' = id
              · subst hid
                rw [List.getElem?_set_self hidlt] at hy
                injection hy with hy; subst hy
                refine ⟨b, o', c, h1, h1c, by simpa using h2, h3, fun i2 p2 hp2 => ?_, fun j hj1 hj2 => ?_⟩
                · by_cases hi2 : i2 = i
                  · subst hi2
                    rw [List.getElem?_set_self hilt] at hp2
                    injection hp2 with hp2; subst hp2
                    rw [hcs]
                    refine ⟨by simp; omega, fun j r hr => ?_⟩
                    by_cases j1 : j < o
                    · rw [List.append_assoc, List.getElem?_append_left (by simp; omega), List.getElem?_take, if_pos j1] at hr
                      obtain ⟨g1, g2, g3, z, g4, g5⟩ := q2 j r hr
                      refine ⟨g1, g2, (World.frozen?_setCells _ _ _ _ _).trans g3, z, ?_, g5.mono ev⟩
                      exact (World.cell?_setCells_out b _ _ w ⟨b, o' + i2 * k + j, none⟩ (fun _ _ => .inl (by simp only; omega))).trans g4
                    · by_cases j2 : j < o + size
                      · rw [List.append_assoc, List.getElem?_append_right (by simp; omega), List.length_take, Nat.min_eq_left (by omega), List.getElem?_append_left (by omega)] at hr
                        have hj : j - o < v.cells.toList.length := by omega
                        have hin := World.cell?_setCells_in b v.cells.toList (o' + i2 * k + o) w hcell (j - o) hj
                        rw [show o' + i2 * k + o + (j - o) = o' + i2 * k + j by omega] at hin
                        obtain ⟨r0, hr0⟩ := hqc (j - o) (by omega)
                        rw [show o + (j - o) = j by omega] at hr0
                        obtain ⟨_, g2, g3, _⟩ := q2 j r0 hr0
                        have hvj : v.cells[j - o]? = some (v.cells[j - o]'(by simpa using hj)) := Array.getElem?_eq_getElem _
                        refine ⟨List.all_eq_true.1 c3 _ (List.mem_of_getElem? hr), g2, (World.frozen?_setCells _ _ _ _ _).trans g3, _, hin, ?_⟩
                        have := v2 (j - o) r _ hr hvj
                        simpa using this.mono ev
                      · rw [List.getElem?_append_right (by simp; omega)] at hr
                        simp only [List.length_append, List.length_take, Nat.min_eq_left (show o ≤ q.cells.length by omega), List.getElem?_drop] at hr
                        rw [show o + size + (j - (o + p.cells.length)) = j by omega] at hr
                        obtain ⟨g1, g2, g3, z, g4, g5⟩ := q2 j r hr
                        refine ⟨g1, g2, (World.frozen?_setCells _ _ _ _ _).trans g3, z, ?_, g5.mono ev⟩
                        exact (World.cell?_setCells_out b _ _ w ⟨b, o' + i2 * k + j, none⟩ (fun _ _ => .inr (by simp only; omega))).trans g4
                  · rw [List.getElem?_set_ne (by omega)] at hp2
                    obtain ⟨e1, e2⟩ := h4 i2 p2 hp2
                    refine ⟨e1, fun j r hr => ?_⟩
                    obtain ⟨g1, g2, g3, z, g4, g5⟩ := e2 j r hr
                    have hjk : j < k := by
                      rcases Nat.lt_or_ge j p2.cells.length with h' | h'
                      · omega
                      · rw [List.getElem?_eq_none h'] at hr; simp at hr
                    refine ⟨g1, g2, (World.frozen?_setCells _ _ _ _ _).trans g3, z, ?_, g5.mono ev⟩
                    refine (World.cell?_setCells_out b _ _ w ⟨b, o' + i2 * k + j, none⟩ (fun _ _ => ?_)).trans g4
                    simp only
                    rcases Nat.lt_or_gt_of_ne hi2 with hlt | hgt
                    · have : (i2 + 1) * k ≤ i * k := Nat.mul_le_mul_right _ hlt
                      rw [Nat.add_mul, Nat.one_mul] at this
                      left; omega
                    · have : (i + 1) * k ≤ i2 * k := Nat.mul_le_mul_right _ hgt
                      rw [Nat.add_mul, Nat.one_mul] at this
                      right; omega
                · rw [List.length_set] at hj1
                  obtain ⟨g1, g2, z, g3⟩ := h5 j hj1 hj2
                  refine ⟨g1, (World.frozen?_setCells _ _ _ _ _).trans g2, z, ?_⟩
                  refine (World.cell?_setCells_out b _ _ w ⟨b, o' + j, none⟩ (fun _ _ => ?_)).trans g3
                  simp only
                  have : (i + 1) * k ≤ xs.length * k := Nat.mul_le_mul_right _ hilt
                  rw [Nat.add_mul, Nat.one_mul] at this
                  right; omega
              · rw [List.getElem?_set_ne (by omega)] at hy
                exact (s.obj id' y hy).keep ev (s.keep_set hown hcell hpos hid)
            · have := s.lt b o h
              rw [(setCells_heap _ _ _ _).1]; exact this
        · simp at h
      · simp at h
    · simp at h
  | _ => simp [storeA] at h

end Go.Flat
