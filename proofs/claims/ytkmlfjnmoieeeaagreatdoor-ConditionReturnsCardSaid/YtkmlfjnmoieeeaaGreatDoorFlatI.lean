/- A machine over plain values. Part I: new blocks; what stays. -/
import Derived.Test.YtkmlfjnmoieeeaaGreatDoorFlatH
set_option linter.unusedVariables false
set_option linter.unusedSimpArgs false
namespace Go.Flat
variable {P : Program} {mu : Bool} {C : Cx} {H : Heap} {w : World} {n : Nat} {T : Temps} {a : Act}

/-- What object id owns has stayed. -/
structure Keeps (C : Cx) (w : World) (C' : Cx) (w' : World) (id : Nat) : Prop where
  cell : ∀ b o, C.own b o = .ob id → C'.own b o = .ob id ∧ cellAt w' b o = cellAt w b o ∧ w'.frozen? ⟨b, o, none⟩ = w.frozen? ⟨b, o, none⟩
  other : ∀ b x, C.own b 0 = .ob id → w.heap[b]? = some x → (∀ c t f, x ≠ .cells c t f) → w'.heap[b]? = some x
  tk : C'.tk id = C.tk id
theorem ObjOk.keep {C' : Cx} {w' : World} {id : Nat} {o : HObj} (h : ObjOk C w id o) (e : Evo C w C' w') (k : Keeps C w C' w' id) : ObjOk C' w' id o := by
  cases o with
  | cells cs =>
    obtain ⟨b, o, h1, h2⟩ := h
    refine ⟨b, o, e.at_ _ _ h1, fun j p hj => ?_⟩
    obtain ⟨g1, g2, g3, v, g4, g5⟩ := h2 j p hj
    obtain ⟨k1, k2, k3⟩ := k.cell _ _ g2
    exact ⟨g1, k1, k3.trans g3, v, k2.trans g4, g5.mono e⟩
  | vec m xs =>
    obtain ⟨b, o, c, h1, h2, h3, h4, h5, h6⟩ := h
    refine ⟨b, o, c, e.at_ _ _ h1, e.at_ _ _ h2, h3, h4, fun i p hi => ⟨(h5 i p hi).1, fun j q hj => ?_⟩, fun j hj1 hj2 => ?_⟩
    · obtain ⟨g1, g2, g3, v, g4, g5⟩ := (h5 i p hi).2 j q hj
      obtain ⟨k1, k2, k3⟩ := k.cell _ _ g2
      exact ⟨g1, k1, k3.trans g3, v, k2.trans g4, g5.mono e⟩
    · obtain ⟨g1, g2, v, g3⟩ := h6 j hj1 hj2
      obtain ⟨k1, k2, k3⟩ := k.cell _ _ g1
      exact ⟨k1, k3.trans g2, v, k2.trans g3⟩
  | tail n =>
    obtain ⟨s, h1, h2, h3, h4, h5⟩ := h
    refine ⟨s, k.tk.trans h1, h2, h3, h4, fun j hj1 hj2 => ?_⟩
    obtain ⟨g1, g2, v, g3⟩ := h5 j hj1 hj2
    obtain ⟨k1, k2, k3⟩ := k.cell _ _ g1
    exact ⟨k1, k3.trans g2, v, k2.trans g3⟩
  | map es clock =>
    obtain ⟨b, h1, h2, entries, h3, h4, h5⟩ := h
    refine ⟨b, e.at_ _ _ h1, (k.cell _ _ h2).1, entries, k.other _ _ h2 h3 (by simp), h4, fun i x y hx hy => ?_⟩
    obtain ⟨g1, g2, g3⟩ := h5 i x y hx hy
    exact ⟨g1.mono e, g2.mono e, g3⟩
  | strIter s pos =>
    obtain ⟨b, h1, h2, h3⟩ := h
    exact ⟨b, e.at_ _ _ h1, (k.cell _ _ h2).1, k.other _ _ h2 h3 (by simp)⟩
  | mapIter m since seen last =>
    obtain ⟨b, h1, h2, m', h3, h4⟩ := h
    refine ⟨b, e.at_ _ _ h1, (k.cell _ _ h2).1, m', k.other _ _ h2 h3 (by simp), ?_⟩
    cases m with
    | none => exact h4
    | some i => obtain ⟨bm, g1, g2⟩ := h4; exact ⟨bm, e.at_ _ _ g1, g2⟩
  | dead => trivial

/-- A new block. -/
def Cx.mark (C : Cx) (b : Nat) (f : Nat → Own) : Cx := { C with own := fun b' o => if b' = b then f o else C.own b' o }
theorem Sim.evo_alloc [Globs] (s : Sim C H w) (f : Nat → Own) (x : Obj) : Evo C w (C.mark w.heap.size f) (w.alloc x) where
  os := rfl
  tape := rfl
  output := rfl
  size := by simp
  fz b o h := by
    have hb := s.lt b o (by rw [h]; simp)
    refine ⟨by simp only [Cx.mark]; rw [if_neg (by omega)]; exact h, ?_⟩
    exact World.cell?_alloc_lt _ _ _ hb
  at_ _ _ h := h
  tk id t h := ⟨t, h, Nat.le_refl _, fun _ => rfl⟩
  frame b hb h := by
    refine ⟨RowKit.Below.heap_alloc _ _ _ hb, fun o id => ?_⟩
    simp only [Cx.mark]
    rw [if_neg (by omega)]
    exact h o id
theorem Sim.keep_alloc [Globs] (s : Sim C H w) (f : Nat → Own) (x : Obj) (id : Nat) : Keeps C w (C.mark w.heap.size f) (w.alloc x) id where
  cell b o h := by
    have hb := s.lt b o (by rw [h]; simp)
    refine ⟨by simp only [Cx.mark]; rw [if_neg (by omega)]; exact h, World.cell?_alloc_lt _ _ _ hb, ?_⟩
    exact World.frozen?_alloc_old _ _ _ (by show b ≠ _; omega)
  other b y h hy _ := by
    have hb := s.lt b 0 (by rw [h]; simp)
    rw [RowKit.Below.heap_alloc _ _ _ hb]
    exact hy
  tk := rfl
/-- A new block that is never written. -/
theorem Sim.alloc_fz [Globs] (s : Sim C H w) (x : Obj) : Sim (C.mark w.heap.size fun _ => .fz) H (w.alloc x) where
  obj id o ho := (s.obj id o ho).keep (s.evo_alloc _ x) (s.keep_alloc _ x id)
  lt b o h := by
    simp only [Cx.mark] at h
    split at h
    · rename_i e; subst e; simp
    · have := s.lt b o h; simp; omega
  new_at := s.new_at
  new_tk := s.new_tk
  new_own b o id h := by
    simp only [Cx.mark] at h
    split at h
    · simp at h
    · exact s.new_own b o id h
  inv := s.inv.mono (s.evo_alloc _ x)
/-- A new object. -/
def Cx.obj (C : Cx) (id b o : Nat) : Cx := { C with own := fun b' o' => if b' = b then .ob id else C.own b' o', at_ := fun i => if i = id then some (b, o) else C.at_ i }
theorem Sim.evo_obj [Globs] (s : Sim C H w) (x : Obj) : Evo C w (C.obj H.length w.heap.size 0) (w.alloc x) where
  os := rfl
  tape := rfl
  output := rfl
  size := by simp
  fz b o h := by
    have hb := s.lt b o (by rw [h]; simp)
    refine ⟨by simp only [Cx.obj]; rw [if_neg (by omega)]; exact h, ?_⟩
    exact World.cell?_alloc_lt _ _ _ hb
  at_ id l h := by
    have : id ≠ H.length := by rintro rfl; rw [s.new_at _ (Nat.le_refl _)] at h; simp at h
    simp only [Cx.obj]
    rw [if_neg this]
    exact h
  tk id t h := ⟨t, h, Nat.le_refl _, fun _ => rfl⟩
  frame b hb h := by
    refine ⟨RowKit.Below.heap_alloc _ _ _ hb, fun o id => ?_⟩
    simp only [Cx.obj]
    rw [if_neg (by omega)]
    exact h o id
theorem Sim.keep_obj [Globs] (s : Sim C H w) (x : Obj) (id : Nat) : Keeps C w (C.obj H.length w.heap.size 0) (w.alloc x) id where
  cell b o h := by
    have hb := s.lt b o (by rw [h]; simp)
    refine ⟨by simp only [Cx.obj]; rw [if_neg (by omega)]; exact h, World.cell?_alloc_lt _ _ _ hb, ?_⟩
    exact World.frozen?_alloc_old _ _ _ (by show b ≠ _; omega)
  other b y h hy _ := by
    have hb := s.lt b 0 (by rw [h]; simp)
    rw [RowKit.Below.heap_alloc _ _ _ hb]
    exact hy
  tk := rfl
theorem Sim.alloc_obj [Globs] (s : Sim C H w) (x : Obj) (o : HObj) (ho : ObjOk (C.obj H.length w.heap.size 0) (w.alloc x) H.length o) : Sim (C.obj H.length w.heap.size 0) (H ++ [o]) (w.alloc x) where
  obj id y hy := by
    by_cases h : id < H.length
    · rw [List.getElem?_append_left h] at hy
      exact (s.obj id y hy).keep (s.evo_obj x) (s.keep_obj x id)
    · rw [List.getElem?_append_right (by omega)] at hy
      have : id = H.length := by
        rcases Nat.lt_or_ge H.length id with h' | h'
        · rw [List.getElem?_eq_none (by simp; omega)] at hy; simp at hy
        · omega
      subst this
      simp at hy
      subst hy
      exact ho
  lt b o h := by
    simp only [Cx.obj] at h
    split at h
    · rename_i e; subst e; simp
    · have := s.lt b o h; simp; omega
  new_at id h := by
    simp only [List.length_append, List.length_cons, List.length_nil] at h
    simp only [Cx.obj]
    rw [if_neg (by omega)]
    exact s.new_at id (by omega)
  new_tk id h := by
    simp only [List.length_append, List.length_cons, List.length_nil] at h
    exact s.new_tk id (by omega)
  new_own b o id h := by
    simp only [Cx.obj] at h
    simp only [List.length_append, List.length_cons, List.length_nil]
    split at h
    · injection h with h; omega
    · have := s.new_own b o id h; omega
  inv := s.inv.mono (s.evo_obj x)
theorem cell_new (w : World) (cs : Array Value) (t : TypeId) (j : Nat) : cellAt (w.alloc (.cells cs t)) w.heap.size j = cs[j]? := World.cell?_alloc_new _ _ _ _

/-- What an operation comes to: a value, perhaps another world. -/
def Runs [Globs] (P : Program) (C : Cx) (w : World) (s : Sem Next) (p : PV) (H' : Heap) : Prop :=
  ∃ v w' C', (s.run P w = .ok (.value v) w' ∨ (s.run P w = .ok .skip w' ∧ v = undef)) ∧ Evo C w C' w' ∧ Sim C' H' w' ∧ Rep C' w' p v
theorem Runs.of_gives [Globs] (s : Sim C H w) {e : Sem Value} {p : PV} (h : Gives P C w e p) : Runs P C w (do pure (.value (← e))) p H := by
  obtain ⟨v, h1, h2⟩ := h
  exact ⟨v, w, C, .inl (by simp [h1]), Evo.refl _ _, s, h2⟩

theorem foldl_set (off : Nat) : ∀ (l : List Value) (k : Nat) (vs : Array Value), off + k + l.length ≤ vs.size →
    ((l.zipIdx k).foldl (fun cs x => cs.setIfInBounds (off + x.2) x.1) vs).size = vs.size ∧
    ∀ j, ((l.zipIdx k).foldl (fun cs x => cs.setIfInBounds (off + x.2) x.1) vs)[j]? = if off + k ≤ j ∧ j < off + k + l.length then l[j - (off + k)]? else vs[j]? := by
  intro l
  induction l with
  | nil => intro k vs _; refine ⟨rfl, fun j => ?_⟩; rw [if_neg (by simp)]; rfl
  | cons x l ih =>
    intro k vs hle
    simp only [List.length_cons] at hle
    obtain ⟨i1, i2⟩ := ih (k + 1) (vs.setIfInBounds (off + k) x) (by simp; omega)
    simp only [List.zipIdx_cons, List.foldl_cons]
    refine ⟨by rw [i1]; simp, fun j => ?_⟩
    rw [i2 j]
    simp only [Array.getElem?_setIfInBounds, List.length_cons]
    by_cases hj : off + k = j
    · subst hj
      rw [if_neg (by omega), if_pos rfl, if_pos (by omega), if_pos (by omega)]
      simp
    · rw [if_neg hj]
      by_cases hj2 : off + (k + 1) ≤ j ∧ j < off + (k + 1) + l.length
      · rw [if_pos hj2, if_pos (by omega)]
        rw [show j - (off + k) = (j - (off + (k + 1))) + 1 by omega]
        simp
      · rw [if_neg hj2, if_neg (by omega)]
theorem fill_range [Globs] (size : Nat) : ∀ (l : List (Nat × Value)) (k : Nat) (cs : Array Value), (∀ x ∈ l, x.2.cells.size = size) → l.map (·.1) = List.range' k l.length → (k + l.length) * size ≤ cs.size →
    ∃ cs', Instr.fill (fun i => some (i * size, size)) cs l = some cs' ∧ cs'.size = cs.size ∧ (∀ m, m < k * size → cs'[m]? = cs[m]?) ∧ ∀ (i : Nat) x, l[i]? = some x → ∀ j, j < size → cs'[(k + i) * size + j]? = x.2.cells[j]?
  | [], k, cs, _, _, _ => ⟨cs, rfl, rfl, fun _ _ => rfl, by simp⟩
  | (i0, v) :: l, k, cs, h1, h2, h3 => by
    simp only [List.map_cons, List.length_cons, List.range'_succ, List.cons.injEq] at h2
    obtain ⟨rfl, h2⟩ := h2
    simp only [List.length_cons] at h3
    have hv : v.cells.size = size := h1 (i0, v) (by simp)
    have hb : (i0 + 1) * size ≤ cs.size := Nat.le_trans (Nat.mul_le_mul_right _ (by omega)) h3
    rw [Nat.add_mul, Nat.one_mul] at hb
    obtain ⟨k1, k2⟩ := foldl_set (i0 * size) v.cells.toList 0 cs (by simp [hv]; omega)
    have hz : v.cells.zipIdx.foldl (fun cs (x : Value × Nat) => cs.setIfInBounds (i0 * size + x.2) x.1) cs = ((v.cells.toList.zipIdx 0).foldl (fun cs x => cs.setIfInBounds (i0 * size + x.2) x.1) cs) := by
      rw [← Array.foldl_toList, Array.toList_zipIdx]
    obtain ⟨cs', f1, f2, f3, f4⟩ := fill_range size l (i0 + 1) (v.cells.zipIdx.foldl (fun cs (x : Value × Nat) => cs.setIfInBounds (i0 * size + x.2) x.1) cs) (fun x hx => h1 x (by simp [hx])) h2
      (by rw [hz, k1]; rw [show i0 + 1 + l.length = i0 + (l.length + 1) by omega]; exact h3)
    refine ⟨cs', ?_, by rw [f2, hz, k1], fun m hm => ?_, fun i x hi j hj => ?_⟩
    · simp only [Instr.fill]
      rw [if_neg]
      · exact f1
      · simp [hv]; omega
    · rw [f3 m (by rw [Nat.add_mul, Nat.one_mul]; omega), hz, k2 m, if_neg (by omega)]
    · cases i with
      | zero =>
        simp at hi
        subst hi
        rw [Nat.add_zero, f3 _ (by rw [Nat.add_mul i0 1 size, Nat.one_mul]; omega), hz, k2]
        simp only [Nat.add_zero, Array.length_toList, hv]
        rw [if_pos (by omega), show i0 * size + j - i0 * size = j by omega]
        simp
      | succ i =>
        have := f4 i x (by simpa using hi) j hj
        rw [show i0 + (i + 1) = i0 + 1 + i by omega]
        exact this

/-- A literal of a slice, never written. -/
theorem lit_ok [Globs] (s : Sim C H w) {t e : TypeId} {len size : Nat} {z : PV} (hu : P.underlying t = some (.slice e)) (hs : sizeT P e = some size) (hz : zeroT P e = some z) (h0 : 0 < size) (hl : len * size ≤ 65536)
    {parts : List (Nat × Value)} (hp : parts.map (·.1) = List.range len) {ps : List PV} (hr1 : ps.length = parts.length) (hr : ∀ (i : Nat) p v, ps[i]? = some p → (parts.map (·.2))[i]? = some v → Rep C w p v) (hun : uniform size ps = true) :
    Runs P C w (do pure (.value (← Instr.buildSlice t len parts.toArray))) (.sl .exact ps) H := by
  obtain ⟨zv, z1, z2⟩ := run_zeroT hz
  have hlen : parts.length = len := by simpa using congrArg List.length hp
  have hun' : ∀ p ∈ ps, p.cells.length = size ∧ ∀ q ∈ p.cells, q.isCell = true := by
    intro p hp
    simp only [uniform, List.all_eq_true, Bool.and_eq_true, beq_iff_eq] at hun
    exact hun p hp
  have hsz : ∀ x ∈ parts, x.2.cells.size = size := by
    intro x hx
    obtain ⟨i, hi, rfl⟩ := List.getElem_of_mem hx
    have hi' : i < ps.length := by omega
    have := (hr i ps[i] parts[i].2 (List.getElem?_eq_getElem hi') (by simp [List.getElem?_eq_getElem hi])).cells.1
    rw [this]
    exact (hun' _ (List.getElem_mem hi')).1
  generalize hinit : (if len * size = 0 then (#[] : Array Value) else zv.cells) = zc
  obtain ⟨cells, f1, f2, f3, f4⟩ := fill_range size parts 0 ((Array.range (len * size)).map (zc[· % zc.size]!)) hsz (by rw [hp, hlen, List.range_eq_range']) (by simp [hlen])
  have hrun : (Instr.buildSlice t len parts.toArray).run P w = .ok (.slice (some ⟨w.heap.size, 0, none⟩) len len) (w.alloc (.cells cells e)) := by
    have hbig : ¬ len * size > 2 ^ 24 := by omega
    by_cases hz0 : len * size = 0
    · rw [if_pos hz0] at hinit
      subst hinit
      simp only [hz0] at f1
      simp [Instr.buildSlice, run_underlying hu, run_sizeT hs w, hz0, newRow]
      simp at f1
      rw [f1]
      rfl
    · rw [if_neg hz0] at hinit
      subst hinit
      simp only [Instr.buildSlice, Sem.run_bind, run_underlying hu, run_sizeT hs w, Result.andThen_ok, if_neg hbig, if_neg hz0, z1, Sem.run_ite, Sem.run_pure]
      rw [f1]
      simp [newRow]
  refine ⟨_, _, C.mark w.heap.size fun _ => .fz, .inl (by simp only [Sem.run_bind, hrun, Result.andThen_ok, Sem.run_pure]; rfl), s.evo_alloc _ _, s.alloc_fz _, ?_⟩
  have e1 : ps.length = len := by omega
  rw [← e1]
  refine .sl (b := w.heap.size) (o := 0) (k := size) (fun i => ((parts.map (·.2))[i]?).getD undef) (fun _ => rfl) rfl (fun i p hi => ?_) (fun i p hi => ?_)
  · have hi' : i < ps.length := by
      rcases Nat.lt_or_ge i ps.length with h | h
      · exact h
      · rw [List.getElem?_eq_none h] at hi; simp at hi
    have hpi : parts[i]? = some (parts[i]'(by omega)) := List.getElem?_eq_getElem _
    have hpm : p ∈ ps := List.mem_of_getElem? hi
    simp only [List.getElem?_map, hpi, Option.map_some, Option.getD_some]
    refine ⟨hsz _ (List.getElem_mem _), (hun' p hpm).2, fun j hj => ⟨by simp [Cx.mark], ?_⟩⟩
    rw [cell_new]
    have := f4 i _ hpi j hj
    simpa using this
  · have hi' : i < ps.length := by
      rcases Nat.lt_or_ge i ps.length with h | h
      · exact h
      · rw [List.getElem?_eq_none h] at hi; simp at hi
    have hpi : (parts.map (·.2))[i]? = some ((parts.map (·.2))[i]'(by simp; omega)) := List.getElem?_eq_getElem _
    rw [hpi, Option.getD_some]
    exact (hr i p _ hi hpi).mono (s.evo_alloc _ _)

end Go.Flat
