/- A machine over plain values. Part V: rows of elements that are written. -/
import Derived.Test.YtkmlfjnmoieeeaaGreatDoorFlatK
set_option linter.unusedVariables false
set_option linter.unusedSimpArgs false
namespace Go.Flat
variable {P : Program} {C : Cx} {H : Heap} {w : World} {n : Nat} {T : Temps} {a : Act}

theorem row_one [Globs] {size : Nat} {ys : List PV} {cells : Array Value} {us : Nat → Value} (hrow : RowOf C w size ys cells us) (hun : uniform size ys = true) : ∀ z ∈ cells.toList, z.oneCell' = true := by
  intro z hz
  obtain ⟨m, hm, rfl⟩ := List.getElem_of_mem hz
  have hcl : cells.toList.length = ys.length * size := by simpa using hrow.len
  obtain ⟨i, j, h1, h2, h3⟩ := divmod (by rw [← hcl]; exact hm)
  have hp := List.getElem?_eq_getElem h1
  have c1 := hrow.cell i _ hp j h2
  have u1 := hrow.usize i _ hp
  obtain ⟨r1, r2⟩ := (hrow.rep i _ hp).cells
  have hju : j < (us i).cells.size := by omega
  have hjp : j < ys[i].cells.length := by omega
  have rr := r2 j _ _ (List.getElem?_eq_getElem hjp) (Array.getElem?_eq_getElem hju)
  have hcell := (uniform_mem hun (List.getElem_mem h1)).2 _ (List.getElem_mem hjp)
  have hoc := oneCell_of rr hcell
  have hm' : m < cells.size := by simpa using hm
  rw [← h3, Array.getElem?_eq_getElem hm', Array.getElem?_eq_getElem hju] at c1
  injection c1 with c1
  simp only [Array.getElem_toList]
  rw [c1]; exact hoc

/-- An element's value out of its cells. -/
def elemU (p : PV) (f : Nat → Value) : Value :=
  match p with
  | .agg cs => .agg ((Array.range cs.length).map f)
  | _ => f 0
theorem elemU_ok {p : PV} {f : Nat → Value} (h : ∀ j q, p.cells[j]? = some q → q.isCell = true ∧ Rep C w q (f j)) :
    Rep C w p (elemU p f) ∧ (elemU p f).cells.size = p.cells.length ∧ ∀ j, j < p.cells.length → (elemU p f).cells[j]? = some (f j) := by
  have one : ∀ p : PV, p.cells = [p] → elemU p f = f 0 → (∀ j q, p.cells[j]? = some q → q.isCell = true ∧ Rep C w q (f j)) → Rep C w p (elemU p f) ∧ (elemU p f).cells.size = p.cells.length ∧ ∀ j, j < p.cells.length → (elemU p f).cells[j]? = some (f j) := by
    intro p hp hu h
    have h0 := h 0 p (by rw [hp]; rfl)
    have hc := h0.2.one h0.1
    rw [hu, hc.1, hp]
    refine ⟨h0.2, rfl, fun j hj => ?_⟩
    have : j = 0 := by simpa using hj
    subst this
    rfl
  cases p with
  | agg cs =>
    refine ⟨.agg (by simp) (fun q hq => ?_) (fun i q v hq hv => ?_), by simp [elemU, Value.cells, PV.cells], fun j hj => ?_⟩
    · obtain ⟨i, hi, rfl⟩ := List.getElem_of_mem hq
      exact (h i _ (List.getElem?_eq_getElem hi)).1
    · have hi := lt_of_some hq
      simp [hi] at hv
      rw [← hv]
      exact (h i q hq).2
    · have : j < cs.length := hj
      simp [elemU, Value.cells, this]
  | _ => exact one _ rfl rfl h

/-- A written row's cells, read. -/
theorem view_elems [Globs] (s : Sim C H w) {id k i n size : Nat} {es : List PV} {v : Value} (hv : Rep C w (.view id k i n) v) (hH : H[id]? = some (.vec k es)) (hle : i + n ≤ es.length) (hun : uniform size ((es.drop i).take n) = true) :
    (Builtin.lenOf v).run P w = .ok n w ∧ ∃ cells us, (∀ w' : World, w'.heap = w.heap → (Builtin.firstCells size n v).run P w' = .ok cells w') ∧ RowOf C w size ((es.drop i).take n) cells us := by
  obtain ⟨b', o', c', g1, g2, g3, g4, g5, g6⟩ := s.obj id _ hH
  cases hv with
  | view _ _ _ hat hcap hl ha =>
    rename_i b o c a'
    rw [hat] at g1
    injection g1 with g1
    injection g1 with e1 e2
    subst e1; subst e2
    rw [hcap] at g2
    injection g2 with g2
    injection g2 with e3 _
    subst e3
    refine ⟨rfl, ?_⟩
    have hlen : ((es.drop i).take n).length = n := by simp; omega
    by_cases hn : n = 0
    · subst hn
      cases a' with
      | none => exact ⟨#[], fun _ => undef, fun _ _ => by simp [Builtin.firstCells], ⟨by simp, by simp, by simp, by simp⟩⟩
      | some ad => exact ⟨#[], fun _ => undef, fun _ _ => by simp [Builtin.firstCells, loadCells, loadCellsFrom], ⟨by simp, by simp, by simp, by simp⟩⟩
    · have hget : ∀ t p, ((es.drop i).take n)[t]? = some p → t < n ∧ es[i + t]? = some p := by
        intro t p hp
        rw [List.getElem?_take] at hp
        split at hp
        · rw [List.getElem?_drop] at hp; exact ⟨by assumption, hp⟩
        · simp at hp
      have hk : k = size := by
        have h0 : ((es.drop i).take n)[0]? = some (((es.drop i).take n)[0]'(by omega)) := List.getElem?_eq_getElem _
        obtain ⟨_, h1⟩ := hget _ _ h0
        have := (uniform_mem hun (List.mem_of_getElem? h0)).1
        have h2 := (g5 _ _ h1).1
        omega
      subst hk
      rw [ha (by omega)]
      let f : Nat → Nat → Value := fun t j => (cellAt w b (o + (i + t) * k + j)).getD undef
      have hel : ∀ t p, ((es.drop i).take n)[t]? = some p → p.cells.length = k ∧ Rep C w p (elemU p (f t)) ∧ (elemU p (f t)).cells.size = k ∧ ∀ j, j < k → (elemU p (f t)).cells[j]? = some (f t j) ∧ cellAt w b (o + (i + t) * k + j) = some (f t j) := by
        intro t p hp
        obtain ⟨ht, hp'⟩ := hget t p hp
        obtain ⟨q1, q2⟩ := g5 _ _ hp'
        have hcell : ∀ j q, p.cells[j]? = some q → q.isCell = true ∧ Rep C w q (f t j) ∧ cellAt w b (o + (i + t) * k + j) = some (f t j) := by
          intro j q hj
          obtain ⟨z1, _, _, u, z2, z3⟩ := q2 j q hj
          have : f t j = u := by simp only [f, z2]; rfl
          rw [this]
          exact ⟨z1, z3, z2⟩
        obtain ⟨u1, u2, u3⟩ := elemU_ok (C := C) (w := w) (p := p) (f := f t) (fun j q hj => let ⟨x, y, _⟩ := hcell j q hj; ⟨x, y⟩)
        exact ⟨q1, u1, by omega, fun j hj => ⟨u3 j (by omega), (hcell j _ (List.getElem?_eq_getElem (by omega))).2.2⟩⟩
      have hrun := fun (w' : World) (hw : w'.heap = w.heap) => run_loadCells (P := P) w' ⟨b, o + i * k, none⟩ (n * k) (fun m => (cellAt w b (o + i * k + m)).getD undef) (fun m hm => by
        obtain ⟨t, j, h1, h2, h3⟩ := divmod hm
        have hp := List.getElem?_eq_getElem (l := (es.drop i).take n) (i := t) (by omega)
        obtain ⟨_, _, _, h4⟩ := hel t _ hp
        rw [add_none]
        have e : w'.cell? ⟨b, o + i * k + m, none⟩ = cellAt w b (o + i * k + m) := by simp only [cellAt, World.cell?, hw]
        rw [e, show o + i * k + m = o + (i + t) * k + j by rw [h3, Nat.add_mul]; omega, (h4 j h2).2]
        rfl)
      refine ⟨_, fun t => elemU (((es.drop i).take n).getD t .undef) (f t), fun w' hw => by simp only [Builtin.firstCells]; exact hrun w' hw, ⟨by simp [hlen], fun t p hp => ?_, fun t p hp => ?_, fun t p hp j hj => ?_⟩⟩
      · rw [List.getD_eq_getElem?_getD, hp]; exact (hel t p hp).2.1
      · rw [List.getD_eq_getElem?_getD, hp]; exact (hel t p hp).2.2.1
      · have ht := (hget t p hp).1
        obtain ⟨h4, h5⟩ := (hel t p hp).2.2.2 j hj
        have hlt : t * k + j < n * k := by
          have : (t + 1) * k ≤ n * k := Nat.mul_le_mul_right _ (by omega)
          rw [Nat.add_mul, Nat.one_mul] at this
          omega
        rw [List.getD_eq_getElem?_getD, hp]
        simp only [Option.getD_some]
        rw [h4]
        simp [hlt]
        rw [show o + i * k + (t * k + j) = o + (i + t) * k + j by rw [Nat.add_mul]; omega, h5]
        rfl

theorem elems_read [Globs] (s : Sim C H w) {size : Nat} {y : PV} {ps : List PV} {v : Value} (hv : Rep C w y v) (he : elemsOf H y = some ps) (hun : uniform size ps = true) :
    (Builtin.lenOf v).run P w = .ok ps.length w ∧ ∃ cells us, (∀ w' : World, w'.heap = w.heap → (Builtin.firstCells size ps.length v).run P w' = .ok cells w') ∧ RowOf C w size ps cells us := by
  cases y with
  | view id k i n =>
    simp only [elemsOf] at he
    split at he
    · rename_i k' es hH
      split at he
      · rename_i hc
        obtain ⟨rfl, hc⟩ := hc
        injection he with he
        subst he
        have := view_elems (P := P) s hv hH hc hun
        have hl : ((es.drop i).take n).length = n := by simp; omega
        rw [hl]
        exact this
      · simp at he
    · simp at he
  | str l => exact firstCells_elems hv (by intros; simp) he hun
  | sl τ xs => exact firstCells_elems hv (by intros; simp) he hun
  | _ => simp [elemsOf] at he

theorem Sim.put_obj [Globs] (s : Sim C H w) {id : Nat} {o : HObj} (ho : ObjOk C w id o) : Sim C (H.set id o) w where
  obj i y hy := by
    by_cases h : i = id
    · subst h
      rw [List.getElem?_set] at hy
      simp only [if_true] at hy
      split at hy
      · injection hy with hy; subst hy; exact ho
      · simp at hy
    · rw [List.getElem?_set_ne (by omega)] at hy
      exact s.obj i y hy
  lt := s.lt
  new_at i hi := s.new_at i (by simpa using hi)
  new_tk i hi := s.new_tk i (by simpa using hi)
  new_own b o i hi := by simpa using s.new_own b o i hi
  inv := s.inv

/-- All the cells of a written row. -/
theorem vec_cells {id k b o c : Nat} {es : List PV} (hk : 0 < k)
    (h5 : ∀ (i : Nat) p, es[i]? = some p → p.cells.length = k ∧ ∀ (j : Nat) q, p.cells[j]? = some q → q.isCell = true ∧ C.own b (o + i * k + j) = .ob id ∧ w.frozen? ⟨b, o + i * k + j, none⟩ = false ∧ ∃ v, cellAt w b (o + i * k + j) = some v ∧ Rep C w q v)
    (h6 : ∀ j, es.length * k ≤ j → j < c * k → C.own b (o + j) = .ob id ∧ w.frozen? ⟨b, o + j, none⟩ = false ∧ ∃ v, cellAt w b (o + j) = some v) :
    ∀ t, t < c * k → C.own b (o + t) = .ob id ∧ w.frozen? ⟨b, o + t, none⟩ = false ∧ ∃ v, cellAt w b (o + t) = some v := by
  intro t ht
  by_cases hlt : t < es.length * k
  · obtain ⟨i, j, h1, h2, h3⟩ := divmod hlt
    obtain ⟨g1, g2⟩ := h5 i _ (List.getElem?_eq_getElem h1)
    obtain ⟨_, q1, q2, v, q3, _⟩ := g2 j _ (List.getElem?_eq_getElem (by omega))
    rw [Nat.add_assoc, ← h3] at q1 q2 q3
    exact ⟨q1, q2, v, q3⟩
  · exact h6 t (by omega) ht

theorem vecTake_ok [Globs] (s : Sim C H w) {id k : Nat} {es : List PV} (hH : H[id]? = some (.vec k es)) {l : Nat} (hl : l ≤ es.length) : Sim C (H.set id (.vec k (es.take l))) w := by
  obtain ⟨b, o, c, g1, g2, g3, g4, g5, g6⟩ := s.obj id _ hH
  refine s.put_obj ⟨b, o, c, g1, g2, by simp; omega, g4, fun i p hp => ?_, fun j h1 h2 => ?_⟩
  · rw [List.getElem?_take] at hp
    split at hp
    · exact g5 i p hp
    · simp at hp
  · exact vec_cells g4 g5 g6 j h2

/-- Elements written into a row that there is room for. -/
theorem vecWrite_ok [Globs] (s : Sim C H w) {id k b o c : Nat} {es : List PV} (hH : H[id]? = some (.vec k es)) (hat : C.at_ id = some (b, o)) (hcap : C.at_ (id + 1) = some (c, 0))
    {p : Nat} {ys : List PV} {cells : Array Value} {us : Nat → Value} (hrow : RowOf C w k ys cells us) (hun : uniform k ys = true) (hp : p ≤ es.length) (hfit : p + ys.length ≤ c) (hpos : 0 < ys.length) :
    ∃ w', (storeCells ⟨b, o + p * k, none⟩ cells.toList).run P w = .ok () w' ∧ Evo C w C w' ∧ Sim C (H.set id (.vec k (es.take p ++ ys ++ es.drop (p + ys.length)))) w' := by
  obtain ⟨b', o', c', g1, g2, g3, g4, g5, g6⟩ := s.obj id _ hH
  rw [hat] at g1
  injection g1 with g1
  injection g1 with e1 e2
  subst e1; subst e2
  rw [hcap] at g2
  injection g2 with g2
  injection g2 with e3 _
  subst e3
  have hall := vec_cells g4 g5 g6
  have hcl : cells.toList.length = ys.length * k := by simpa using hrow.len
  have hpc : 0 < cells.toList.length := by rw [hcl]; exact Nat.mul_pos hpos g4
  have hmul : p * k + ys.length * k ≤ c * k := by rw [← Nat.add_mul]; exact Nat.mul_le_mul_right _ hfit
  have hin : ∀ j, j < cells.toList.length → C.own b (o + p * k + j) = .ob id ∧ w.frozen? ⟨b, o + p * k + j, none⟩ = false ∧ ∃ v, cellAt w b (o + p * k + j) = some v := by
    intro j hj
    rw [Nat.add_assoc]
    exact hall _ (by omega)
  have hsome : ∀ j, j < cells.toList.length → (cellAt w b (o + p * k + j)).isSome = true := fun j hj => by obtain ⟨_, _, v, hv⟩ := hin j hj; exact Option.isSome_iff_exists.2 ⟨v, hv⟩
  have hrun := run_storeCells_cells (P := P) b (o + p * k) cells.toList 0 w (fun j hj => by simpa using hsome j hj) (fun j hj => by simpa using (hin j hj).2.1) (row_one hrow hun)
  have hown := fun j hj => (hin j hj).1
  have ev := s.evo_set hown hpc
  have hout : ∀ m, m < p * k ∨ (p + ys.length) * k ≤ m → cellAt (w.setCells b (o + p * k) cells.toList) b (o + m) = cellAt w b (o + m) := fun m hm =>
    World.cell?_setCells_out b _ _ w ⟨b, o + m, none⟩ (fun _ _ => by simp only; rw [Nat.add_mul] at hm; omega)
  have hidlt := lt_of_some hH
  refine ⟨w.setCells b (o + p * k) cells.toList, by simpa using hrun, ev, ?_⟩
  refine ⟨fun i y hy => ?_, fun b' o' h => ?_, fun i hi => s.new_at i (by simpa using hi), fun i hi => s.new_tk i (by simpa using hi), fun b o i hi => by simpa using s.new_own b o i hi, s.inv.mono ev⟩
  · by_cases hi : i = id
    · subst hi
      rw [List.getElem?_set_self hidlt] at hy
      injection hy with hy
      subst hy
      refine ⟨b, o, c, hat, hcap, by simp; omega, g4, fun t q hq => ?_, fun j h1 h2 => ?_⟩
      · have old : es[t]? = some q → (t * k + k ≤ p * k ∨ (p + ys.length) * k ≤ t * k) → _ := fun hq' hrange => by
          obtain ⟨z1, z2⟩ := g5 t q hq'
          refine (⟨z1, fun j r hr => ?_⟩ : q.cells.length = k ∧ ∀ (j : Nat) r, q.cells[j]? = some r → r.isCell = true ∧ C.own b (o + t * k + j) = .ob i ∧ (w.setCells b (o + p * k) cells.toList).frozen? ⟨b, o + t * k + j, none⟩ = false ∧ ∃ v, cellAt (w.setCells b (o + p * k) cells.toList) b (o + t * k + j) = some v ∧ Rep C (w.setCells b (o + p * k) cells.toList) r v)
          obtain ⟨y1, y2, y3, v, y4, y5⟩ := z2 j r hr
          have hj := lt_of_some hr
          refine ⟨y1, y2, (World.frozen?_setCells _ _ _ _ _).trans y3, v, ?_, y5.mono ev⟩
          rw [Nat.add_assoc, hout _ (by omega), ← Nat.add_assoc]
          exact y4
        by_cases t1 : t < p
        · rw [List.append_assoc, List.getElem?_append_left (by simp; omega), List.getElem?_take, if_pos t1] at hq
          have : (t + 1) * k ≤ p * k := Nat.mul_le_mul_right _ t1
          rw [Nat.add_mul, Nat.one_mul] at this
          exact old hq (.inl this)
        · by_cases t2 : t < p + ys.length
          · rw [List.append_assoc, List.getElem?_append_right (by simp; omega), List.length_take, Nat.min_eq_left hp, List.getElem?_append_left (by omega)] at hq
            obtain ⟨z1, z2⟩ := uniform_mem hun (List.mem_of_getElem? hq)
            refine ⟨z1, fun j r hr => ?_⟩
            have hj := lt_of_some hr
            have hm : (t - p) * k + j < cells.toList.length := by
              rw [hcl]
              have : (t - p + 1) * k ≤ ys.length * k := Nat.mul_le_mul_right _ (by omega)
              rw [Nat.add_mul, Nat.one_mul] at this
              omega
            have hpl : o + t * k + j = o + p * k + ((t - p) * k + j) := by
              have : t * k = p * k + (t - p) * k := by rw [← Nat.add_mul]; congr 1; omega
              omega
            have hset := World.cell?_setCells_in b cells.toList (o + p * k) w hsome _ hm
            obtain ⟨y1, y2, _⟩ := hin _ hm
            obtain ⟨r1, r2⟩ := (hrow.rep _ q hq).cells
            have hc := hrow.cell _ q hq j (by omega)
            have hm' : (t - p) * k + j < cells.size := by simpa using hm
            rw [Array.getElem?_eq_getElem hm'] at hc
            rw [hpl]
            refine ⟨z2 r (List.mem_of_getElem? hr), y1, (World.frozen?_setCells _ _ _ _ _).trans y2, _, hset, ?_⟩
            refine Rep.mono ev (r2 j r _ hr ?_)
            rw [← hc]
            simp
          · rw [List.getElem?_append_right (by simp; omega)] at hq
            simp only [List.length_append, List.length_take, Nat.min_eq_left hp, List.getElem?_drop] at hq
            rw [show p + ys.length + (t - (p + ys.length)) = t by omega] at hq
            exact old hq (.inr (Nat.mul_le_mul_right _ (by omega)))
      · simp only [List.length_append, List.length_take, Nat.min_eq_left hp, List.length_drop] at h1
        obtain ⟨y1, y2, v, y3⟩ := hall j h2
        refine ⟨y1, (World.frozen?_setCells _ _ _ _ _).trans y2, v, ?_⟩
        rw [hout j (.inr (Nat.le_trans (Nat.mul_le_mul_right _ (by omega)) h1))]
        exact y3
    · rw [List.getElem?_set_ne (by omega)] at hy
      exact (s.obj i y hy).keep ev (s.keep_set hown hsome hpc hi)
  · rw [(setCells_heap b _ _ w).1]
    exact s.lt b' o' h

/-- A row goes on under another number. -/
def Cx.move (C : Cx) (id new b o c : Nat) : Cx :=
  { own := fun b o => match C.own b o with | .ob i => if i = id then .ob new else .ob i | x => x
    at_ := fun i => if i = new then some (b, o) else if i = new + 1 then some (c, 0) else C.at_ i
    tk := C.tk }
theorem vecMove_ok [Globs] (s : Sim C H w) {id k b o c : Nat} {es : List PV} (hH : H[id]? = some (.vec k es)) (hat : C.at_ id = some (b, o)) (hcap : C.at_ (id + 1) = some (c, 0)) :
    Evo C w (C.move id H.length b o c) w ∧ Sim (C.move id H.length b o c) (H.set id .dead ++ [.vec k es, .dead]) w ∧ ∀ n, n ≤ es.length → Rep (C.move id H.length b o c) w (.view H.length k 0 n) (.slice (some ⟨b, o, none⟩) n c) := by
  obtain ⟨b', o', c', g1, g2, g3, g4, g5, g6⟩ := s.obj id _ hH
  rw [hat] at g1
  injection g1 with g1
  injection g1 with e1 e2
  subst e1; subst e2
  rw [hcap] at g2
  injection g2 with g2
  injection g2 with e3 _
  subst e3
  have hidlt := lt_of_some hH
  have own1 : ∀ {b' o'}, C.own b' o' = .ob id → (C.move id H.length b o c).own b' o' = .ob H.length := by intro b' o' h; simp [Cx.move, h]
  have own2 : ∀ {b' o' i}, i ≠ id → C.own b' o' = .ob i → (C.move id H.length b o c).own b' o' = .ob i := by intro b' o' i hi h; simp [Cx.move, h, hi]
  have own3 : ∀ {b' o' i}, (C.move id H.length b o c).own b' o' = .ob i → (i = H.length ∧ C.own b' o' = .ob id) ∨ (i ≠ id ∧ C.own b' o' = .ob i) := by
    intro b' o' i h
    simp only [Cx.move] at h
    split at h
    · rename_i j hj
      split at h
      · rename_i e; subst e; injection h with h; exact .inl ⟨h.symm, hj⟩
      · rename_i e; injection h with h; subst h; exact .inr ⟨e, hj⟩
    · rename_i hne; exact absurd h (hne i)
  have lt_at : ∀ {i l}, C.at_ i = some l → i < H.length := by
    intro i l h
    rcases Nat.lt_or_ge i H.length with h' | h'
    · exact h'
    · rw [s.new_at i h'] at h; simp at h
  have ev : Evo C w (C.move id H.length b o c) w := by
    refine ⟨rfl, rfl, rfl, Nat.le_refl _, fun b' o' h => ⟨by simp [Cx.move, h], rfl⟩, fun i l h => ?_, fun i t h => ⟨t, h, Nat.le_refl _, fun _ => rfl⟩, fun b' hb hn => ⟨rfl, fun o' i h => ?_⟩⟩
    · have := lt_at h
      simp only [Cx.move]
      rw [if_neg (by omega), if_neg (by omega)]
      exact h
    · rcases own3 h with ⟨_, e⟩ | ⟨_, e⟩
      · exact hn o' id e
      · exact hn o' i e
  have ha : (C.move id H.length b o c).at_ H.length = some (b, o) := by simp [Cx.move]
  have hc : (C.move id H.length b o c).at_ (H.length + 1) = some (c, 0) := by simp [Cx.move]
  refine ⟨ev, ⟨fun i y hy => ?_, fun b' o' h => ?_, fun i hi => ?_, fun i hi => ?_, fun b' o' i h => ?_, s.inv.mono ev⟩, fun n hn => ?_⟩
  · rcases Nat.lt_or_ge i H.length with hi | hi
    · rw [List.getElem?_append_left (by simpa using hi)] at hy
      by_cases e : i = id
      · subst e
        rw [List.getElem?_set_self hidlt] at hy
        injection hy with hy
        subst hy
        trivial
      · rw [List.getElem?_set_ne (by omega)] at hy
        exact (s.obj i y hy).keep ev ⟨fun b' o' h => ⟨own2 e h, rfl, rfl⟩, fun _ _ _ h _ => h, rfl⟩
    · rw [List.getElem?_append_right (by simpa using hi)] at hy
      simp only [List.length_set] at hy
      rcases Nat.eq_or_lt_of_le hi with e | e
      · subst e
        simp at hy
        subst hy
        refine ⟨b, o, c, ha, hc, g3, g4, fun i p hp => ⟨(g5 i p hp).1, fun j q hq => ?_⟩, fun j h1 h2 => ?_⟩
        · obtain ⟨z1, z2, z3, v, z4, z5⟩ := (g5 i p hp).2 j q hq
          exact ⟨z1, own1 z2, z3, v, z4, z5.mono ev⟩
        · obtain ⟨z1, z2, z3⟩ := g6 j h1 h2
          exact ⟨own1 z1, z2, z3⟩
      · have := lt_of_some hy
        simp at this
        rw [show i - H.length = 1 by omega] at hy
        simp at hy
        subst hy
        trivial
  · refine s.lt b' o' (fun e => ?_)
    simp [Cx.move, e] at h
  · simp only [List.length_append, List.length_set, List.length_cons, List.length_nil] at hi
    simp only [Cx.move]
    rw [if_neg (by omega), if_neg (by omega)]
    exact s.new_at i (by omega)
  · simp only [List.length_append, List.length_set, List.length_cons, List.length_nil] at hi
    exact s.new_tk i (by omega)
  · simp only [List.length_append, List.length_set, List.length_cons, List.length_nil]
    rcases own3 h with ⟨e, _⟩ | ⟨_, e⟩
    · omega
    · have := s.new_own b' o' i e; omega
  · have := Rep.view (C := C.move id H.length b o c) (w := w) (a := some ⟨b, o, none⟩) k 0 n ha hc (by omega) (fun _ => by simp)
    simpa using this

/-- A new row. -/
def Cx.vec (C : Cx) (id b c : Nat) : Cx :=
  { own := fun b' o => if b' = b then .ob id else C.own b' o, at_ := fun i => if i = id then some (b, 0) else if i = id + 1 then some (c, 0) else C.at_ i, tk := C.tk }
theorem vecNew_ok [Globs] (s : Sim C H w) {w1 : World} (hw : w1 = w ∨ w1 = w.drew) {Hd : Heap} (hd : Hd.length = H.length) (hd2 : ∀ (i : Nat) y, Hd[i]? = some y → H[i]? = some y ∨ y = .dead) {size cap : Nat} {e : TypeId} {zs : List PV} {cells all : Array Value} {us : Nat → Value}
    (hrow : RowOf C w size zs cells us) (hun : uniform size zs = true) (h0 : 0 < size) (hsz : all.size = cap * size) (hpre : ∀ j, j < zs.length * size → all[j]? = cells[j]?) (hcap : zs.length ≤ cap) :
    Evo C w (C.vec H.length w.heap.size cap) (w1.alloc (.cells all e)) ∧ Sim (C.vec H.length w.heap.size cap) (Hd ++ [.vec size zs, .dead]) (w1.alloc (.cells all e)) ∧
      Rep (C.vec H.length w.heap.size cap) (w1.alloc (.cells all e)) (.view H.length size 0 zs.length) (.slice (some ⟨w.heap.size, 0, none⟩) zs.length cap) := by
  have hheap : w1.heap = w.heap := by rcases hw with rfl | rfl <;> rfl
  have hfro : ∀ a : Addr, w1.frozen? a = w.frozen? a := by rcases hw with rfl | rfl <;> intro a <;> rfl
  have hcell : ∀ b o, b < w.heap.size → cellAt (w1.alloc (.cells all e)) b o = cellAt w b o := fun b o hb => by
    have h1 := World.cell?_alloc_lt w1 (.cells all e) ⟨b, o, none⟩ (by rw [hheap]; exact hb)
    rw [show cellAt (w1.alloc (.cells all e)) b o = World.cell? (w1.alloc (.cells all e)) ⟨b, o, none⟩ from rfl, h1]
    simp only [World.cell?, hheap]
  have hnew : ∀ o, cellAt (w1.alloc (.cells all e)) w.heap.size o = all[o]? := fun o => by
    have := World.cell?_alloc_new w1 all e o
    rw [hheap] at this
    exact this
  have ev : Evo C w (C.vec H.length w.heap.size cap) (w1.alloc (.cells all e)) := by
    refine ⟨by rcases hw with rfl | rfl <;> rfl, by rcases hw with rfl | rfl <;> rfl, by rcases hw with rfl | rfl <;> rfl, by simp [hheap], fun b o h => ?_, fun i l h => ?_, fun i t h => ⟨t, h, Nat.le_refl _, fun _ => rfl⟩, fun b hb h => ?_⟩
    · have hb := s.lt b o (by rw [h]; simp)
      exact ⟨by simp only [Cx.vec]; rw [if_neg (by omega)]; exact h, hcell b o hb⟩
    · have : i < H.length := by
        rcases Nat.lt_or_ge i H.length with h' | h'
        · exact h'
        · rw [s.new_at i h'] at h; simp at h
      simp only [Cx.vec]
      rw [if_neg (by omega), if_neg (by omega)]
      exact h
    · refine ⟨by rw [RowKit.Below.heap_alloc w1 _ _ (by rw [hheap]; exact hb), hheap], fun o i => ?_⟩
      simp only [Cx.vec]
      rw [if_neg (by omega)]
      exact h o i
  have ha : (C.vec H.length w.heap.size cap).at_ H.length = some (w.heap.size, 0) := by simp [Cx.vec]
  have hc : (C.vec H.length w.heap.size cap).at_ (H.length + 1) = some (cap, 0) := by simp [Cx.vec]
  have hfn : ∀ o, (w1.alloc (.cells all e)).frozen? ⟨w.heap.size, o, none⟩ = false := by
    intro o
    have := World.frozen?_alloc_new w1 all e o
    rw [hheap] at this
    exact this
  have hmul : zs.length * size ≤ cap * size := Nat.mul_le_mul_right _ hcap
  refine ⟨ev, ⟨fun i y hy => ?_, fun b o h => ?_, fun i hi => ?_, fun i hi => ?_, fun b o i h => ?_, s.inv.mono ev⟩, ?_⟩
  · rcases Nat.lt_or_ge i H.length with hi | hi
    · rw [List.getElem?_append_left (by omega)] at hy
      rcases hd2 i y hy with hy | rfl
      · refine (s.obj i y hy).keep ev ⟨fun b o h => ?_, fun b x h hx _ => ?_, rfl⟩
        · have hb := s.lt b o (by rw [h]; simp)
          refine ⟨by simp only [Cx.vec]; rw [if_neg (by omega)]; exact h, hcell b o hb, ?_⟩
          rw [World.frozen?_alloc_old w1 _ _ (by show b ≠ _; rw [hheap]; omega)]
          exact hfro _
        · have hb := s.lt b 0 (by rw [h]; simp)
          rw [RowKit.Below.heap_alloc w1 _ _ (by rw [hheap]; exact hb), hheap]
          exact hx
      · trivial
    · rw [List.getElem?_append_right (by omega), hd] at hy
      rcases Nat.eq_or_lt_of_le hi with e' | e'
      · subst e'
        simp at hy
        subst hy
        refine ⟨w.heap.size, 0, cap, ha, hc, hcap, h0, fun i p hp => ?_, fun j h1 h2 => ?_⟩
        · obtain ⟨z1, z2⟩ := uniform_mem hun (List.mem_of_getElem? hp)
          refine ⟨z1, fun j q hq => ⟨z2 q (List.mem_of_getElem? hq), by simp [Cx.vec], hfn _, ?_⟩⟩
          have hj := lt_of_some hq
          have hi' := lt_of_some hp
          obtain ⟨r1, r2⟩ := (hrow.rep i p hp).cells
          have hju : j < (us i).cells.size := by omega
          refine ⟨(us i).cells[j], ?_, (r2 j q _ hq (Array.getElem?_eq_getElem hju)).mono ev⟩
          have hlt : i * size + j < zs.length * size := by
            have : (i + 1) * size ≤ zs.length * size := Nat.mul_le_mul_right _ (by omega)
            rw [Nat.add_mul, Nat.one_mul] at this
            omega
          rw [hnew, Nat.zero_add, hpre _ hlt, hrow.cell i p hp j (by omega), Array.getElem?_eq_getElem hju]
        · refine ⟨by simp [Cx.vec], hfn _, ?_⟩
          rw [hnew, Nat.zero_add, Array.getElem?_eq_getElem (by omega)]
          exact ⟨_, rfl⟩
      · have := lt_of_some hy
        simp at this
        rw [show i - H.length = 1 by omega] at hy
        simp at hy
        subst hy
        trivial
  · simp only [Cx.vec] at h
    split at h
    · rename_i e'; subst e'; simp [hheap]
    · have := s.lt b o h; simp [hheap]; omega
  · simp only [List.length_append, List.length_cons, List.length_nil] at hi
    simp only [Cx.vec]
    rw [if_neg (by omega), if_neg (by omega)]
    exact s.new_at i (by omega)
  · simp only [List.length_append, List.length_cons, List.length_nil] at hi
    exact s.new_tk i (by omega)
  · simp only [List.length_append, List.length_cons, List.length_nil]
    simp only [Cx.vec] at h
    split at h
    · injection h with h; omega
    · have := s.new_own b o i h; omega
  · have := Rep.view (C := C.vec H.length w.heap.size cap) (w := w1.alloc (.cells all e)) (a := some ⟨w.heap.size, 0, none⟩) size 0 zs.length ha hc (by omega) (fun _ => by simp)
    simpa using this

end Go.Flat
