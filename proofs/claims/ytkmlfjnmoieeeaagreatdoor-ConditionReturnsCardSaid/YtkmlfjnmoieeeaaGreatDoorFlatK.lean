/- A machine over plain values. Part K: append. -/
import Derived.Test.YtkmlfjnmoieeeaaGreatDoorFlatJ
import Derived.Laws.Append
set_option linter.unusedVariables false
set_option linter.unusedSimpArgs false
namespace Go.Flat
variable {P : Program} {mu : Bool} {C : Cx} {H : Heap} {w : World} {n : Nat} {T : Temps} {a : Act}

theorem lt_of_some {α : Type} {l : List α} {i : Nat} {x : α} (h : l[i]? = some x) : i < l.length := by
  rcases Nat.lt_or_ge i l.length with h' | h'
  · exact h'
  · rw [List.getElem?_eq_none h'] at h; simp at h

/-- Cells of a row of elements. -/
structure RowOf (C : Cx) (w : World) (size : Nat) (ps : List PV) (cells : Array Value) (us : Nat → Value) : Prop where
  len : cells.size = ps.length * size
  rep : ∀ i p, ps[i]? = some p → Rep C w p (us i)
  usize : ∀ i p, ps[i]? = some p → (us i).cells.size = size
  cell : ∀ i p, ps[i]? = some p → ∀ j, j < size → cells[i * size + j]? = (us i).cells[j]?
theorem divmod {size n m : Nat} (h : m < n * size) : ∃ i j, i < n ∧ j < size ∧ m = i * size + j := by
  have hs : 0 < size := by
    rcases Nat.eq_zero_or_pos size with e | e
    · subst e; simp at h
    · exact e
  refine ⟨m / size, m % size, (Nat.div_lt_iff_lt_mul hs).2 h, Nat.mod_lt _ hs, ?_⟩
  rw [Nat.mul_comm]; exact (Nat.div_add_mod m size).symm
theorem uniform_mem {size : Nat} {ps : List PV} (h : uniform size ps = true) {p : PV} (hp : p ∈ ps) : p.cells.length = size ∧ ∀ q ∈ p.cells, q.isCell = true := by
  simp only [uniform, List.all_eq_true, Bool.and_eq_true, beq_iff_eq] at h
  exact h p hp
/-- A slice's cells, read. -/
theorem firstCells_sl {size : Nat} {τ : Tail} {ps : List PV} {v : Value} (hv : Rep C w (.sl τ ps) v) (hun : uniform size ps = true) :
    (Builtin.lenOf v).run P w = .ok ps.length w ∧ ∃ cells us, (∀ w' : World, w'.heap = w.heap → (Builtin.firstCells size ps.length v).run P w' = .ok cells w') ∧ RowOf C w size ps cells us := by
  cases hv with
  | sl vs ha ht hc hr =>
    rename_i a' c b o k
    refine ⟨rfl, ?_⟩
    have hk : ps ≠ [] → k = size := by
      intro hne
      have hlt : 0 < ps.length := List.length_pos_iff.2 hne
      have h0 := List.getElem?_eq_getElem hlt
      have g1 := (hc 0 _ h0).1
      have g2 := (hr 0 _ h0).cells.1
      have g3 := (uniform_mem hun (List.getElem_mem hlt)).1
      omega
    by_cases hne : ps = []
    · subst hne
      cases a' with
      | none => exact ⟨#[], fun _ => undef, fun _ _ => by simp [Builtin.firstCells], ⟨by simp, by simp, by simp, by simp⟩⟩
      | some ad => exact ⟨#[], fun _ => undef, fun _ _ => by simp [Builtin.firstCells, loadCells, loadCellsFrom], ⟨by simp, by simp, by simp, by simp⟩⟩
    · have := hk hne
      subst this
      rw [ha hne]
      have cellv : ∀ m, m < ps.length * k → ∃ i j, i < ps.length ∧ j < k ∧ m = i * k + j ∧ cellAt w b (o + m) = (vs i).cells[j]? ∧ (vs i).cells.size = k := by
        intro m hm
        obtain ⟨i, j, h1, h2, h3⟩ := divmod hm
        obtain ⟨g1, _, g2⟩ := hc i _ (List.getElem?_eq_getElem h1)
        refine ⟨i, j, h1, h2, h3, ?_, g1⟩
        rw [h3, ← Nat.add_assoc]
        exact (g2 j h2).2
      have hrun := fun (w' : World) (hw : w'.heap = w.heap) => run_loadCells (P := P) w' ⟨b, o, none⟩ (ps.length * k) (fun m => (cellAt w b (o + m)).getD undef) (fun m hm => by
        obtain ⟨i, j, h1, h2, h3, h4, h5⟩ := cellv m hm
        rw [add_none]
        have e : w'.cell? ⟨b, o + m, none⟩ = cellAt w b (o + m) := by simp only [cellAt, World.cell?, hw]
        rw [e, h4, Array.getElem?_eq_getElem (by omega)]
        rfl)
      refine ⟨_, vs, fun w' hw => by simp only [Builtin.firstCells]; exact hrun w' hw, ⟨by simp, hr, fun i p hp => (hc i p hp).1, fun i p hp j hj => ?_⟩⟩
      have hi := lt_of_some hp
      have hlt : i * k + j < ps.length * k := by
        have : (i + 1) * k ≤ ps.length * k := Nat.mul_le_mul_right _ (by omega)
        rw [Nat.add_mul, Nat.one_mul] at this
        omega
      obtain ⟨g1, _, g2⟩ := hc i p hp
      have g3 := (g2 j hj).2
      rw [Nat.add_assoc] at g3
      simp [hlt]
      rw [g3, Array.getElem?_eq_getElem (by omega)]
      simp
theorem firstCells_elems {size : Nat} {y : PV} {ps : List PV} {v : Value} (hv : Rep C w y v) (hview : ∀ a b c d, y ≠ .view a b c d := by intros; simp) (he : elemsOf H y = some ps) (hun : uniform size ps = true) :
    (Builtin.lenOf v).run P w = .ok ps.length w ∧ ∃ cells us, (∀ w' : World, w'.heap = w.heap → (Builtin.firstCells size ps.length v).run P w' = .ok cells w') ∧ RowOf C w size ps cells us := by
  cases y <;> simp [elemsOf] at he
  · rename_i l
    subst he
    obtain ⟨s, rfl, rfl⟩ := rep_str hv
    refine ⟨by simp [Builtin.lenOf], (s.data.map fun b => Value.int .u8 b.toNat), fun i => .int .u8 (s.data.toList.getD i 0).toNat, fun _ _ => ?_, ?_⟩
    · have : s.extract 0 s.size = s := by
        simp
      simp [Builtin.firstCells, this]
    · have hsz : s.data.toList ≠ [] → size = 1 := by
        intro hne
        have hlt : 0 < s.data.toList.length := List.length_pos_iff.2 hne
        have := (uniform_mem hun (p := .int .u8 (s.data.toList[0]'hlt).toNat) (List.mem_map.2 ⟨_, List.getElem_mem hlt, rfl⟩)).1
        simpa [PV.cells] using this.symm
      refine ⟨?_, fun i p hp => ?_, fun i p hp => ?_, fun i p hp j hj => ?_⟩
      · by_cases hne : s.data.toList = []
        · have : s.data = #[] := by simpa using hne
          simp [this]
        · rw [hsz hne]; simp
      · simp only [List.getElem?_map] at hp
        cases hx : s.data.toList[i]? with
        | none => rw [hx] at hp; simp at hp
        | some b =>
          rw [hx] at hp
          simp at hp
          subst hp
          rw [List.getD_eq_getElem?_getD, hx]
          exact .int _ _
      · have hlt := lt_of_some hp
        rw [List.length_map] at hlt
        have : s.data.toList ≠ [] := by intro e; rw [e] at hlt; simp at hlt
        rw [hsz this]; rfl
      · have hlt := lt_of_some hp
        rw [List.length_map] at hlt
        have : s.data.toList ≠ [] := by intro e; rw [e] at hlt; simp at hlt
        have h1 := hsz this
        subst h1
        obtain rfl : j = 0 := by omega
        have hlt' : i < s.data.size := by simpa using hlt
        simp [Value.cells, hlt']
        exact ⟨_, Array.getElem?_eq_getElem hlt', by rw [Array.getElem?_eq_getElem hlt']; rfl⟩
  · subst he
    exact firstCells_sl hv hun
  · exact absurd rfl (hview _ _ _ _)

theorem append_rows {size : Nat} {xs ys : List PV} {c1 c2 : Array Value} {u1 u2 : Nat → Value} (h1 : RowOf C w size xs c1 u1) (h2 : RowOf C w size ys c2 u2) :
    RowOf C w size (xs ++ ys) (c1 ++ c2) (fun i => if i < xs.length then u1 i else u2 (i - xs.length)) := by
  have cases' : ∀ i p, (xs ++ ys)[i]? = some p → (i < xs.length ∧ xs[i]? = some p) ∨ (¬ i < xs.length ∧ ys[i - xs.length]? = some p) := by
    intro i p hp
    by_cases h : i < xs.length
    · rw [List.getElem?_append_left h] at hp; exact .inl ⟨h, hp⟩
    · rw [List.getElem?_append_right (by omega)] at hp; exact .inr ⟨h, hp⟩
  refine ⟨by simp [h1.len, h2.len, Nat.add_mul], fun i p hp => ?_, fun i p hp => ?_, fun i p hp j hj => ?_⟩
  · rcases cases' i p hp with ⟨a, b⟩ | ⟨a, b⟩
    · rw [if_pos a]; exact h1.rep i p b
    · rw [if_neg a]; exact h2.rep _ p b
  · rcases cases' i p hp with ⟨a, b⟩ | ⟨a, b⟩
    · rw [if_pos a]; exact h1.usize i p b
    · rw [if_neg a]; exact h2.usize _ p b
  · rcases cases' i p hp with ⟨a, b⟩ | ⟨a, b⟩
    · rw [if_pos a, ← h1.cell i p b j hj]
      refine Array.getElem?_append_left ?_
      rw [h1.len]
      have : (i + 1) * size ≤ xs.length * size := Nat.mul_le_mul_right _ (by omega)
      rw [Nat.add_mul, Nat.one_mul] at this
      omega
    · rw [if_neg a, ← h2.cell _ p b j hj]
      have hge : xs.length * size ≤ i * size := Nat.mul_le_mul_right _ (by omega)
      rw [Array.getElem?_append_right (by rw [h1.len]; omega), h1.len, Nat.sub_mul]
      congr 1
      omega

/-- A new row behind a draw: its head is never written, its tail belongs to a token. -/
def Cx.row (C : Cx) (id b used cap size : Nat) : Cx :=
  { own := fun b' o => if b' = b then (if o < used * size then .fz else .ob id) else C.own b' o, at_ := C.at_, tk := fun i => if i = id then some ⟨used, b, 0, cap, size⟩ else C.tk i }

theorem grow_ok [Globs] (s : Sim C H w) {id : Nat} {H' : Heap} {size used cap : Nat} {e : TypeId} {zs : List PV} {cells rest : Array Value} {us : Nat → Value} (hrow : RowOf C w size zs cells us) (hun : uniform size zs = true) (hlen : zs.length = used) (hpos : 0 < used) (hcap : used ≤ cap)
    (hrest : rest.size = (cap - used) * size) (hid : (id = H.length ∧ H' = H ++ [.tail used]) ∨ (id < H.length ∧ H' = H.set id (.tail used) ∧ ∃ t, C.tk id = some t ∧ t.n < used)) (hob : ∀ y, H[id]? = some y → ∃ m, y = .tail m) :
    Evo C w (C.row id w.heap.size used cap size) (w.drew.alloc (.cells (cells ++ rest) e)) ∧ Sim (C.row id w.heap.size used cap size) H' (w.drew.alloc (.cells (cells ++ rest) e)) ∧
      Rep (C.row id w.heap.size used cap size) (w.drew.alloc (.cells (cells ++ rest) e)) (.sl (.tok id) zs) (.slice (some ⟨w.heap.size, 0, none⟩) used cap) := by
  subst hlen
  have hidle : id ≤ H.length := by rcases hid with ⟨e, _⟩ | ⟨e, _⟩ <;> omega
  have hlenH : H.length ≤ H'.length ∧ id < H'.length := by
    rcases hid with ⟨e, e2⟩ | ⟨e, e2, _⟩ <;> subst e2 <;> simp <;> omega
  have hcell : ∀ b o, b < w.heap.size → cellAt (w.drew.alloc (.cells (cells ++ rest) e)) b o = cellAt w b o := fun b o hb =>
    World.cell?_alloc_lt w.drew (.cells (cells ++ rest) e) ⟨b, o, none⟩ hb
  have hnew : ∀ o, cellAt (w.drew.alloc (.cells (cells ++ rest) e)) w.heap.size o = (cells ++ rest)[o]? := fun o => World.cell?_alloc_new w.drew _ _ _
  have ev : Evo C w (C.row id w.heap.size zs.length cap size) (w.drew.alloc (.cells (cells ++ rest) e)) := by
    refine ⟨rfl, rfl, rfl, by simp, fun b o h => ?_, fun _ _ h => h, fun i t h => ?_, fun b hb h => ?_⟩
    · have hb := s.lt b o (by rw [h]; simp)
      exact ⟨by simp only [Cx.row]; rw [if_neg (by omega)]; exact h, hcell b o hb⟩
    · by_cases hi : i = id
      · subst hi
        rcases hid with ⟨e, _⟩ | ⟨_, _, t', ht', hlt⟩
        · subst e; rw [s.new_tk _ (Nat.le_refl _)] at h; simp at h
        · rw [h] at ht'
          injection ht' with ht'
          subst ht'
          refine ⟨⟨zs.length, w.heap.size, 0, cap, size⟩, by simp [Cx.row], by simp only; omega, fun hn => by simp only at hn; omega⟩
      · exact ⟨t, by simp only [Cx.row]; rw [if_neg hi]; exact h, Nat.le_refl _, fun _ => rfl⟩
    · refine ⟨RowKit.Below.heap_alloc w.drew _ _ hb, fun o i => ?_⟩
      simp only [Cx.row]
      rw [if_neg (by omega)]
      exact h o i
  have keep : ∀ i, i ≠ id → Keeps C w (C.row id w.heap.size zs.length cap size) (w.drew.alloc (.cells (cells ++ rest) e)) i := by
    intro i hi
    refine ⟨fun b o h => ?_, fun b y h hy _ => ?_, by simp only [Cx.row]; rw [if_neg hi]⟩
    · have hb := s.lt b o (by rw [h]; simp)
      refine ⟨by simp only [Cx.row]; rw [if_neg (by omega)]; exact h, hcell b o hb, ?_⟩
      exact World.frozen?_alloc_old w.drew _ _ (by show b ≠ _; simp; omega)
    · have hb := s.lt b 0 (by rw [h]; simp)
      rw [RowKit.Below.heap_alloc w.drew _ _ hb]
      exact hy
  have hsize : (cells ++ rest).size = cap * size := by
    rw [Array.size_append, hrow.len, hrest, ← Nat.add_mul]
    congr 1
    omega
  refine ⟨ev, ⟨fun i y hy => ?_, fun b o h => ?_, fun i hi => s.new_at i (by omega), fun i hi => ?_, fun b o i h => ?_, s.inv.mono ev⟩, ?_⟩
  · by_cases hi : i = id
    · subst hi
      have hy' : y = .tail zs.length := by
        rcases hid with ⟨e, e2⟩ | ⟨e, e2, _⟩
        · subst e; subst e2; simp at hy; exact hy.symm
        · subst e2; rw [List.getElem?_set_self e] at hy; injection hy with hy; exact hy.symm
      subst hy'
      refine ⟨⟨zs.length, w.heap.size, 0, cap, size⟩, by simp [Cx.row], rfl, hcap, hpos, fun j h1 h2 => ?_⟩
      simp only at h1 h2 ⊢
      refine ⟨by simp only [Cx.row, if_true]; rw [if_neg (by omega)], by simpa using World.frozen?_alloc_new w.drew (cells ++ rest) e (0 + j), ?_⟩
      rw [hnew, Nat.zero_add, Array.getElem?_eq_getElem (by omega)]
      exact ⟨_, rfl⟩
    · have hy' : H[i]? = some y := by
        rcases hid with ⟨e, e2⟩ | ⟨e, e2, _⟩
        · subst e2
          by_cases hlt : i < H.length
          · rwa [List.getElem?_append_left hlt] at hy
          · have := lt_of_some hy
            simp at this
            omega
        · subst e2
          rwa [List.getElem?_set_ne (by omega)] at hy
      exact (s.obj i y hy').keep ev (keep i hi)
  · simp only [Cx.row] at h
    split at h
    · rename_i e; subst e; simp
    · have := s.lt b o h; simp; omega
  · simp only [Cx.row]
    rw [if_neg (by omega)]
    exact s.new_tk i (by omega)
  · simp only [Cx.row] at h
    split at h
    · split at h
      · simp at h
      · injection h with h; omega
    · have := s.new_own b o i h; omega
  · refine .sl (b := w.heap.size) (o := 0) (k := size) us (fun _ => rfl) ⟨by omega, ⟨zs.length, w.heap.size, 0, cap, size⟩, by simp [Cx.row], by simp only; omega, fun _ => ⟨rfl, rfl, rfl⟩⟩ (fun i p hp => ⟨hrow.usize i p hp, (uniform_mem hun (List.mem_of_getElem? hp)).2, fun j hj => ?_⟩)
      (fun i p hp => (hrow.rep i p hp).mono ev)
    have hi := lt_of_some hp
    have hlt : i * size + j < zs.length * size := by
      have : (i + 1) * size ≤ zs.length * size := Nat.mul_le_mul_right _ (by omega)
      rw [Nat.add_mul, Nat.one_mul] at this
      omega
    refine ⟨by simp only [Cx.row, if_true]; rw [if_pos (by omega)], ?_⟩
    rw [hnew, Nat.zero_add, Array.getElem?_append_left (by rw [hrow.len]; exact hlt)]
    exact hrow.cell i p hp j hj

/-- In place: the token's row has room. -/
def Cx.eat (C : Cx) (id : Nat) (t : Tk) (used : Nat) : Cx :=
  { own := fun b o => if b = t.b ∧ t.o + t.n * t.k ≤ o ∧ o < t.o + used * t.k then .fz else C.own b o, at_ := C.at_, tk := fun i => if i = id then some { t with n := used } else C.tk i }
theorem room_ok [Globs] (s : Sim C H w) {id : Nat} {t : Tk} (ht : C.tk id = some t) (hH : H[id]? = some (.tail t.n)) {size : Nat} {xs ys : List PV} {a' : Option Addr} {c b o k : Nat} (vs : Nat → Value) (hx : xs.length = t.n)
    (ha : xs ≠ [] → a' = some ⟨b, o, none⟩) (htail : TailOk C (.tok id) xs.length a' c k) (hc : ∀ i p, xs[i]? = some p → (vs i).cells.size = k ∧ (∀ q ∈ p.cells, q.isCell = true) ∧ ∀ j, j < k → C.own b (o + i * k + j) = .fz ∧ cellAt w b (o + i * k + j) = (vs i).cells[j]?)
    (hr : ∀ i p, xs[i]? = some p → Rep C w p (vs i)) (hk : k = size) {cells : Array Value} {us : Nat → Value} (hrow : RowOf C w size ys cells us) (hun : uniform size ys = true) (hpos : 0 < ys.length) (hpx : 0 < xs.length) (hs0 : 0 < size) (hroom : xs.length + ys.length ≤ c) :
    ∃ w' C', (∀ ad, a' = some ad → (storeCells (ad.add (xs.length * size)) cells.toList).run P w = .ok () w') ∧ Evo C w C' w' ∧ Sim C' (H.set id (.tail (xs.length + ys.length))) w' ∧ Rep C' w' (.sl (.tok id) (xs ++ ys)) (.slice a' (xs.length + ys.length) c) := by
  subst hk
  obtain ⟨hnc, t', ht', hle, heq⟩ := htail
  rw [ht] at ht'
  injection ht' with ht'
  subst ht'
  obtain ⟨e1, e2, e3⟩ := heq hx
  have hxne : xs ≠ [] := by intro e; subst e; simp at hpx
  have hab := ha hxne
  rw [e1] at hab
  injection hab with hab
  injection hab with hb ho
  subst e1
  obtain ⟨t', g1, g2, g3, g4, g5⟩ := s.obj id _ hH
  rw [ht] at g1
  injection g1 with g1
  subst g1
  have hidlt := lt_of_some hH
  have hcl : cells.toList.length = ys.length * k := by simpa using hrow.len
  have hpc : 0 < cells.toList.length := by rw [hcl]; exact Nat.mul_pos hpos hs0
  have inTail : ∀ j, j < cells.toList.length → C.own t.b (t.o + t.n * k + j) = .ob id ∧ w.frozen? ⟨t.b, t.o + t.n * k + j, none⟩ = false ∧ ∃ v, cellAt w t.b (t.o + t.n * k + j) = some v := by
    intro j hj
    have h1 : (xs.length + ys.length) * k ≤ c * k := Nat.mul_le_mul_right _ hroom
    rw [Nat.add_mul, hx] at h1
    have := g5 (t.n * k + j) (by rw [e3]; omega) (by rw [← e2, ← e3]; omega)
    rw [← Nat.add_assoc] at this
    exact this
  have hone : ∀ z ∈ cells.toList, z.oneCell' = true := by
    intro z hz
    obtain ⟨m, hm, rfl⟩ := List.getElem_of_mem hz
    obtain ⟨i, j, h1, h2, h3⟩ := divmod (by rw [← hcl]; exact hm)
    have hp := List.getElem?_eq_getElem h1
    have c1 := hrow.cell i _ hp j h2
    have u1 := hrow.usize i _ hp
    obtain ⟨r1, r2⟩ := (hrow.rep i _ hp).cells
    have hju : j < (us i).cells.size := by omega
    have hjp : j < ys[i].cells.length := by omega
    have rr := r2 j _ _ (List.getElem?_eq_getElem hjp) (Array.getElem?_eq_getElem hju)
    have hcell := (uniform_mem hun (List.getElem_mem h1)).2 _ (List.getElem_mem hjp)
    have hoc := oneCell_of rr hcell
    have hm' : m < cells.size := by simpa using hm
    rw [← h3, Array.getElem?_eq_getElem hm', Array.getElem?_eq_getElem hju] at c1
    injection c1 with c1
    simp only [Array.getElem_toList]
    rw [c1]; exact hoc
  have hrun := run_storeCells_cells (P := P) t.b (t.o + t.n * k) cells.toList 0 w (fun j hj => by obtain ⟨_, _, v, hv⟩ := inTail j hj; simp only [Nat.add_zero]; exact Option.isSome_iff_exists.2 ⟨v, hv⟩) (fun j hj => by simpa using (inTail j hj).2.1) hone
  have hcellSome : ∀ j, j < cells.toList.length → (cellAt w t.b (t.o + t.n * k + j)).isSome = true := fun j hj => by obtain ⟨_, _, v, hv⟩ := inTail j hj; exact Option.isSome_iff_exists.2 ⟨v, hv⟩
  have hout : ∀ b' o', (b' = t.b → o' < t.o + t.n * k ∨ t.o + t.n * k + cells.toList.length ≤ o') → cellAt (w.setCells t.b (t.o + t.n * k) cells.toList) b' o' = cellAt w b' o' := fun b' o' h =>
    World.cell?_setCells_out t.b _ _ w ⟨b', o', none⟩ (fun e _ => h e)
  have husedk : (xs.length + ys.length) * k = t.n * k + cells.toList.length := by rw [Nat.add_mul, hx, hcl]
  have ev : Evo C w (C.eat id t (xs.length + ys.length)) (w.setCells t.b (t.o + t.n * k) cells.toList) := by
    obtain ⟨h1, h2, h3, h4, h5⟩ := setCells_heap t.b cells.toList (t.o + t.n * k) w
    refine ⟨h2, h3, h4, by omega, fun b' o' h => ⟨?_, hout b' o' (fun e => ?_)⟩, fun _ _ h => h, fun i t'' h => ?_, fun b' hb' hn => ⟨?_, ?_⟩⟩
    · simp only [Cx.eat]
      split
      · rfl
      · exact h
    · subst e
      by_cases c1 : o' < t.o + t.n * k ∨ t.o + t.n * k + cells.toList.length ≤ o'
      · exact c1
      · have := (inTail (o' - (t.o + t.n * k)) (by omega)).1
        rw [show t.o + t.n * k + (o' - (t.o + t.n * k)) = o' by omega, h] at this
        simp at this
    · by_cases hi : i = id
      · subst hi
        rw [ht] at h
        injection h with h
        subst h
        exact ⟨_, by simp only [Cx.eat, if_true]; rfl, by simp only; omega, fun hn => by simp only at hn; omega⟩
      · exact ⟨t'', by simp only [Cx.eat]; rw [if_neg hi]; exact h, Nat.le_refl _, fun _ => rfl⟩
    · refine h5 b' (fun e => ?_)
      subst e
      exact hn _ id (inTail 0 hpc).1
    · intro o' i h
      simp only [Cx.eat] at h
      split at h
      · simp at h
      · exact hn o' i h
  refine ⟨w.setCells t.b (t.o + t.n * k) cells.toList, C.eat id t (xs.length + ys.length), ?_, ev, ?_, ?_⟩
  · intro ad had
    injection had with had
    subst had
    rw [add_none, hx]
    simpa using hrun
  · refine ⟨fun i y hy => ?_, fun b' o' h => ?_, fun i hi => s.new_at i (by simpa using hi), fun i hi => ?_, fun b' o' i h => ?_, s.inv.mono ev⟩
    · by_cases hi : i = id
      · subst hi
        rw [List.getElem?_set_self hidlt] at hy
        injection hy with hy
        subst hy
        refine ⟨{ t with n := xs.length + ys.length }, by simp [Cx.eat], rfl, by simp only; omega, by omega, fun j h1 h2 => ?_⟩
        simp only at h1 h2 ⊢
        rw [← e3, husedk] at h1
        obtain ⟨q1, q2, v, q3⟩ := g5 j (by rw [← e3]; omega) h2
        refine ⟨?_, (World.frozen?_setCells _ _ _ _ _).trans q2, v, ?_⟩
        · simp only [Cx.eat]
          rw [if_neg (by rw [← e3, husedk]; omega)]
          exact q1
        · rw [hout _ _ (fun _ => .inr (by omega))]; exact q3
      · rw [List.getElem?_set_ne (by omega)] at hy
        refine (s.obj i y hy).keep ev ⟨fun b' o' h => ⟨?_, hout b' o' (fun e => ?_), World.frozen?_setCells _ _ _ _ _⟩, fun b' x h hx' hnc => ?_, by simp only [Cx.eat]; rw [if_neg hi]⟩
        · simp only [Cx.eat]
          rw [if_neg]
          · exact h
          · rintro ⟨e, q1, q2⟩
            subst e
            rw [← e3] at q1 q2
            rw [husedk] at q2
            have := (inTail (o' - (t.o + t.n * k)) (by omega)).1
            rw [show t.o + t.n * k + (o' - (t.o + t.n * k)) = o' by omega, h] at this
            injection this with this
            exact hi this
        · subst e
          by_cases c1 : o' < t.o + t.n * k ∨ t.o + t.n * k + cells.toList.length ≤ o'
          · exact c1
          · have := (inTail (o' - (t.o + t.n * k)) (by omega)).1
            rw [show t.o + t.n * k + (o' - (t.o + t.n * k)) = o' by omega, h] at this
            injection this with this
            exact absurd this hi
        · rw [(setCells_heap t.b _ _ w).2.2.2.2 b']
          · exact hx'
          · rintro rfl
            obtain ⟨_, _, u, hu⟩ := inTail 0 hpc
            simp only [cellAt, World.cell?, hx'] at hu
            cases x <;> simp at hu
            exact hnc _ _ _ rfl
    · rw [(setCells_heap t.b _ _ w).1]
      simp only [Cx.eat] at h
      split at h
      · rename_i e; rw [e.1]; exact s.lt _ _ (by rw [(inTail 0 hpc).1]; simp)
      · exact s.lt b' o' h
    · have hi' : H.length ≤ i := by simpa using hi
      simp only [Cx.eat]
      rw [if_neg (by omega)]
      exact s.new_tk i hi'
    · simp only [Cx.eat] at h
      simp only [List.length_set]
      split at h
      · simp at h
      · exact s.new_own b' o' i h
  · have hl : (xs ++ ys).length = xs.length + ys.length := by simp
    suffices hfin : Rep (C.eat id t (xs.length + ys.length)) (w.setCells t.b (t.o + t.n * k) cells.toList) (.sl (.tok id) (xs ++ ys)) (.slice (some ⟨t.b, t.o, none⟩) (xs ++ ys).length c) by rw [hl] at hfin; exact hfin
    have split' : ∀ i p, (xs ++ ys)[i]? = some p → (i < xs.length ∧ xs[i]? = some p) ∨ (¬ i < xs.length ∧ ys[i - xs.length]? = some p) := by
      intro i p hp
      by_cases h : i < xs.length
      · rw [List.getElem?_append_left h] at hp; exact .inl ⟨h, hp⟩
      · rw [List.getElem?_append_right (by omega)] at hp; exact .inr ⟨h, hp⟩
    refine .sl (b := t.b) (o := t.o) (k := k) (fun i => if i < xs.length then vs i else us (i - xs.length)) (fun _ => rfl) ⟨by rw [hl]; omega, { t with n := xs.length + ys.length }, by simp [Cx.eat], by simp, fun _ => ⟨rfl, e2, e3⟩⟩ (fun i p hp => ?_) (fun i p hp => ?_)
    · rcases split' i p hp with ⟨q1, q2⟩ | ⟨q1, q2⟩
      · rw [if_pos q1]
        obtain ⟨r1, r2, r3⟩ := hc i p q2
        refine ⟨r1, r2, fun j hj => ?_⟩
        obtain ⟨z1, z2⟩ := r3 j hj
        rw [← hb, ← ho] at z1 z2
        exact ⟨(ev.fz _ _ z1).1, (ev.fz _ _ z1).2.trans z2⟩
      · rw [if_neg q1]
        refine ⟨hrow.usize _ p q2, (uniform_mem hun (List.mem_of_getElem? q2)).2, fun j hj => ?_⟩
        have hiy := lt_of_some q2
        have hm : (i - xs.length) * k + j < cells.toList.length := by
          rw [hcl]
          have : (i - xs.length + 1) * k ≤ ys.length * k := Nat.mul_le_mul_right _ (by omega)
          rw [Nat.add_mul, Nat.one_mul] at this
          omega
        have hpos' : t.o + i * k + j = t.o + t.n * k + ((i - xs.length) * k + j) := by
          have : i * k = t.n * k + (i - xs.length) * k := by rw [← Nat.add_mul]; congr 1; omega
          omega
        constructor
        · simp only [Cx.eat]
          rw [if_pos]
          refine ⟨by trivial, ?_, ?_⟩
          · rw [← e3]; omega
          · rw [← e3, husedk]; omega
        · rw [hpos']
          have hin := World.cell?_setCells_in t.b cells.toList (t.o + t.n * k) w hcellSome _ hm
          show World.cell? _ _ = _
          rw [hin]
          have := hrow.cell _ p q2 j hj
          rw [← this]
          have hm2 : (i - xs.length) * k + j < cells.size := by simpa using hm
          rw [Array.getElem?_eq_getElem hm2]
          simp
    · rcases split' i p hp with ⟨q1, q2⟩ | ⟨q1, q2⟩
      · rw [if_pos q1]; exact (hr i p q2).mono ev
      · rw [if_neg q1]; exact (hrow.rep _ p q2).mono ev

end Go.Flat
