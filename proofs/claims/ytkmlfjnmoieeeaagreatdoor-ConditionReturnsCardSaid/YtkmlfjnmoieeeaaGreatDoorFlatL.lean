/- A machine over plain values. Part L: append, all ways. -/
import Derived.Test.YtkmlfjnmoieeeaaGreatDoorFlatV
import Derived.Laws.Externs
import Derived.Laws.IdiomStrings
import Derived.Laws.BytesArg
set_option linter.unusedVariables false
set_option linter.unusedSimpArgs false
namespace Go.Flat
variable {P : Program} {mu : Bool} {C : Cx} {H : Heap} {w : World} {n : Nat} {T : Temps} {a : Act}

/-- What a value-making operation comes to. -/
def Makes [Globs] (P : Program) (C : Cx) (w : World) (s : Sem Value) (p : PV) (H' : Heap) : Prop := ∃ v w' C', s.run P w = .ok v w' ∧ Evo C w C' w' ∧ Sim C' H' w' ∧ Rep C' w' p v

theorem append_run {t t2 ty e : TypeId} {size bytes : Nat} (hu : P.underlying t = some (.slice e)) (hu2 : (∃ e2, P.underlying t2 = some (.slice e2)) ∨ P.underlying t2 = some .string) (hs : sizeT P e = some size) {zv : Value} (hz : ∀ w, (zeroValue e).run P w = .ok zv w) (hb : (P.info? e).map (·.bytes) = some bytes)
    {a' : Option Addr} {n c m : Nat} {y : Value} {old new : Array Value} (hl : (Builtin.lenOf y).run P w = .ok m w) (hn : ∀ w' : World, w'.heap = w.heap → (Builtin.firstCells size m y).run P w' = .ok new w') (ho : ∀ w' : World, w'.heap = w.heap → (Builtin.firstCells size n (.slice a' n c)).run P w' = .ok old w')
    (hneed : n + m ≤ 4294967296) (hby : bytes ≤ 4096) :
    (n + m ≤ c → ∀ w', (∀ ad, a' = some ad → (storeCells (ad.add (n * size)) new.toList).run P w = .ok () w') → (a' = none → w' = w) → (Builtin.append_ #[t, t2] ty #[.slice a' n c, y]).run P w = .ok (.slice a' (n + m) c) w') ∧
    (c < n + m → ∃ cap, n + m ≤ cap ∧ (Builtin.append_ #[t, t2] ty #[.slice a' n c, y]).run P w = .ok (.slice (some ⟨w.heap.size, 0, none⟩) (n + m) cap) (w.drew.alloc (.cells (old ++ new ++ Builtin.zeroCells zv.cells (cap - (n + m))) e))) := by
  obtain ⟨i, hi, hib⟩ : ∃ i, P.info? e = some i ∧ i.bytes = bytes := by
    cases hi : P.info? e with
    | none => simp [hi] at hb
    | some i => simp [hi] at hb; exact ⟨i, rfl, hb⟩
  have hti : ∀ w : World, (typeInfo e).run P w = .ok i w := fun w => by simp [typeInfo, hi]
  constructor
  · intro hroom w' hst hnone
    have hn' := hn w rfl
    cases a' with
    | none =>
      rw [hnone rfl]
      rcases hu2 with ⟨e2, h2⟩ | h2 <;> simp [Builtin.append_, run_underlying hu, run_underlying h2, run_sizeT hs, hl, hroom, hn']
    | some ad =>
      rcases hu2 with ⟨e2, h2⟩ | h2 <;> simp [Builtin.append_, run_underlying hu, run_underlying h2, run_sizeT hs, hl, hroom, hn', hst ad rfl]
  · intro hlt
    have hng : ¬ n + m ≤ c := by omega
    have hmax : ¬ ((n + m : Nat) : Int) > IntKind.i64.max := by
      have hm : IntKind.i64.max = 9223372036854775807 := by decide
      rw [hm]; omega
    have h48 : ¬ Builtin.nextslicecap (n + m) c * i.bytes > 2 ^ 48 := by
      have h1 := nextslicecap_le hlt
      have h2 : Builtin.nextslicecap (n + m) c * i.bytes ≤ (2 * (n + m)) * 4096 := Nat.mul_le_mul h1 (by omega)
      omega
    refine ⟨n + m + (w.tape w.drawn (.appendCap (n + m) c e)) % (2 ^ 63 - (n + m)), by omega, ?_⟩
    have hd : (choose (.appendCap (n + m) c e)).run P w = .ok (n + m + (w.tape w.drawn (.appendCap (n + m) c e)) % (2 ^ 63 - (n + m))) w.drew := by
      simp [Question.forced, Question.cut]
    have hn' := hn w.drew rfl
    have ho' := ho w.drew rfl
    rcases hu2 with ⟨e2, h2⟩ | h2 <;> simp [Builtin.append_, run_underlying hu, run_underlying h2, run_sizeT hs, hl, hng, hti, hmax, h48, Question.forced, Question.cut, ho', hn', hz, newRow]
    all_goals (intro hbig; omega)

theorem append_viewM [Globs] (s : Sim C H w) {t t2 ty e : TypeId} {size bytes : Nat} {z : PV} {zv : Value} (hu : P.underlying t = some (.slice e)) (hu2 : (∃ e2, P.underlying t2 = some (.slice e2)) ∨ P.underlying t2 = some .string) (hs : sizeT P e = some size) (z1 : ∀ w, (zeroValue e).run P w = .ok zv w) (z2 : Rep C w z zv) (hzl : z.cells.length = size) (hb : (P.info? e).map (·.bytes) = some bytes)
    {id k i n : Nat} {ys : List PV} {y p : PV} {vx vy : Value} (hx : Rep C w (.view id k i n) vx) (hy : Rep C w y vy) (hey : elemsOf H y = some ys) {H' : Heap}
    (h : (match H[id]? with
      | some (.vec k' es) =>
        if i = 0 ∧ k = size ∧ k' = size ∧ n ≤ es.length ∧ n + ys.length ≤ 4294967296 ∧ bytes ≤ 4096 ∧ 0 < size ∧ uniform size ys then
          if ys.length = 0 then some (.view id k i n, H)
          else some (.view H.length size 0 (n + ys.length), H.set id .dead ++ [.vec size (es.take n ++ ys), .dead])
        else none
      | _ => none) = some (p, H')) : Makes P C w (Builtin.append_ #[t, t2] ty #[vx, vy]) p H' := by
  have hzs : zv.cells.size = size := by rw [z2.cells.1]; exact hzl
  have zc : ∀ m, (Builtin.zeroCells zv.cells m).size = m * size := by
    intro m; simp [Builtin.zeroCells, hzs]
  clear z2
  split at h
  · rename_i k' es hH
    split at h
    case isFalse => simp at h
    rename_i hcond
    obtain ⟨e0, e1, e2, c6, c1, c2, c3, c5⟩ := hcond
    subst e0
    rw [e1] at hx h
    rw [e2] at hH
    obtain ⟨l1, newc, us, hn', hrowN⟩ := elems_read (P := P) s hy hey c5
    obtain ⟨b0, o0, c0, q1, q2, q3, q4, q5, q6⟩ := s.obj id _ hH
    have hux : uniform size ((es.drop 0).take n) = true := by
      simp only [uniform, List.all_eq_true, Bool.and_eq_true, beq_iff_eq]
      intro p hp
      obtain ⟨t, ht, rfl⟩ := List.getElem_of_mem (List.mem_of_mem_drop (List.mem_of_mem_take hp))
      obtain ⟨y1, y2⟩ := q5 t _ (List.getElem?_eq_getElem ht)
      refine ⟨y1, fun q hq => ?_⟩
      obtain ⟨j, hj, rfl⟩ := List.getElem_of_mem hq
      exact (y2 j _ (List.getElem?_eq_getElem hj)).1
    obtain ⟨_, oldc, uo, ho', hrowO⟩ := view_elems (P := P) s hx hH (by omega) hux
    obtain ⟨b, o, c, a', rfl, hat, hcap, hl, ha⟩ := view_inv hx
    simp only [Nat.sub_zero] at ho' ⊢
    simp only [Nat.zero_add] at hl
    simp only [Nat.zero_mul, Nat.add_zero] at ha
    simp only [List.drop_zero] at hrowO hux
    obtain ⟨hroom, hgrow⟩ := append_run (P := P) (w := w) (ty := ty) (a' := a') hu hu2 hs z1 hb (c := c) l1 hn' ho' c1 c2
    clear q1 q2 q3 q5 q6
    split at h
    · rename_i hy0
      have hy0' : ys.length = 0 := hy0
      injection h with h
      injection h with h1 h2
      subst h1; subst h2
      have hnew : newc.toList = [] := by
        have := hrowN.len
        rw [hy0', Nat.zero_mul] at this
        exact List.eq_nil_of_length_eq_zero (by simpa using this)
      have := hroom (by omega) w (fun ad _ => by rw [hnew]; simp [storeCells]) (fun _ => rfl)
      refine ⟨_, w, C, this, Evo.refl _ _, s, ?_⟩
      rw [hy0', Nat.add_zero]
      exact Rep.view (C := C) (w := w) (a := a') size 0 n hat hcap (by omega) (fun h => by simpa using ha h)
    · rename_i hy0
      have hypos : 0 < ys.length := by omega
      injection h with h
      injection h with h1 h2
      subst h1; subst h2
      have hlt : (es.take n).length = n := by simp; omega
      have hl' : (es.take n ++ ys).length = n + ys.length := by simp; omega
      by_cases hfit : n + ys.length ≤ c
      · have hac := ha (by omega)
        obtain ⟨w', r1, r2, r3⟩ := vecWrite_ok (P := P) s hH hat hcap hrowN c5 c6 hfit hypos
        have hidlt := lt_of_some hH
        have r4 := vecTake_ok r3 (l := n + ys.length) (List.getElem?_set_self hidlt) (by simp; omega)
        have hes : (es.take n ++ ys ++ es.drop (n + ys.length)).take (n + ys.length) = es.take n ++ ys := by
          rw [List.take_append_of_le_length (by rw [hl']; omega), List.take_of_length_le (by rw [hl']; omega)]
        rw [hes, List.set_set] at r4
        obtain ⟨m1, m2, m3⟩ := vecMove_ok r4 (List.getElem?_set_self hidlt) (r2.at_ _ _ hat) (r2.at_ _ _ hcap)
        rw [List.set_set, List.length_set] at m2
        rw [List.length_set] at m1 m3
        have hst : ∀ ad, a' = some ad → (storeCells (ad.add (n * size)) newc.toList).run P w = .ok () w' := by
          intro ad had
          rw [hac] at had
          injection had with had
          subst had
          rw [add_none]
          exact r1
        have hr := hroom hfit w' hst (fun hnone => by rw [hac] at hnone; simp at hnone)
        refine ⟨_, w', _, hr, r2.trans m1, m2, ?_⟩
        rw [hac]
        exact m3 (n + ys.length) (by rw [hl']; omega)
      · obtain ⟨cap, hcp, hrun⟩ := hgrow (by omega)
        have hrows := append_rows hrowO hrowN
        have hun : uniform size (es.take n ++ ys) = true := by
          simp only [uniform, List.all_append, Bool.and_eq_true] at hux c5 ⊢
          exact ⟨hux, c5⟩
        have hd2 : ∀ (i : Nat) y, (H.set id .dead)[i]? = some y → H[i]? = some y ∨ y = .dead := fun i y hy => by
          by_cases hi : i = id
          · subst hi; rw [List.getElem?_set_self (lt_of_some hH)] at hy; injection hy with hy; exact .inr hy.symm
          · rw [List.getElem?_set_ne (by omega)] at hy; exact .inl hy
        obtain ⟨e1, e2, e3⟩ := vecNew_ok s (.inr rfl) (Hd := H.set id .dead) (by simp) hd2 (size := size) (cap := cap) (e := e) (zs := es.take n ++ ys) (all := oldc ++ newc ++ Builtin.zeroCells zv.cells (cap - (n + ys.length))) hrows hun c3
          (by rw [Array.size_append, hrows.len, zc, hl', ← Nat.add_mul]; congr 1; omega)
          (fun j hj => Array.getElem?_append_left (by rw [hrows.len]; exact hj)) (by rw [hl']; exact hcp)
        rw [hl'] at e3
        exact ⟨_, _, _, hrun, e1, e2, e3⟩
  · simp at h

theorem append_ok [Globs] (s : Sim C H w) {t t2 ty e : TypeId} {size bytes : Nat} {mv : Bool} {z : PV} (hu : P.underlying t = some (.slice e)) (hu2 : (∃ e2, P.underlying t2 = some (.slice e2)) ∨ P.underlying t2 = some .string) (hs : sizeT P e = some size) (hz : zeroT P e = some z) (hzl : z.cells.length = size) (hb : (P.info? e).map (·.bytes) = some bytes)
    {x y p : PV} {vx vy : Value} (hx : Rep C w x vx) (hy : Rep C w y vy) {H' : Heap} (h : appendA H size bytes mv x y = some (p, H')) : Makes P C w (Builtin.append_ #[t, t2] ty #[vx, vy]) p H' := by
  obtain ⟨zv, z1, z2⟩ := run_zeroT hz
  have hzs : zv.cells.size = size := by rw [(z2 C w).cells.1]; exact hzl
  have zc : ∀ m, (Builtin.zeroCells zv.cells m).size = m * size := by
    intro m; simp [Builtin.zeroCells, hzs]
  unfold appendA at h
  split at h
  · rename_i τ xs ys hey
    split at h
    case isFalse => simp at h
    rename_i hcond
    obtain ⟨c1, c2, c3, c4, c5⟩ := hcond
    obtain ⟨l1, newc, us, hn', hrowN⟩ := elems_read (P := P) s hy hey c5
    obtain ⟨_, oldc, uo, ho', hrowO⟩ := firstCells_sl (P := P) hx c4
    cases hx with
    | @sl _ _ a' c b o k vs ha ht hc hr =>
      obtain ⟨hroom, hgrow⟩ := append_run (P := P) (w := w) (ty := ty) hu hu2 hs z1 hb (c := c) l1 hn' ho' c1 c2
      have hnc : xs.length ≤ c := by
        cases τ with
        | shut => exact ht
        | exact => simp only [TailOk] at ht; omega
        | tok t => exact ht.1
      split at h
      · rename_i hy0
        have hy0' : ys.length = 0 := hy0
        injection h with h
        injection h with h1 h2
        subst h1; subst h2
        have hnew : newc.toList = [] := by
          have := hrowN.len
          rw [hy0', Nat.zero_mul] at this
          exact List.eq_nil_of_length_eq_zero (by simpa using this)
        have := hroom (by omega) w (fun ad _ => by rw [hnew]; simp [storeCells]) (fun _ => rfl)
        refine ⟨_, w, C, this, Evo.refl _ _, s, ?_⟩
        rw [hy0', Nat.add_zero]
        exact .sl vs ha ht hc hr
      · rename_i hy0
        have hypos : 0 < ys.length := by omega
        have hrows := append_rows hrowO hrowN
        have hun : uniform size (xs ++ ys) = true := by
          simp only [uniform, List.all_append, Bool.and_eq_true] at c4 c5 ⊢
          exact ⟨c4, c5⟩
        cases τ with
        | shut => simp at h
        | exact =>
          simp only [TailOk] at ht
          obtain ⟨cap, hcap, hrun⟩ := hgrow (by omega)
          cases mv with
          | false =>
            simp only [Bool.false_eq_true, if_false] at h
            injection h with h
            injection h with h1 h2
            subst h1; subst h2
            obtain ⟨e1, e2, e3⟩ := grow_ok (e := e) s (id := H.length) (H' := H ++ [.tail (xs.length + ys.length)]) (used := xs.length + ys.length) (cap := cap) hrows hun (by simp) (by omega) hcap (zc _) (.inl ⟨rfl, rfl⟩) (by simp)
            exact ⟨_, _, _, hrun, e1, e2, e3⟩
          | true =>
            simp only [if_true] at h
            injection h with h
            injection h with h1 h2
            subst h1; subst h2
            have hl : (xs ++ ys).length = xs.length + ys.length := by simp
            obtain ⟨e1, e2, e3⟩ := vecNew_ok s (.inr rfl) (Hd := H) rfl (fun _ _ h => .inl h) (size := size) (cap := cap) (e := e) (zs := xs ++ ys) (all := oldc ++ newc ++ Builtin.zeroCells zv.cells (cap - (xs.length + ys.length))) hrows hun c3
              (by rw [Array.size_append, hrows.len, zc, hl, ← Nat.add_mul]; congr 1; omega)
              (fun j hj => Array.getElem?_append_left (by rw [hrows.len]; exact hj)) (by rw [hl]; exact hcap)
            rw [hl] at e3
            exact ⟨_, _, _, hrun, e1, e2, e3⟩
        | tok i =>
          simp only at h
          split at h
          · rename_i m hH
            split at h
            · rename_i hm
              injection h with h
              injection h with h1 h2
              subst h1; subst h2
              obtain ⟨tk, g1, g2, g3, g4, _⟩ := s.obj i _ hH
              have htn : tk.n = xs.length := by omega
              have hxpos : 0 < xs.length := by omega
              have hksz : k = size := by
                have h0 := List.getElem?_eq_getElem hxpos
                have q1 := (hc 0 _ h0).1
                have q2 := (hr 0 _ h0).cells.1
                have q3 := (uniform_mem c4 (List.getElem_mem hxpos)).1
                omega
              by_cases hfit : xs.length + ys.length ≤ c
              · obtain ⟨w', C', r1, r2, r3, r4⟩ := room_ok (P := P) s g1 (by rw [htn, ← hm]; exact hH) vs htn.symm ha ht hc hr hksz hrowN c5 hypos hxpos c3 hfit
                have hane : a' ≠ none := by rw [ha (by intro e; subst e; simp at hxpos)]; simp
                exact ⟨_, w', C', hroom hfit w' r1 (fun e => absurd e hane), r2, r3, r4⟩
              · obtain ⟨cap, hcap, hrun⟩ := hgrow (by omega)
                obtain ⟨e1, e2, e3⟩ := grow_ok (e := e) s (id := i) (H' := H.set i (.tail (xs.length + ys.length))) (used := xs.length + ys.length) (cap := cap) hrows hun (by simp) (by omega) hcap (zc _) (.inr ⟨lt_of_some hH, rfl, tk, g1, by omega⟩) (by rw [hH]; simp)
                exact ⟨_, _, _, hrun, e1, e2, e3⟩
            · simp at h
          · simp at h
  · rename_i id k i n ys hey
    exact append_viewM s hu hu2 hs z1 (z2 C w) hzl hb hx hy hey h
  · simp at h

theorem wrap_small {m : Int} (h0 : 0 ≤ m) (h1 : m ≤ 4294967296) : IntKind.i64.wrap m = m := by
  have hb : IntKind.i64.bits = 64 := rfl
  unfold IntKind.wrap
  simp only [IntKind.signed, IntKind.bits]
  simp
  omega
theorem makeSl_ok [Globs] (s : Sim C H w) {t e : TypeId} {size bytes : Nat} {z : PV} (hu : P.underlying t = some (.slice e)) (hs : sizeT P e = some size) (hz : zeroT P e = some z) (hb : (P.info? e).map (·.bytes) = some bytes)
    {x y p : PV} {vx vy : Value} (hx : Rep C w x vx) (hy : Rep C w y vy) {H' : Heap} (h : makeSlA H size bytes z x y = some (p, H')) : Makes P C w (Instr.makeSlice t vx vy) p H' := by
  obtain ⟨zv, z1, z2⟩ := run_zeroT hz
  unfold makeSlA at h
  split at h
  · rename_i k1 m k2 c
    split at h
    · rename_i hcond
      obtain ⟨c1, c2, c6, c3, c4, c5⟩ := hcond
      injection h with h
      injection h with h1 h2
      subst h1; subst h2
      cases rep_int hx
      cases rep_int hy
      have hzs : zv.cells.size = size := by rw [(z2 C w).cells.1]; exact c5
      have hzc := zeroT_cells hz
      obtain ⟨i, hi, hib⟩ : ∃ i, P.info? e = some i ∧ i.bytes = bytes := by
        cases hi : P.info? e with
        | none => simp [hi] at hb
        | some i => simp [hi] at hb; exact ⟨i, rfl, hb⟩
      have hti : ∀ w : World, (typeInfo e).run P w = .ok i w := fun w => by simp [typeInfo, hi]
      have wm : IntKind.i64.wrap m = m := wrap_small c1 (by omega)
      have wc : IntKind.i64.wrap c = c := wrap_small (by omega) c6
      have hroom : c.toNat * i.bytes ≤ 4294967296 * 4096 := Nat.mul_le_mul (by omega) (by omega)
      have hbig : ¬ ((i.bytes : Int) * c > 2 ^ 48) := by
        have h1 : ((i.bytes * c.toNat : Nat) : Int) = (i.bytes : Int) * c := by
          rw [Int.natCast_mul, Int.toNat_of_nonneg (by omega)]
        rw [← h1, Nat.mul_comm]
        omega
      generalize hinit : (if c.toNat * size = 0 then (#[] : Array Value) else zv.cells) = zc
      have hrun : (Instr.makeSlice t (.int k1 m) (.int k2 c)).run P w = .ok (.slice (some ⟨w.heap.size, 0, none⟩) m.toNat c.toNat) (w.alloc (.cells ((Array.range (c.toNat * size)).map (zc[· % zc.size]!)) e)) := by
        have hask : (askRoom (c.toNat * i.bytes)).run P w = .ok () w := by
          have : ¬ c.toNat * i.bytes > roomBytes := by
            have : roomBytes = 2 ^ 47 := rfl
            omega
          simp [askRoom, this]
        by_cases hz0 : c.toNat * size = 0
        · rw [if_pos hz0] at hinit
          subst hinit
          simp only [Instr.makeSlice, Sem.run_bind, run_underlying hu, Result.andThen_ok, asInt, asIntOf, hti, wm, wc, Sem.run_pure]
          rw [if_neg (by simp; omega)]
          simp [hask, run_sizeT hs, hz0, newRow]
        · rw [if_neg hz0] at hinit
          subst hinit
          simp only [Instr.makeSlice, Sem.run_bind, run_underlying hu, Result.andThen_ok, asInt, asIntOf, hti, wm, wc, Sem.run_pure]
          rw [if_neg (by simp; omega)]
          simp [hask, run_sizeT hs, hz0, newRow, z1]
      have hle : m.toNat ≤ c.toNat := by omega
      have hl : (List.replicate m.toNat z).length = m.toNat := List.length_replicate
      have hrow : RowOf C w size (List.replicate m.toNat z) ((Array.range (m.toNat * size)).map (zv.cells[· % size]!)) (fun _ => zv) := by
        refine ⟨by simp, fun i p hp => ?_, fun i p hp => hzs, fun i p hp j hj => ?_⟩
        · have := List.eq_of_mem_replicate (List.mem_of_getElem? hp)
          subst this
          exact z2 C w
        · have hi' := lt_of_some hp
          rw [hl] at hi'
          have hlt : i * size + j < m.toNat * size := by
            have : (i + 1) * size ≤ m.toNat * size := Nat.mul_le_mul_right _ (by omega)
            rw [Nat.add_mul, Nat.one_mul] at this
            omega
          have hmod : (i * size + j) % size = j := by rw [Nat.mul_comm, Nat.mul_add_mod, Nat.mod_eq_of_lt hj]
          simp [hlt, hmod]
          rw [Array.getElem!_eq_getD, Array.getD_eq_getD_getElem?, Array.getElem?_eq_getElem (by omega)]
          rfl
      have hun : uniform size (List.replicate m.toNat z) = true := by
        simp only [uniform, List.all_eq_true, Bool.and_eq_true, beq_iff_eq]
        intro p hp
        have := List.eq_of_mem_replicate hp
        subst this
        exact ⟨c5, fun q hq => hzc q hq⟩
      obtain ⟨e1, e2, e3⟩ := vecNew_ok s (.inl rfl) (Hd := H) rfl (fun _ _ h => .inl h) (size := size) (cap := c.toNat) (e := e) (zs := List.replicate m.toNat z) (all := (Array.range (c.toNat * size)).map (zc[· % zc.size]!)) hrow hun c4 (by simp)
        (fun j hj => by
          rw [hl] at hj
          have hcs : m.toNat * size ≤ c.toNat * size := Nat.mul_le_mul_right _ hle
          have : zc = zv.cells := by rw [← hinit, if_neg (by omega)]
          subst this
          have hj2 : j < c.toNat * size := by omega
          simp [hj, hj2, hzs]) (by rw [hl]; exact hle)
      rw [hl] at e3
      exact ⟨_, _, _, hrun, e1, e2, e3⟩
    · simp at h
  · simp at h

theorem take_rep [Globs] {y : PV} {ys : List PV} {v : Value} {size : Nat} (s : Sim C H w) (hy : Rep C w y v) (he : elemsOf H y = some ys) (hun : uniform size ys = true) (m : Nat) (hm : m ≤ ys.length) :
    ∃ cells us, (∀ w' : World, w'.heap = w.heap → (Builtin.firstCells size m v).run P w' = .ok cells w') ∧ RowOf C w size (ys.take m) cells us := by
  have hun' : uniform size (ys.take m) = true := by
    simp only [uniform, List.all_eq_true] at hun ⊢
    exact fun p hp => hun p (List.mem_of_mem_take hp)
  have hl : (ys.take m).length = m := by simp; omega
  cases y with
  | sl τ xs =>
    simp only [elemsOf] at he
    injection he with he
    subst he
    cases hy with
    | @sl _ _ a' c b o k vs ha ht hc hr =>
      have hcap : xs.length ≤ c := by
        cases τ with
        | shut => exact ht
        | exact => simp only [TailOk] at ht; omega
        | tok t => exact ht.1
      have hr' : Rep C w (.sl .shut (xs.take m)) (.slice a' (xs.take m).length c) := by
        have sub : ∀ (i : Nat) p, (xs.take m)[i]? = some p → xs[i]? = some p := by
          intro i p hp
          rw [List.getElem?_take] at hp
          split at hp
          · exact hp
          · simp at hp
        exact .sl vs (fun hne => ha (by rintro rfl; simp at hne)) (show _ ≤ c by rw [hl]; omega) (fun i p hp => hc i p (sub i p hp)) (fun i p hp => hr i p (sub i p hp))
      obtain ⟨_, cells, us, h1, h2⟩ := elems_read (P := P) s hr' (by rfl) hun'
      rw [hl] at h1
      refine ⟨cells, us, fun w' hw => ?_, h2⟩
      have := h1 w' hw
      cases a' <;> exact this
  | str l =>
    simp only [elemsOf] at he
    injection he with he
    obtain ⟨b, rfl, rfl⟩ := rep_str hy
    have hr' : Rep C w (.str ((b.extract 0 m).data.toList)) (.string (b.extract 0 m)) := .str _
    have he' : elemsOf H (.str ((b.extract 0 m).data.toList)) = some (ys.take m) := by
      simp only [elemsOf]
      rw [← he, ByteArray.data_extract, Array.toList_extract, List.extract_eq_drop_take', List.map_drop, List.map_take]
      simp
    obtain ⟨_, cells, us, h1, h2⟩ := elems_read (P := P) s hr' he' hun'
    rw [hl] at h1
    refine ⟨cells, us, fun w' hw => ?_, h2⟩
    have := h1 w' hw
    have e : (b.extract 0 m).extract 0 m = b.extract 0 m := by
      apply ByteArray.ext
      simp only [ByteArray.data_extract]
      simp [Array.extract_extract]
    simpa [Builtin.firstCells, e] using this
  | view id k i n =>
    have he0 := he
    simp only [elemsOf] at he
    split at he
    · rename_i k' es hH
      split at he
      · rename_i hc
        obtain ⟨hk, hc⟩ := hc
        injection he with he
        subst he
        have hmn : m ≤ n := by simp at hm; omega
        obtain ⟨b, o, c, a', rfl, hat, hcap, hle, ha⟩ := view_inv hy
        have hr' : Rep C w (.view id k i m) (.slice a' m (c - i)) := .view k i m hat hcap (by omega) ha
        have he' : elemsOf H (.view id k i m) = some (((es.drop i).take n).take m) := by
          simp only [elemsOf, hH]
          rw [if_pos ⟨hk, by omega⟩, List.take_take, Nat.min_eq_left hmn]
        obtain ⟨_, cells, us, h1, h2⟩ := elems_read (P := P) s hr' he' hun'
        rw [hl] at h1
        refine ⟨cells, us, fun w' hw => ?_, h2⟩
        have := h1 w' hw
        cases a' <;> exact this
      · simp at he
    · simp at he
  | _ => simp [elemsOf] at he

theorem copySl_ok [Globs] (s : Sim C H w) {t t2 ty e : TypeId} {size : Nat} (hu : P.underlying t = some (.slice e)) (hs : sizeT P e = some size)
    {x y p : PV} {vx vy : Value} (hx : Rep C w x vx) (hy : Rep C w y vy) {H' : Heap} (h : copySlA H size x y = some (p, H')) : Makes P C w (Builtin.copy_ #[t, t2] ty #[vx, vy]) p H' := by
  unfold copySlA at h
  split at h
  · rename_i id k i n ys hey
    split at h
    · rename_i k' es hH
      split at h
      · rename_i hcond
        obtain ⟨e1, e2, c1, c2⟩ := hcond
        rw [e1] at hx
        rw [e2] at hH
        injection h with h
        injection h with h1 h2
        subst h1; subst h2
        obtain ⟨b, o, c, a', rfl, hat, hcap, hle, ha⟩ := view_inv hx
        obtain ⟨l1, _⟩ := elems_read (P := P) s hy hey c2
        obtain ⟨cells, us, hfc, hrow⟩ := take_rep (P := P) s hy hey c2 (min ys.length n) (Nat.min_le_left _ _)
        have htk : ys.take (min ys.length n) = ys.take n := by
          rcases Nat.le_total ys.length n with h' | h'
          · rw [Nat.min_eq_left h', List.take_of_length_le (Nat.le_refl _), List.take_of_length_le h']
          · rw [Nat.min_eq_right h']
        rw [htk] at hrow
        have hlt : (ys.take n).length = min ys.length n := by simp [Nat.min_comm]
        have hun : uniform size (ys.take n) = true := by
          simp only [uniform, List.all_eq_true] at c2 ⊢
          exact fun p hp => c2 p (List.mem_of_mem_take hp)
        have hmin : Nat.min ys.length n = min ys.length n := rfl
        by_cases h0 : min ys.length n = 0
        · have hce : cells.toList = [] := List.eq_nil_of_length_eq_zero (by have := hrow.len; rw [hlt, h0, Nat.zero_mul] at this; simpa using this)
          have hyn : ys.take n = [] := List.eq_nil_of_length_eq_zero (by rw [hlt]; exact h0)
          have hHs : H.set id (.vec size (es.take i ++ ys.take n ++ es.drop (i + min ys.length n))) = H := by
            rw [hyn, h0]
            simp
            rw [List.getElem?_eq_some_iff] at hH
            obtain ⟨hlt, hH⟩ := hH
            rw [← hH]; simp
          rw [hHs]
          refine ⟨goInt ((min ys.length n : Nat) : Int), w, C, ?_, Evo.refl _ _, s, by rw [h0]; exact Rep.int .i64 0⟩
          have := hfc w rfl
          cases a' with
          | none => simp [Builtin.copy_, run_underlying hu, run_sizeT hs, l1, hmin, this]
          | some ad => simp [Builtin.copy_, run_underlying hu, run_sizeT hs, l1, hmin, this, hce, storeCells]
        · have hac := ha (by omega)
          subst hac
          obtain ⟨w', r1, r2, r3⟩ := vecWrite_ok (P := P) s hH hat hcap (p := i) hrow hun (by omega) (by rw [hlt]; omega) (by rw [hlt]; omega)
          rw [hlt] at r3
          refine ⟨goInt ((min ys.length n : Nat) : Int), w', C, ?_, r2, r3, Rep.int .i64 _⟩
          have := hfc w rfl
          simp [Builtin.copy_, run_underlying hu, run_sizeT hs, l1, hmin, this, r1]
      · simp at h
    · simp at h
  · simp at h

theorem bytes_of : ∀ {ys : List PV} {bs : List UInt8}, ys.mapM byteOf = some bs → ∃ ns : List Int, ys = ns.map (PV.int .u8) ∧ bs = ns.map fun n => UInt8.ofNat n.toNat
  | [], bs, h => by
    simp at h
    exact ⟨[], rfl, by simpa using h⟩
  | y :: ys, bs, h => by
    rw [List.mapM_cons] at h
    cases hy : byteOf y with
    | none => simp [hy] at h
    | some b =>
      cases hr : ys.mapM byteOf with
      | none => simp [hy, hr] at h
      | some bs' =>
        simp [hy, hr] at h
        subst h
        obtain ⟨ns, e1, e2⟩ := bytes_of hr
        unfold byteOf at hy
        split at hy
        · rename_i n
          injection hy with hy
          exact ⟨n :: ns, by simp [e1], by simp [e2, hy]⟩
        · simp at hy
theorem toStr_ok [Globs] (s : Sim C H w) {src dst e : TypeId} (hs : P.underlying src = some (.slice e)) (he : P.underlying e = some (.int .u8)) (hd : P.underlying dst = some .string) {x p : PV} {v : Value} (hx : Rep C w x v) (h : toStrA H x = some p) : Gives P C w (convert src dst v) p := by
  unfold toStrA at h
  split at h
  · simp at h
  · rename_i hns
    split at h
    · rename_i ys hel
      cases hb : ys.mapM byteOf with
      | none => simp [hb] at h
      | some bs =>
        simp [hb] at h
        subst h
        obtain ⟨ns, rfl, rfl⟩ := bytes_of hb
        have hun : uniform 1 (ns.map (PV.int .u8)) = true := by
          simp only [uniform, List.all_eq_true, Bool.and_eq_true, beq_iff_eq]
          intro q hq
          obtain ⟨m, _, rfl⟩ := List.mem_map.1 hq
          exact ⟨rfl, by simp [PV.cells, PV.isCell]⟩
        obtain ⟨_, cells, us, h1, h2⟩ := elems_read (P := P) s hx hel hun
        have hcells : cells = (ns.map (Value.int .u8)).toArray := by
          apply Array.ext'
          apply List.ext_getElem?
          intro i
          have hl : cells.size = ns.length := by have := h2.len; simpa using this
          by_cases hi : i < ns.length
          · have hp : (ns.map (PV.int .u8))[i]? = some (.int .u8 ns[i]) := by simp [hi]
            have c1 := h2.cell i _ hp 0 (by omega)
            have c2 := rep_int (h2.rep i _ hp)
            rw [c2] at c1
            simp [Value.cells] at c1
            simp [hi]
            rw [c1]
          · rw [List.getElem?_eq_none (by simp [hl]; omega), List.getElem?_eq_none (by simp; omega)]
        subst hcells
        have hrun := h1 w rfl
        have fin : ∀ a l c, v = .slice a l c → Gives P C w (convert src dst v) (.str (ns.map fun n => UInt8.ofNat n.toNat)) := by
          rintro a l c rfl
          have hl : l = ns.length := by
            cases x with
            | sl τ xs => simp only [elemsOf] at hel; injection hel with hel; subst hel; cases hx; simp
            | view id k i n =>
              simp only [elemsOf] at hel
              split at hel
              · split at hel
                · injection hel with hel
                  have := congrArg List.length hel
                  obtain ⟨_, _, _, _, e, _⟩ := view_inv hx
                  injection e with _ e
                  simp at this
                  omega
                · simp at hel
              · simp at hel
            | str l => exact absurd rfl (hns l)
            | _ => simp [elemsOf] at hel
          subst hl
          simp only [List.length_map] at hrun
          have e0 : (strOfNums ns).data.toList = ns.map fun n => UInt8.ofNat n.toNat := rfl
          refine ⟨.string (strOfNums ns), ?_, by rw [← e0]; exact .str _⟩
          rw [run_convert_bytes_string w src dst e _ _ c hs he hd]
          cases a with
          | none =>
            simp [Builtin.firstCells] at hrun
            subst hrun
            simp [Conv.bytesToString, strOfNums]
            rfl
          | some ad =>
            simp only [Builtin.firstCells, Nat.mul_one] at hrun
            rw [run_bytesToString w _ _ c ns hrun, foldl_push_bytes]
            simp [strOfNums, ByteArray.empty, ByteArray.emptyWithCapacity]
            rfl
        cases x with
        | sl τ xs => cases hx; exact fin _ _ _ rfl
        | view id k i n => obtain ⟨_, _, _, _, e, _⟩ := view_inv hx; exact fin _ _ _ e
        | str l => exact absurd rfl (hns l)
        | _ => simp [elemsOf] at hel
    · simp at h
theorem zero_row {m size : Nat} {z : PV} {zv : Value} (hr : Rep C w z zv) (hl : z.cells.length = size) (hzs : zv.cells.size = size) (hzc : ∀ q ∈ z.cells, q.isCell = true) :
    RowOf C w size (List.replicate m z) (Builtin.zeroCells zv.cells m) (fun _ => zv) ∧ uniform size (List.replicate m z) = true := by
  refine ⟨⟨by simp [Builtin.zeroCells, hzs], fun i p hp => ?_, fun i p hp => hzs, fun i p hp j hj => ?_⟩, ?_⟩
  · have := List.eq_of_mem_replicate (List.mem_of_getElem? hp)
    subst this
    exact hr
  · have hi' := lt_of_some hp
    rw [List.length_replicate] at hi'
    have hlt : i * size + j < m * size := by
      have : (i + 1) * size ≤ m * size := Nat.mul_le_mul_right _ (by omega)
      rw [Nat.add_mul, Nat.one_mul] at this
      omega
    have hmod : (i * size + j) % size = j := by rw [Nat.mul_comm, Nat.mul_add_mod, Nat.mod_eq_of_lt hj]
    simp [Builtin.zeroCells, hzs, hlt, hmod]
    rw [Array.getElem!_eq_getD, Array.getD_eq_getD_getElem?, Array.getElem?_eq_getElem (by omega)]
    rfl
  · simp only [uniform, List.all_eq_true, Bool.and_eq_true, beq_iff_eq]
    intro p hp
    have := List.eq_of_mem_replicate hp
    subst this
    exact ⟨hl, fun q hq => hzc q hq⟩
theorem appendZ_ok [Globs] (s : Sim C H w) {t t2 ty e : TypeId} {size bytes : Nat} {z : PV} (hu : P.underlying t = some (.slice e)) (hu2 : intT P t2 = true) (hs : sizeT P e = some size) (hz : zeroT P e = some z) (hb : (P.info? e).map (·.bytes) = some bytes)
    {x y p : PV} {vx vy : Value} (hx : Rep C w x vx) (hy : Rep C w y vy) {H' : Heap} (h : appendZA H size bytes z x y = some (p, H')) : Makes P C w (Builtin.append_ #[t, t2] ty #[vx, vy]) p H' := by
  obtain ⟨zv, z1, z2⟩ := run_zeroT hz
  have hzc := zeroT_cells hz
  obtain ⟨k2, hk2⟩ : ∃ k, P.underlying t2 = some (.int k) := by
    unfold intT at hu2
    split at hu2
    · exact ⟨_, by assumption⟩
    · simp at hu2
  unfold appendZA at h
  split at h
  · rename_i xs k m
    split at h
    · rename_i hcond
      obtain ⟨c1, c2, c3, c4, c5, c6⟩ := hcond
      have hzs : zv.cells.size = size := by rw [(z2 C w).cells.1]; exact c5
      cases rep_int hy
      have wm : IntKind.i64.wrap m = m := wrap_small c1 (by omega)
      have hm0 : ¬ m < 0 := by omega
      obtain ⟨i, hi, hib⟩ : ∃ i, P.info? e = some i ∧ i.bytes = bytes := by
        cases hi : P.info? e with
        | none => simp [hi] at hb
        | some i => simp [hi] at hb; exact ⟨i, rfl, hb⟩
      have hti : ∀ w : World, (typeInfo e).run P w = .ok i w := fun w => by simp [typeInfo, hi]
      have hmb : ¬ m * (i.bytes : Int) > 2 ^ 48 := by
        have h1 : ((m.toNat * i.bytes : Nat) : Int) = m * (i.bytes : Int) := by rw [Int.natCast_mul, Int.toNat_of_nonneg c1]
        have h2 : m.toNat * i.bytes ≤ 4294967296 * 4096 := Nat.mul_le_mul (by omega) (by omega)
        rw [← h1]
        omega
      have hmb2 : ¬ (281474976710656 : Int) < m * (i.bytes : Int) := by simpa using hmb
      obtain ⟨_, oldc, uo, ho', hrowO⟩ := firstCells_sl (P := P) hx c6
      cases hx with
      | @sl _ _ a' c b o k vs ha ht hc hr =>
        simp only [TailOk] at ht
        subst ht
        split at h
        · rename_i h0
          injection h with h
          injection h with h1 h2
          subst h1; subst h2
          have hrun : (Builtin.append_ #[t, t2] ty #[.slice a' xs.length xs.length, .int ‹IntKind› m]).run P w = .ok (.slice a' xs.length xs.length) w := by
            cases a' with
            | none => simp [Builtin.append_, run_underlying hu, run_underlying hk2, run_sizeT hs, asInt, asIntOf, wm, hm0, hti, hmb2, h0]
            | some ad => simp [Builtin.append_, run_underlying hu, run_underlying hk2, run_sizeT hs, asInt, asIntOf, wm, hm0, hti, hmb2, h0, storeCells]
          exact ⟨_, w, C, hrun, Evo.refl _ _, s, .sl vs ha rfl hc hr⟩
        · rename_i h0
          injection h with h
          injection h with h1 h2
          subst h1; subst h2
          have hng : ¬ m.toNat = 0 := h0
          have hms : ¬ m.toNat * size = 0 := by
            have := Nat.mul_pos (Nat.pos_of_ne_zero h0) c4
            omega
          have hfit : ¬ xs.length + m.toNat ≤ xs.length := by omega
          have hmax : ¬ ((xs.length + m.toNat : Nat) : Int) > IntKind.i64.max := by
            have hm : IntKind.i64.max = 9223372036854775807 := by decide
            rw [hm]; omega
          have h48 : ¬ Builtin.nextslicecap (xs.length + m.toNat) xs.length * i.bytes > 2 ^ 48 := by
            have h1 := nextslicecap_le (show xs.length < xs.length + m.toNat by omega)
            have h2 : Builtin.nextslicecap (xs.length + m.toNat) xs.length * i.bytes ≤ (2 * (xs.length + m.toNat)) * 4096 := Nat.mul_le_mul h1 (by omega)
            omega
          obtain ⟨hrowZ, hunZ⟩ := zero_row (w := w) (m := m.toNat) (z2 C w) c5 hzs hzc
          have hrows := append_rows hrowO hrowZ
          have hun : uniform size (xs ++ List.replicate m.toNat z) = true := by
            simp only [uniform, List.all_append, Bool.and_eq_true] at c6 hunZ ⊢
            exact ⟨c6, hunZ⟩
          have hl : (xs ++ List.replicate m.toNat z).length = xs.length + m.toNat := by simp
          have zc : ∀ m, (Builtin.zeroCells zv.cells m).size = m * size := by
            intro m; simp [Builtin.zeroCells, hzs]
          have hrun : ∃ cap, xs.length + m.toNat ≤ cap ∧ (Builtin.append_ #[t, t2] ty #[.slice a' xs.length xs.length, .int ‹IntKind› m]).run P w = .ok (.slice (some ⟨w.heap.size, 0, none⟩) (xs.length + m.toNat) cap) (w.drew.alloc (.cells (oldc ++ Builtin.zeroCells zv.cells m.toNat ++ Builtin.zeroCells zv.cells (cap - (xs.length + m.toNat))) e)) := by
            refine ⟨xs.length + m.toNat + (w.tape w.drawn (.appendCap (xs.length + m.toNat) xs.length e)) % (2 ^ 63 - (xs.length + m.toNat)), by omega, ?_⟩
            have ho2 := ho' w.drew rfl
            simp [Builtin.append_, run_underlying hu, run_underlying hk2, run_sizeT hs, asInt, asIntOf, wm, hm0, hti, hmb2, hng, hmax, h48, hms, Question.forced, Question.cut, ho2, z1, newRow]
            rw [if_neg hfit, if_neg (by omega)]
          obtain ⟨cap, hcap, hrun⟩ := hrun
          obtain ⟨e1, e2, e3⟩ := vecNew_ok s (.inr rfl) (Hd := H) rfl (fun _ _ h => .inl h) (size := size) (cap := cap) (e := e) (zs := xs ++ List.replicate m.toNat z) (all := oldc ++ Builtin.zeroCells zv.cells m.toNat ++ Builtin.zeroCells zv.cells (cap - (xs.length + m.toNat))) hrows hun c4
            (by rw [Array.size_append, hrows.len, zc, hl, ← Nat.add_mul]; congr 1; omega)
            (fun j hj => Array.getElem?_append_left (by rw [hrows.len]; exact hj)) (by rw [hl]; exact hcap)
          rw [hl] at e3
          exact ⟨_, _, _, hrun, e1, e2, e3⟩
    · simp at h
  · simp at h

theorem litV_ok [Globs] (s : Sim C H w) {t e : TypeId} {len size : Nat} {z : PV} (hu : P.underlying t = some (.slice e)) (hs : sizeT P e = some size) (hz : zeroT P e = some z) (h0 : 0 < size) (hl : len * size ≤ 65536)
    {parts : List (Nat × Value)} (hp : parts.map (·.1) = List.range len) {ps : List PV} (hr1 : ps.length = parts.length) (hr : ∀ (i : Nat) p v, ps[i]? = some p → (parts.map (·.2))[i]? = some v → Rep C w p v) (hun : uniform size ps = true) :
    Makes P C w (Instr.buildSlice t len parts.toArray) (.view H.length size 0 ps.length) (H ++ [.vec size ps, .dead]) := by
  obtain ⟨zv, z1, z2⟩ := run_zeroT hz
  have hlen : parts.length = len := by simpa using congrArg List.length hp
  have hun' : ∀ p ∈ ps, p.cells.length = size ∧ ∀ q ∈ p.cells, q.isCell = true := fun p hp => uniform_mem hun hp
  have hsz : ∀ x ∈ parts, x.2.cells.size = size := by
    intro x hx
    obtain ⟨i, hi, rfl⟩ := List.getElem_of_mem hx
    have hi' : i < ps.length := by omega
    have := (hr i ps[i] parts[i].2 (List.getElem?_eq_getElem hi') (by simp [List.getElem?_eq_getElem hi])).cells.1
    rw [this]
    exact (hun' _ (List.getElem_mem hi')).1
  generalize hinit : (if len * size = 0 then (#[] : Array Value) else zv.cells) = zc
  obtain ⟨cells, f1, f2, f3, f4⟩ := fill_range size parts 0 ((Array.range (len * size)).map (zc[· % zc.size]!)) hsz (by rw [hp, hlen, List.range_eq_range']) (by simp [hlen])
  have hrun : (Instr.buildSlice t len parts.toArray).run P w = .ok (.slice (some ⟨w.heap.size, 0, none⟩) len len) (w.alloc (.cells cells e)) := by
    have hbig : ¬ len * size > 2 ^ 24 := by omega
    by_cases hz0 : len * size = 0
    · rw [if_pos hz0] at hinit
      subst hinit
      simp only [hz0] at f1
      simp [Instr.buildSlice, run_underlying hu, run_sizeT hs w, hz0, newRow]
      simp at f1
      rw [f1]
      rfl
    · rw [if_neg hz0] at hinit
      subst hinit
      simp only [Instr.buildSlice, Sem.run_bind, run_underlying hu, run_sizeT hs w, Result.andThen_ok, if_neg hbig, if_neg hz0, z1, Sem.run_ite, Sem.run_pure]
      rw [f1]
      simp [newRow]
  have e1 : ps.length = len := by omega
  have hrow : RowOf C w size ps cells (fun i => ((parts.map (·.2))[i]?).getD undef) := by
    have at_ : ∀ (i : Nat) p, ps[i]? = some p → ∃ h : i < parts.length, (parts.map (·.2))[i]? = some (parts[i]'h).2 := by
      intro i p hi
      have hi' := lt_of_some hi
      exact ⟨by omega, by simp [List.getElem?_eq_getElem (show i < parts.length by omega)]⟩
    refine ⟨by rw [f2]; simp [e1], fun i p hi => ?_, fun i p hi => ?_, fun i p hi j hj => ?_⟩
    · obtain ⟨h1, h2⟩ := at_ i p hi
      simp only [h2, Option.getD_some]
      exact hr i p _ hi h2
    · obtain ⟨h1, h2⟩ := at_ i p hi
      simp only [h2, Option.getD_some]
      exact hsz _ (List.getElem_mem h1)
    · obtain ⟨h1, h2⟩ := at_ i p hi
      simp only [h2, Option.getD_some]
      have := f4 i _ (List.getElem?_eq_getElem h1) j hj
      simpa using this
  obtain ⟨g1, g2, g3⟩ := vecNew_ok s (.inl rfl) (Hd := H) rfl (fun _ _ h => .inl h) (size := size) (cap := len) (e := e) (zs := ps) (all := cells) hrow hun h0 (by rw [f2]; simp) (fun _ _ => rfl) (by omega)
  rw [e1] at g3
  rw [e1]
  exact ⟨_, _, _, hrun, g1, g2, g3⟩

theorem clearSl_ok [Globs] (s : Sim C H w) {t ty e : TypeId} {size : Nat} {z : PV} (hu : P.underlying t = some (.slice e)) (hs : sizeT P e = some size) (hz : zeroT P e = some z)
    {x : PV} {vx : Value} (hx : Rep C w x vx) {H' : Heap} (h : clearSlA H size z x = some H') : Makes P C w (Builtin.clear_ #[t] ty #[vx]) PV.undef H' := by
  obtain ⟨zv, z1, z2⟩ := run_zeroT hz
  have hzc := zeroT_cells hz
  unfold clearSlA at h
  split at h
  · rename_i id k i n
    split at h
    · rename_i k' es hH
      split at h
      · rename_i hcond
        obtain ⟨e1, e2, c1, c2⟩ := hcond
        rw [e1] at hx
        rw [e2] at hH
        injection h with h
        subst h
        have hzs : zv.cells.size = size := by rw [(z2 C w).cells.1]; exact c2
        obtain ⟨b, o, c, a', rfl, hat, hcap, hle, ha⟩ := view_inv hx
        obtain ⟨hrowZ, hunZ⟩ := zero_row (w := w) (m := n) (z2 C w) c2 hzs hzc
        have hl : (List.replicate n z).length = n := List.length_replicate
        by_cases h0 : n = 0
        · subst h0
          have hHs : H.set id (.vec size (es.take i ++ List.replicate 0 z ++ es.drop (i + 0))) = H := by
            simp
            rw [List.getElem?_eq_some_iff] at hH
            obtain ⟨hlt, hH⟩ := hH
            rw [← hH]; simp
          rw [hHs]
          refine ⟨Go.undef, w, C, ?_, Evo.refl _ _, s, Rep.undef _ _⟩
          cases a' with
          | none => simp [Builtin.clear_, run_underlying hu]; rfl
          | some ad => simp [Builtin.clear_, run_underlying hu]; rfl
        · have hac := ha (by omega)
          subst hac
          obtain ⟨w', r1, r2, r3⟩ := vecWrite_ok (P := P) s hH hat hcap (p := i) hrowZ hunZ (by omega) (by rw [hl]; omega) (by rw [hl]; omega)
          rw [hl] at r3
          refine ⟨Go.undef, w', C, ?_, r2, r3, Rep.undef _ _⟩
          cases n with
          | zero => exact absurd rfl h0
          | succ n => simp [Builtin.clear_, run_underlying hu, z1, r1]; rfl
      · simp at h
    · simp at h
  · simp at h
theorem extS_ok {f : FuncId} {fn : Func} {k : ExtK} (hf : P.funcs[f]? = some fn) (hk : extOf fn = some k) {x y p : PV} {vx vy : Value} (hx : Rep C w x vx) (hy : Rep C w y vy) (h : extA k x y = some p) :
    ∃ v, (callFunc f #[vx, vy]).run P w = .ok (.value v) w ∧ Rep C w p v := by
  unfold extOf at hk
  split at hk
  · rename_i hb
    simp only [Bool.and_eq_true] at hb
    obtain ⟨hb, hn⟩ := hb
    have hn : Extern.findNext fn = none := by simpa using hn
    split at hk
    · rename_i hname
      injection hk with hk
      subst hk
      have hname : fn.name = "internal/bytealg.CountString" := by simpa using hname
      have he : Extern.find fn = some Extern.BytealgCount.count := by
        unfold Extern.find
        simp only [hname]
        have e1 : Extern.allGenericRows.lookup "internal/bytealg.CountString" = none := by kernel_rfl
        have e2 : Extern.allTypedRows.lookup "internal/bytealg.CountString" = none := by kernel_rfl
        have e3 : Extern.allRows.lookup "internal/bytealg.CountString" = some Extern.BytealgCount.count := by kernel_rfl
        rw [e1, e2, e3]
        rfl
      unfold extA at h
      split at h
      · rename_i s c _ _ _
        injection h with h
        subst h
        obtain ⟨bs, rfl, rfl⟩ := rep_str hx
        rw [rep_int hy]
        refine ⟨_, ?_, .int _ _⟩
        rw [run_callFunc_extern hf (by rw [hname]; decide) hb hn he, Lib.run_countString]
        rfl
      · contradiction
      · simp at h
    · split at hk
      · rename_i hname
        injection hk with hk
        subst hk
        have hname : fn.name = "internal/bytealg.IndexByteString" := by simpa using hname
        have he : Extern.find fn = some Extern.BytealgIndexByte.indexByte := by
          unfold Extern.find
          simp only [hname]
          have e1 : Extern.allGenericRows.lookup "internal/bytealg.IndexByteString" = none := by kernel_rfl
          have e2 : Extern.allTypedRows.lookup "internal/bytealg.IndexByteString" = none := by kernel_rfl
          have e3 : Extern.allRows.lookup "internal/bytealg.IndexByteString" = some Extern.BytealgIndexByte.indexByte := by kernel_rfl
          rw [e1, e2, e3]
          rfl
        unfold extA at h
        split at h
        · contradiction
        · rename_i s c _ _ _
          injection h with h
          subst h
          obtain ⟨bs, rfl, rfl⟩ := rep_str hx
          rw [rep_int hy]
          refine ⟨_, ?_, .int _ _⟩
          rw [run_callFunc_extern hf (by rw [hname]; decide) hb hn he, Lib.run_indexByteString]
          rfl
        · simp at h
      · simp at hk
  · simp at hk
theorem Sim.drewL [Globs] (s : Sim C H w) : Sim C H w.drew :=
  ⟨fun id o ho => (s.obj id o ho).keep (Evo.refl C w).drew ⟨fun b o h => ⟨h, rfl, rfl⟩, fun b x _ h _ => h, rfl⟩, s.lt, s.new_at, s.new_tk, s.new_own, s.inv.mono (Evo.refl C w).drew⟩
theorem toBytes_ok [Globs] (s : Sim C H w) {src dst e : TypeId} (hs : P.underlying src = some .string) (hd : P.underlying dst = some (.slice e)) (he : P.underlying e = some (.int .u8)) (bs : ByteArray) :
    Makes P C w (convert src dst (.string bs)) (.sl .shut (bs.data.toList.map fun b => .int .u8 b.toNat)) H := by
  have hlen : (bs.data.toList.map fun b => PV.int .u8 b.toNat).length = bs.size := by simp
  have hev : Evo C w (C.mark w.heap.size fun _ => .fz) _ := ((Evo.refl C w).drew).trans ((s.drewL).evo_alloc (fun _ => .fz) (.cells (bytesRow bs (grownCap w bs.size 0 e)) e ((bytesRow bs (grownCap w bs.size 0 e)).size, (bytesRow bs (grownCap w bs.size 0 e)).size + 1)))
  refine ⟨_, _, (C.mark w.heap.size fun _ => .fz), run_bytes_of_string w src dst e bs hs hd he, hev, (s.drewL).alloc_fz _, ?_⟩
  have : Rep (C.mark w.heap.size fun _ => .fz) (w.drew.alloc (.cells (bytesRow bs (grownCap w bs.size 0 e)) e ((bytesRow bs (grownCap w bs.size 0 e)).size, (bytesRow bs (grownCap w bs.size 0 e)).size + 1)))
      (.sl .shut (bs.data.toList.map fun b => .int .u8 b.toNat)) (.slice (some ⟨w.heap.size, 0, none⟩) (bs.data.toList.map fun b => PV.int .u8 b.toNat).length (grownCap w bs.size 0 e)) := by
    refine .sl (b := w.heap.size) (o := 0) (k := 1) (fun i => .int .u8 ((bs.data[i]?.getD 0).toNat : Int)) (fun _ => rfl) ?_ (fun i p hi => ?_) (fun i p hi => ?_)
    · show _ ≤ _
      rw [hlen]
      exact grownCap_ge _ _ _ _
    · have hi' := lt_of_some hi
      rw [hlen] at hi'
      have hg : bs.data[i]? = some bs.data[i] := Array.getElem?_eq_getElem _
      have hp : p = .int .u8 (bs.data[i].toNat : Int) := by
        simp [hg] at hi
        exact hi.symm
      subst hp
      refine ⟨rfl, by simp [PV.cells, PV.isCell], fun j hj => ⟨by simp [Cx.mark], ?_⟩⟩
      have hj0 : j = 0 := by omega
      subst hj0
      have e1 : ∀ (cs : Array Value) (t : TypeId) (f : Nat × Nat) (j : Nat), cellAt (w.drew.alloc (.cells cs t f)) w.heap.size j = cs[j]? := by
        intro cs t f j
        have : (w.drew.alloc (.cells cs t f)).heap[w.heap.size]? = some (.cells cs t f) := by
          show (w.heap.push (.cells cs t f))[w.heap.size]? = _
          simp
        simp only [cellAt, World.cell?, this]
        rfl
      rw [e1]
      have h2 : i < (bs.data.map (fun b => Value.int .u8 b.toNat)).size := by simpa using hi'
      simp only [bytesRow, Nat.zero_add, Nat.mul_one, Nat.add_zero]
      rw [Array.getElem?_append_left h2]
      simp [hg, Value.cells]
    · have hi' := lt_of_some hi
      rw [hlen] at hi'
      have hg : bs.data[i]? = some bs.data[i] := Array.getElem?_eq_getElem _
      have hp : p = .int .u8 (bs.data[i].toNat : Int) := by
        simp [hg] at hi
        exact hi.symm
      subst hp
      rw [hg]
      exact .int _ _
  rw [hlen] at this
  exact this
end Go.Flat
