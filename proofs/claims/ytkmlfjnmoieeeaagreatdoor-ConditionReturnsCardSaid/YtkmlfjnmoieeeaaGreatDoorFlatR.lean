/- A machine over plain values. Part R: maps. -/
import Derived.Test.YtkmlfjnmoieeeaaGreatDoorFlatL
set_option linter.unusedVariables false
set_option linter.unusedSimpArgs false
namespace Go.Flat
variable {P : Program} {mu : Bool} {C : Cx} {H : Heap} {w : World} {n : Nat} {T : Temps} {a : Act}

def wSetObj (w : World) (b : Nat) (x : Obj) : World := { w with heap := w.heap.setIfInBounds b x }
theorem run_setObj {b : Nat} {x y : Obj} (h : w.heap[b]? = some x) (hx : ∀ c t f, x ≠ .cells c t f) : (setObj b y).run P w = .ok () (wSetObj w b y) := by
  cases x <;> first | exact absurd rfl (hx _ _ _) | (simp only [Go.setObj, Sem.run, h]; rfl)
theorem run_getObj {b : Nat} {x : Obj} (h : w.heap[b]? = some x) (hx : ∀ c t f, x ≠ .cells c t f) : (getObj b).run P w = .ok x w := by
  cases x <;> first | exact absurd rfl (hx _ _ _) | simp only [Go.getObj, Sem.run, h]
theorem lt_of_heap {b : Nat} {x : Obj} (h : w.heap[b]? = some x) : b < w.heap.size := by
  rcases Nat.lt_or_ge b w.heap.size with h' | h'
  · exact h'
  · rw [Array.getElem?_eq_none h'] at h; simp at h
theorem setObj_self [Globs] {b : Nat} {x y : Obj} (h : w.heap[b]? = some x) : (wSetObj w b y).heap[b]? = some y := by
  have := lt_of_heap h
  simp [wSetObj, Array.getElem?_setIfInBounds, this]
theorem setObj_ne {b b' : Nat} {y : Obj} (h : b ≠ b') : (wSetObj w b y).heap[b']? = w.heap[b']? := by
  simp [wSetObj, Array.getElem?_setIfInBounds, h]
theorem setObj_cell [Globs] {b : Nat} {x y : Obj} (h : w.heap[b]? = some x) (hx : ∀ c t f, x ≠ .cells c t f) (hy : ∀ c t f, y ≠ .cells c t f) (b' o : Nat) : cellAt (wSetObj w b y) b' o = cellAt w b' o := by
  simp only [cellAt, World.cell?]
  by_cases e : b = b'
  · subst e
    rw [setObj_self h, h]
    cases x <;> cases y <;> first | rfl | exact absurd rfl (hx _ _ _) | exact absurd rfl (hy _ _ _)
  · rw [setObj_ne e]
theorem setObj_frozen [Globs] {b : Nat} {x y : Obj} (h : w.heap[b]? = some x) (hx : ∀ c t f, x ≠ .cells c t f) (hy : ∀ c t f, y ≠ .cells c t f) (ad : Addr) : (wSetObj w b y).frozen? ad = w.frozen? ad := by
  simp only [World.frozen?]
  by_cases e : b = ad.block
  · rw [← e, setObj_self h, h]
    cases x <;> cases y <;> first | rfl | exact absurd rfl (hx _ _ _) | exact absurd rfl (hy _ _ _)
  · rw [setObj_ne e]

theorem Sim.evo_setObj [Globs] (s : Sim C H w) {id b : Nat} {x y : Obj} (hown : C.own b 0 = .ob id) (h : w.heap[b]? = some x) (hx : ∀ c t f, x ≠ .cells c t f) (hy : ∀ c t f, y ≠ .cells c t f) : Evo C w C (wSetObj w b y) := by
  refine ⟨rfl, rfl, rfl, by simp [wSetObj], fun b' o' hf => ⟨hf, setObj_cell h hx hy b' o'⟩, fun _ _ h => h, fun _ t h => ⟨t, h, Nat.le_refl _, fun _ => rfl⟩, fun b' hb' hn => ⟨setObj_ne ?_, hn⟩⟩
  rintro rfl
  exact hn 0 id hown
theorem Sim.set_obj [Globs] (s : Sim C H w) {id b : Nat} {x y : Obj} {o : HObj} (hid : id < H.length) (hown : C.own b 0 = .ob id) (h : w.heap[b]? = some x) (hx : ∀ c t f, x ≠ .cells c t f) (hy : ∀ c t f, y ≠ .cells c t f)
    (ho : ObjOk C (wSetObj w b y) id o) : Sim C (H.set id o) (wSetObj w b y) := by
  have ev := s.evo_setObj hown h hx hy
  refine ⟨fun i z hz => ?_, fun b' o' hb => ?_, fun i hi => s.new_at i (by simpa using hi), fun i hi => s.new_tk i (by simpa using hi), fun b' o' i hi => by simpa using s.new_own b' o' i hi, s.inv.mono ev⟩
  · by_cases hi : i = id
    · subst hi
      rw [List.getElem?_set_self hid] at hz
      injection hz with hz
      subst hz
      exact ho
    · rw [List.getElem?_set_ne (by omega)] at hz
      refine (s.obj i z hz).keep ev ⟨fun b' o' h' => ⟨h', setObj_cell h hx hy _ _, setObj_frozen h hx hy _⟩, fun b' z h' hz' _ => ?_, rfl⟩
      rw [setObj_ne]
      · exact hz'
      · rintro rfl
        rw [hown] at h'
        injection h' with h'
        exact hi h'.symm
  · have := s.lt b' o' hb
    simpa [wSetObj] using this

/-! ### Keys -/
def keyDesc : EqK → TypeDesc → Prop
  | .int, d => ∃ k, d = .int k
  | .str, d => d = .string
  | .bool, d => d = .bool
theorem keyKind_desc {t : TypeId} {kd : EqK} (h : keyKind P t = some kd) : ∃ d, P.underlying t = some d ∧ keyDesc kd d := by
  unfold keyKind at h
  split at h <;> simp at h <;> subst h
  · exact ⟨_, by assumption, _, rfl⟩
  · exact ⟨_, by assumption, rfl⟩
  · exact ⟨_, by assumption, rfl⟩
theorem sameNow_ok {kd : EqK} {d : TypeDesc} (hd : keyDesc kd d) {p q : PV} {u v : Value} {b : Bool} (hp : Rep C w p u) (hq : Rep C w q v) (h : eqCell kd p q = some b) : Instr.sameNow d u v = some b ∧ (b = true → Instr.sameBits 10000 v u = true) := by
  unfold eqCell at h
  split at h
  · split at h
    · rename_i hk
      subst hk
      injection h with h; subst h
      cases rep_int hp; cases rep_int hq
      obtain ⟨k, rfl⟩ := hd
      refine ⟨by simp [Instr.sameNow], fun hb => ?_⟩
      rw [beq_iff_eq] at hb
      subst hb
      simp [Instr.sameBits]
    · simp at h
  · injection h with h; subst h
    obtain ⟨s1, rfl, rfl⟩ := rep_str hp
    obtain ⟨s2, rfl, rfl⟩ := rep_str hq
    obtain rfl : d = .string := hd
    have e : (s1 == s2) = (s1.data.toList == s2.data.toList) := by
      obtain ⟨⟨x⟩⟩ := s1
      obtain ⟨⟨y⟩⟩ := s2
      show ((⟨x⟩ : Array UInt8) == ⟨y⟩) = (x == y)
      simp
    refine ⟨by simp only [Instr.sameNow, e], fun hb => ?_⟩
    have : s1 = s2 := by
      rw [← e] at hb
      obtain ⟨⟨x⟩⟩ := s1
      obtain ⟨⟨y⟩⟩ := s2
      have : ((⟨x⟩ : Array UInt8) == ⟨y⟩) = true := hb
      have := eq_of_beq this
      rw [this]
    subst this
    simp only [Instr.sameBits]
    rw [e]; simp
  · injection h with h; subst h
    cases rep_bool hp; cases rep_bool hq
    obtain rfl : d = .bool := hd
    refine ⟨by simp [Instr.sameNow], fun hb => ?_⟩
    rw [beq_iff_eq] at hb
    subst hb
    simp [Instr.sameBits]
  · simp at h
theorem findE_ok [Globs] {kd : EqK} {d : TypeDesc} (hd : keyDesc kd d) {p : PV} {u : Value} (hp : Rep C w p u) : ∀ {es : List (PV × PV × Nat)} {en : List MapEntry} {i : Nat} {r}, es.length = en.length → (∀ (j : Nat) e f, es[j]? = some e → en[j]? = some f → Rep C w e.1 f.key ∧ Rep C w e.2.1 f.val ∧ f.born = e.2.2) → findE kd p es i = some r →
    (r = none ∧ Instr.findNow d u en i = some none) ∨ ∃ j q born f, r = some (j, q, born) ∧ i ≤ j ∧ Instr.findNow d u en i = some (some (j, f.val)) ∧ en[j - i]? = some f ∧ Rep C w q f.val ∧ f.born = born ∧ Instr.sameBits 10000 f.key u = true
  | [], [], i, r, _, _, h => by simp [findE] at h; exact .inl ⟨h.symm, rfl⟩
  | [], f :: en, i, r, hl, _, h => by simp at hl
  | e :: es, [], i, r, hl, _, h => by simp at hl
  | e :: es, f :: en, i, r, hl, hr, h => by
    obtain ⟨r1, r2, r3⟩ := hr 0 e f (by simp) (by simp)
    simp only [findE] at h
    split at h
    · rename_i hc
      injection h with h
      subst h
      obtain ⟨g1, g2⟩ := sameNow_ok hd hp r1 hc
      refine .inr ⟨i, e.2.1, e.2.2, f, rfl, Nat.le_refl _, by simp [Instr.findNow, g1], by simp, r2, r3, g2 rfl⟩
    · rename_i hc
      obtain ⟨g1, _⟩ := sameNow_ok hd hp r1 hc
      rcases findE_ok hd hp (i := i + 1) (by simpa using hl) (fun j x y hx hy => hr (j + 1) x y (by simpa using hx) (by simpa using hy)) h with ⟨e1, e2⟩ | ⟨j, q, born, f', e1, e2, e3, e4, e5⟩
      · exact .inl ⟨e1, by simp [Instr.findNow, g1, e2]⟩
      · refine .inr ⟨j, q, born, f', e1, by omega, by simp [Instr.findNow, g1, e3], ?_, e5⟩
        rw [show j - i = (j - (i + 1)) + 1 by omega]
        simpa using e4
    · simp at h
theorem checkKey_ok {kd : EqK} {t : TypeId} {d : TypeDesc} (hu : P.underlying t = some d) (hd : keyDesc kd d) (b : Bool) (v : Value) (w : World) : (Instr.checkKey b 10000 t v).run P w = .ok () w := by
  have : (10000 : Nat) = 9999 + 1 := rfl
  rw [this, Instr.checkKey]
  simp only [Sem.run_bind, run_underlying hu, Result.andThen_ok]
  cases kd
  · obtain rfl : d = .bool := hd; cases v <;> rfl
  · obtain ⟨k, rfl⟩ := hd; cases v <;> rfl
  · obtain rfl : d = .string := hd; cases v <;> rfl
theorem findKey_run {t : TypeId} {d : TypeDesc} (hu : P.underlying t = some d) {u : Value} {en : List MapEntry} {r} (h : Instr.findNow d u en 0 = some r) (w : World) : (Instr.findKey t u en).run P w = .ok r w := by
  simp [Instr.findKey, run_underlying hu, h]

theorem heap_new (w : World) (x : Obj) : (w.alloc x).heap[w.heap.size]? = some x := by
  show (w.heap.push x)[w.heap.size]? = _
  rw [Array.getElem?_push, if_pos rfl]
theorem makeMap_ok [Globs] (s : Sim C H w) {t : TypeId} : Makes P C w (Instr.makeMap t none) (.map H.length) (H ++ [.map [] 0]) := by
  have hat : (C.obj H.length w.heap.size 0).at_ H.length = some (w.heap.size, 0) := by simp [Cx.obj]
  refine ⟨.map (some w.heap.size), w.alloc (.map #[] 0), _, by simp [Instr.makeMap], s.evo_obj _, s.alloc_obj _ _ ⟨w.heap.size, hat, by simp [Cx.obj], #[], heap_new _ _, rfl, by simp⟩, .map hat⟩

theorem map_at [Globs] (s : Sim C H w) {id : Nat} {es : List (PV × PV × Nat)} {clock : Nat} (h : H[id]? = some (.map es clock)) {v : Value} (hv : Rep C w (.map id) v) :
    ∃ b en, v = .map (some b) ∧ C.at_ id = some (b, 0) ∧ C.own b 0 = .ob id ∧ w.heap[b]? = some (.map en clock) ∧ en.size = es.length ∧ ∀ (i : Nat) e f, es[i]? = some e → en[i]? = some f → Rep C w e.1 f.key ∧ Rep C w e.2.1 f.val ∧ f.born = e.2.2 := by
  obtain ⟨b, h1, h2, en, h3, h4, h5⟩ := s.obj id _ h
  cases hv with
  | map hat =>
    rw [h1] at hat
    injection hat with hat
    injection hat with e1 e2
    subst e1
    exact ⟨b, en, rfl, h1, h2, h3, h4, h5⟩

theorem mapUpd_ok [Globs] (s : Sim C H w) {t kt et : TypeId} (hu : P.underlying t = some (.map kt et)) {kd : EqK} (hk : keyKind P kt = some kd) {m k v : PV} {vm vk vv : Value} (rm : Rep C w m vm) (rk : Rep C w k vk) (rv : Rep C w v vv) {H' : Heap} (h : mapUpdA H kd m k v = some H') :
    ∃ w', (Instr.mapUpdate t vm vk vv).run P w = .ok () w' ∧ Evo C w C w' ∧ Sim C H' w' := by
  obtain ⟨d, hkd, hd⟩ := keyKind_desc hk
  cases m <;> simp only [mapUpdA] at h <;> try (simp at h; done)
  rename_i id
  split at h
  case h_2 => simp at h
  rename_i es clock hH
  obtain ⟨b, en, rfl, h1, h2, h3, h4, h5⟩ := map_at s hH rm
  have hid := lt_of_some hH
  have hnc : ∀ c t f, Obj.map en clock ≠ .cells c t f := by simp
  have hne : ∀ {en' : Array MapEntry} {cl : Nat}, ∀ c t f, Obj.map en' cl ≠ .cells c t f := by simp
  cases hf : findE kd k es 0 with
  | none => simp [hf] at h
  | some r =>
    rw [hf] at h
    rcases findE_ok hd rk (en := en.toList) (by simp [h4]) (fun j e f he hf => h5 j e f he (by simpa using hf)) hf with ⟨rfl, e2⟩ | ⟨j, q, born, f, rfl, _, e3, e4, e5, e6, e7⟩
    · injection h with h
      subst h
      have hrun : (Instr.mapUpdate t (.map (some b)) vk vv).run P w = .ok () (wSetObj w b (.map (en.push { key := vk, val := vv, born := clock }) (clock + 1))) := by
        simp only [Instr.mapUpdate, Sem.run_bind, run_underlying hu, Result.andThen_ok, run_getObj h3 hnc, checkKey_ok hkd hd, findKey_run hkd e2]
        exact run_setObj h3 hnc
      have ev := s.evo_setObj (y := .map (en.push { key := vk, val := vv, born := clock }) (clock + 1)) h2 h3 hnc hne
      refine ⟨_, hrun, ev, s.set_obj hid h2 h3 hnc hne ⟨b, h1, h2, _, setObj_self h3, by simp [h4], fun i e f he hf => ?_⟩⟩
      by_cases hi : i < es.length
      · rw [List.getElem?_append_left hi] at he
        rw [Array.getElem?_push, if_neg (by omega)] at hf
        obtain ⟨g1, g2, g3⟩ := h5 i e f he hf
        exact ⟨g1.mono ev, g2.mono ev, g3⟩
      · have := lt_of_some he
        simp at this
        have hie : i = es.length := by omega
        subst hie
        simp at he
        rw [Array.getElem?_push, if_pos h4.symm] at hf
        injection hf with hf
        subst he; subst hf
        exact ⟨rk.mono ev, rv.mono ev, rfl⟩
    · injection h with h
      subst h
      simp only [Nat.sub_zero] at e4
      have e4' : en[j]? = some f := by simpa using e4
      have hjn : j < en.size := by
        rcases Nat.lt_or_ge j en.size with h' | h'
        · exact h'
        · rw [Array.getElem?_eq_none h'] at e4'; simp at e4'
      have hrun : (Instr.mapUpdate t (.map (some b)) vk vv).run P w = .ok () (wSetObj w b (.map (en.modify j fun e => { e with key := vk, val := vv }) clock)) := by
        have hks : (Instr.keyThatStays (((en[j]?).map (·.key)).getD vk) vk).run P w = .ok vk w := by
          rw [e4']
          simp [Instr.keyThatStays, e7]
        simp only [Instr.mapUpdate, Sem.run_bind, run_underlying hu, Result.andThen_ok, run_getObj h3 hnc, checkKey_ok hkd hd, findKey_run hkd e3, hks]
        exact run_setObj h3 hnc
      have ev := s.evo_setObj (y := .map (en.modify j fun e => { e with key := vk, val := vv }) clock) h2 h3 hnc hne
      refine ⟨_, hrun, ev, s.set_obj hid h2 h3 hnc hne ⟨b, h1, h2, _, setObj_self h3, by simp [h4], fun i e f' he hf => ?_⟩⟩
      rw [Array.getElem?_modify] at hf
      by_cases hij : j = i
      · subst hij
        rw [if_pos rfl, e4'] at hf
        simp at hf
        rw [List.getElem?_set_self (by omega)] at he
        injection he with he
        subst he; subst hf
        exact ⟨rk.mono ev, rv.mono ev, e6⟩
      · rw [if_neg hij] at hf
        rw [List.getElem?_set_ne hij] at he
        obtain ⟨g1, g2, g3⟩ := h5 i e f' he hf
        exact ⟨g1.mono ev, g2.mono ev, g3⟩

theorem lookup_ok [Globs] (s : Sim C H w) {t kt et : TypeId} (hu : P.underlying t = some (.map kt et)) {kd : EqK} (hk : keyKind P kt = some kd) {z : PV} (hz : zeroT P et = some z) {ok : Bool} {m k : PV} {vm vk : Value} (rm : Rep C w m vm) (rk : Rep C w k vk) {p : PV} (h : lookupA H kd z ok m k = some p) :
    Gives P C w (Instr.lookup t vm vk ok) p := by
  obtain ⟨d, hkd, hd⟩ := keyKind_desc hk
  obtain ⟨zv, z1, z2⟩ := run_zeroT hz
  have give : ∀ {q : PV} {v : Value} {b : Bool}, Rep C w q v → Rep C w (if ok then .tup [q, .bool b] else q) (if ok then .tuple #[v, .bool b] else v) := by
    intro q v b hr
    cases ok
    · exact hr
    · refine .tup rfl (fun i p v hp hv => ?_)
      match i, hp, hv with
      | 0, hp, hv => simp at hp hv; subst hp; subst hv; exact hr
      | 1, hp, hv => simp at hp hv; subst hp; subst hv; exact .bool b
  cases m <;> simp only [lookupA] at h <;> try (simp at h; done)
  · injection h with h
    subst h
    cases rm
    refine ⟨_, ?_, give (z2 C w)⟩
    simp only [Instr.lookup, Sem.run_bind, run_underlying hu, Result.andThen_ok, Sem.run_pure, checkKey_ok hkd hd, findKey_run hkd (show Instr.findNow d vk (#[] : Array MapEntry).toList 0 = some none from rfl), z1]
  · rename_i id
    split at h
    case h_2 => simp at h
    rename_i es clock hH
    obtain ⟨b, en, rfl, h1, h2, h3, h4, h5⟩ := map_at s hH rm
    have hnc : ∀ c t f, Obj.map en clock ≠ .cells c t f := by simp
    cases hf : findE kd k es 0 with
    | none => simp [hf] at h
    | some r =>
      rw [hf] at h
      rcases findE_ok hd rk (en := en.toList) (by simp [h4]) (fun j e f he hf => h5 j e f he (by simpa using hf)) hf with ⟨rfl, e2⟩ | ⟨j, q, born, f, rfl, _, e3, e4, e5, e6, e7⟩
      · injection h with h
        subst h
        refine ⟨_, ?_, give (z2 C w)⟩
        simp only [Instr.lookup, Sem.run_bind, run_underlying hu, Result.andThen_ok, Sem.run_pure, run_getObj h3 hnc, checkKey_ok hkd hd, findKey_run hkd e2, z1]
      · injection h with h
        subst h
        refine ⟨_, ?_, give e5⟩
        simp only [Instr.lookup, Sem.run_bind, run_underlying hu, Result.andThen_ok, Sem.run_pure, run_getObj h3 hnc, checkKey_ok hkd hd, findKey_run hkd e3]

theorem lenMap_ok [Globs] (s : Sim C H w) {t kt et ty : TypeId} (hu : P.underlying t = some (.map kt et)) {m : PV} {vm : Value} (rm : Rep C w m vm) {p : PV} (h : lenMapA H m = some p) : Gives P C w (Builtin.len_ #[t] ty #[vm]) p := by
  cases m <;> simp only [lenMapA] at h <;> try (simp at h; done)
  · injection h with h
    subst h
    cases rm
    exact ⟨.int .i64 0, by simp [Builtin.len_, run_underlying hu, goInt], .int _ _⟩
  · split at h
    case h_2 => simp at h
    rename_i es clock hH
    injection h with h
    subst h
    obtain ⟨b, en, rfl, h1, h2, h3, h4, h5⟩ := map_at s hH rm
    have hnc : ∀ c t f, Obj.map en clock ≠ .cells c t f := by simp
    refine ⟨.int .i64 es.length, ?_, .int _ _⟩
    simp [Builtin.len_, run_underlying hu, run_getObj h3 hnc, goInt, h4]

theorem rangeMap_ok [Globs] (s : Sim C H w) {t kt et : TypeId} (hu : P.underlying t = some (.map kt et)) {m : PV} {vm : Value} (rm : Rep C w m vm) {p : PV} {H' : Heap} (h : rangeMapA H m = some (p, H')) : Makes P C w (Instr.range t vm) p H' := by
  have hat : (C.obj H.length w.heap.size 0).at_ H.length = some (w.heap.size, 0) := by simp [Cx.obj]
  cases m <;> simp only [rangeMapA] at h <;> try (simp at h; done)
  · injection h with h
    injection h with e1 e2
    subst e1; subst e2
    cases rm
    refine ⟨_, w.alloc (.mapIter none 0 #[] 0), _, by simp [Instr.range, run_underlying hu], s.evo_obj _, s.alloc_obj _ _ ⟨w.heap.size, hat, by simp [Cx.obj], none, heap_new _ _, rfl⟩, .ptr 0 hat⟩
  · split at h
    case h_2 => simp at h
    rename_i id es clock hH
    injection h with h
    injection h with e1 e2
    subst e1; subst e2
    obtain ⟨b, en, rfl, h1, h2, h3, h4, h5⟩ := map_at s hH rm
    have hnc : ∀ c t f, Obj.map en clock ≠ .cells c t f := by simp
    refine ⟨_, w.alloc (.mapIter (some b) clock #[] clock), _, by simp [Instr.range, run_underlying hu, run_getObj h3 hnc], s.evo_obj _, s.alloc_obj _ _ ⟨w.heap.size, hat, by simp [Cx.obj], some b, heap_new _ _, b, (s.evo_obj (.mapIter (some b) clock #[] clock)).at_ _ _ h1, rfl⟩, .ptr 0 hat⟩

theorem iter_at [Globs] (s : Sim C H w) {id : Nat} {m : Option Nat} {since : Nat} {seen : List Nat} {last : Nat} (h : H[id]? = some (.mapIter m since seen last)) {v : Value} (hv : Rep C w (.ptr id 0) v) :
    ∃ b m', v = .pointer (some ⟨b, 0, none⟩) ∧ C.at_ id = some (b, 0) ∧ C.own b 0 = .ob id ∧ w.heap[b]? = some (.mapIter m' since seen.toArray last) ∧ IterMap C m m' := by
  obtain ⟨b, h1, h2, m', h3, h4⟩ := s.obj id _ h
  cases hv with
  | ptr _ hat =>
    rw [h1] at hat
    injection hat with hat
    injection hat with e1 e2
    subst e1; subst e2
    exact ⟨b, m', rfl, h1, h2, h3, h4⟩

theorem two_rep {x y : PV} {u v : Value} (h1 : Rep C w x u) (h2 : Rep C w y v) : Rep C w (.tup [x, y]) (.tuple #[u, v]) := by
  refine .tup rfl (fun i p v hp hv => ?_)
  match i, hp, hv with
  | 0, hp, hv => simp at hp hv; subst hp; subst hv; exact h1
  | 1, hp, hv => simp at hp hv; subst hp; subst hv; exact h2

theorem entry_ok [Globs] (s : Sim C H w) {it : PV} {v : Value} (hv : Rep C w it v) {p : PV} (h : entryA H it = some p) : Gives P C w (Instr.entry v) p := by
  cases it <;> try (simp [entryA] at h; done)
  rename_i id off
  cases off with
  | succ k => simp [entryA] at h
  | zero =>
    simp only [entryA] at h
    split at h
    case h_2 => simp at h
    rename_i m since seen last hI
    split at h
    case h_2 => simp at h
    rename_i es clock stamp hM hst
    split at h
    case isFalse => simp at h
    rename_i hcl
    obtain ⟨b, m', rfl, h1, h2, h3, hit⟩ := iter_at s hI hv
    obtain ⟨bm, h4, rfl⟩ := hit
    obtain ⟨bm', en, e0, g1, g2, g3, g4, g5⟩ := map_at s hM (.map h4)
    injection e0 with e0
    injection e0 with e0
    subst e0
    cases hf : es.find? (·.2.2 == stamp) with
    | none => simp [hf] at h
    | some e =>
      simp [hf] at h
      subst h
      have key : ∀ (es : List (PV × PV × Nat)) (en : List MapEntry), es.length = en.length → (∀ (j : Nat) e f, es[j]? = some e → en[j]? = some f → Rep C w e.1 f.key ∧ Rep C w e.2.1 f.val ∧ f.born = e.2.2) → ∀ e, es.find? (·.2.2 == stamp) = some e → ∃ f, en.find? (·.born == stamp) = some f ∧ Rep C w e.1 f.key ∧ Rep C w e.2.1 f.val := by
        intro es
        induction es with
        | nil => intro en _ _ e h; simp at h
        | cons x es ih =>
          intro en hl hr e h
          cases en with
          | nil => simp at hl
          | cons f en =>
            obtain ⟨r1, r2, r3⟩ := hr 0 x f (by simp) (by simp)
            rw [List.find?_cons] at h
            by_cases hx : x.2.2 == stamp
            · rw [hx] at h
              injection h with h
              subst h
              exact ⟨f, by rw [List.find?_cons, r3, hx], r1, r2⟩
            · have hx' : (x.2.2 == stamp) = false := by simpa using hx
              rw [hx'] at h
              obtain ⟨f', q1, q2⟩ := ih en (by simpa using hl) (fun j a b ha hb => hr (j + 1) a b (by simpa using ha) (by simpa using hb)) e h
              exact ⟨f', by rw [List.find?_cons, r3, hx']; exact q1, q2⟩
      obtain ⟨f, q1, q2, q3⟩ := key es en.toList (by simp [g4]) (fun j e f he hf => g5 j e f he (by simpa using hf)) e hf
      have q1' : en.find? (·.born == stamp) = some f := by rw [← Array.find?_toList]; exact q1
      have hnc : ∀ c t f, Obj.mapIter (some bm) since seen.toArray last ≠ .cells c t f := by simp
      have hnm : ∀ c t f, Obj.map en clock ≠ .cells c t f := by simp
      refine ⟨.tuple #[f.key, f.val], ?_, two_rep q2 q3⟩
      have hb : seen.toArray.back? = some stamp := by simpa using hst
      simp [Instr.entry, run_getObj h3 hnc, run_getObj g3 hnm, hb, hcl, q1']

end Go.Flat
