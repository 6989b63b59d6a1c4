/- A machine over plain values. Part B: when a plain value stands for a value of the model's, a plain heap for its memory. -/
import Derived.Test.YtkmlfjnmoieeeaaGreatDoorFlatA
import Derived.Below
import Derived.Laws.World
import Derived.Deep.Draws
set_option linter.unusedVariables false
set_option linter.unusedSimpArgs false
namespace Go.Flat

inductive Own where
  | no
  | fz
  | ob (id : Nat)
  deriving DecidableEq

/-- A row's tail that one slice may append to: elements, the block, where the row begins, its capacity, cells of an element. -/
structure Tk where
  n : Nat
  b : Nat
  o : Nat
  c : Nat
  k : Nat

structure Cx where
  own : Nat → Nat → Own
  at_ : Nat → Option (Nat × Nat)
  tk : Nat → Option Tk

abbrev cellAt (w : World) (b o : Nat) : Option Value := w.cell? ⟨b, o, none⟩

def TailOk (C : Cx) (τ : Tail) (n : Nat) (a : Option Addr) (c k : Nat) : Prop :=
  match τ with
  | .shut => n ≤ c
  | .exact => c = n
  | .tok t => n ≤ c ∧ ∃ s, C.tk t = some s ∧ n ≤ s.n ∧ (n = s.n → a = some ⟨s.b, s.o, none⟩ ∧ c = s.c ∧ k = s.k)

inductive Rep (C : Cx) (w : World) : PV → Value → Prop where
  | bool (b : Bool) : Rep C w (.bool b) (.bool b)
  | int (k : IntKind) (n : Int) : Rep C w (.int k n) (.int k n)
  | str (s : ByteArray) : Rep C w (.str s.data.toList) (.string s)
  | nilptr : Rep C w .nilptr (.pointer none)
  | ptr {id b o : Nat} (off : Nat) (h : C.at_ id = some (b, o)) : Rep C w (.ptr id off) (.pointer (some ⟨b, o + off, none⟩))
  | fp {cs : List PV} {b o : Nat} (vs : Nat → Value) (h : ∀ j p, cs[j]? = some p → p.isCell = true ∧ C.own b (o + j) = .fz ∧ cellAt w b (o + j) = some (vs j))
      (hr : ∀ j p, cs[j]? = some p → Rep C w p (vs j)) : Rep C w (.fp cs) (.pointer (some ⟨b, o, none⟩))
  | sl {τ : Tail} {xs : List PV} {a : Option Addr} {c b o k : Nat} (vs : Nat → Value) (ha : xs ≠ [] → a = some ⟨b, o, none⟩)
      (ht : TailOk C τ xs.length a c k)
      (h : ∀ i p, xs[i]? = some p → (vs i).cells.size = k ∧ (∀ q ∈ p.cells, q.isCell = true) ∧ ∀ j, j < k → C.own b (o + i * k + j) = .fz ∧ cellAt w b (o + i * k + j) = (vs i).cells[j]?)
      (hr : ∀ i p, xs[i]? = some p → Rep C w p (vs i)) : Rep C w (.sl τ xs) (.slice a xs.length c)
  | view {id b o c : Nat} {a : Option Addr} (k i n : Nat) (h : C.at_ id = some (b, o)) (hc : C.at_ (id + 1) = some (c, 0)) (hl : i + n ≤ c) (ha : i < c → a = some ⟨b, o + i * k, none⟩) : Rep C w (.view id k i n) (.slice a n (c - i))
  | eptr {id b o : Nat} (k i off : Nat) (h : C.at_ id = some (b, o)) : Rep C w (.eptr id k i off) (.pointer (some ⟨b, o + i * k + off, none⟩))
  | nilmap : Rep C w .nilmap (.map none)
  | map {id b : Nat} (h : C.at_ id = some (b, 0)) : Rep C w (.map id) (.map (some b))
  | func (fn : Fn) {ps qs : List PV} {us vs : Array Value} (h1 : us.size = ps.length) (h2 : vs.size = qs.length)
      (hr1 : ∀ (i : Nat) p v, ps[i]? = some p → us[i]? = some v → Rep C w p v) (hr2 : ∀ (i : Nat) p v, qs[i]? = some p → vs[i]? = some v → Rep C w p v) : Rep C w (.func fn ps qs) (.func fn us vs)
  | nilfunc : Rep C w .nilfunc .nilFunc
  | iface (t : TypeId) {p : PV} {v : Value} (h : Rep C w p v) : Rep C w (.iface t p) (.iface t v)
  | niliface : Rep C w .niliface .nilIface
  | agg {cs : List PV} {vs : Array Value} (h1 : vs.size = cs.length) (h2 : ∀ p ∈ cs, p.isCell = true) (hr : ∀ (i : Nat) p v, cs[i]? = some p → vs[i]? = some v → Rep C w p v) : Rep C w (.agg cs) (.agg vs)
  | tup {ps : List PV} {vs : Array Value} (h1 : vs.size = ps.length) (hr : ∀ (i : Nat) p v, ps[i]? = some p → vs[i]? = some v → Rep C w p v) : Rep C w (.tup ps) (.tuple vs)
  | glob (g : Nat) : Rep C w (.glob g) (.pointer (some ⟨g, 0, none⟩))

/-- What may become of the world. -/
structure Evo (C : Cx) (w : World) (C' : Cx) (w' : World) : Prop where
  os : w'.os = w.os
  tape : w'.tape = w.tape
  output : w'.output = w.output
  size : w.heap.size ≤ w'.heap.size
  fz : ∀ b o, C.own b o = .fz → C'.own b o = .fz ∧ cellAt w' b o = cellAt w b o
  at_ : ∀ id l, C.at_ id = some l → C'.at_ id = some l
  tk : ∀ id s, C.tk id = some s → ∃ s', C'.tk id = some s' ∧ s.n ≤ s'.n ∧ (s.n = s'.n → s' = s)
  frame : ∀ b, b < w.heap.size → (∀ o id, C.own b o ≠ .ob id) → w'.heap[b]? = w.heap[b]? ∧ ∀ o id, C'.own b o ≠ .ob id

theorem Evo.refl (C : Cx) (w : World) : Evo C w C w :=
  ⟨rfl, rfl, rfl, Nat.le_refl _, fun _ _ h => ⟨h, rfl⟩, fun _ _ h => h, fun _ s h => ⟨s, h, Nat.le_refl _, fun _ => rfl⟩, fun _ _ h => ⟨rfl, h⟩⟩
theorem Evo.trans {C C1 C2 : Cx} {w w1 w2 : World} (h : Evo C w C1 w1) (k : Evo C1 w1 C2 w2) : Evo C w C2 w2 where
  os := k.os.trans h.os
  tape := k.tape.trans h.tape
  output := k.output.trans h.output
  size := Nat.le_trans h.size k.size
  fz b o hb := let ⟨h1, h2⟩ := h.fz b o hb; let ⟨k1, k2⟩ := k.fz b o h1; ⟨k1, k2.trans h2⟩
  at_ id l hl := k.at_ id l (h.at_ id l hl)
  tk id s hs := by
    obtain ⟨s1, a, b, c⟩ := h.tk id s hs
    obtain ⟨s2, d, e, f⟩ := k.tk id s1 a
    refine ⟨s2, d, Nat.le_trans b e, fun g => ?_⟩
    have e1 : s.n = s1.n := by omega
    have e2 : s1.n = s2.n := by omega
    rw [f e2, c e1]
  frame b hb hn := by
    obtain ⟨h1, h2⟩ := h.frame b hb hn
    obtain ⟨k1, k2⟩ := k.frame b (Nat.lt_of_lt_of_le hb h.size) h2
    exact ⟨k1.trans h1, k2⟩
theorem Evo.drew {C C' : Cx} {w w' : World} (h : Evo C w C' w') : Evo C w C' w'.drew :=
  ⟨h.os, h.tape, h.output, h.size, h.fz, h.at_, h.tk, h.frame⟩

theorem TailOk.mono {C C' : Cx} {w w' : World} (e : Evo C w C' w') {τ : Tail} {n : Nat} {a : Option Addr} {c k : Nat} (h : TailOk C τ n a c k) : TailOk C' τ n a c k := by
  cases τ with
  | shut => exact h
  | exact => exact h
  | tok t =>
    obtain ⟨h0, s, h1, h2, h3⟩ := h
    obtain ⟨s', g1, g2, g3⟩ := e.tk t s h1
    refine ⟨h0, s', g1, Nat.le_trans h2 g2, fun hn => ?_⟩
    have : s.n = s'.n := by omega
    rw [g3 this]
    exact h3 (by omega)

theorem Rep.mono {C C' : Cx} {w w' : World} (e : Evo C w C' w') {p : PV} {v : Value} (h : Rep C w p v) : Rep C' w' p v := by
  induction h with
  | bool b => exact .bool b
  | int k n => exact .int k n
  | str s => exact .str s
  | nilptr => exact .nilptr
  | ptr off h => exact .ptr off (e.at_ _ _ h)
  | fp vs h hr ih =>
    exact .fp vs (fun j p hj => let ⟨a, b, c⟩ := h j p hj; ⟨a, (e.fz _ _ b).1, (e.fz _ _ b).2.trans c⟩) ih
  | sl vs ha ht h hr ih =>
    exact .sl vs ha (ht.mono e) (fun i p hi => let ⟨a, b, c⟩ := h i p hi; ⟨a, b, fun j hj => ⟨(e.fz _ _ (c j hj).1).1, (e.fz _ _ (c j hj).1).2.trans (c j hj).2⟩⟩) ih
  | view k i n h hc hl ha => exact .view k i n (e.at_ _ _ h) (e.at_ _ _ hc) hl ha
  | eptr k i off h => exact .eptr k i off (e.at_ _ _ h)
  | nilmap => exact .nilmap
  | map h => exact .map (e.at_ _ _ h)
  | func fn h1 h2 hr1 hr2 ih1 ih2 => exact .func fn h1 h2 ih1 ih2
  | nilfunc => exact .nilfunc
  | iface t h ih => exact .iface t ih
  | niliface => exact .niliface
  | agg h1 h2 hr ih => exact .agg h1 h2 ih
  | tup h1 hr ih => exact .tup h1 ih
  | glob g => exact .glob g

theorem Rep.one {C : Cx} {w : World} {p : PV} {v : Value} (h : Rep C w p v) (hc : p.isCell = true) : v.cells = #[v] ∧ (∀ vs, v ≠ .agg vs) ∧ (∀ vs, v ≠ .tuple vs) := by
  cases h <;> first | (simp [PV.isCell] at hc; done) | exact ⟨rfl, by simp, by simp⟩
theorem Rep.cells {C : Cx} {w : World} {p : PV} {v : Value} (h : Rep C w p v) :
    v.cells.size = p.cells.length ∧ ∀ (j : Nat) q u, p.cells[j]? = some q → v.cells[j]? = some u → Rep C w q u := by
  have one : ∀ {p : PV} {v : Value}, p.cells = [p] → v.cells = #[v] → Rep C w p v → v.cells.size = p.cells.length ∧ ∀ (j : Nat) q u, p.cells[j]? = some q → v.cells[j]? = some u → Rep C w q u := by
    intro p v hp hv h
    rw [hp, hv]
    refine ⟨rfl, fun j q u h1 h2 => ?_⟩
    cases j with
    | zero => simp at h1 h2; subst h1; subst h2; exact h
    | succ j => simp at h1
  cases h with
  | agg h1 h2 hr => exact ⟨h1, hr⟩
  | bool b => exact one rfl rfl (.bool b)
  | int k n => exact one rfl rfl (.int k n)
  | str s => exact one rfl rfl (.str s)
  | nilptr => exact one rfl rfl .nilptr
  | ptr off h => exact one rfl rfl (.ptr off h)
  | fp vs h hr => exact one rfl rfl (.fp vs h hr)
  | sl vs ha ht h hr => exact one rfl rfl (.sl vs ha ht h hr)
  | view k i n h hc hl ha => exact one rfl rfl (.view k i n h hc hl ha)
  | eptr k i off h => exact one rfl rfl (.eptr k i off h)
  | nilmap => exact one rfl rfl .nilmap
  | map h => exact one rfl rfl (.map h)
  | func fn h1 h2 hr1 hr2 => exact one rfl rfl (.func fn h1 h2 hr1 hr2)
  | nilfunc => exact one rfl rfl .nilfunc
  | iface t h => exact one rfl rfl (.iface t h)
  | niliface => exact one rfl rfl .niliface
  | tup h1 hr => exact one rfl rfl (.tup h1 hr)
  | glob g => exact one rfl rfl (.glob g)

theorem view_inv {C : Cx} {w : World} {id k i n : Nat} {v : Value} (h : Rep C w (.view id k i n) v) : ∃ b o c a, v = .slice a n (c - i) ∧ C.at_ id = some (b, o) ∧ C.at_ (id + 1) = some (c, 0) ∧ i + n ≤ c ∧ (i < c → a = some ⟨b, o + i * k, none⟩) := by
  cases h with
  | view _ _ _ h hc hl ha => exact ⟨_, _, _, _, rfl, h, hc, hl, ha⟩

/-! ### A heap -/
def IterMap (C : Cx) (m m' : Option Nat) : Prop :=
  match m with
  | none => m' = none
  | some i => ∃ bm, C.at_ i = some (bm, 0) ∧ m' = some bm
def ObjOk (C : Cx) (w : World) (id : Nat) : HObj → Prop
  | .cells cs => ∃ b o, C.at_ id = some (b, o) ∧ ∀ j p, cs[j]? = some p → p.isCell = true ∧ C.own b (o + j) = .ob id ∧ w.frozen? ⟨b, o + j, none⟩ = false ∧ ∃ v, cellAt w b (o + j) = some v ∧ Rep C w p v
  | .vec k xs => ∃ b o c, C.at_ id = some (b, o) ∧ C.at_ (id + 1) = some (c, 0) ∧ xs.length ≤ c ∧ 0 < k ∧
      (∀ (i : Nat) p, xs[i]? = some p → p.cells.length = k ∧ ∀ (j : Nat) q, p.cells[j]? = some q → q.isCell = true ∧ C.own b (o + i * k + j) = .ob id ∧ w.frozen? ⟨b, o + i * k + j, none⟩ = false ∧ ∃ v, cellAt w b (o + i * k + j) = some v ∧ Rep C w q v) ∧
      ∀ j, xs.length * k ≤ j → j < c * k → C.own b (o + j) = .ob id ∧ w.frozen? ⟨b, o + j, none⟩ = false ∧ ∃ v, cellAt w b (o + j) = some v
  | .tail n => ∃ s, C.tk id = some s ∧ s.n = n ∧ n ≤ s.c ∧ 0 < n ∧ ∀ j, s.n * s.k ≤ j → j < s.c * s.k → C.own s.b (s.o + j) = .ob id ∧ w.frozen? ⟨s.b, s.o + j, none⟩ = false ∧ ∃ v, cellAt w s.b (s.o + j) = some v
  | .map es clock => ∃ b, C.at_ id = some (b, 0) ∧ C.own b 0 = .ob id ∧ ∃ entries, w.heap[b]? = some (.map entries clock) ∧ entries.size = es.length ∧
      ∀ (i : Nat) e f, es[i]? = some e → entries[i]? = some f → Rep C w e.1 f.key ∧ Rep C w e.2.1 f.val ∧ f.born = e.2.2
  | .strIter s pos => ∃ b, C.at_ id = some (b, 0) ∧ C.own b 0 = .ob id ∧ w.heap[b]? = some (.stringIter ⟨s.toArray⟩ pos)
  | .mapIter m since seen last => ∃ b, C.at_ id = some (b, 0) ∧ C.own b 0 = .ob id ∧ ∃ m', w.heap[b]? = some (.mapIter m' since seen.toArray last) ∧
      IterMap C m m'
  | .dead => True

/-- What blocks of the program's variables hold from the beginning on, as far as it is used. -/
class Globs where
  G : Nat → Option (Obj → Prop)
def GlobsOk [Globs] (C : Cx) (w : World) : Prop := ∀ g Q, Globs.G g = some Q → g < w.heap.size ∧ (∀ o id, C.own g o ≠ .ob id) ∧ ∃ x, w.heap[g]? = some x ∧ Q x
theorem GlobsOk.mono [Globs] {C C' : Cx} {w w' : World} (h : GlobsOk C w) (e : Evo C w C' w') : GlobsOk C' w' := fun g Q hq =>
  let ⟨a, b, x, c, d⟩ := h g Q hq
  let ⟨k, l⟩ := e.frame g a b
  ⟨Nat.lt_of_lt_of_le a e.size, l, x, k.trans c, d⟩
structure Sim [Globs] (C : Cx) (H : Heap) (w : World) : Prop where
  obj : ∀ id o, H[id]? = some o → ObjOk C w id o
  lt : ∀ b o, C.own b o ≠ .no → b < w.heap.size
  new_at : ∀ id, H.length ≤ id → C.at_ id = none
  new_tk : ∀ id, H.length ≤ id → C.tk id = none
  new_own : ∀ b o id, C.own b o = .ob id → id < H.length
  inv : GlobsOk C w

def RepL (C : Cx) (w : World) (ps : List PV) (vs : Array Value) : Prop := vs.size = ps.length ∧ ∀ (i : Nat) p v, ps[i]? = some p → vs[i]? = some v → Rep C w p v
theorem RepL.mono {C C' : Cx} {w w' : World} (e : Evo C w C' w') {ps : List PV} {vs : Array Value} (h : RepL C w ps vs) : RepL C' w' ps vs := ⟨h.1, fun i p v a b => (h.2 i p v a b).mono e⟩

/-- The slots. -/
structure TRel (C : Cx) (w : World) (n : Nat) (T : Temps) (a : Act) : Prop where
  rep : ∀ t, Rep C w (T t) (a.tmps.getD t undef)
  size : a.tmps.size = n
  defers : a.defers = []
theorem TRel.mono {C C' : Cx} {w w' : World} (e : Evo C w C' w') {n : Nat} {T : Temps} {a : Act} (h : TRel C w n T a) : TRel C' w' n T a := ⟨fun t => (h.rep t).mono e, h.size, h.defers⟩
theorem TRel.put {C : Cx} {w : World} {n : Nat} {T : Temps} {a : Act} (h : TRel C w n T a) {d : Option Nat} (hd : ∀ t, d = some t → t < n) {p : PV} {v : Value} (hp : Rep C w p v) :
    TRel C w n (Flat.put T d p) (a.put d v) := by
  cases d with
  | none => exact h
  | some d =>
    refine ⟨fun t => ?_, by simp [Act.put, h.size], h.defers⟩
    simp only [Flat.put, upd, Act.put]
    have hs : d < a.tmps.size := by rw [h.size]; exact hd d rfl
    by_cases e : t = d
    · subst e
      rw [if_pos rfl]
      simpa [Array.getD_eq_getD_getElem?, Array.getElem?_setIfInBounds, hs] using hp
    · rw [if_neg e]
      have := h.rep t
      have hne : ¬ d = t := fun h => e h.symm
      simpa [Array.getD_eq_getD_getElem?, Array.getElem?_setIfInBounds, hne] using this
theorem Rep.undef (C : Cx) (w : World) : Rep C w PV.undef Go.undef := .tup rfl (by simp)

end Go.Flat
