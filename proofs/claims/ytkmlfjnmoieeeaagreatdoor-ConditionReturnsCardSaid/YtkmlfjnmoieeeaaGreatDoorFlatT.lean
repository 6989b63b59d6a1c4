/- A machine over plain values. Part T: a call's arguments as plain values; what a law's call comes to. -/
import Derived.Test.YtkmlfjnmoieeeaaGreatDoorFlatP
import Derived.ChangeShapes
import Derived.WideShapes
import Derived.ChangeArms
import Derived.Deep.Slices
import Derived.Carry
import Derived.ProofKit
import Derived.OpenShut
set_option linter.unusedVariables false
set_option linter.unusedSimpArgs false
namespace Go.Flat
open Go.ChangeShapes Go.WideShapes Go.RowKit Go.ChangeAt
variable {P : Program}

inductive Shp where
  | bool
  | int (k : IntKind)
  | str
  | sl (e : Shp)
  | st (fs : List Shp)
  deriving Inhabited, Repr
mutual
def Shp.size : Shp → Nat
  | .st fs => sizeL fs
  | _ => 1
def sizeL : List Shp → Nat
  | [] => 0
  | s :: ss => s.size + sizeL ss
end
def fieldsShp (P : Program) (r : TypeId → Option Shp) : Nat → List Field → Option (List Shp)
  | _, [] => some []
  | n, f :: fs => do
    let s ← r f.type
    let ss ← fieldsShp P r (n + s.size) fs
    if f.offset = n ∧ P.cellsOf f.type = s.size ∧ 0 < s.size then some (s :: ss) else none
/-- What a type's values look like. -/
def shpOf (P : Program) : Nat → TypeId → Option Shp
  | 0, _ => none
  | d + 1, t => match P.underlying t with
    | some .bool => some .bool
    | some (.int k) => some (.int k)
    | some .string => some .str
    | some (.slice e) => do
      let s ← shpOf P d e
      if P.cellsOf e = s.size ∧ 0 < s.size then some (.sl s) else none
    | some (.struct fs) => do
      let ss ← fieldsShp P (shpOf P d) 0 fs.toList
      if P.cellsOf t = sizeL ss then some (.st ss) else none
    | _ => none
mutual
inductive Fits : Shp → PV → Prop where
  | bool (b : Bool) : Fits .bool (.bool b)
  | int (k : IntKind) (n : Int) (h : (Lit.int k n).wf = true) : Fits (.int k) (.int k n)
  | str (s : List UInt8) (h : s.length ≤ maxLen) : Fits .str (.str s)
  | sl (e : Shp) (xs : List PV) (h : ∀ x ∈ xs, Fits e x) (hl : xs.length ≤ maxLen) : Fits (.sl e) (.sl .shut xs)
  | st (fs : List Shp) (cs : List PV) (h : FitsL fs cs) : Fits (.st fs) (.agg cs)
inductive FitsL : List Shp → List PV → Prop where
  | nil : FitsL [] []
  | cons (s : Shp) (ss : List Shp) (p : PV) (cs : List PV) (h : Fits s p) (hs : FitsL ss cs) : FitsL (s :: ss) (p.cells ++ cs)
end

mutual
/-- Its texts have at most B bytes. -/
def Small (B : Nat) : PV → Prop
  | .str s => s.length ≤ B
  | .sl _ xs => SmallL B xs
  | .agg cs => SmallL B cs
  | _ => True
def SmallL (B : Nat) : List PV → Prop
  | [] => True
  | p :: ps => Small B p ∧ SmallL B ps
end
theorem smallL_iff {B : Nat} : ∀ {l : List PV}, SmallL B l ↔ ∀ p ∈ l, Small B p
  | [] => by simp [SmallL]
  | p :: ps => by simp [SmallL, smallL_iff (l := ps)]
theorem small_cells [Globs] {B : Nat} {p : PV} (h : Small B p) (q : PV) (hq : q ∈ p.cells) : Small B q := by
  cases p with
  | agg cs => exact smallL_iff.1 (show SmallL B cs by simpa [Small] using h) q hq
  | _ => simp only [PV.cells, List.mem_singleton] at hq; subst hq; exact h

/-- At a call's begin: all that is there stays as it is. -/
def ctx0 (W : World) : Cx := { own := fun b _ => if b < W.heap.size then .fz else .no, at_ := fun _ => none, tk := fun _ => none }
theorem sim0 [Globs] (W : World) (hinv : GlobsOk (ctx0 W) W) : Sim (ctx0 W) [] W where
  inv := hinv
  obj id o h := by simp at h
  lt b o h := by
    simp only [ctx0] at h
    by_cases hb : b < W.heap.size
    · exact hb
    · simp [hb] at h
  new_at _ _ := rfl
  new_tk _ _ := rfl
  new_own b o id h := by
    simp only [ctx0] at h
    split at h <;> simp at h

section
variable {H : Type} {enc : TypeId × Value → H} {W : World} {spare : Nat → Bool} {held : Bool}
/-- Cells that hold what a value's cells stand for. -/
structure Cells (W : World) (p : PV) (cs : List Value) : Prop where
  len : p.cells.length = cs.length
  cell : ∀ q ∈ p.cells, q.isCell = true
  rep : ∀ (j : Nat) q u, p.cells[j]? = some q → cs[j]? = some u → Rep (ctx0 W) W q u
theorem Cells.val {p : PV} {cs : List Value} (h : Cells W p cs) (hp : ∀ ps, p ≠ .tup ps) : ∃ v, v.cells = cs.toArray ∧ Rep (ctx0 W) W p v ∧ ((∃ ps, p = .agg ps) → v = .agg cs.toArray) := by
  by_cases ha : ∃ ps, p = .agg ps
  · obtain ⟨ps, rfl⟩ := ha
    refine ⟨.agg cs.toArray, rfl, .agg (by simpa [PV.cells] using h.len.symm) h.cell (fun i p v hp hv => h.rep i p v hp (by simpa using hv)), fun _ => rfl⟩
  · have e : p.cells = [p] := by
      cases p <;> first | rfl | exact absurd ⟨_, rfl⟩ ha
    have hl := h.len
    rw [e] at hl
    match cs, h, hl with
    | [u], h, _ =>
      have hr := h.rep 0 p u (by rw [e]; rfl) rfl
      have hc := h.cell p (by rw [e]; simp)
      exact ⟨u, (hr.one hc).1, hr, fun hx => absurd hx ha⟩
theorem fits_not_tup {s : Shp} {p : PV} (h : Fits s p) : ∀ ps, p ≠ .tup ps := by
  intro ps e
  subst e
  cases h
theorem cell_lt {W : World} {a : Addr} {v : Value} (h : W.cell? a = some v) : a.block < W.heap.size ∧ a.spot = none := by
  unfold World.cell? at h
  cases hb : W.heap[a.block]? with
  | none => simp [hb] at h
  | some o =>
    rw [hb] at h
    have hlt : a.block < W.heap.size := by
      rcases Nat.lt_or_ge a.block W.heap.size with h' | h'
      · exact h'
      · rw [Array.getElem?_eq_none h'] at hb; simp at hb
    refine ⟨hlt, ?_⟩
    cases o <;> simp at h
    cases hs : a.spot with
    | none => rfl
    | some x => simp [hs] at h
theorem mapM_range_get {α : Type} {f : Nat → Option α} : ∀ {n : Nat} {l : List α}, (List.range n).mapM f = some l → l.length = n ∧ ∀ i, i < n → f i = l[i]? := by
  intro n
  induction n with
  | zero =>
    intro l h
    simp at h
    subst h
    exact ⟨rfl, fun i hi => by omega⟩
  | succ n ih =>
    intro l h
    rw [List.range_succ, List.mapM_append] at h
    cases h1 : (List.range n).mapM f with
    | none => simp [h1] at h
    | some l1 =>
      cases h2 : f n with
      | none => simp [h1, h2] at h
      | some x =>
        simp [h1, h2] at h
        subst h
        obtain ⟨e1, e2⟩ := ih h1
        refine ⟨by simp [e1], fun i hi => ?_⟩
        by_cases hin : i < n
        · rw [e2 i hin, List.getElem?_append_left (by omega)]
        · have : i = n := by omega
          subst this
          rw [h2, List.getElem?_append_right (by omega), e1]
          simp
theorem cellsQ [Globs] {base : Nat} {a : Addr} {n : Nat} {cs : List Value} (h : W.cells? base a n = some cs) : cs.length = n ∧ ∀ j, j < n → W.cell? (a.add j) = cs[j]? := by
  unfold World.cells? at h
  split at h
  · exact mapM_range_get h
  · simp at h

theorem fields_rep [Globs] {r : TypeId → Option Shp} (n : Nat)
    (ih : ∀ {t s cs x}, r t = some s → DataW.trod enc P W 0 spare held n t cs = some x → ∃ p, Fits s p ∧ Cells W p cs ∧ ∀ B, (∀ m ∈ x.1.weights P t, m ≤ B) → Small B p) :
    ∀ {fs : List Field} {xs : List (DataW H × List MemPlace)} {ss : List Shp} {o : Nat} {cs : List Value}, fieldsShp P r o fs = some ss → cs.length = o + sizeL ss → xs.length = fs.length →
      (∀ (i : Nat) f, fs[i]? = some f → DataW.trod enc P W 0 spare held n f.type ((cs.drop f.offset).take (P.cellsOf f.type)) = xs[i]?) →
      ∃ qs, FitsL ss qs ∧ qs.length = sizeL ss ∧ (∀ q ∈ qs, q.isCell = true) ∧ (∀ (j : Nat) q u, qs[j]? = some q → cs[o + j]? = some u → Rep (ctx0 W) W q u) ∧
        ∀ B, (∀ m ∈ DataW.weightsEach P (fs.map (·.type)) (xs.map (·.1)), m ≤ B) → SmallL B qs := by
  intro fs
  induction fs with
  | nil =>
    intro xs ss o cs h hl _ _
    simp [fieldsShp] at h
    subst h
    exact ⟨[], .nil, rfl, by simp, by simp, fun _ _ => trivial⟩
  | cons f fs ih2 =>
    intro xs ss o cs h hl hxl hf
    match xs, hxl, hf with
    | [], hxl, _ => simp at hxl
    | x0 :: xs, hxl, hf =>
    simp only [fieldsShp] at h
    obtain ⟨s, h1, h⟩ := bind_some h
    obtain ⟨ss', h2, h⟩ := bind_some h
    split at h
    · rename_i hc
      obtain ⟨c1, c2, c3⟩ := hc
      injection h with h
      subst h
      simp only [sizeL] at hl
      have hx := hf 0 f rfl
      simp only [List.getElem?_cons_zero] at hx
      obtain ⟨p, hp1, hp2, hp3⟩ := ih h1 hx
      obtain ⟨qs, q1, q2, q3, q4, q5⟩ := ih2 (xs := xs) (o := o + s.size) (cs := cs) h2 (by omega) (by simpa using hxl) (fun i g hg => by simpa using hf (i + 1) g (by simpa using hg))
      have hpl : p.cells.length = s.size := by
        rw [hp2.len, c2, c1]
        simp
        omega
      refine ⟨p.cells ++ qs, .cons _ _ _ _ hp1 q1, by simp [sizeL, hpl, q2], ?_, ?_, fun B hB => ?_⟩
      · intro q hq
        rcases List.mem_append.1 hq with h | h
        · exact hp2.cell q h
        · exact q3 q h
      · intro j q u hq hu
        by_cases hj : j < s.size
        · rw [List.getElem?_append_left (by omega)] at hq
          refine hp2.rep j q u hq ?_
          rw [c1, c2, List.getElem?_take, if_pos hj, List.getElem?_drop]
          exact hu
        · rw [List.getElem?_append_right (by omega), hpl] at hq
          refine q4 _ q u hq ?_
          rw [← hu]
          congr 1
          omega
      · simp only [List.map_cons, DataW.weightsEach, List.mem_append] at hB
        have s1 := hp3 B (fun m hm => hB m (.inl hm))
        have s2 := q5 B (fun m hm => hB m (.inr hm))
        rw [smallL_iff]
        intro q hq
        rcases List.mem_append.1 hq with h | h
        · exact small_cells s1 q h
        · exact smallL_iff.1 s2 q h
    · simp at h

theorem weights_mem {e : TypeId} {d : DataW H × List MemPlace} {l : List (DataW H × List MemPlace)} (hd : d ∈ l) {m : Nat} (hm : m ∈ d.1.weights P e) : m ∈ DataW.weightsAll P e (l.map (·.1)) := by
  induction l with
  | nil => simp at hd
  | cons x l ih =>
    simp only [List.map_cons, DataW.weightsAll, List.mem_append]
    rcases List.mem_cons.1 hd with rfl | hd
    · exact .inl hm
    · exact .inr (ih hd)
theorem open_trod [Globs] : ∀ (d : Nat) {t : TypeId} {s : Shp}, shpOf P d t = some s → ∀ {fuel : Nat} {cs : List Value} {x : DataW H × List MemPlace},
    DataW.trod enc P W 0 spare held fuel t cs = some x → ∃ p, Fits s p ∧ Cells W p cs ∧ ∀ B, (∀ m ∈ x.1.weights P t, m ≤ B) → Small B p := by
  intro d
  induction d with
  | zero => intro t s h; simp [shpOf] at h
  | succ d ih =>
    intro t s h fuel cs x hx
    simp only [shpOf] at h
    split at h
    · rename_i hu
      injection h with h; subst h
      obtain ⟨b, rfl, _⟩ := DataW.trod_bool hu hx
      exact ⟨.bool b, .bool b, ⟨rfl, by simp [PV.cells, PV.isCell], fun j q u h1 h2 => by
        cases j with
        | zero => simp [PV.cells] at h1 h2; subst h1; subst h2; exact .bool b
        | succ j => simp [PV.cells] at h1⟩, fun _ _ => trivial⟩
    · rename_i k hu
      injection h with h; subst h
      obtain ⟨n, rfl, _, hw⟩ := DataW.trod_int hu hx
      exact ⟨.int k n, .int k n hw, ⟨rfl, by simp [PV.cells, PV.isCell], fun j q u h1 h2 => by
        cases j with
        | zero => simp [PV.cells] at h1 h2; subst h1; subst h2; exact .int k n
        | succ j => simp [PV.cells] at h1⟩, fun _ _ => trivial⟩
    · rename_i hu
      injection h with h; subst h
      obtain ⟨b, rfl, rfl, hs⟩ := DataW.trod_string hu hx
      exact ⟨.str b.data.toList, .str _ (by simpa using hs), ⟨rfl, by simp [PV.cells, PV.isCell], fun j q u h1 h2 => by
        cases j with
        | zero => simp [PV.cells] at h1 h2; subst h1; subst h2; exact .str b
        | succ j => simp [PV.cells] at h1⟩, fun B hB => by simpa [Small] using hB b.data.toList.length (by simp [DataW.weights])⟩
    · rename_i e hu
      obtain ⟨se, h1, h⟩ := bind_some h
      split at h
      · rename_i hc
        obtain ⟨c1, c2⟩ := hc
        injection h with h; subst h
        have mk : ∀ {p : PV} {v : Value}, p.cells = [p] → p.isCell = true → Rep (ctx0 W) W p v → Cells W p [v] := by
          intro p v e1 e2 hr
          refine ⟨by rw [e1]; rfl, by rw [e1]; simpa using e2, fun j q u h1 h2 => ?_⟩
          rw [e1] at h1
          cases j with
          | zero => simp at h1 h2; subst h1; subst h2; exact hr
          | succ j => simp at h1
        rcases DataW.trod_slice hu hx with ⟨rfl, _⟩ | ⟨a, len, cap, elems, rest, n, _, rfl, hxe, hb, hl, hm, hlen, hel, _, _⟩
        · exact ⟨.sl .shut [], .sl _ _ (by simp) (by simp), mk rfl rfl (.sl (b := 0) (o := 0) (k := 0) (fun _ => undef) (by simp) (Nat.le_refl _) (by simp) (by simp)), fun _ _ => trivial⟩
        · have each : ∀ i, i < len → ∃ (y : PV × Value), (∀ B, (∀ m ∈ DataW.weightsAll P e (elems.map (·.1)), m ≤ B) → Small B y.1) ∧ Fits se y.1 ∧ y.2.cells.size = se.size ∧ (∀ q ∈ y.1.cells, q.isCell = true) ∧ Rep (ctx0 W) W y.1 y.2 ∧ (∀ j, j < se.size → W.cell? ((a.add (i * se.size)).add j) = y.2.cells[j]?) := by
            intro i hi
            have h2 := hel i hi
            rw [c1] at h2
            cases hc : W.cells? 0 (a.add (i * se.size)) se.size with
            | none =>
              rw [hc, List.getElem?_eq_getElem (by omega)] at h2
              simp at h2
            | some cs' =>
              rw [hc, List.getElem?_eq_getElem (by omega)] at h2
              simp only [Option.bind_some] at h2
              obtain ⟨p, p1, p2, p3⟩ := ih h1 h2
              obtain ⟨v, v1, v2, _⟩ := p2.val (fits_not_tup p1)
              obtain ⟨q1, q2⟩ := cellsQ hc
              exact ⟨(p, v), fun B hB => p3 B (fun m hm => hB m (weights_mem (List.getElem_mem (by omega)) hm)), p1, by rw [v1]; simpa using q1, p2.cell, v2, fun j hj => by rw [q2 j hj, v1]; simp⟩
          obtain ⟨y, hy⟩ := Deep.choose_lt (α := PV × Value) each
          have hxl : ((List.range len).map fun i => (y i).1).length = len := by simp
          have hspot : len ≠ 0 → a.spot = none ∧ a.block < W.heap.size := by
            intro h0
            obtain ⟨_, _, s2, _, _, s5⟩ := hy 0 (by omega)
            have := s5 0 c2
            rw [Array.getElem?_eq_getElem (by omega)] at this
            have := cell_lt this
            simp [Addr.add] at this
            exact ⟨this.2, this.1⟩
          have hadd : a.spot = none → ∀ n, a.add n = ⟨a.block, a.off + n, none⟩ := by
            intro hs n
            obtain ⟨b, o, sp⟩ := a
            simp only at hs
            subst hs
            exact add_none b o n
          refine ⟨.sl .shut ((List.range len).map fun i => (y i).1), .sl _ _ ?_ (by rw [hxl]; exact Nat.le_trans hl hm), mk rfl rfl ?_, fun B hB => ?_⟩
          · intro p hp
            obtain ⟨i, hi, rfl⟩ := List.mem_map.1 hp
            exact (hy i (List.mem_range.1 hi)).2.1
          · have main : Rep (ctx0 W) W (.sl .shut ((List.range len).map fun i => (y i).1)) (.slice (some a) ((List.range len).map fun i => (y i).1).length cap) := by
              refine .sl (b := a.block) (o := a.off) (k := se.size) (fun i => (y i).2) ?_ (by show _ ≤ _; rw [hxl]; exact hl) ?_ ?_
              · intro hne
                have h0 : len ≠ 0 := by
                  rintro rfl
                  exact hne rfl
                obtain ⟨s1, _⟩ := hspot h0
                obtain ⟨b, o, sp⟩ := a
                simp only at s1
                subst s1
                rfl
              · intro i p hp
                have hi : i < len := by
                  have := lt_of_some hp
                  rwa [hxl] at this
                simp [hi] at hp
                subst hp
                obtain ⟨_, _, s2, s3, _, s5⟩ := hy i hi
                obtain ⟨t1, t2⟩ := hspot (by omega)
                refine ⟨s2, s3, fun j hj => ⟨by simp [ctx0, t2], ?_⟩⟩
                have := s5 j hj
                rw [Deep.add_add, hadd t1] at this
                rw [← this]
                simp only [cellAt, Nat.add_assoc]
              · intro i p hp
                have hi : i < len := by
                  have := lt_of_some hp
                  rwa [hxl] at this
                simp [hi] at hp
                subst hp
                exact (hy i hi).2.2.2.2.1
            rw [hxl] at main
            exact main
          · subst hxe
            simp only [DataW.weights, hu, List.mem_cons, List.mem_append] at hB
            show SmallL B _
            rw [smallL_iff]
            intro p hp
            obtain ⟨i, hi, rfl⟩ := List.mem_map.1 hp
            exact (hy i (List.mem_range.1 hi)).1 B (fun m hm => hB m (.inr (.inl hm)))
      · simp at h
    · rename_i fs hu
      obtain ⟨ss, h1, h⟩ := bind_some h
      split at h
      · rename_i hc
        injection h with h; subst h
        obtain ⟨xs, n, _, rfl, hl, hxl, hf⟩ := DataW.trod_struct hu hx
        obtain ⟨qs, q1, q2, q3, q4, q5⟩ := fields_rep (P := P) (enc := enc) (spare := spare) (held := held) n (fun h hx => ih h hx) h1 (xs := xs) (cs := cs) (by rw [hl, hc]; simp) (by rw [hxl]; simp) (fun i f hf' => hf i f (by simpa using hf'))
        exact ⟨.agg qs, .st _ _ q1, ⟨by rw [hl, hc, ← q2]; rfl, q3, fun j q u h1 h2 => q4 j q u h1 (by simpa using h2)⟩, fun B hB => q5 B (by simpa [DataW.weights, hu] using hB)⟩
      · simp at h
    · simp at h

theorem rep_arg [Globs] {d : Nat} {t : TypeId} {s : Shp} (hs : shpOf P d t = some s) {base : Nat} {v : Value} {D : DataW H} {ps : List MemPlace} (hval : Value.okWide P W .any base t v) (h : DataW.Trod enc P W 0 spare held t v D ps) :
    ∃ p, Fits s p ∧ Rep (ctx0 W) W p v ∧ ∀ B, (∀ m ∈ D.weights P t, m ≤ B) → Small B p := by
  obtain ⟨fuel, hf⟩ := h
  obtain ⟨p, p1, p2, p3⟩ := open_trod d hs hf
  refine ⟨p, p1, ?_, p3⟩
  have one : v.cells = #[v] → p.cells = [p] → Rep (ctx0 W) W p v := by
    intro e1 e2
    exact p2.rep 0 p v (by rw [e2]; rfl) (by rw [e1]; rfl)
  cases d with
  | zero => simp [shpOf] at hs
  | succ d =>
    simp only [shpOf] at hs
    split at hs
    · rename_i hu
      injection hs with hs; subst hs
      obtain ⟨b, rfl⟩ := okWide_bool hu hval
      cases p1
      exact one rfl rfl
    · rename_i k hu
      injection hs with hs; subst hs
      obtain ⟨n, rfl⟩ := okWide_int hu hval
      cases p1
      exact one rfl rfl
    · rename_i hu
      injection hs with hs; subst hs
      obtain ⟨n, rfl⟩ := okWide_string hu hval
      cases p1
      exact one rfl rfl
    · rename_i e hu
      obtain ⟨a, l, c, rfl⟩ := okWide_slice hu hval
      obtain ⟨se, h1, hs⟩ := bind_some hs
      split at hs
      · injection hs with hs; subst hs
        cases p1
        exact one rfl rfl
      · simp at hs
    · rename_i fs hu
      obtain ⟨cs, rfl, _⟩ := okWide_struct hu hval
      obtain ⟨ss, h1, hs⟩ := bind_some hs
      split at hs
      · injection hs with hs; subst hs
        obtain ⟨v', v1, v2, v3⟩ := p2.val (fits_not_tup p1)
        cases p1
        have := v3 ⟨_, rfl⟩
        subst this
        simpa [Value.cells] using v2
      · simp at hs
    · simp at hs

/-- Arguments that fit, one by one. -/
inductive FitAll : List Shp → List PV → Prop where
  | nil : FitAll [] []
  | cons (s : Shp) (ss : List Shp) (p : PV) (ps : List PV) (h : Fits s p) (hs : FitAll ss ps) : FitAll (s :: ss) (p :: ps)
def shps (P : Program) (d : Nat) : List TypeId → Option (List Shp)
  | [] => some []
  | t :: ts => match shpOf P d t, shps P d ts with
    | some s, some ss => some (s :: ss)
    | _, _ => none
theorem rep_args [Globs] {d : Nat} {base : Nat} : ∀ {ts : List TypeId} {ss : List Shp}, shps P d ts = some ss → ∀ {vs : List Value} {ds : List (DataW H)} {ps : List MemPlace}, DataW.TrodAll enc P W 0 spare held ts vs ds ps →
    (∀ (j : Nat) t v, ts[j]? = some t → vs[j]? = some v → Value.okWide P W .any base t v) → ∃ pvs, FitAll ss pvs ∧ pvs.length = vs.length ∧ (∀ (i : Nat) p v, pvs[i]? = some p → vs[i]? = some v → Rep (ctx0 W) W p v) ∧ ∀ B, (∀ m ∈ DataW.weightsEach P ts ds, m ≤ B) → ∀ p ∈ pvs, Small B p
  | [], ss, h, vs, ds, ps, ha, _ => by
    simp [shps] at h
    subst h
    obtain ⟨rfl, _, _⟩ := trodAll_nil ha
    exact ⟨[], .nil, rfl, by simp, by simp⟩
  | t :: ts, ss, h, vs, ds, ps, ha, hv => by
    simp only [shps] at h
    split at h
    · rename_i s ss' h1 h2
      injection h with h; subst h
      obtain ⟨v, vs', D, ds', p, q, rfl, rfl, rfl, t1, t2⟩ := trodAll_cons ha
      obtain ⟨x, x1, x2, x3⟩ := rep_arg h1 (hv 0 t v rfl rfl) t1
      obtain ⟨xs, y1, y2, y3, y4⟩ := rep_args h2 t2 (fun j t' v' ht hv' => hv (j + 1) t' v' (by simpa using ht) (by simpa using hv'))
      refine ⟨x :: xs, .cons _ _ _ _ x1 y1, by simp [y2], fun i p' v' hp hv' => ?_, fun B hB p' hp => ?_⟩
      · cases i with
        | zero => simp at hp hv'; subst hp; subst hv'; exact x2
        | succ i => exact y3 i p' v' (by simpa using hp) (by simpa using hv')
      · simp only [DataW.weightsEach, List.mem_append] at hB
        rcases List.mem_cons.1 hp with rfl | hp
        · exact x3 B (fun m hm => hB m (.inl hm))
        · exact y4 B (fun m hm => hB m (.inr hm)) p' hp
    · simp at h
/-- A law's call, out of its call on the plain machine. -/
theorem law_calls [Globs] {E : Env} (hE : EnvOk P E) (hinv : GlobsOk (ctx0 W) W) {f : FuncId} {d : Nat} {ts : List TypeId} {ss : List Shp} (hs : shps P d ts = some ss) (hlaw : ∀ pvs, FitAll ss pvs → call E f pvs [] = some (.bool true, []))
    {base : Nat} {args : Array Value} {ds : List (DataW H)} {ps : List MemPlace} (ha : DataW.TrodAll enc P W 0 spare held ts args.toList ds ps)
    (hv : ∀ (j : Nat) t v, ts[j]? = some t → args[j]? = some v → Value.okWide P W .any base t v) :
    Calls P f args W fun e W' => e = .returned (.bool true) ∧ Below W.heap.size W W' := by
  obtain ⟨pvs, h1, h2, h3, _⟩ := rep_args hs ha (fun j t v ht hv' => hv j t v ht (by simpa using hv'))
  have hc := hlaw pvs h1
  have := (call_ok hE) f pvs [] _ _ hc (ctx0 W) W args (sim0 W hinv) ⟨by simpa using h2.symm, fun i p v hp hv' => h3 i p v hp (by simpa using hv')⟩
  refine this.2.mono ?_
  rintro e W' ⟨v, C', rfl, ev, _, hr⟩
  cases hr
  refine ⟨rfl, ⟨ev.os, ev.tape, ev.output, ev.size, fun k hk => ?_⟩⟩
  exact (ev.frame k hk (fun o id => by simp [ctx0, hk])).1
/-- A law's call, whose texts are of bounded length. -/
theorem law_calls_sized [Globs] {E : Env} (hE : EnvOk P E) (hinv : GlobsOk (ctx0 W) W) {f : FuncId} {d : Nat} {ts : List TypeId} {ss : List Shp} (hs : shps P d ts = some ss) {B : Nat} (hlaw : ∀ pvs, FitAll ss pvs → (∀ p ∈ pvs, Small B p) → call E f pvs [] = some (.bool true, []))
    {base : Nat} {args : Array Value} {ds : List (DataW H)} {ps : List MemPlace} (ha : DataW.TrodAll enc P W 0 spare held ts args.toList ds ps) (hB : ∀ m ∈ DataW.weightsEach P ts ds, m ≤ B)
    (hv : ∀ (j : Nat) t v, ts[j]? = some t → args[j]? = some v → Value.okWide P W .any base t v) :
    Calls P f args W fun e W' => e = .returned (.bool true) ∧ Below W.heap.size W W' := by
  obtain ⟨pvs, h1, h2, h3, h4⟩ := rep_args hs ha (fun j t v ht hv' => hv j t v ht (by simpa using hv'))
  have hc := hlaw pvs h1 (h4 B hB)
  have := (call_ok hE) f pvs [] _ _ hc (ctx0 W) W args (sim0 W hinv) ⟨by simpa using h2.symm, fun i p v hp hv' => h3 i p v hp (by simpa using hv')⟩
  refine this.2.mono ?_
  rintro e W' ⟨v, C', rfl, ev, _, hr⟩
  cases hr
  refine ⟨rfl, ⟨ev.os, ev.tape, ev.output, ev.size, fun k hk => ?_⟩⟩
  exact (ev.frame k hk (fun o id => by simp [ctx0, hk])).1
/-- The arguments read as they did. -/
theorem stays_all (hl : laidOutB P = true) {W' : World} (hb : Below W.heap.size W W') : ∀ {ts : List TypeId}, (ts.all fun t => P.readableRec t && decide (t < P.types.size)) = true → ∀ {vs : List Value} {ds : List (DataW H)} {ps : List MemPlace},
    DataW.TrodAll enc P W 0 (fun _ => true) true ts vs ds ps → DataW.TrodAll enc P W' 0 (fun b => decide (b < W.heap.size)) true ts vs ds ps
  | [], _, vs, ds, ps, h => by
    obtain ⟨rfl, rfl, rfl⟩ := trodAll_nil h
    exact trodAll_mk0
  | t :: ts, ht, vs, ds, ps, h => by
    simp only [List.all_cons, Bool.and_eq_true, decide_eq_true_eq] at ht
    obtain ⟨v, vs', D, ds', p, q, rfl, rfl, rfl, t1, t2⟩ := trodAll_cons h
    refine trodAll_cons_mk (Below.trod hl ht.1.1 ht.1.2 t1 hb ?_) (stays_all hl hb ht.2 t2)
    obtain ⟨m, hm⟩ := t1
    exact DataW.trod_lt m _ _ _ hm
end
end Go.Flat
