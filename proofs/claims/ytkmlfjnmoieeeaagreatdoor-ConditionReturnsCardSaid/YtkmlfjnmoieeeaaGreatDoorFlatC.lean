/- A machine over plain values. Part C: its operations out of the model's; those that don't touch the heap. -/
import Derived.Test.YtkmlfjnmoieeeaaGreatDoorFlatB
import Derived.Laws.Entries
import Derived.Laws.Tables
import Derived.ChangeKeysEq
import Derived.Laws.IdiomCopy
import Derived.Laws.Strings
set_option linter.unusedVariables false
set_option linter.unusedSimpArgs false
namespace Go.Flat

def ofCell : Value → Option PV
  | .bool b => some (.bool b)
  | .int k n => some (.int k n)
  | .string s => some (.str s.data.toList)
  | .pointer none => some .nilptr
  | .slice none 0 0 => some (.sl .exact [])
  | .nilFunc => some .nilfunc
  | .nilIface => some .niliface
  | .map none => some .nilmap
  | _ => none
def ofCells : List Value → Option (List PV)
  | [] => some []
  | v :: vs => match ofCell v, ofCells vs with
    | some p, some ps => some (p :: ps)
    | _, _ => none
def ofVal : Value → Option PV
  | .agg cs => (ofCells cs.toList).map .agg
  | v => ofCell v
def compOpd : Operand → Option Opd
  | .tmp t => some (.tmp t)
  | .const v => (ofVal v).map .lit
  | .global g => some (.lit (.glob g))
  | .func f => some (.lit (.func (.func f) [] []))
def compOpds : List Operand → Option (List Opd)
  | [] => some []
  | x :: xs => match compOpd x, compOpds xs with
    | some y, some ys => some (y :: ys)
    | _, _ => none

theorem ofCell_rep {C : Cx} {w : World} {v : Value} {p : PV} (h : ofCell v = some p) : Rep C w p v ∧ p.isCell = true := by
  unfold ofCell at h
  split at h <;> simp at h <;> subst h
  · exact ⟨.bool _, rfl⟩
  · exact ⟨.int _ _, rfl⟩
  · exact ⟨.str _, rfl⟩
  · exact ⟨.nilptr, rfl⟩
  · exact ⟨.sl (b := 0) (o := 0) (k := 0) (fun _ => .nilFunc) (by simp) rfl (by simp) (by simp), rfl⟩
  · exact ⟨.nilfunc, rfl⟩
  · exact ⟨.niliface, rfl⟩
  · exact ⟨.nilmap, rfl⟩
theorem ofCells_rep {C : Cx} {w : World} : ∀ {vs : List Value} {ps : List PV}, ofCells vs = some ps → vs.length = ps.length ∧ (∀ p ∈ ps, p.isCell = true) ∧ ∀ (i : Nat) p v, ps[i]? = some p → vs[i]? = some v → Rep C w p v
  | [], ps, h => by simp [ofCells] at h; subst h; simp
  | v :: vs, ps, h => by
    simp only [ofCells] at h
    split at h
    · rename_i p ps' h1 h2
      simp at h
      subst h
      obtain ⟨a, b, c⟩ := ofCells_rep (C := C) (w := w) h2
      obtain ⟨d, e⟩ := ofCell_rep (C := C) (w := w) h1
      refine ⟨by simp [a], by simpa [e] using b, fun i p v hp hv => ?_⟩
      cases i with
      | zero => simp at hp hv; subst hp; subst hv; exact d
      | succ i => exact c i p v (by simpa using hp) (by simpa using hv)
    · simp at h
theorem ofVal_rep {C : Cx} {w : World} {v : Value} {p : PV} (h : ofVal v = some p) : Rep C w p v := by
  unfold ofVal at h
  split at h
  · rename_i cs
    cases hc : ofCells cs.toList with
    | none => simp [hc] at h
    | some ps =>
      simp [hc] at h
      subst h
      obtain ⟨a, b, c⟩ := ofCells_rep (C := C) (w := w) hc
      exact .agg (by simpa using a) b (fun i p v hp hv => c i p v hp (by simpa using hv))
  · exact (ofCell_rep h).1
theorem opd_rep {C : Cx} {w : World} {n : Nat} {T : Temps} {a : Act} (hT : TRel C w n T a) {x : Operand} {y : Opd} (h : compOpd x = some y) : Rep C w (y.ev T) (a.eval x) := by
  cases x with
  | tmp t => simp [compOpd] at h; subst h; exact hT.rep t
  | const v =>
    cases hv : ofVal v with
    | none => simp [compOpd, hv] at h
    | some p => simp [compOpd, hv] at h; subst h; exact ofVal_rep hv
  | global g => simp [compOpd] at h; subst h; exact .glob g
  | func f => simp [compOpd] at h; subst h; exact .func _ rfl rfl (by simp) (by simp)
theorem opds_rep {C : Cx} {w : World} {n : Nat} {T : Temps} {a : Act} (hT : TRel C w n T a) : ∀ {xs : List Operand} {ys : List Opd}, compOpds xs = some ys → xs.length = ys.length ∧ ∀ (i : Nat) p v, (evs T ys)[i]? = some p → (xs.map a.eval)[i]? = some v → Rep C w p v
  | [], ys, h => by simp [compOpds] at h; subst h; simp [evs]
  | x :: xs, ys, h => by
    simp only [compOpds] at h
    split at h
    · rename_i y ys' h1 h2
      simp at h
      subst h
      obtain ⟨e, f⟩ := opds_rep hT h2
      refine ⟨by simp [e], fun i p v hp hv => ?_⟩
      cases i with
      | zero => simp [evs] at hp hv; subst hp; subst hv; exact opd_rep hT h1
      | succ i => exact f i p v (by simpa [evs] using hp) (by simpa using hv)
    · simp at h
theorem opds_repL {C : Cx} {w : World} {n : Nat} {T : Temps} {a : Act} (hT : TRel C w n T a) {xs : Array Operand} {ys : List Opd} (h : compOpds xs.toList = some ys) : RepL C w (evs T ys) (xs.map a.eval) := by
  obtain ⟨e, f⟩ := opds_rep hT h
  exact ⟨by simp [evs, ← e], fun i p v hp hv => f i p v hp (by simpa using hv)⟩

/-! ### Types -/
def aggT (P : Program) (t : TypeId) : Option Bool :=
  match P.underlying t with
  | some (.struct _) | some (.array ..) => some true
  | some _ => some false
  | none => none
def sizeT (P : Program) (t : TypeId) : Option Nat := (P.info? t).map (·.size)
def zeroT (P : Program) (t : TypeId) : Option PV := ((P.info? t).bind (·.zero)).bind ofVal
theorem run_sizeT {P : Program} {t : TypeId} {n : Nat} (h : sizeT P t = some n) (w : World) : (sizeOf t).run P w = .ok n w := by
  unfold sizeT at h
  cases hi : P.info? t with
  | none => simp [hi] at h
  | some i => simp [hi] at h; subst h; simp [sizeOf, typeInfo, hi]
theorem run_aggT {P : Program} {t : TypeId} {b : Bool} (h : aggT P t = some b) (w : World) : (isAgg t).run P w = .ok b w := by
  unfold aggT at h
  split at h <;> simp at h <;> subst h <;> simp [isAgg, run_underlying (by assumption)]
theorem run_zeroT {P : Program} {t : TypeId} {p : PV} (h : zeroT P t = some p) : ∃ v, (∀ w, (zeroValue t).run P w = .ok v w) ∧ ∀ C w, Rep C w p v := by
  unfold zeroT at h
  cases hi : P.info? t with
  | none => simp [hi] at h
  | some i =>
    cases hz : i.zero with
    | none => simp [hi, hz] at h
    | some v =>
      simp [hi, hz] at h
      exact ⟨v, fun w => by simp [zeroValue, typeInfo, hi, hz], fun C w => ofVal_rep h⟩

end Go.Flat
