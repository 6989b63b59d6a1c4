/- A machine over plain values. Part W: what code comes to, said by what is to hold behind it. -/
import Derived.Test.YtkmlfjnmoieeeaaGreatDoorFlatA
set_option linter.unusedVariables false
set_option linter.unusedSimpArgs false
namespace Go.Flat

/-- Behind the code stands Q. -/
noncomputable def wp (c : CallT) (k : ACode) (st : St) (Q : AExit → St → Prop) : Prop :=
  match evC c k st with
  | some (e, st') => Q e st'
  | none => False
def wpO (r : Option St) (Q : AExit → St → Prop) : Prop :=
  match r with
  | some st => Q .normal st
  | none => False
def wpB (b : PV) (x y : Prop) : Prop :=
  match b with
  | .bool t => if t then x else y
  | _ => False
noncomputable def seqQ (c : CallT) (b : ACode) (Q : AExit → St → Prop) (e : AExit) (st : St) : Prop :=
  match e with
  | .normal => wp c b st Q
  | e => Q e st
def blkQ (id : Nat) (Q : AExit → St → Prop) (e : AExit) (st : St) : Prop :=
  match e with
  | .exit i => if i = id then Q .normal st else Q (.exit i) st
  | e => Q e st
def lpQ (Inv : Nat → Temps → Heap → Prop) (n : Nat) (Q : AExit → St → Prop) (e : AExit) (st : St) : Prop :=
  match e with
  | .normal => ∃ m, m < n ∧ Inv m st.T st.H
  | e => Q e st
noncomputable def retQ (res : List ARes) (fz : Bool) (H : Heap) (r : PV × Heap) (e : AExit) (st : St) : Prop :=
  (e = .normal ∨ e = .ret) ∧ ∃ p, resultA st.T st.H res = some p ∧ leave fz H p st.H = r

section
variable {c : CallT} {T : Temps} {H : Heap} {Q : AExit → St → Prop} {st : St}
@[simp] theorem seqQ_normal {b : ACode} : seqQ c b Q .normal st = wp c b st Q := rfl
@[simp] theorem seqQ_ret {b : ACode} : seqQ c b Q .ret st = Q .ret st := rfl
@[simp] theorem seqQ_exit {b : ACode} {i : Nat} : seqQ c b Q (.exit i) st = Q (.exit i) st := rfl
@[simp] theorem blkQ_normal {i : Nat} : blkQ i Q .normal st = Q .normal st := rfl
@[simp] theorem blkQ_ret {i : Nat} : blkQ i Q .ret st = Q .ret st := rfl
@[simp] theorem blkQ_exit {i j : Nat} : blkQ i Q (.exit j) st = if j = i then Q .normal st else Q (.exit j) st := rfl
@[simp] theorem lpQ_normal {Inv : Nat → Temps → Heap → Prop} {n : Nat} : lpQ Inv n Q .normal ⟨T, H⟩ = ∃ m, m < n ∧ Inv m T H := rfl
@[simp] theorem lpQ_ret {Inv : Nat → Temps → Heap → Prop} {n : Nat} : lpQ Inv n Q .ret st = Q .ret st := rfl
@[simp] theorem lpQ_exit {Inv : Nat → Temps → Heap → Prop} {n i : Nat} : lpQ Inv n Q (.exit i) st = Q (.exit i) st := rfl
@[simp] theorem wpO_some : wpO (some st) Q = Q .normal st := rfl
@[simp] theorem wpO_none : wpO none Q = False := rfl
@[simp] theorem wpB_bool {t : Bool} {x y : Prop} : wpB (.bool t) x y = if t then x else y := rfl
theorem wp_skip : wp c .skip st Q = Q .normal st := rfl
theorem wp_exit {i : Nat} : wp c (.exit i) st Q = Q (.exit i) st := rfl
theorem wp_ret : wp c .ret st Q = Q .ret st := rfl
theorem wp_region {ops : List AOper} : wp c (.region ops) ⟨T, H⟩ Q = wpO (evOps c ops ⟨T, H⟩) Q := by
  unfold wp
  simp only [evC]
  cases evOps c ops ⟨T, H⟩ <;> rfl
theorem wp_seq {a b : ACode} : wp c (.seq a b) st Q = wp c a st (seqQ c b Q) := by
  unfold wp
  simp only [evC]
  cases h : evC c a st with
  | none => rfl
  | some r =>
    obtain ⟨e, st'⟩ := r
    cases e <;> rfl
theorem wp_cond {q : Opd} {x y : ACode} : wp c (.cond q x y) ⟨T, H⟩ Q = wpB (q.ev T) (wp c x ⟨T, H⟩ Q) (wp c y ⟨T, H⟩ Q) := by
  unfold wp
  simp only [evC]
  generalize q.ev T = v
  cases v <;> try rfl
  rename_i b
  cases b <;> rfl
theorem wp_block {i : Nat} {k : ACode} : wp c (.block i k) st Q = wp c k st (blkQ i Q) := by
  unfold wp
  simp only [evC]
  cases h : evC c k st with
  | none => rfl
  | some r =>
    obtain ⟨e, st'⟩ := r
    cases e with
    | normal => rfl
    | ret => rfl
    | exit j =>
      simp only [blkQ]
      by_cases hj : j = i
      · simp [hj]
      · simp [hj]
/-- A loop: what holds at its head, with a measure that falls. -/
theorem wp_loop {k : ACode} (Inv : Nat → Temps → Heap → Prop) (h : ∀ n T H, Inv n T H → wp c k ⟨T, H⟩ (lpQ Inv n Q)) : ∀ {n T H}, Inv n T H → wp c (.loop k) ⟨T, H⟩ Q := by
  intro n
  induction n using Nat.strongRecOn with
  | _ n ih =>
    intro T H h0
    have h1 := h n T H h0
    unfold wp at h1 ⊢
    simp only [evC]
    rw [loopW_eq]
    cases he : evC c k ⟨T, H⟩ with
    | none => rw [he] at h1; exact h1.elim
    | some r =>
      obtain ⟨e, st'⟩ := r
      rw [he] at h1
      cases e with
      | normal =>
        obtain ⟨m, hm, hi⟩ := h1
        have := ih m hm hi
        unfold wp at this
        simp only [evC] at this
        exact this
      | ret => exact h1
      | exit i => exact h1
theorem wp_mono {k : ACode} {Q' : AExit → St → Prop} (h : wp c k st Q) (hq : ∀ e st', Q e st' → Q' e st') : wp c k st Q' := by
  unfold wp at h ⊢
  cases he : evC c k st with
  | none => rw [he] at h; exact h.elim
  | some r => rw [he] at h; exact hq _ _ h

theorem call_wp {E : Env} {f : FuncId} {F : AFunc} (hF : E.func f = some F) (hp : E.prim f = none) {args : List PV} {r : PV × Heap} (h : F.nd = false ∧ args.length ≤ F.n ∧ wp (call E) F.body ⟨initT args, H⟩ (retQ F.res F.fz H r)) : call E f args H = some r := by
  obtain ⟨h1, h2, h3⟩ := h
  rw [call_eq hp hF]
  unfold runF
  rw [if_pos h2, h1]
  simp only [Bool.false_eq_true, if_false]
  unfold runD
  unfold wp at h3
  cases he : evC (call E) F.body ⟨initT args, H⟩ with
  | none => rw [he] at h3; exact h3.elim
  | some x =>
    obtain ⟨e, st⟩ := x
    rw [he] at h3
    obtain ⟨h4, h5⟩ := h3
    rcases h4 with rfl | rfl
    · obtain ⟨p, h6, h7⟩ := h5
      simp only [h6, h7]
    · obtain ⟨p, h6, h7⟩ := h5
      simp only [h6, h7]
@[simp] theorem resultA_one {t : Nat} : resultA T H [.tmp t] = some (T t) := rfl
@[simp] theorem resultA_none : resultA T H [] = some (.tup []) := rfl
@[simp] theorem resultA_two {t u : Nat} : resultA T H [.tmp t, .tmp u] = some (.tup [T t, T u]) := rfl
@[simp] theorem resultA_three {t u v : Nat} : resultA T H [.tmp t, .tmp u, .tmp v] = some (.tup [T t, T u, T v]) := rfl
@[simp] theorem retQ_ret {res : List ARes} {fz : Bool} {H0 : Heap} {r : PV × Heap} : retQ res fz H0 r .ret ⟨T, H⟩ = ∃ p, resultA T H res = some p ∧ leave fz H0 p H = r := by simp [retQ]
@[simp] theorem retQ_normal {res : List ARes} {fz : Bool} {H0 : Heap} {r : PV × Heap} : retQ res fz H0 r .normal ⟨T, H⟩ = ∃ p, resultA T H res = some p ∧ leave fz H0 p H = r := by simp [retQ]

/-! ### Operations -/
/-- What is left of an operation. -/
noncomputable def fin (u : Mk) (d : Option Nat) (T : Temps) (H : Heap) : Option (PV × Heap) → Option St
  | some (p, H') => open Classical in if okMk u H H' then some ⟨put T d p, H'⟩ else none
  | none => none
@[simp] theorem fin_none {u : Mk} {d : Option Nat} : fin u d T H none = none := rfl
@[simp] theorem fin_some {d : Option Nat} {p : PV} {H' : Heap} : fin .any d T H (some (p, H')) = some ⟨put T d p, H'⟩ := by simp [fin, okMk]
@[simp] theorem fin_same {u : Mk} {d : Option Nat} {p : PV} : fin u d T H (some (p, H)) = some ⟨put T d p, H⟩ := by cases u <;> simp [fin, okMk]
@[simp] theorem fin_ext {d : Option Nat} {p : PV} {l : Heap} : fin .ext d T H (some (p, H ++ l)) = some ⟨put T d p, H ++ l⟩ := by simp [fin, okMk]
@[simp] theorem fin_ext2 {d : Option Nat} {p : PV} {l m : Heap} : fin .ext d T (H ++ l) (some (p, H ++ (l ++ m))) = some ⟨put T d p, H ++ (l ++ m)⟩ := by
  rw [← List.append_assoc]
  exact fin_ext
def guardQ (b : PV) (want : Bool) (x y : Option St) : Option St :=
  match b with
  | .bool t => if t == want then x else y
  | _ => y
@[simp] theorem guardQ_bool {t want : Bool} {x y : Option St} : guardQ (.bool t) want x y = if t == want then x else y := rfl
@[simp] theorem guardQ_undef {want : Bool} {x y : Option St} : guardQ .undef want x y = y := rfl
@[simp] theorem guardQ_tup {want : Bool} {x y : Option St} : guardQ (.tup []) want x y = y := rfl
@[simp] theorem evOps_nil : evOps c [] st = some st := rfl
def thenO (x : Option St) (f : St → Option St) : Option St :=
  match x with
  | some st => f st
  | none => none
@[simp] theorem thenO_some {f : St → Option St} : thenO (some st) f = f st := rfl
@[simp] theorem thenO_none {f : St → Option St} : thenO none f = none := rfl
@[simp] theorem thenO_ite {p : Prop} [Decidable p] {x y : Option St} {f : St → Option St} : thenO (if p then x else y) f = if p then thenO x f else thenO y f := by split <;> rfl
@[simp] theorem wpO_ite {p : Prop} [Decidable p] {x y : Option St} : wpO (if p then x else y) Q = if p then wpO x Q else wpO y Q := by split <;> rfl
@[simp] theorem evOps_cons {d : Option Nat} {op : AOp} {u : Mk} {rest : List AOper} : evOps c (⟨d, op, none, u⟩ :: rest) ⟨T, H⟩ = thenO (fin u d T H (execA c op T H)) (evOps c rest) := by
  simp only [evOps, evOp, wantedA, if_true, thenO]
  cases h : execA c op T H with
  | none => rfl
  | some x => rfl
@[simp] theorem evOps_guard {d : Option Nat} {op : AOp} {u : Mk} {t : Nat} {want : Bool} {rest : List AOper} :
    evOps c (⟨d, op, some (t, want), u⟩ :: rest) ⟨T, H⟩ = thenO (guardQ (T t) want (fin u d T H (execA c op T H)) (some ⟨put T d .undef, H⟩)) (evOps c rest) := by
  have key : evOp c ⟨d, op, some (t, want), u⟩ ⟨T, H⟩ = guardQ (T t) want (fin u d T H (execA c op T H)) (some ⟨put T d .undef, H⟩) := by
    unfold evOp wantedA
    cases hv : T t <;> simp only [guardQ, hv] <;> rfl
  simp only [evOps, key]
  rfl
@[simp] theorem put_some {d : Nat} {p : PV} : put T (some d) p = upd T d p := rfl
@[simp] theorem put_none {p : PV} : put T none p = T := rfl
@[simp] theorem upd_at {d t : Nat} {p : PV} : upd T d p t = if t = d then p else T t := rfl
@[simp] theorem ev_tmp {t : Nat} : (Opd.tmp t).ev T = T t := rfl
@[simp] theorem ev_lit {p : PV} : (Opd.lit p).ev T = p := rfl
@[simp] theorem evs_nil : evs T [] = [] := rfl
@[simp] theorem evs_cons {x : Opd} {xs : List Opd} : evs T (x :: xs) = x.ev T :: evs T xs := rfl
@[simp] theorem initT_cons0 {p : PV} {ps : List PV} : initT (p :: ps) 0 = p := rfl
@[simp] theorem initT_cons1 {p q : PV} {ps : List PV} : initT (p :: q :: ps) 1 = q := rfl
@[simp] theorem initT_cons2 {p q r : PV} {ps : List PV} : initT (p :: q :: r :: ps) 2 = r := rfl
@[simp] theorem initT_cons3 {p q r s : PV} {ps : List PV} : initT (p :: q :: r :: s :: ps) 3 = s := rfl
@[simp] theorem initT_cons4 {p q r s t : PV} {ps : List PV} : initT (p :: q :: r :: s :: t :: ps) 4 = t := rfl

@[simp] theorem exec_mv {x : Opd} : execA c (.mv x) T H = some (x.ev T, H) := rfl
def pickA : PV → PV → PV → Option PV
  | .bool t, x, y => some (if t then x else y)
  | _, _, _ => none
@[simp] theorem pickA_bool {t : Bool} {x y : PV} : pickA (.bool t) x y = some (if t then x else y) := rfl
def keepH (H : Heap) (x : Option PV) : Option (PV × Heap) := x.map fun p => (p, H)
@[simp] theorem keepH_some {p : PV} : keepH H (some p) = some (p, H) := rfl
@[simp] theorem keepH_none : keepH H none = none := rfl
@[simp] theorem exec_pick {x y z : Opd} : execA c (.pick x y z) T H = keepH H (pickA (x.ev T) (y.ev T) (z.ev T)) := by
  show (pureA T _).map _ = _
  simp only [pureA]
  generalize x.ev T = v
  cases v <;> rfl
@[simp] theorem exec_bin {op : BinOp} {x y : Opd} : execA c (.bin op x y) T H = keepH H (binA op (x.ev T) (y.ev T)) := rfl
@[simp] theorem exec_eqBool {n : Bool} {x y : Opd} : execA c (.eqBool n x y) T H = keepH H (eqBoolA n (x.ev T) (y.ev T)) := rfl
@[simp] theorem exec_eqNil {kd : NilKind} {n : Bool} {x : Opd} : execA c (.eqNil kd n x) T H = keepH H ((isNilK kd (x.ev T)).map fun b => .bool (if n then !b else b)) := rfl
@[simp] theorem exec_eqAgg {n : Bool} {ks : List EqK} {x y : Opd} : execA c (.eqAgg n ks x y) T H = keepH H (eqAggA n ks (x.ev T) (y.ev T)) := rfl
@[simp] theorem exec_un {op : UnOp} {x : Opd} : execA c (.un op x) T H = keepH H (unA op (x.ev T)) := rfl
@[simp] theorem exec_iface {t : TypeId} {x : Opd} : execA c (.iface t x) T H = some (.iface t (x.ev T), H) := rfl
@[simp] theorem exec_func {f : Fn} {a b : List Opd} : execA c (.func f a b) T H = some (.func f (evs T a) (evs T b), H) := rfl
def fieldA (off size : Nat) (agg : Bool) : PV → Option PV
  | .agg cs => partA off size agg cs
  | _ => none
@[simp] theorem fieldA_agg {off size : Nat} {agg : Bool} {cs : List PV} : fieldA off size agg (.agg cs) = partA off size agg cs := rfl
@[simp] theorem exec_field {off size : Nat} {agg : Bool} {x : Opd} : execA c (.field off size agg x) T H = keepH H (fieldA off size agg (x.ev T)) := by
  show (pureA T _).map _ = _
  simp only [pureA]
  generalize x.ev T = v
  cases v <;> rfl
@[simp] theorem exec_faddr {off : Nat} {x : Opd} : execA c (.faddr off x) T H = keepH H (faddrA off (x.ev T)) := rfl
def iaSlI (size : Nat) (x : PV) : PV → Option PV
  | .int _ i => iaSlA size x i
  | _ => none
@[simp] theorem iaSlI_int {size : Nat} {x : PV} {k : IntKind} {i : Int} : iaSlI size x (.int k i) = iaSlA size x i := rfl
@[simp] theorem exec_iaSl {size : Nat} {x i : Opd} : execA c (.iaSl size x i) T H = keepH H (iaSlI size (x.ev T) (i.ev T)) := by
  show (pureA T _).map _ = _
  simp only [pureA]
  generalize i.ev T = v
  cases v <;> rfl
def extP (i : Nat) : PV → Option PV
  | .tup vs => vs[i]?
  | _ => none
@[simp] theorem extP_tup {i : Nat} {vs : List PV} : extP i (.tup vs) = vs[i]? := rfl
@[simp] theorem exec_ext {i : Nat} {x : Opd} : execA c (.ext i x) T H = keepH H (extP i (x.ev T)) := by
  show (pureA T _).map _ = _
  simp only [pureA]
  generalize x.ev T = v
  cases v <;> rfl
@[simp] theorem exec_tass {t : TypeId} {z : PV} {ok : Bool} {x : Opd} : execA c (.tass t z ok x) T H = keepH H (tassA t z ok (x.ev T)) := rfl
@[simp] theorem exec_build {z : List PV} {ps : List (Nat × Nat × Opd)} : execA c (.build z ps) T H = keepH H ((fillA z (ps.map fun (o, s, x) => (o, s, x.ev T))).map .agg) := rfl
@[simp] theorem exec_lit {size : Nat} {ps : List Opd} : execA c (.lit size ps) T H = keepH H (if uniform size (evs T ps) then some (.sl .exact (evs T ps)) else none) := rfl
def lenS : PV → Option PV
  | .str s => some (.int .i64 s.length)
  | _ => none
@[simp] theorem lenS_str {s : List UInt8} : lenS (.str s) = some (.int .i64 s.length) := rfl
@[simp] theorem exec_lenStr {x : Opd} : execA c (.lenStr x) T H = keepH H (lenS (x.ev T)) := by
  show (pureA T _).map _ = _
  simp only [pureA]
  generalize x.ev T = v
  cases v <;> rfl
def lenL : PV → Option PV
  | .sl _ xs => some (.int .i64 xs.length)
  | .view _ _ _ n => some (.int .i64 n)
  | _ => none
@[simp] theorem lenL_sl {t : Tail} {xs : List PV} : lenL (.sl t xs) = some (.int .i64 xs.length) := rfl
@[simp] theorem lenL_view {a b d n : Nat} : lenL (.view a b d n) = some (.int .i64 n) := rfl
@[simp] theorem exec_lenSl {x : Opd} : execA c (.lenSl x) T H = keepH H (lenL (x.ev T)) := by
  show (pureA T _).map _ = _
  simp only [pureA]
  generalize x.ev T = v
  cases v <;> rfl
@[simp] theorem exec_minmax {m : Bool} {x : Opd} {xs : List Opd} : execA c (.minmax m (x :: xs)) T H = keepH H (foldA m (x.ev T) (evs T xs)) := rfl
@[simp] theorem exec_alloc {z : List PV} : execA c (.alloc z) T H = some (.ptr H.length 0, H ++ [.cells z]) := rfl
def allCells : List PV → Bool
  | [] => true
  | p :: ps => p.isCell && allCells ps
@[simp] theorem allCells_nil : allCells [] = true := rfl
@[simp] theorem allCells_cons {p : PV} {ps : List PV} : allCells (p :: ps) = (p.isCell && allCells ps) := rfl
theorem allCells_eq : ∀ (l : List PV), l.all (·.isCell) = allCells l
  | [] => rfl
  | p :: l => by simp only [List.all_cons, allCells, allCells_eq l]
def boxA (H : Heap) (p : PV) : Option (PV × Heap) := if allCells p.cells then some (.ptr H.length 0, H ++ [.cells p.cells]) else none
@[simp] theorem exec_box {x : Opd} : execA c (.box x) T H = boxA H (x.ev T) := by
  show (if _ then _ else _) = _
  rw [allCells_eq]
  rfl
@[simp] theorem cells_agg {cs : List PV} : (PV.agg cs).cells = cs := rfl
@[simp] theorem cells_bool {b : Bool} : (PV.bool b).cells = [.bool b] := rfl
@[simp] theorem cells_int {k : IntKind} {n : Int} : (PV.int k n).cells = [.int k n] := rfl
@[simp] theorem cells_str {s : List UInt8} : (PV.str s).cells = [.str s] := rfl
@[simp] theorem cells_sl {t : Tail} {xs : List PV} : (PV.sl t xs).cells = [.sl t xs] := rfl
@[simp] theorem cells_view {a b d e : Nat} : (PV.view a b d e).cells = [.view a b d e] := rfl
@[simp] theorem cells_iface {t : TypeId} {v : PV} : (PV.iface t v).cells = [.iface t v] := rfl
@[simp] theorem cells_niliface : (PV.niliface).cells = [.niliface] := rfl
@[simp] theorem cells_ptr {a b : Nat} : (PV.ptr a b).cells = [.ptr a b] := rfl
@[simp] theorem cells_nilptr : (PV.nilptr).cells = [.nilptr] := rfl
@[simp] theorem cells_func {f : Fn} {a b : List PV} : (PV.func f a b).cells = [.func f a b] := rfl
@[simp] theorem cells_nilfunc : (PV.nilfunc).cells = [.nilfunc] := rfl
@[simp] theorem cells_map {a : Nat} : (PV.map a).cells = [.map a] := rfl
@[simp] theorem cells_nilmap : (PV.nilmap).cells = [.nilmap] := rfl
@[simp] theorem isCell_bool {b : Bool} : (PV.bool b).isCell = true := rfl
@[simp] theorem isCell_int {k : IntKind} {n : Int} : (PV.int k n).isCell = true := rfl
@[simp] theorem isCell_str {s : List UInt8} : (PV.str s).isCell = true := rfl
@[simp] theorem isCell_sl {t : Tail} {xs : List PV} : (PV.sl t xs).isCell = true := rfl
@[simp] theorem isCell_view {a b d e : Nat} : (PV.view a b d e).isCell = true := rfl
@[simp] theorem isCell_iface {t : TypeId} {v : PV} : (PV.iface t v).isCell = true := rfl
@[simp] theorem isCell_niliface : (PV.niliface).isCell = true := rfl
@[simp] theorem isCell_ptr {a b : Nat} : (PV.ptr a b).isCell = true := rfl
@[simp] theorem isCell_nilptr : (PV.nilptr).isCell = true := rfl
@[simp] theorem isCell_func {f : Fn} {a b : List PV} : (PV.func f a b).isCell = true := rfl
@[simp] theorem isCell_nilfunc : (PV.nilfunc).isCell = true := rfl
@[simp] theorem isCell_map {a : Nat} : (PV.map a).isCell = true := rfl
@[simp] theorem isCell_nilmap : (PV.nilmap).isCell = true := rfl
@[simp] theorem boxA_eq {p : PV} : boxA H p = if allCells p.cells then some (.ptr H.length 0, H ++ [.cells p.cells]) else none := rfl
def loadC (o size : Nat) (agg : Bool) : Option HObj → Option PV
  | some (.cells cs) => partA o size agg cs
  | _ => none
@[simp] theorem loadC_cells {o size : Nat} {agg : Bool} {cs : List PV} : loadC o size agg (some (.cells cs)) = partA o size agg cs := rfl
@[simp] theorem loadA_ptr {id o size : Nat} {agg : Bool} : loadA H size agg (.ptr id o) = loadC o size agg H[id]? := by
  unfold loadA loadC
  simp only
  split <;> simp_all
@[simp] theorem loadA_fp {size : Nat} {agg : Bool} {cs : List PV} : loadA H size agg (.fp cs) = partA 0 size agg cs := rfl
@[simp] theorem partA_agg {off size : Nat} {cs : List PV} : partA off size true cs = if off + size ≤ cs.length then some (.agg ((cs.drop off).take size)) else none := rfl
@[simp] theorem partA_cell {off size : Nat} {cs : List PV} : partA off size false cs = cs[off]? := rfl
def storeC (H : Heap) (id o size : Nat) (ps : List PV) : Option HObj → Option Heap
  | some (.cells cs) => if ps.length = size ∧ o + size ≤ cs.length ∧ allCells ps then some (H.set id (.cells (cs.take o ++ ps ++ cs.drop (o + size)))) else none
  | _ => none
@[simp] theorem storeC_cells {id o size : Nat} {ps cs : List PV} : storeC H id o size ps (some (.cells cs)) = if ps.length = size ∧ o + size ≤ cs.length ∧ allCells ps then some (H.set id (.cells (cs.take o ++ ps ++ cs.drop (o + size)))) else none := rfl
@[simp] theorem storeA_ptr {id o size : Nat} {p : PV} : storeA H size p (.ptr id o) = storeC H id o size p.cells H[id]? := by
  unfold storeA storeC
  simp only [allCells_eq]
  split <;> simp_all
@[simp] theorem exec_load {size : Nat} {agg : Bool} {x : Opd} : execA c (.load size agg x) T H = keepH H (loadA H size agg (x.ev T)) := rfl
def unitH (x : Option Heap) : Option (PV × Heap) := x.map fun H' => (PV.undef, H')
@[simp] theorem unitH_some : unitH (some H) = some (PV.undef, H) := rfl
@[simp] theorem unitH_none : unitH none = none := rfl
@[simp] theorem exec_store {size : Nat} {a x : Opd} : execA c (.store size a x) T H = unitH (storeA H size (x.ev T) (a.ev T)) := rfl
@[simp] theorem exec_append {size bytes : Nat} {mu : Bool} {a b : Opd} : execA c (.append size bytes mu a b) T H = appendA H size bytes mu (a.ev T) (b.ev T) := rfl
@[simp] theorem exec_callF {f : FuncId} {xs : List Opd} : execA c (.callF f xs) T H = c f (evs T xs) H := rfl
@[simp] theorem exec_callV {x : Opd} {xs : List Opd} : execA c (.callV x xs) T H = callVal c (x.ev T) (evs T xs) H := rfl
def natP : PV → Option Nat
  | .int _ i => if 0 ≤ i then some i.toNat else none
  | _ => none
@[simp] theorem natP_int {k : IntKind} {i : Int} : natP (.int k i) = if 0 ≤ i then some i.toNat else none := rfl
def sl2 (size : Nat) (x : PV) : Option Nat → Option Nat → Option PV
  | some l, some h => slA size x l (some h)
  | _, _ => none
def sl1 (size : Nat) (x : PV) : Option Nat → Option PV
  | some l => slA size x l none
  | _ => none
@[simp] theorem sl2_some {size l h : Nat} {x : PV} : sl2 size x (some l) (some h) = slA size x l (some h) := rfl
@[simp] theorem sl1_some {size l : Nat} {x : PV} : sl1 size x (some l) = slA size x l none := rfl
@[simp] theorem slA_sl {size l h : Nat} {t : Tail} {xs : List PV} : slA size (.sl t xs) l (some h) = if l ≤ h ∧ h ≤ xs.length ∧ uniform size xs = true then some (.sl (if l = 0 ∧ h = xs.length then t else .shut) ((xs.take h).drop l)) else none := rfl
@[simp] theorem slA_sl1 {size l : Nat} {t : Tail} {xs : List PV} : slA size (.sl t xs) l none = if l ≤ xs.length ∧ uniform size xs = true then some (.sl (if l = 0 then t else .shut) (xs.drop l)) else none := by
  simp [slA]
@[simp] theorem slA_view {size l h id k i n : Nat} : slA size (.view id k i n) l (some h) = if k = size ∧ l ≤ h ∧ h ≤ n then some (.view id k (i + l) (h - l)) else none := rfl
@[simp] theorem slA_view1 {size l id k i n : Nat} : slA size (.view id k i n) l none = if k = size ∧ l ≤ n then some (.view id k (i + l) (n - l)) else none := by
  simp [slA]
@[simp] theorem exec_slSl_nn {size : Nat} {x : Opd} : execA c (.slSl size x none none) T H = keepH H (slA size (x.ev T) 0 none) := rfl
theorem bound_none {d : Nat} : bound T d none = some d := rfl
theorem bound_eq {d : Nat} {x : Opd} : bound T d (some x) = natP (x.ev T) := by
  show (match x.ev T with | .int _ i => if 0 ≤ i then some i.toNat else none | _ => none) = _
  generalize x.ev T = v
  cases v <;> rfl
@[simp] theorem exec_slSl_ns {size : Nat} {x h : Opd} : execA c (.slSl size x none (some h)) T H = keepH H (sl2 size (x.ev T) (some 0) (natP (h.ev T))) := by
  show (pureA T _).map _ = _
  simp only [pureA, boundO, bound_eq]
  cases natP (h.ev T) <;> rfl
@[simp] theorem exec_slSl_sn {size : Nat} {x l : Opd} : execA c (.slSl size x (some l) none) T H = keepH H (sl1 size (x.ev T) (natP (l.ev T))) := by
  show (pureA T _).map _ = _
  simp only [pureA, boundO, bound_eq]
  cases natP (l.ev T) <;> rfl
@[simp] theorem exec_slSl_ss {size : Nat} {x l h : Opd} : execA c (.slSl size x (some l) (some h)) T H = keepH H (sl2 size (x.ev T) (natP (l.ev T)) (natP (h.ev T))) := by
  show (pureA T _).map _ = _
  simp only [pureA, boundO, bound_eq]
  cases natP (l.ev T) <;> cases natP (h.ev T) <;> rfl
def slStrP : PV → Option Nat → Option Nat → Option PV
  | .str s, some l, some h => if l ≤ h ∧ h ≤ s.length then some (.str ((s.take h).drop l)) else none
  | _, _, _ => none
@[simp] theorem slStrP_str {s : List UInt8} {l h : Nat} : slStrP (.str s) (some l) (some h) = if l ≤ h ∧ h ≤ s.length then some (.str ((s.take h).drop l)) else none := rfl
def strLen : PV → Option Nat
  | .str s => some s.length
  | _ => none
@[simp] theorem strLen_str {s : List UInt8} : strLen (.str s) = some s.length := rfl
@[simp] theorem exec_slStr_ns {x h : Opd} : execA c (.slStr x none (some h)) T H = keepH H (slStrP (x.ev T) (some 0) (natP (h.ev T))) := by
  show (pureA T _).map _ = _
  simp only [pureA, bound_eq, bound_none]
  generalize x.ev T = v
  cases v <;> simp only [slStrP] <;> try rfl
  cases natP (h.ev T) <;> rfl
@[simp] theorem exec_slStr_sn {x l : Opd} : execA c (.slStr x (some l) none) T H = keepH H (slStrP (x.ev T) (natP (l.ev T)) (strLen (x.ev T))) := by
  show (pureA T _).map _ = _
  simp only [pureA, bound_eq, bound_none]
  generalize x.ev T = v
  cases v <;> simp only [slStrP] <;> try rfl
  cases natP (l.ev T) <;> rfl
@[simp] theorem exec_slStr_ss {x l h : Opd} : execA c (.slStr x (some l) (some h)) T H = keepH H (slStrP (x.ev T) (natP (l.ev T)) (natP (h.ev T))) := by
  show (pureA T _).map _ = _
  simp only [pureA, bound_eq, bound_none]
  generalize x.ev T = v
  cases v <;> simp only [slStrP] <;> try rfl
  cases natP (l.ev T) <;> cases natP (h.ev T) <;> rfl
def idxS : PV → PV → Option PV
  | .str s, .int _ i => if 0 ≤ i then (s[i.toNat]?).map fun b => .int .u8 b.toNat else none
  | _, _ => none
@[simp] theorem idxS_str {s : List UInt8} {k : IntKind} {i : Int} : idxS (.str s) (.int k i) = if 0 ≤ i then (s[i.toNat]?).map fun b => .int .u8 b.toNat else none := rfl
@[simp] theorem exec_idxStr {x i : Opd} : execA c (.idxStr x i) T H = keepH H (idxS (x.ev T) (i.ev T)) := by
  show (pureA T _).map _ = _
  simp only [pureA]
  generalize x.ev T = v
  generalize i.ev T = u
  cases v <;> cases u <;> rfl
def convI (k : IntKind) : PV → Option PV
  | .int _ n => some (.int k (k.wrap n))
  | _ => none
@[simp] theorem convI_int {k l : IntKind} {n : Int} : convI k (.int l n) = some (.int k (k.wrap n)) := rfl
@[simp] theorem exec_convInt {k : IntKind} {x : Opd} : execA c (.convInt k x) T H = keepH H (convI k (x.ev T)) := by
  show (pureA T _).map _ = _
  simp only [pureA]
  generalize x.ev T = v
  cases v <;> rfl
def nilP : PV → Option PV
  | .ptr id o => some (.ptr id o)
  | .eptr id k i o => some (.eptr id k i o)
  | .fp cs => some (.fp cs)
  | .func (.func f) a b => some (.func (.func f) a b)
  | .iface t v => some (.iface t v)
  | _ => none
@[simp] theorem nilP_ptr {a b : Nat} : nilP (.ptr a b) = some (.ptr a b) := rfl
@[simp] theorem nilP_iface {t : TypeId} {v : PV} : nilP (.iface t v) = some (.iface t v) := rfl
@[simp] theorem nilP_func {f : FuncId} {a b : List PV} : nilP (.func (.func f) a b) = some (.func (.func f) a b) := rfl
@[simp] theorem nilP_fp {cs : List PV} : nilP (.fp cs) = some (.fp cs) := rfl
@[simp] theorem exec_nilchk {x : Opd} : execA c (.nilchk x) T H = keepH H (nilP (x.ev T)) := by
  show (pureA T _).map _ = _
  simp only [pureA]
  generalize x.ev T = v
  cases v with
  | func f a b => cases f <;> rfl
  | _ => rfl
@[simp] theorem foldA_nil {m : Bool} {p : PV} : foldA m p [] = some p := rfl
@[simp] theorem foldA_two {m : Bool} {k : IntKind} {x y : Int} : foldA m (.int k x) [.int k y] = some (.int k (if m then (if y > x then y else x) else (if y < x then y else x))) := by simp [foldA, minmaxA]
@[simp] theorem callVal_func {f : FuncId} {a b args : List PV} : callVal c (.func (.func f) a b) args H = c f (a ++ args ++ b) H := rfl

@[simp] theorem bin_add {k : IntKind} {a b : Int} : binA .add (.int k a) (.int k b) = some (.int k (k.wrap (a + b))) := by simp [binA, intBin]
@[simp] theorem bin_sub {k : IntKind} {a b : Int} : binA .sub (.int k a) (.int k b) = some (.int k (k.wrap (a - b))) := by simp [binA, intBin]
@[simp] theorem bin_mul {k : IntKind} {a b : Int} : binA .mul (.int k a) (.int k b) = some (.int k (k.wrap (a * b))) := by simp [binA, intBin]
@[simp] theorem bin_eql {k : IntKind} {a b : Int} : binA .eql (.int k a) (.int k b) = some (.bool (a == b)) := by simp [binA, intBin]
@[simp] theorem bin_neq {k : IntKind} {a b : Int} : binA .neq (.int k a) (.int k b) = some (.bool (a != b)) := by simp [binA, intBin]
@[simp] theorem bin_lss {k : IntKind} {a b : Int} : binA .lss (.int k a) (.int k b) = some (.bool (decide (a < b))) := by simp [binA, intBin]
@[simp] theorem bin_leq {k : IntKind} {a b : Int} : binA .leq (.int k a) (.int k b) = some (.bool (decide (a ≤ b))) := by simp [binA, intBin]
@[simp] theorem bin_gtr {k : IntKind} {a b : Int} : binA .gtr (.int k a) (.int k b) = some (.bool (decide (a > b))) := by simp [binA, intBin]
@[simp] theorem bin_geq {k : IntKind} {a b : Int} : binA .geq (.int k a) (.int k b) = some (.bool (decide (a ≥ b))) := by simp [binA, intBin]
@[simp] theorem bins_eql {a b : List UInt8} : binA .eql (.str a) (.str b) = some (.bool (a == b)) := rfl
@[simp] theorem bins_neq {a b : List UInt8} : binA .neq (.str a) (.str b) = some (.bool (!(a == b))) := rfl
@[simp] theorem bins_lss {a b : List UInt8} : binA .lss (.str a) (.str b) = some (.bool (Op.bytesLess a b)) := rfl
@[simp] theorem bins_gtr {a b : List UInt8} : binA .gtr (.str a) (.str b) = some (.bool (!(Op.bytesLess a b || a == b))) := rfl
@[simp] theorem bins_leq {a b : List UInt8} : binA .leq (.str a) (.str b) = some (.bool (Op.bytesLess a b || a == b)) := rfl
@[simp] theorem bins_geq {a b : List UInt8} : binA .geq (.str a) (.str b) = some (.bool (!Op.bytesLess a b)) := rfl
@[simp] theorem eqBoolA_bool {n a b : Bool} : eqBoolA n (.bool a) (.bool b) = some (.bool (if n then !(a == b) else a == b)) := rfl
@[simp] theorem un_not {b : Bool} : unA .not (.bool b) = some (.bool !b) := rfl
@[simp] theorem faddr_ptr {off id o : Nat} : faddrA off (.ptr id o) = some (.ptr id (o + off)) := rfl
@[simp] theorem faddr_fp {off : Nat} {cs : List PV} : faddrA off (.fp cs) = if off < cs.length then some (.fp (cs.drop off)) else none := rfl
@[simp] theorem faddr_eptr {off a b d e : Nat} : faddrA off (.eptr a b d e) = some (.eptr a b d (e + off)) := rfl
theorem iaSl_at {size : Nat} {t : Tail} {xs : List PV} {i : Nat} {p : PV} (h : xs[i]? = some p) (hs : p.cells.length = size) : iaSlA size (.sl t xs) (i : Int) = some (.fp p.cells) := by
  simp [iaSlA, h, hs]
@[simp] theorem tass_eq {t : TypeId} {z v : PV} {ok : Bool} {u : TypeId} : tassA t z ok (.iface u v) = if u = t then some (if ok then .tup [v, .bool true] else v) else if ok then some (.tup [z, .bool false]) else none := rfl
@[simp] theorem tass_nil {t : TypeId} {z : PV} : tassA t z true .niliface = some (.tup [z, .bool false]) := rfl
@[simp] theorem eqCells_nil : eqCells [] [] [] = some true := rfl
def andO : Option Bool → Option Bool → Option Bool
  | some a, some b => some (a && b)
  | _, _ => none
@[simp] theorem andO_some {a b : Bool} : andO (some a) (some b) = some (a && b) := rfl
@[simp] theorem eqCells_cons {k : EqK} {ks : List EqK} {x y : PV} {xs ys : List PV} : eqCells (k :: ks) (x :: xs) (y :: ys) = andO (eqCell k x y) (eqCells ks xs ys) := by
  simp only [eqCells]
  cases eqCell k x y <;> cases eqCells ks xs ys <;> rfl
@[simp] theorem eqCell_int {k : IntKind} {a b : Int} : eqCell .int (.int k a) (.int k b) = some (a == b) := by simp [eqCell]
@[simp] theorem eqCell_str {a b : List UInt8} : eqCell .str (.str a) (.str b) = some (a == b) := rfl
@[simp] theorem eqCell_bool {a b : Bool} : eqCell .bool (.bool a) (.bool b) = some (a == b) := rfl
@[simp] theorem eqAgg_agg {n : Bool} {ks : List EqK} {xs ys : List PV} : eqAggA n ks (.agg xs) (.agg ys) = (eqCells ks xs ys).map fun b => .bool (if n then !b else b) := rfl
@[simp] theorem isNilK_iface {t : TypeId} {v : PV} : isNilK .iface (.iface t v) = some false := rfl
@[simp] theorem isNilK_niliface : isNilK .iface .niliface = some true := rfl
@[simp] theorem isNilK_func {f : Fn} {a b : List PV} : isNilK .func (.func f a b) = some false := rfl
@[simp] theorem isNilK_nilfunc : isNilK .func .nilfunc = some true := rfl
theorem wrap64 {n : Int} (h0 : -9223372036854775808 ≤ n) (h1 : n ≤ 9223372036854775807) : IntKind.i64.wrap n = n := by
  simp [IntKind.wrap, IntKind.signed, IntKind.bits]
  omega

@[simp] theorem iaSl_view {size id k j n : Nat} {i : Int} : iaSlA size (.view id k j n) i = if k = size ∧ 0 ≤ i ∧ i < n then some (.eptr id k (j + i.toNat) 0) else none := rfl
def loadV (k i o size : Nat) (agg : Bool) : Option HObj → Option PV
  | some (.vec k' xs) => if k = k' then (match xs[i]? with
    | some p => partA o size agg p.cells
    | none => none) else none
  | _ => none
@[simp] theorem loadA_eptr {id k i o size : Nat} {agg : Bool} : loadA H size agg (.eptr id k i o) = loadV k i o size agg H[id]? := by
  unfold loadA loadV
  simp only
  split <;> (try simp_all) <;> rfl
theorem loadV_at {k i o size : Nat} {agg : Bool} {xs : List PV} {p : PV} (h : xs[i]? = some p) : loadV k i o size agg (some (.vec k xs)) = partA o size agg p.cells := by
  simp [loadV, h]
def storeV (H : Heap) (id k i o size : Nat) (p : PV) : Option HObj → Option Heap
  | some (.vec k' xs) => match xs[i]? with
      | some q => if k = k' ∧ 0 < size ∧ p.cells.length = size ∧ o + size ≤ k ∧ allCells p.cells then some (H.set id (.vec k (xs.set i (setPart k o size q p)))) else none
      | none => none
  | _ => none
@[simp] theorem storeA_eptr {id k i o size : Nat} {p : PV} : storeA H size p (.eptr id k i o) = storeV H id k i o size p H[id]? := by
  unfold storeA storeV
  simp only [allCells_eq]
  split <;> (try simp_all) <;> rfl
theorem storeV_at {id k i size : Nat} {p q : PV} {xs : List PV} (h : xs[i]? = some q) (h1 : 0 < size) (h2 : p.cells.length = size) (h3 : size = k) (h4 : allCells p.cells = true) :
    storeV H id k i 0 size p (some (.vec k xs)) = some (H.set id (.vec k (xs.set i p))) := by
  subst h3
  simp [storeV, h, h1, h2, h4, setPart]
theorem append_new {size bytes : Nat} {xs ys : List PV} {y : PV} (hy : elemsOf H y = some ys) (h1 : xs.length + ys.length ≤ 4294967296) (h2 : bytes ≤ 4096) (h3 : 0 < size) (h4 : uniform size xs = true) (h5 : uniform size ys = true) (h6 : ys.length ≠ 0) :
    appendA H size bytes true (.sl .exact xs) y = some (.view H.length size 0 (xs.length + ys.length), H ++ [.vec size (xs ++ ys), .dead]) := by
  simp [appendA, hy, h1, h2, h3, h4, h5, h6]
theorem append_tok {size bytes : Nat} {xs ys : List PV} {y : PV} (hy : elemsOf H y = some ys) (h1 : xs.length + ys.length ≤ 4294967296) (h2 : bytes ≤ 4096) (h3 : 0 < size) (h4 : uniform size xs = true) (h5 : uniform size ys = true) (h6 : ys.length ≠ 0) :
    appendA H size bytes false (.sl .exact xs) y = some (.sl (.tok H.length) (xs ++ ys), H ++ [.tail (xs.length + ys.length)]) := by
  simp [appendA, hy, h1, h2, h3, h4, h5, h6]
theorem append_zero {size bytes : Nat} {mu : Bool} {t : Tail} {xs : List PV} {y : PV} (hy : elemsOf H y = some []) (h1 : xs.length ≤ 4294967296) (h2 : bytes ≤ 4096) (h3 : 0 < size) (h4 : uniform size xs = true) :
    appendA H size bytes mu (.sl t xs) y = some (.sl t xs, H) := by
  have h5 : uniform size [] = true := rfl
  simp [appendA, hy, h1, h2, h3, h4, h5]
theorem append_more {size bytes : Nat} {mu : Bool} {i : Nat} {xs ys : List PV} {y : PV} (hy : elemsOf H y = some ys) (hi : H[i]? = some (.tail xs.length)) (h1 : xs.length + ys.length ≤ 4294967296) (h2 : bytes ≤ 4096) (h3 : 0 < size) (h4 : uniform size xs = true) (h5 : uniform size ys = true) (h6 : ys.length ≠ 0) :
    appendA H size bytes mu (.sl (.tok i) xs) y = some (.sl (.tok i) (xs ++ ys), H.set i (.tail (xs.length + ys.length))) := by
  simp [appendA, hy, h1, h2, h3, h4, h5, h6, hi]
theorem append_view {size bytes : Nat} {mu : Bool} {id n : Nat} {es ys : List PV} {y : PV} (hy : elemsOf H y = some ys) (hi : H[id]? = some (.vec size es)) (hn : n ≤ es.length) (h1 : n + ys.length ≤ 4294967296) (h2 : bytes ≤ 4096) (h3 : 0 < size) (h5 : uniform size ys = true) (h6 : ys.length ≠ 0) :
    appendA H size bytes mu (.view id size 0 n) y = some (.view H.length size 0 (n + ys.length), H.set id .dead ++ [.vec size (es.take n ++ ys), .dead]) := by
  simp [appendA, hy, h1, h2, h3, h5, h6, hi, hn]
@[simp] theorem elemsOf_sl {t : Tail} {xs : List PV} : elemsOf H (.sl t xs) = some xs := rfl
@[simp] theorem uniform_nil {size : Nat} : uniform size [] = true := rfl
theorem uniform_of {size : Nat} {xs : List PV} (h : ∀ p ∈ xs, p.cells.length = size ∧ allCells p.cells = true) : uniform size xs = true := by
  simp only [uniform, List.all_eq_true, Bool.and_eq_true, beq_iff_eq]
  intro p hp
  obtain ⟨h1, h2⟩ := h p hp
  rw [← allCells_eq, List.all_eq_true] at h2
  exact ⟨h1, h2⟩
@[simp] theorem fillA_nil {cs : List PV} : fillA cs [] = some cs := rfl
@[simp] theorem fillA_cons {cs : List PV} {o n : Nat} {p : PV} {rest : List (Nat × Nat × PV)} : fillA cs ((o, n, p) :: rest) = if p.cells.length = n ∧ o + n ≤ cs.length ∧ allCells p.cells = true then fillA (cs.take o ++ p.cells ++ cs.drop (o + n)) rest else none := by
  simp only [fillA, allCells_eq]
theorem get_more {L : Heap} {j : Nat} {x : HObj} (h : L[j]? = some x) (M : Heap) : (L ++ M)[j]? = some x := by
  obtain ⟨hl, _⟩ := List.getElem?_eq_some_iff.1 h
  rw [List.getElem?_append_left hl]
  exact h

@[simp] theorem uniform_cons {size : Nat} {p : PV} {ps : List PV} : uniform size (p :: ps) = (p.cells.length == size && allCells p.cells && uniform size ps) := by
  simp only [uniform, List.all_cons, allCells_eq]
@[simp] theorem append_new_sl {size bytes : Nat} {t : Tail} {xs ys : List PV} :
    appendA H size bytes true (.sl .exact xs) (.sl t ys) = if xs.length + ys.length ≤ 4294967296 ∧ bytes ≤ 4096 ∧ 0 < size ∧ uniform size xs = true ∧ uniform size ys = true then
      (if ys.length = 0 then some (.sl .exact xs, H) else some (.view H.length size 0 (xs.length + ys.length), H ++ [.vec size (xs ++ ys), .dead])) else none := rfl
@[simp] theorem append_tok_sl {size bytes : Nat} {t : Tail} {xs ys : List PV} :
    appendA H size bytes false (.sl .exact xs) (.sl t ys) = if xs.length + ys.length ≤ 4294967296 ∧ bytes ≤ 4096 ∧ 0 < size ∧ uniform size xs = true ∧ uniform size ys = true then
      (if ys.length = 0 then some (.sl .exact xs, H) else some (.sl (.tok H.length) (xs ++ ys), H ++ [.tail (xs.length + ys.length)])) else none := rfl
def appT (H : Heap) (size bytes i : Nat) (xs ys : List PV) : Option HObj → Option (PV × Heap)
  | some (.tail n) => if xs.length + ys.length ≤ 4294967296 ∧ bytes ≤ 4096 ∧ 0 < size ∧ uniform size xs = true ∧ uniform size ys = true then
      (if ys.length = 0 then some (.sl (.tok i) xs, H) else if n = xs.length then some (.sl (.tok i) (xs ++ ys), H.set i (.tail (xs.length + ys.length))) else none) else none
  | _ => if xs.length + ys.length ≤ 4294967296 ∧ bytes ≤ 4096 ∧ 0 < size ∧ uniform size xs = true ∧ uniform size ys = true then
      (if ys.length = 0 then some (.sl (.tok i) xs, H) else none) else none
@[simp] theorem appT_tail {size bytes i n : Nat} {xs ys : List PV} : appT H size bytes i xs ys (some (.tail n)) = if xs.length + ys.length ≤ 4294967296 ∧ bytes ≤ 4096 ∧ 0 < size ∧ uniform size xs = true ∧ uniform size ys = true then
      (if ys.length = 0 then some (.sl (.tok i) xs, H) else if n = xs.length then some (.sl (.tok i) (xs ++ ys), H.set i (.tail (xs.length + ys.length))) else none) else none := rfl
@[simp] theorem append_more_sl {size bytes i : Nat} {mu : Bool} {t : Tail} {xs ys : List PV} :
    appendA H size bytes mu (.sl (.tok i) xs) (.sl t ys) = appT H size bytes i xs ys H[i]? := by
  cases hH : H[i]? with
  | none => simp only [appendA, hH, appT, elemsOf_sl]
  | some o => cases o <;> simp only [appendA, hH, appT, elemsOf_sl]
def appV (H : Heap) (size bytes id i n : Nat) (ys : List PV) : Option HObj → Option (PV × Heap)
  | some (.vec k' es) =>
    if i = 0 ∧ k' = size ∧ n ≤ es.length ∧ n + ys.length ≤ 4294967296 ∧ bytes ≤ 4096 ∧ 0 < size ∧ uniform size ys = true ∧ ys.length ≠ 0 then
      some (.view H.length size 0 (n + ys.length), H.set id .dead ++ [.vec size (es.take n ++ ys), .dead]) else none
  | _ => none
@[simp] theorem appV_vec {size bytes id i n k' : Nat} {ys es : List PV} : appV H size bytes id i n ys (some (.vec k' es)) = if i = 0 ∧ k' = size ∧ n ≤ es.length ∧ n + ys.length ≤ 4294967296 ∧ bytes ≤ 4096 ∧ 0 < size ∧ uniform size ys = true ∧ ys.length ≠ 0 then
      some (.view H.length size 0 (n + ys.length), H.set id .dead ++ [.vec size (es.take n ++ ys), .dead]) else none := rfl
@[simp] theorem append_view_sl {size bytes : Nat} {mu : Bool} {id i n : Nat} {t : Tail} {ys : List PV} (h6 : ys.length ≠ 0) :
    appendA H size bytes mu (.view id size i n) (.sl t ys) = appV H size bytes id i n ys H[id]? := by
  cases hH : H[id]? with
  | none => simp only [appendA, hH, appV, elemsOf_sl]
  | some o => cases o <;> simp only [appendA, hH, appV, elemsOf_sl, if_neg h6, ne_eq, h6, not_false_eq_true, and_true, true_and, if_false]

/-! ### The heap -/
@[simp] theorem get_end0 {l : Heap} : (H ++ l)[H.length]? = l[0]? := by rw [List.getElem?_append_right (by omega)]; simp
@[simp] theorem get_end {l : Heap} {k : Nat} : (H ++ l)[H.length + k]? = l[k]? := by rw [List.getElem?_append_right (by omega)]; simp
@[simp] theorem set_end0 {l : Heap} {x : HObj} : (H ++ l).set H.length x = H ++ l.set 0 x := by rw [List.set_append]; simp
@[simp] theorem set_end {l : Heap} {x : HObj} {k : Nat} : (H ++ l).set (H.length + k) x = H ++ l.set k x := by rw [List.set_append, if_neg (by omega)]; simp
/-! ### Values without places -/
mutual
/-- No place, no iterator, no tail. -/
def PV.plain : PV → Bool
  | .bool _ | .int .. | .str _ | .nilptr | .nilmap | .nilfunc | .niliface | .glob _ => true
  | .sl t xs => t == .shut && plainL xs
  | .iface _ v => v.plain
  | .agg cs => plainL cs
  | .tup vs => plainL vs
  | .fp cs => plainL cs
  | .func _ a b => plainL a && plainL b
  | _ => false
def plainL : List PV → Bool
  | [] => true
  | p :: ps => p.plain && plainL ps
end
mutual
theorem PV.plain_frz (H : Heap) (m : Nat) : ∀ {p : PV}, p.plain = true → p.frz H m = p
  | .bool _, _ | .int .., _ | .str _, _ | .nilptr, _ | .nilmap, _ | .nilfunc, _ | .niliface, _ | .glob _, _ => rfl
  | .sl t xs, h => by simp only [PV.plain, Bool.and_eq_true] at h; rw [PV.frz, plainL_frz H m h.2]
  | .iface _ v, h => by simp only [PV.plain] at h; rw [PV.frz, PV.plain_frz H m h]
  | .agg cs, h => by simp only [PV.plain] at h; rw [PV.frz, plainL_frz H m h]
  | .tup cs, h => by simp only [PV.plain] at h; rw [PV.frz, plainL_frz H m h]
  | .fp cs, h => by simp only [PV.plain] at h; rw [PV.frz, plainL_frz H m h]
  | .func _ a b, h => by simp only [PV.plain, Bool.and_eq_true] at h; rw [PV.frz, plainL_frz H m h.1, plainL_frz H m h.2]
theorem plainL_frz (H : Heap) (m : Nat) : ∀ {l : List PV}, plainL l = true → frzL H m l = l
  | [], _ => rfl
  | p :: ps, h => by simp only [plainL, Bool.and_eq_true] at h; rw [frzL, PV.plain_frz H m h.1, plainL_frz H m h.2]
end
mutual
theorem PV.plain_strip : ∀ {p : PV}, p.plain = true → p.strip = p
  | .bool _, _ | .int .., _ | .str _, _ | .nilptr, _ | .nilmap, _ | .nilfunc, _ | .niliface, _ | .glob _, _ => rfl
  | .sl t xs, h => by simp only [PV.plain, Bool.and_eq_true, beq_iff_eq] at h; rw [PV.strip, plainL_strip h.2, h.1]
  | .iface _ v, h => by simp only [PV.plain] at h; rw [PV.strip, PV.plain_strip h]
  | .agg cs, h => by simp only [PV.plain] at h; rw [PV.strip, plainL_strip h]
  | .tup cs, h => by simp only [PV.plain] at h; rw [PV.strip, plainL_strip h]
  | .fp cs, h => by simp only [PV.plain] at h; rw [PV.strip, plainL_strip h]
  | .func _ a b, h => by simp only [PV.plain, Bool.and_eq_true] at h; rw [PV.strip, plainL_strip h.1, plainL_strip h.2]
theorem plainL_strip : ∀ {l : List PV}, plainL l = true → stripL l = l
  | [], _ => rfl
  | p :: ps, h => by simp only [plainL, Bool.and_eq_true] at h; rw [stripL, PV.plain_strip h.1, plainL_strip h.2]
end
mutual
theorem PV.plain_ids (n : Nat) : ∀ {p : PV}, p.plain = true → p.idsLt n = true
  | .bool _, _ | .int .., _ | .str _, _ | .nilptr, _ | .nilmap, _ | .nilfunc, _ | .niliface, _ | .glob _, _ => rfl
  | .sl t xs, h => by
    simp only [PV.plain, Bool.and_eq_true, beq_iff_eq] at h
    obtain ⟨rfl, h⟩ := h
    simp [PV.idsLt, plainL_ids n h]
  | .iface _ v, h => by simp only [PV.plain] at h; rw [PV.idsLt, PV.plain_ids n h]
  | .agg cs, h => by simp only [PV.plain] at h; rw [PV.idsLt, plainL_ids n h]
  | .tup cs, h => by simp only [PV.plain] at h; rw [PV.idsLt, plainL_ids n h]
  | .fp cs, h => by simp only [PV.plain] at h; rw [PV.idsLt, plainL_ids n h]
  | .func _ a b, h => by simp only [PV.plain, Bool.and_eq_true] at h; rw [PV.idsLt, plainL_ids n h.1, plainL_ids n h.2]; rfl
theorem plainL_ids (n : Nat) : ∀ {l : List PV}, plainL l = true → idsLtL n l = true
  | [], _ => rfl
  | p :: ps, h => by simp only [plainL, Bool.and_eq_true] at h; rw [idsLtL, PV.plain_ids n h.1, plainL_ids n h.2]; rfl
end
theorem leave_plain {fz : Bool} {p : PV} (h : p.plain = true) (l : Heap) : leave fz H p (H ++ l) = (p, H) := by
  unfold leave
  have e : (if fz then ((p.frz (H ++ l) H.length).frz (H ++ l) H.length).strip else p) = p := by
    rw [PV.plain_frz _ _ h, PV.plain_frz _ _ h, PV.plain_strip h]; simp
  rw [e, PV.plain_ids _ h]
  simp
theorem leave_plain0 {fz : Bool} {p : PV} (h : p.plain = true) : leave fz H p H = (p, H) := by
  simpa using leave_plain (fz := fz) h []
theorem plainL_of {l : List PV} (h : ∀ p ∈ l, p.plain = true) : plainL l = true := by
  induction l with
  | nil => rfl
  | cons p l ih => simp only [plainL, Bool.and_eq_true]; exact ⟨h p (by simp), ih fun q hq => h q (by simp [hq])⟩
@[simp] theorem leave_bool {fz b : Bool} {l : Heap} : leave fz H (.bool b) (H ++ l) = (.bool b, H) := leave_plain rfl l
@[simp] theorem leave_bool0 {fz b : Bool} : leave fz H (.bool b) H = (.bool b, H) := leave_plain0 rfl
@[simp] theorem leave_int {fz : Bool} {k : IntKind} {n : Int} {l : Heap} : leave fz H (.int k n) (H ++ l) = (.int k n, H) := leave_plain rfl l
@[simp] theorem leave_int0 {fz : Bool} {k : IntKind} {n : Int} : leave fz H (.int k n) H = (.int k n, H) := leave_plain0 rfl
@[simp] theorem leave_str {fz : Bool} {s : List UInt8} {l : Heap} : leave fz H (.str s) (H ++ l) = (.str s, H) := leave_plain rfl l
@[simp] theorem leave_str0 {fz : Bool} {s : List UInt8} : leave fz H (.str s) H = (.str s, H) := leave_plain0 rfl
theorem leave_at {fz : Bool} {p : PV} {H' : Heap} (h : p.plain = true) (hp : ∃ l, H' = H ++ l) : leave fz H p H' = (p, H) := by
  obtain ⟨l, rfl⟩ := hp
  exact leave_plain h l

end
attribute [simp] wp_skip wp_exit wp_ret wp_region wp_seq wp_cond wp_block
end Go.Flat
