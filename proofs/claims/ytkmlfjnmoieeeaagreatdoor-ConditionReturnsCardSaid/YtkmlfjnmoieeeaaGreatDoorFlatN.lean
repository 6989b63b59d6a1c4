/- A machine over plain values. Part N: the order of a statement's operations. -/
import Derived.Test.YtkmlfjnmoieeeaaGreatDoorFlatM
import Derived.Orders
set_option linter.unusedVariables false
set_option linter.unusedSimpArgs false
namespace Go.Flat

def Opd.reads : Opd → List Nat
  | .tmp t => [t]
  | .lit _ => []
def optReads : Option Opd → List Nat
  | none => []
  | some x => x.reads
def opdsReads (xs : List Opd) : List Nat := xs.flatMap Opd.reads
def AOp.reads : AOp → List Nat
  | .mv x | .un _ x | .convInt _ x | .convStr x | .iface _ x | .field _ _ _ x | .faddr _ x | .ext _ x | .tass _ _ _ x | .nilchk x | .lenStr x | .lenSl x | .box x | .load _ _ x | .eqNil _ _ x | .lenMap x | .rangeMap x | .next x | .entry x | .capSl x | .toStr x | .toBytes x | .clearSl _ _ x => x.reads
  | .pick c a b => c.reads ++ a.reads ++ b.reads
  | .bin _ x y | .eqBool _ x y | .eqAgg _ _ x y | .eqIf _ _ x y | .idxStr x y | .idxArr _ _ _ x y | .iaSl _ x y | .iaArr _ _ x y | .store _ x y | .append _ _ _ x y | .lookup _ _ _ x y | .makeSl _ _ _ x y | .copySl _ x y | .appendZ _ _ _ x y | .extS _ x y => x.reads ++ y.reads
  | .func _ a b => opdsReads a ++ opdsReads b
  | .build _ ps => opdsReads (ps.map (·.2.2))
  | .lit _ xs | .minmax _ xs => opdsReads xs
  | .lenArr _ | .alloc _ | .makeMap | .fail => []
  | .mapUpd _ m k v => m.reads ++ k.reads ++ v.reads
  | .slStr x lo hi | .slSl _ x lo hi => x.reads ++ optReads lo ++ optReads hi
  | .callF _ xs | .litV _ xs => opdsReads xs
  | .callV x xs | .invoke _ x xs => x.reads ++ opdsReads xs
def AOper.reads (o : AOper) : List Nat := o.op.reads ++ (match o.guard with | none => [] | some (t, _) => [t])

def Agree (l : List Nat) (T T' : Temps) : Prop := ∀ t ∈ l, T t = T' t
theorem Agree.left {l m : List Nat} {T T' : Temps} (h : Agree (l ++ m) T T') : Agree l T T' := fun t ht => h t (List.mem_append_left _ ht)
theorem Agree.right {l m : List Nat} {T T' : Temps} (h : Agree (l ++ m) T T') : Agree m T T' := fun t ht => h t (List.mem_append_right _ ht)
theorem ev_agree {x : Opd} {T T' : Temps} (h : Agree x.reads T T') : x.ev T = x.ev T' := by
  cases x with
  | tmp t => exact h t (by simp [Opd.reads])
  | lit p => rfl
theorem evs_agree {xs : List Opd} {T T' : Temps} (h : Agree (opdsReads xs) T T') : evs T xs = evs T' xs := by
  unfold evs
  refine List.map_congr_left fun x hx => ev_agree fun t ht => h t (List.mem_flatMap.2 ⟨x, hx, ht⟩)
theorem bound_agree {d : Nat} {x : Option Opd} {T T' : Temps} (h : Agree (optReads x) T T') : bound T d x = bound T' d x := by
  cases x with
  | none => rfl
  | some x => simp only [bound, ev_agree (x := x) h]
theorem boundO_agree {x : Option Opd} {T T' : Temps} (h : Agree (optReads x) T T') : boundO T x = boundO T' x := by
  cases x with
  | none => rfl
  | some x => simp only [boundO, bound_agree (x := some x) h]
theorem parts_agree {ps : List (Nat × Nat × Opd)} {T T' : Temps} (h : Agree (opdsReads (ps.map (·.2.2))) T T') : (ps.map fun (o, s, x) => (o, s, x.ev T)) = ps.map fun (o, s, x) => (o, s, x.ev T') := by
  refine List.map_congr_left fun p hp => ?_
  obtain ⟨o, s, x⟩ := p
  have : x.ev T = x.ev T' := ev_agree fun t ht => h t (List.mem_flatMap.2 ⟨x, List.mem_map.2 ⟨_, hp, rfl⟩, ht⟩)
  simp only [this]
theorem pureA_agree {o : AOp} {T T' : Temps} (h : Agree o.reads T T') : pureA T o = pureA T' o := by
  cases o <;> simp only [AOp.reads] at h <;> simp only [pureA]
  case pick c a b => rw [ev_agree h.left.left, ev_agree h.left.right, ev_agree h.right]
  case func fn a b => rw [evs_agree h.left, evs_agree h.right]
  case build z ps => rw [parts_agree h]
  case lit s xs => rw [evs_agree h]
  case minmax m xs => rw [evs_agree h]
  case slStr x lo hi => rw [ev_agree h.left.left]; cases x.ev T' <;> simp only [bound_agree h.left.right, bound_agree h.right]
  case slSl s x lo hi => rw [ev_agree h.left.left, bound_agree h.left.right, boundO_agree h.right]
  all_goals first
    | rfl
    | rw [ev_agree h]
    | rw [ev_agree h.left, ev_agree h.right]
theorem execA_agree {c : CallT} {o : AOp} {T T' : Temps} {H : Heap} (h : Agree o.reads T T') : execA c o T H = execA c o T' H := by
  by_cases hp : isPure o = true
  · have e : ∀ T, execA c o T H = (pureA T o).map fun p => (p, H) := by intro T; cases o <;> first | rfl | simp [isPure] at hp
    rw [e, e, pureA_agree h]
  · cases o <;> simp [isPure] at hp <;> simp only [AOp.reads] at h <;> simp only [execA]
    case box x => rw [ev_agree h]
    case load s g x => rw [ev_agree h]
    case store s x y => rw [ev_agree h.left, ev_agree h.right]
    case append s b mv x y => rw [ev_agree h.left, ev_agree h.right]
    case makeSl s b z x y => rw [ev_agree h.left, ev_agree h.right]
    case copySl s x y => rw [ev_agree h.left, ev_agree h.right]
    case toStr x => rw [ev_agree h]
    case clearSl s z x => rw [ev_agree h]
    case appendZ s b z x y => rw [ev_agree h.left, ev_agree h.right]
    case callF f xs => rw [evs_agree h]
    case litV s xs => rw [evs_agree h]
    case callV x xs => rw [ev_agree h.left, evs_agree h.right]
    case invoke t x xs => rw [ev_agree h.left, evs_agree h.right]
    case mapUpd kd m k v => rw [ev_agree h.left.left, ev_agree h.left.right, ev_agree h.right]
    case lookup kd z ok m k => rw [ev_agree h.left, ev_agree h.right]
    case lenMap m => rw [ev_agree h]
    case rangeMap m => rw [ev_agree h]
    case entry it => rw [ev_agree h]

/-- What an operation comes to, the slots aside. -/
noncomputable def evRes (c : CallT) (o : AOper) (T : Temps) (H : Heap) : Option (PV × Heap) :=
  open Classical in
  if wantedA o.guard T then
    match execA c o.op T H with
    | some (p, H') => if okMk o.u H H' then some (p, H') else none
    | none => none
  else some (.undef, H)
theorem evOp_res (c : CallT) (o : AOper) (st : St) : evOp c o st = (evRes c o st.T st.H).map fun x => ⟨put st.T o.dst x.1, x.2⟩ := by
  unfold evOp evRes
  split
  · cases execA c o.op st.T st.H with
    | none => rfl
    | some x =>
      obtain ⟨p, H'⟩ := x
      simp only
      split <;> rfl
  · rfl
theorem evRes_agree {c : CallT} {o : AOper} {T T' : Temps} {H : Heap} (h : Agree o.reads T T') : evRes c o T H = evRes c o T' H := by
  have hg : wantedA o.guard T = wantedA o.guard T' := by
    have := h.right
    unfold wantedA
    cases hgd : o.guard with
    | none => rfl
    | some x =>
      obtain ⟨t, want⟩ := x
      rw [hgd] at this
      simp only
      rw [this t (by simp)]
  unfold evRes
  rw [hg, execA_agree h.left]
theorem okMk_same {u : Mk} {H : Heap} : okMk u H H := by
  cases u
  · trivial
  · exact List.take_length
  · rfl
theorem evRes_pure {c : CallT} {o : AOper} (hp : isPure o.op = true) {T : Temps} {H : Heap} {p : PV} {H' : Heap} (h : evRes c o T H = some (p, H')) : H' = H ∧ ∀ H2, evRes c o T H2 = some (p, H2) := by
  have e : ∀ H, execA c o.op T H = (pureA T o.op).map fun p => (p, H) := by intro H; cases ho : o.op <;> first | rfl | (rw [ho] at hp; simp [isPure] at hp)
  unfold evRes at h ⊢
  split at h
  · rename_i hw
    simp only [if_pos hw]
    simp only [e] at h ⊢
    cases hpa : pureA T o.op with
    | none => simp [hpa] at h
    | some q =>
      simp [hpa] at h
      obtain ⟨_, rfl, rfl⟩ := h
      exact ⟨rfl, fun H2 => by simp [okMk_same]⟩
  · rename_i hw
    simp only [if_neg hw]
    injection h with h
    injection h with h1 h2
    subst h1; subst h2
    exact ⟨rfl, fun _ => rfl⟩
theorem evRes_okMk {c : CallT} {o : AOper} {T : Temps} {H : Heap} {p : PV} {H' : Heap} (h : evRes c o T H = some (p, H')) : okMk o.u H H' := by
  unfold evRes at h
  split at h
  · split at h
    · split at h
      · rename_i hn
        injection h with h
        injection h with _ h2
        subst h2
        exact hn
      · simp at h
    · simp at h
  · injection h with h
    injection h with _ h2
    subst h2
    exact okMk_same
theorem evRes_u {c : CallT} {o : AOper} (hu : o.u = .same) {T : Temps} {H : Heap} {p : PV} {H' : Heap} (h : evRes c o T H = some (p, H')) : H' = H := by
  have := evRes_okMk h
  rw [hu] at this
  exact this
theorem evRes_ext {c : CallT} {o : AOper} (hu : o.u = .ext) {T : Temps} {H : Heap} {p : PV} {H' : Heap} (h : evRes c o T H = some (p, H')) : ∃ l, H' = H ++ l := by
  have := evRes_okMk h
  rw [hu] at this
  exact ⟨H'.drop H.length, by
    have e : H'.take H.length = H := this
    have := List.take_append_drop H.length H'
    rw [e] at this
    exact this.symm⟩
def isLoad : AOp → Bool
  | .load .. => true
  | _ => false
def isAlloc : AOp → Bool
  | .alloc _ => true
  | _ => false
theorem get_ext {H : Heap} {o : HObj} (l : Heap) {id : Nat} (h : H[id]? = some o) : (H ++ l)[id]? = some o := by
  obtain ⟨hl, _⟩ := List.getElem?_eq_some_iff.1 h
  rw [List.getElem?_append_left hl]
  exact h
theorem loadA_ext {H : Heap} (l : Heap) {size : Nat} {agg : Bool} {x p : PV} (h : loadA H size agg x = some p) : loadA (H ++ l) size agg x = some p := by
  unfold loadA at h ⊢
  split at h
  · split at h
    · rename_i hg
      rw [get_ext l hg]
      exact h
    · simp at h
  · exact h
  · split at h
    · rename_i hg
      rw [get_ext l hg]
      exact h
    · simp at h
  · simp at h
theorem evRes_load {c : CallT} {o : AOper} (hp : isLoad o.op = true) {T : Temps} {H : Heap} {p : PV} {H' : Heap} (h : evRes c o T H = some (p, H')) : H' = H ∧ ∀ l, evRes c o T (H ++ l) = some (p, H ++ l) := by
  unfold evRes at h ⊢
  cases ho : o.op <;> rw [ho] at hp <;> simp only [isLoad, Bool.false_eq_true] at hp
  rename_i size agg x
  rw [ho] at h
  split at h
  · rename_i hw
    simp only [if_pos hw]
    simp only [execA] at h ⊢
    cases hl : loadA H size agg (x.ev T) with
    | none => simp [hl] at h
    | some q =>
      simp [hl] at h
      obtain ⟨_, rfl, rfl⟩ := h
      exact ⟨rfl, fun l => by rw [loadA_ext l hl]; simp [okMk_same]⟩
  · rename_i hw
    simp only [if_neg hw]
    injection h with h
    injection h with h1 h2
    subst h1; subst h2
    exact ⟨rfl, fun _ => rfl⟩
theorem evRes_alloc {c : CallT} {o : AOper} (hp : isAlloc o.op = true) {T : Temps} {H : Heap} {p : PV} {H' : Heap} (h : evRes c o T H = some (p, H')) : ∃ l, H' = H ++ l := by
  unfold evRes at h
  cases ho : o.op <;> rw [ho] at hp <;> simp only [isAlloc, Bool.false_eq_true] at hp
  rw [ho] at h
  split at h
  · simp only [execA] at h
    split at h
    · simp at h
      exact ⟨_, h.2.symm⟩
    · simp at h
  · injection h with h
    injection h with h1 h2
    subst h2
    exact ⟨[], by simp⟩
/-- Two operations that may change places. -/
def indep (x y : AOper) : Bool :=
  (match x.dst with | some d => !(y.reads).contains d && y.dst != some d | none => true) &&
  (match y.dst with | some d => !(x.reads).contains d | none => true) &&
  (isPure x.op || isPure y.op || (x.u == .same && y.u == .same) || (isLoad x.op && (isAlloc y.op || isLoad y.op || y.u == .ext || y.u == .same)))
theorem put_comm {T : Temps} {d e : Option Nat} {p q : PV} (h : ∀ t, d = some t → e ≠ some t) : put (put T d p) e q = put (put T e q) d p := by
  cases d with
  | none => rfl
  | some d =>
    cases e with
    | none => rfl
    | some e =>
      have hne : d ≠ e := fun he => h d rfl (by rw [he])
      funext t
      simp only [put, upd]
      by_cases h1 : t = e
      · subst h1; rw [if_pos rfl, if_neg (by omega), if_pos rfl]
      · rw [if_neg h1]
        by_cases h2 : t = d
        · rw [if_pos h2, if_pos h2]
        · rw [if_neg h2, if_neg h2, if_neg h1]
theorem agree_put {l : List Nat} {T : Temps} {d : Option Nat} {p : PV} (h : ∀ t, d = some t → t ∉ l) : Agree l (put T d p) T := by
  intro t ht
  cases d with
  | none => rfl
  | some d =>
    simp only [put, upd]
    rw [if_neg]
    rintro rfl
    exact h _ rfl ht
theorem commute {c : CallT} {x y : AOper} (h : indep x y = true) {st s1 s2 : St} (h1 : evOp c x st = some s1) (h2 : evOp c y s1 = some s2) : ∃ s1', evOp c y st = some s1' ∧ evOp c x s1' = some s2 := by
  simp only [indep, Bool.and_eq_true] at h
  obtain ⟨⟨ha, hb⟩, hc⟩ := h
  have ha1 : ∀ t, x.dst = some t → t ∉ y.reads := by intro t ht; rw [ht] at ha; simp at ha; exact ha.1
  have ha2 : ∀ t, x.dst = some t → y.dst ≠ some t := by intro t ht; rw [ht] at ha; simp at ha; exact ha.2
  have hb1 : ∀ t, y.dst = some t → t ∉ x.reads := by intro t ht; rw [ht] at hb; simpa using hb
  rw [evOp_res] at h1
  cases hx : evRes c x st.T st.H with
  | none => simp [hx] at h1
  | some r =>
    obtain ⟨p, H1⟩ := r
    simp [hx] at h1
    subst h1
    rw [evOp_res] at h2
    simp only at h2
    cases hy : evRes c y (put st.T x.dst p) H1 with
    | none => simp [hy] at h2
    | some r =>
      obtain ⟨q, H2⟩ := r
      simp [hy] at h2
      subst h2
      rw [evRes_agree (agree_put ha1)] at hy
      have hx' : ∀ H, evRes c x (put st.T y.dst q) H = evRes c x st.T H := fun H => evRes_agree (agree_put hb1)
      simp only [evOp_res]
      rw [show put (put st.T x.dst p) y.dst q = put (put st.T y.dst q) x.dst p from put_comm ha2]
      simp only [Bool.or_eq_true, Bool.and_eq_true, beq_iff_eq] at hc
      rcases hc with ((hc | hc) | ⟨hc1, hc2⟩) | ⟨hc1, hc2⟩
      · obtain ⟨e1, e2⟩ := evRes_pure hc hx
        subst e1
        exact ⟨⟨put st.T y.dst q, H2⟩, by rw [hy]; rfl, by simp only; rw [hx', e2 H2]; rfl⟩
      · obtain ⟨e1, e2⟩ := evRes_pure hc hy
        subst e1
        exact ⟨⟨put st.T y.dst q, st.H⟩, by rw [e2 st.H]; rfl, by simp only; rw [hx', hx]; rfl⟩
      · have e1 := evRes_u hc1 hx
        subst e1
        have e2 := evRes_u hc2 hy
        subst e2
        exact ⟨⟨put st.T y.dst q, st.H⟩, by rw [hy]; rfl, by simp only; rw [hx', hx]; rfl⟩
      · obtain ⟨e1, e2⟩ := evRes_load hc1 hx
        subst e1
        obtain ⟨l, rfl⟩ : ∃ l, H2 = st.H ++ l := by
          rcases hc2 with ((hc2 | hc2) | hc2) | hc2
          · exact evRes_alloc hc2 hy
          · exact ⟨[], by simp [(evRes_load hc2 hy).1]⟩
          · exact evRes_ext hc2 hy
          · exact ⟨[], by simp [evRes_u hc2 hy]⟩
        exact ⟨⟨put st.T y.dst q, st.H ++ l⟩, by rw [hy]; rfl, by simp only; rw [hx', e2 l]; rfl⟩
theorem evOps_append {c : CallT} : ∀ (l m : List AOper) (st : St), evOps c (l ++ m) st = (evOps c l st).bind (evOps c m)
  | [], m, st => rfl
  | o :: l, m, st => by
    simp only [List.cons_append, evOps]
    cases evOp c o st with
    | none => rfl
    | some st' => exact evOps_append l m st'
/-- An operation goes ahead of those that it may change places with. -/
theorem to_front {c : CallT} {y : AOper} : ∀ {l : List AOper} {m : List AOper} {st s : St}, (∀ x ∈ l, indep x y = true) → evOps c (l ++ y :: m) st = some s → evOps c (y :: (l ++ m)) st = some s
  | [], m, st, s, _, h => h
  | x :: l, m, st, s, hi, h => by
    simp only [List.cons_append, evOps] at h
    cases hx : evOp c x st with
    | none => simp [hx] at h
    | some s1 =>
      rw [hx] at h
      have h' := to_front (fun z hz => hi z (by simp [hz])) h
      simp only [evOps] at h'
      cases hy : evOp c y s1 with
      | none => simp [hy] at h'
      | some s2 =>
        rw [hy] at h'
        obtain ⟨s1', e1, e2⟩ := commute (hi x (by simp)) hx hy
        simp only [List.cons_append, evOps, e1, e2]
        exact h'

end Go.Flat
