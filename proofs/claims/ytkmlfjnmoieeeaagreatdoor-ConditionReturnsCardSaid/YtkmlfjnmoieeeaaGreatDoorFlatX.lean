/- A machine over plain values. Part X: an evaluator that the kernel can run. -/
import Derived.Test.YtkmlfjnmoieeeaaGreatDoorFlatA
set_option linter.unusedVariables false
set_option linter.unusedSimpArgs false
namespace Go.Flat

mutual
def PV.beq : PV → PV → Bool
  | .bool a, .bool b => a == b
  | .int k a, .int l b => decide (k = l) && a == b
  | .str a, .str b => a == b
  | .nilptr, .nilptr => true
  | .ptr a b, .ptr c d => a == c && b == d
  | .fp a, .fp b => beqL a b
  | .sl t a, .sl u b => decide (t = u) && beqL a b
  | .view a b c d, .view e f g h => a == e && b == f && c == g && d == h
  | .eptr a b c d, .eptr e f g h => a == e && b == f && c == g && d == h
  | .nilmap, .nilmap => true
  | .map a, .map b => a == b
  | .func f a b, .func g c d => decide (f = g) && beqL a c && beqL b d
  | .nilfunc, .nilfunc => true
  | .iface t a, .iface u b => t == u && a.beq b
  | .niliface, .niliface => true
  | .agg a, .agg b => beqL a b
  | .tup a, .tup b => beqL a b
  | .glob a, .glob b => a == b
  | _, _ => false
def beqL : List PV → List PV → Bool
  | [], [] => true
  | a :: as, b :: bs => a.beq b && beqL as bs
  | _, _ => false
end
mutual
theorem PV.beq_iff : ∀ (a b : PV), a.beq b = true ↔ a = b
  | .fp a, b => by cases b <;> simp [PV.beq, beqL_iff a]
  | .sl t a, b => by cases b <;> simp [PV.beq, beqL_iff a]
  | .func f a c, b => by cases b <;> simp [PV.beq, beqL_iff a, beqL_iff c, and_assoc]
  | .iface t a, b => by cases b <;> simp [PV.beq, PV.beq_iff a]
  | .agg a, b => by cases b <;> simp [PV.beq, beqL_iff a]
  | .tup a, b => by cases b <;> simp [PV.beq, beqL_iff a]
  | .bool a, b => by cases b <;> simp [PV.beq]
  | .int k a, b => by cases b <;> simp [PV.beq]
  | .str a, b => by cases b <;> simp [PV.beq]
  | .nilptr, b => by cases b <;> simp [PV.beq]
  | .ptr a c, b => by cases b <;> simp [PV.beq]
  | .view _ _ _ _, b => by cases b <;> simp [PV.beq, and_assoc]
  | .eptr _ _ _ _, b => by cases b <;> simp [PV.beq, and_assoc]
  | .nilmap, b => by cases b <;> simp [PV.beq]
  | .map a, b => by cases b <;> simp [PV.beq]
  | .nilfunc, b => by cases b <;> simp [PV.beq]
  | .niliface, b => by cases b <;> simp [PV.beq]
  | .glob a, b => by cases b <;> simp [PV.beq]
theorem beqL_iff : ∀ (a b : List PV), beqL a b = true ↔ a = b
  | [], b => by cases b <;> simp [beqL]
  | a :: as, b => by cases b <;> simp [beqL, PV.beq_iff a, beqL_iff as]
end
instance : DecidableEq PV := fun a b => decidable_of_iff _ (PV.beq_iff a b)
deriving instance DecidableEq for HObj

instance (u : Mk) (H H' : Heap) : Decidable (okMk u H H') :=
  match u with
  | .any => .isTrue trivial
  | .ext => inferInstanceAs (Decidable (H'.take H.length = H))
  | .same => inferInstanceAs (Decidable (H' = H))
def evOpX (call : CallT) (o : AOper) (st : St) : Option St :=
  if wantedA o.guard st.T then
    match execA call o.op st.T st.H with
    | some (p, H') => if okMk o.u st.H H' then some ⟨put st.T o.dst p, H'⟩ else none
    | none => none
  else some ⟨put st.T o.dst .undef, st.H⟩
theorem evOpX_eq (c : CallT) (o : AOper) (st : St) : evOpX c o st = evOp c o st := by
  unfold evOpX evOp
  split
  · cases execA c o.op st.T st.H with
    | none => rfl
    | some x =>
      obtain ⟨p, H'⟩ := x
      simp only
      by_cases h : okMk o.u st.H H'
      · rw [if_pos h, if_pos h]
      · rw [if_neg h, if_neg h]
  · rfl
def evOpsX (call : CallT) : List AOper → St → Option St
  | [], st => some st
  | o :: rest, st => match evOpX call o st with
    | some st' => evOpsX call rest st'
    | none => none
theorem evOpsX_eq (c : CallT) : ∀ (l : List AOper) (st : St), evOpsX c l st = evOps c l st
  | [], st => rfl
  | o :: l, st => by
    simp only [evOpsX, evOps, evOpX_eq]
    cases evOp c o st with
    | none => rfl
    | some st' => exact evOpsX_eq c l st'
def evCX (call : CallT) (N : Nat) : ACode → St → Option (AExit × St)
  | .skip, st => some (.normal, st)
  | .region ops, st => match evOpsX call ops st with
    | some st' => some (.normal, st')
    | none => none
  | .seq a b, st => match evCX call N a st with
    | some (.normal, st') => evCX call N b st'
    | r => r
  | .cond c x y, st => match c.ev st.T with
    | .bool t => if t then evCX call N x st else evCX call N y st
    | _ => none
  | .block id c, st => match evCX call N c st with
    | some (.exit i, st') => if i = id then some (.normal, st') else some (.exit i, st')
    | r => r
  | .loop c, st => loopN (evCX call N c) N st
  | .exit id, st => some (.exit id, st)
  | .ret, st => some (.ret, st)
theorem evCX_ok {c : CallT} {N : Nat} : ∀ (k : ACode) {st : St} {r}, evCX c N k st = some r → evC c k st = some r
  | .skip, st, r, h => h
  | .region ops, st, r, h => by simp only [evCX, evOpsX_eq] at h; exact h
  | .seq a b, st, r, h => by
    simp only [evCX, evC] at h ⊢
    cases ha : evCX c N a st with
    | none => simp [ha] at h
    | some x =>
      rw [evCX_ok a ha]
      rw [ha] at h
      obtain ⟨e, st'⟩ := x
      cases e with
      | normal => exact evCX_ok b h
      | exit id => exact h
      | ret => exact h
  | .cond q x y, st, r, h => by
    simp only [evCX, evC] at h ⊢
    split at h
    · rename_i t ht
      rw [ht]
      cases t
      · exact evCX_ok y h
      · exact evCX_ok x h
    · simp at h
  | .block id q, st, r, h => by
    simp only [evCX, evC] at h ⊢
    cases hq : evCX c N q st with
    | none => simp [hq] at h
    | some x =>
      rw [evCX_ok q hq]
      rw [hq] at h
      exact h
  | .loop q, st, r, h => by
    simp only [evCX, evC] at h ⊢
    exact loopW_of (loopN_le (fun st r hs => evCX_ok q hs) h)
  | .exit id, st, r, h => h
  | .ret, st, r, h => h
def leaveX (fz : Bool) (H : Heap) (r : PV) (H' : Heap) : PV × Heap :=
  if H'.take H.length = H ∧ (if fz then ((r.frz H' H.length).frz H' H.length).strip else r).idsLt H.length = true then ((if fz then ((r.frz H' H.length).frz H' H.length).strip else r), H) else (r, H')
theorem leaveX_eq (fz : Bool) (H : Heap) (r : PV) (H' : Heap) : leaveX fz H r H' = leave fz H r H' := by
  unfold leaveX leave
  by_cases h : H'.take H.length = H ∧ (if fz then ((r.frz H' H.length).frz H' H.length).strip else r).idsLt H.length = true
  · rw [if_pos h, if_pos h]
  · rw [if_neg h, if_neg h]

/-! ### Ranges over maps: every order -/
def outsOp (call : CallT) (o : AOper) (st : St) : Option (List St) :=
  match o.op with
  | .next it => if wantedA o.guard st.T = true then (nextA st.H (it.ev st.T)).map fun l => l.map fun x => ⟨put st.T o.dst x.1, x.2⟩ else none
  | _ => (evOpX call o st).map fun s => [s]
def flatO {α β : Type} (f : α → Option (List β)) : List α → Option (List β)
  | [] => some []
  | x :: xs => match f x, flatO f xs with
    | some a, some b => some (a ++ b)
    | _, _ => none
theorem flatO_some {α β : Type} {f : α → Option (List β)} : ∀ {l : List α} {m : List β}, flatO f l = some m → ∀ x ∈ l, ∃ y, f x = some y ∧ ∀ z ∈ y, z ∈ m
  | [], m, h, x, hx => by simp at hx
  | a :: l, m, h, x, hx => by
    simp only [flatO] at h
    split at h
    · rename_i u v h1 h2
      injection h with h
      subst h
      rcases List.mem_cons.1 hx with rfl | hx
      · exact ⟨u, h1, fun z hz => List.mem_append_left _ hz⟩
      · obtain ⟨y, e1, e2⟩ := flatO_some h2 x hx
        exact ⟨y, e1, fun z hz => List.mem_append_right _ (e2 z hz)⟩
    · simp at h
def outsOps (call : CallT) : List AOper → St → Option (List St)
  | [], st => some [st]
  | o :: rest, st => match outsOp call o st with
    | some l => flatO (outsOps call rest) l
    | none => none
theorem outsOp_ok {c : CallT} {o : AOper} {st : St} {l : List St} (h : outsOp c o st = some l) {K : St → Prop} (hK : ∀ s ∈ l, K s) : wpOpS c o st K := by
  unfold outsOp at h
  split at h
  · rename_i it ho
    rw [wpOpS_next ho]
    split at h
    · rename_i hw
      obtain ⟨m, h1, rfl⟩ := Option.map_eq_some_iff.1 h
      exact ⟨hw, m, h1, fun x hx => hK _ (List.mem_map.2 ⟨x, hx, rfl⟩)⟩
    · simp at h
  · rename_i hne
    rw [wpOpS_det hne]
    rw [evOpX_eq] at h
    obtain ⟨s, h1, rfl⟩ := Option.map_eq_some_iff.1 h
    exact ⟨s, h1, hK s (by simp)⟩
theorem outsOps_ok {c : CallT} : ∀ {os : List AOper} {st : St} {l : List St}, outsOps c os st = some l → ∀ {K : St → Prop}, (∀ s ∈ l, K s) → wpOpsS c os st K
  | [], st, l, h, K, hK => by
    simp only [outsOps] at h
    injection h with h
    subst h
    exact hK st (by simp)
  | o :: os, st, l, h, K, hK => by
    simp only [outsOps] at h
    split at h
    · rename_i m h1
      refine outsOp_ok h1 fun s hs => ?_
      obtain ⟨y, h2, h3⟩ := flatO_some h s hs
      exact outsOps_ok h2 fun z hz => hK z (h3 z hz)
    · simp at h
def outsLoop (step : St → Option (List (AExit × St))) : Nat → St → Option (List (AExit × St))
  | 0, _ => none
  | n + 1, st => match step st with
    | some l => flatO (fun x => match x with | (.normal, st') => outsLoop step n st' | x => some [x]) l
    | none => none
def outs (call : CallT) (N : Nat) : ACode → St → Option (List (AExit × St))
  | .skip, st => some [(.normal, st)]
  | .region ops, st => (outsOps call ops st).map fun l => l.map fun s => (.normal, s)
  | .seq a b, st => match outs call N a st with
    | some l => flatO (fun x => match x with | (.normal, st') => outs call N b st' | x => some [x]) l
    | none => none
  | .cond c x y, st => match c.ev st.T with
    | .bool t => if t then outs call N x st else outs call N y st
    | _ => none
  | .block id c, st => (outs call N c st).map fun l => l.map fun x => match x with | (.exit i, st') => if i = id then (.normal, st') else (.exit i, st') | x => x
  | .loop c, st => outsLoop (outs call N c) N st
  | .exit id, st => some [(.exit id, st)]
  | .ret, st => some [(.ret, st)]

theorem onward_ok {K : AExit → St → Prop} {next : St → Prop} {x : AExit × St} (h1 : x.1 = .normal → next x.2) (h2 : x.1 ≠ .normal → K x.1 x.2) : Onward K next x.1 x.2 := by
  obtain ⟨e, st⟩ := x
  cases e with
  | normal => exact h1 rfl
  | exit i => exact h2 (by simp)
  | ret => exact h2 (by simp)
theorem outs_ok {c : CallT} {N : Nat} : ∀ (k : ACode) {st : St} {l : List (AExit × St)}, outs c N k st = some l → ∀ {K : AExit → St → Prop}, (∀ x ∈ l, K x.1 x.2) → wpS c N k st K
  | .skip, st, l, h, K, hK => by simp only [outs] at h; injection h with h; subst h; exact hK (.normal, st) (by simp)
  | .region ops, st, l, h, K, hK => by
    simp only [outs] at h
    obtain ⟨m, h1, rfl⟩ := Option.map_eq_some_iff.1 h
    exact outsOps_ok h1 fun s hs => hK (.normal, s) (List.mem_map.2 ⟨s, hs, rfl⟩)
  | .seq a b, st, l, h, K, hK => by
    simp only [outs] at h
    split at h
    · rename_i m h1
      refine outs_ok a h1 fun x hx => onward_ok (fun he => ?_) (fun he => ?_)
      · obtain ⟨y, h2, h3⟩ := flatO_some h x hx
        obtain ⟨e, s⟩ := x
        simp only at he
        subst he
        exact outs_ok b h2 fun z hz => hK z (h3 z hz)
      · obtain ⟨y, h2, h3⟩ := flatO_some h x hx
        obtain ⟨e, s⟩ := x
        cases e with
        | normal => exact absurd rfl he
        | exit i => simp only at h2; injection h2 with h2; subst h2; exact hK _ (h3 _ (by simp))
        | ret => simp only at h2; injection h2 with h2; subst h2; exact hK _ (h3 _ (by simp))
    · simp at h
  | .cond q x y, st, l, h, K, hK => by
    simp only [outs, wpS] at h ⊢
    split at h
    · rename_i t ht
      rw [ht]
      cases t
      · exact outs_ok y h hK
      · exact outs_ok x h hK
    · simp at h
  | .block id q, st, l, h, K, hK => by
    simp only [outs] at h
    obtain ⟨m, h1, rfl⟩ := Option.map_eq_some_iff.1 h
    refine outs_ok q h1 fun x hx => ?_
    have := hK _ (List.mem_map.2 ⟨x, hx, rfl⟩)
    obtain ⟨e, s⟩ := x
    cases e with
    | normal => exact this
    | ret => exact this
    | exit i =>
      simp only [Leaves] at this ⊢
      by_cases hi : i = id
      · rw [if_pos hi] at this ⊢; exact this
      · rw [if_neg hi] at this ⊢; exact this
  | .loop q, st, l, h, K, hK => by
    simp only [outs, wpS] at h ⊢
    have key : ∀ (n : Nat) (st : St) (l : List (AExit × St)), outsLoop (outs c N q) n st = some l → (∀ x ∈ l, K x.1 x.2) → loopS (wpS c N q) n st K := by
      intro n
      induction n with
      | zero => intro st l h; simp [outsLoop] at h
      | succ n ih =>
        intro st l h hK
        simp only [outsLoop] at h
        split at h
        · rename_i m h1
          refine outs_ok q h1 fun x hx => onward_ok (fun he => ?_) (fun he => ?_)
          · obtain ⟨y, h2, h3⟩ := flatO_some h x hx
            obtain ⟨e, s⟩ := x
            simp only at he
            subst he
            exact ih s y h2 fun z hz => hK z (h3 z hz)
          · obtain ⟨y, h2, h3⟩ := flatO_some h x hx
            obtain ⟨e, s⟩ := x
            cases e with
            | normal => exact absurd rfl he
            | exit i => simp only at h2; injection h2 with h2; subst h2; exact hK _ (h3 _ (by simp))
            | ret => simp only at h2; injection h2 with h2; subst h2; exact hK _ (h3 _ (by simp))
        · simp at h
    exact key N st l h hK
  | .exit id, st, l, h, K, hK => by simp only [outs] at h; injection h with h; subst h; exact hK (.exit id, st) (by simp)
  | .ret, st, l, h, K, hK => by simp only [outs] at h; injection h with h; subst h; exact hK (.ret, st) (by simp)

def endX (F : AFunc) (H : Heap) (x : AExit × St) : Option (PV × Heap) :=
  match x with
  | (.exit _, _) => none
  | (_, st) => (resultA st.T st.H F.res).map fun p => leaveX F.fz H p st.H
def runX (call : CallT) (N : Nat) (F : AFunc) (args : List PV) (H : Heap) : Option (PV × Heap) :=
  if args.length ≤ F.n then
    if F.nd then match outs call N F.body ⟨initT args, H⟩ with
      | some (x :: l) => match endX F H x with
        | some r => if l.all (fun y => decide (endX F H y = some r)) then some r else none
        | none => none
      | _ => none
    else match evCX call N F.body ⟨initT args, H⟩ with
      | some x => endX F H x
      | none => none
  else none
theorem endX_ok {F : AFunc} {H : Heap} {x : AExit × St} {r} (h : endX F H x = some r) : EndsIn F H r x.1 x.2 := by
  obtain ⟨e, st⟩ := x
  cases e with
  | exit i => simp [endX] at h
  | normal =>
    simp only [endX] at h
    obtain ⟨p, h1, h2⟩ := Option.map_eq_some_iff.1 h
    rw [leaveX_eq] at h2
    exact ⟨.inl rfl, p, h1, h2⟩
  | ret =>
    simp only [endX] at h
    obtain ⟨p, h1, h2⟩ := Option.map_eq_some_iff.1 h
    rw [leaveX_eq] at h2
    exact ⟨.inr rfl, p, h1, h2⟩
theorem runX_ok {c : CallT} {N : Nat} {F : AFunc} {args : List PV} {H : Heap} {r} (h : runX c N F args H = some r) : runF c F args H = some r := by
  unfold runX at h
  unfold runF
  split at h
  case isFalse => simp at h
  rename_i hl
  rw [if_pos hl]
  split at h
  · rename_i hn
    rw [if_pos hn]
    split at h
    · rename_i x l ho
      split at h
      · rename_i q hq
        split at h
        · rename_i hall
          injection h with h
          subst h
          refine runS_of (N := N) (outs_ok _ ho fun y hy => endX_ok ?_)
          rcases List.mem_cons.1 hy with rfl | hy
          · exact hq
          · simpa using List.all_eq_true.1 hall y hy
        · simp at h
      · simp at h
    · simp at h
  · rename_i hn
    rw [if_neg hn]
    split at h
    · rename_i x hx
      have h1 := evCX_ok _ hx
      obtain ⟨e, st⟩ := x
      unfold runD
      rw [h1]
      cases e with
      | exit i => simp [endX] at h
      | normal =>
        simp only [endX] at h
        obtain ⟨p, h2, h3⟩ := Option.map_eq_some_iff.1 h
        simp only [h2, ← h3, leaveX_eq]
      | ret =>
        simp only [endX] at h
        obtain ⟨p, h2, h3⟩ := Option.map_eq_some_iff.1 h
        simp only [h2, ← h3, leaveX_eq]
    · simp at h
/-- A call, run: at most n deep, N rounds a loop. -/
def callX (E : Env) (N : Nat) : Nat → CallT
  | 0, _, _, _ => none
  | n + 1, f, args, H =>
    match E.prim f with
    | some g => g args H
    | none => match E.func f with
      | some F => runX (callX E N n) N F args H
      | none => none
theorem callX_ok {E : Env} {N : Nat} : ∀ (n : Nat), CallLe (callX E N n) (callN E n)
  | 0, _, _, _, _, h => by simp [callX] at h
  | n + 1, f, args, H, r, h => by
    rw [callX] at h
    rw [callN]
    cases hp : E.prim f with
    | some g => rw [hp] at h; exact h
    | none =>
      rw [hp] at h
      cases hf : E.func f with
      | none => rw [hf] at h; simp at h
      | some F => rw [hf] at h; exact runF_mono (callX_ok n) (runX_ok h)
theorem call_run {E : Env} (N n : Nat) {f : FuncId} {args : List PV} {H : Heap} {r} (h : callX E N n f args H = some r) : call E f args H = some r := call_of (callX_ok n _ _ _ _ h)

end Go.Flat
