/- The parser of conditions: what its functions make of words, for all words (at most a million). -/
import Derived.Test.YtkmlfjnmoieeeaaGreatDoorZName
import Derived.Test.YtkmlfjnmoieeeaaGreatDoorZRef2
import Derived.Test.YtkmlfjnmoieeeaaGreatDoorFlatZ
set_option linter.unusedVariables false
set_option linter.unusedSimpArgs false
namespace Go.Flat
/-- The parser's functions. -/
structure EnvP (E : Env) : Prop where
  d : EnvD E
  n : EnvN E
  p : ∀ f, np f = true → E.prim f = none
  f8 : E.func 8 = some F8
  f21 : E.func 21 = some F21
  f45 : E.func 45 = some F45
  f46 : E.func 46 = some F46
  f53 : E.func 53 = some F53
  f65 : E.func 65 = some F65
  f66 : E.func 66 = some F66
  f89 : E.func 89 = some F89
  atoi : ∃ te, ∀ s H, s.length ≤ 281474976710656 → call E 101 [.str s] H = some (match Lib.atoiAll s with
    | .ok v => .tup [.int .i64 v, .niliface]
    | .range => .tup [.int .i64 (Lib.atoiSat s), .iface te (.fp [])]
    | _ => .tup [.int .i64 0, .iface te (.fp [])], H)
  itoa : ∀ n H, -9223372036854775808 ≤ n → n ≤ 9223372036854775807 → call E 54 [.int .i64 n] H = some (.str (Lib.itoa n), H)
variable {E : Env} {H0 : Heap}
abbrev PObj (t : Tail) (ws : List Str) (p : Int) (τ : Tail) (out : List Test) : HObj := .cells [.sl t (strs ws), .int .i64 p, .sl τ (tests out)]
def TokOk (n : Nat) (L : Heap) (τ : Tail) (out : List Test) : Prop := (out = [] ∧ τ = .exact) ∨ ∃ j, τ = .tok (n + 1 + j) ∧ L[j]? = some (.tail out.length)
def nT (n : Nat) (L : Heap) : Tail → Tail
  | .tok i => .tok i
  | _ => .tok (n + 1 + L.length)
def nL (n : Nat) (L : Heap) (τ : Tail) (k : Nat) : Heap :=
  match τ with
  | .tok i => L.set (i - n - 1) (.tail k)
  | _ => L ++ [.tail k]
theorem tok_ext {n : Nat} {L : Heap} {τ : Tail} {out : List Test} (h : TokOk n L τ out) (M : Heap) : TokOk n (L ++ M) τ out := by
  rcases h with h | ⟨j, h1, h2⟩
  · exact .inl h
  · exact .inr ⟨j, h1, get_more h2 M⟩
theorem tok_app {n : Nat} {L : Heap} {τ : Tail} {out : List Test} (h : TokOk n L τ out) (te : Test) : TokOk n (nL n L τ (out.length + 1)) (nT n L τ) (out ++ [te]) := by
  rcases h with ⟨rfl, rfl⟩ | ⟨j, rfl, h2⟩
  · exact .inr ⟨L.length, rfl, by simp [nL]⟩
  · refine .inr ⟨j, rfl, ?_⟩
    obtain ⟨hl, _⟩ := List.getElem?_eq_some_iff.1 h2
    have e : n + 1 + j - n - 1 = j := by omega
    simp [nL, e, List.getElem?_set_self, hl]
theorem app_out {t' : Tail} {n : Nat} (hn : n = H0.length) {L : Heap} {τ : Tail} {out : List Test} (h : TokOk n L τ out) (hl : out.length + 1 ≤ 4294967296) (P : HObj) (k : Int) (s : Str) (o m : Int) :
    appendA (H0 ++ P :: L) 4 40 false (.sl τ (tests out)) (.sl t' [.agg [.int .i64 k, .str s, .int .i64 o, .int .i64 m]]) = some (.sl (nT n L τ) (tests (out ++ [⟨k, s, o, m⟩])), H0 ++ P :: nL n L τ (out.length + 1)) := by
  subst hn
  have hu := tests_uniform out
  rcases h with ⟨rfl, rfl⟩ | ⟨j, rfl, h2⟩
  · simp [tests, nL, nT, Test.enc]
    omega
  · have hg : (H0 ++ P :: L)[H0.length + 1 + j]? = some (.tail out.length) := by
      rw [Nat.add_assoc, get_end, Nat.add_comm 1 j, List.getElem?_cons_succ]
      exact h2
    have e : H0.length + 1 + j - H0.length - 1 = j := by omega
    rw [append_more_sl, hg]
    simp [hl, hu, nL, nT, e]
    refine ⟨?_, ?_⟩
    · simp [tests, Test.enc]
    · rw [Nat.add_assoc, set_end, Nat.add_comm 1 j, List.set_cons_succ]
theorem leave_len {fz : Bool} {p : PV} {H H' : Heap} (h : p.plain = true) (hl : H'.length = H.length) : leave fz H p H' = (p, H') := by
  unfold leave
  have e : (if fz then ((p.frz H' H.length).frz H' H.length).strip else p) = p := by
    rw [PV.plain_frz _ _ h, PV.plain_frz _ _ h, PV.plain_strip h]; simp
  rw [e, PV.plain_ids _ h]
  have e2 : H'.take H.length = H' := by rw [← hl]; simp
  rw [e2]
  by_cases hc : H' = H
  · simp [hc]
  · simp [hc]
theorem test_inj {a b : List Test} (h : tests a = tests b) : a = b := by
  induction a generalizing b with
  | nil => cases b with
    | nil => rfl
    | cons y ys => simp [tests] at h
  | cons x xs ih =>
    cases b with
    | nil => simp [tests] at h
    | cons y ys =>
      simp only [tests, List.map_cons, List.cons.injEq] at h
      obtain ⟨h1, h2⟩ := h
      rw [ih (b := ys) h2]
      obtain ⟨a1, a2, a3, a4⟩ := x
      obtain ⟨b1, b2, b3, b4⟩ := y
      simp [Test.enc] at h1
      obtain ⟨rfl, rfl, rfl, rfl⟩ := h1
      rfl
theorem leave_ps {b : Bool} {t : Tail} {ws : List Str} {p p' : Int} {τ τ' : Tail} {out out' : List Test} {L L' : Heap} :
    ∃ L2, leave true (H0 ++ PObj t ws p τ out :: L) (.bool b) (H0 ++ PObj t ws p' τ' out' :: L') = (.bool b, H0 ++ PObj t ws p' τ' out' :: L2) ∧ (TokOk H0.length L τ out → TokOk H0.length L' τ' out' → TokOk H0.length L2 τ' out') := by
  unfold leave
  have e : (if true = true then (((PV.bool b).frz (H0 ++ PObj t ws p' τ' out' :: L') (H0 ++ PObj t ws p τ out :: L).length).frz (H0 ++ PObj t ws p' τ' out' :: L') (H0 ++ PObj t ws p τ out :: L).length).strip else .bool b) = .bool b := rfl
  rw [e]
  by_cases hc : (H0 ++ PObj t ws p' τ' out' :: L').take (H0 ++ PObj t ws p τ out :: L).length = H0 ++ PObj t ws p τ out :: L
  · refine ⟨L, ?_, fun h1 _ => ?_⟩
    all_goals
      have h1 := hc
      rw [List.take_append, List.take_of_length_le (by simp)] at h1
      have h2 := List.append_cancel_left h1
      simp only [List.length_append, List.length_cons, Nat.add_sub_cancel_left, List.take_succ_cons, List.cons.injEq, HObj.cells.injEq, PV.int.injEq, PV.sl.injEq, true_and, and_true] at h2
      obtain ⟨⟨h3, h4, h5⟩, _⟩ := h2
      have h5 := test_inj h5
      subst h3; subst h4; subst h5
    · rw [if_pos ⟨hc, rfl⟩]
    · assumption
  · exact ⟨L', by rw [if_neg (fun h => hc h.1)], fun _ h => h⟩
theorem is_c (hE : EnvP E) {t : Tail} {ws : List Str} (k : Nat) (p : Int) (hp : p = k) (hk : k ≤ 1000000) (hlen : ws.length ≤ 1000000) {τ : Tail} {out : List Test} {L : Heap} (w : Str) :
    call E 65 [.ptr H0.length 0, .str w] (H0 ++ PObj t ws p τ out :: L) = some (.bool (decide (ws[k]? = some w)), H0 ++ PObj t ws (if ws[k]? = some w then p + 1 else p) τ out :: L) := by
  refine call_wp hE.f65 (hE.p _ (by decide)) ⟨rfl, by simp [F65], ?_⟩
  subst hp
  have hw : IntKind.i64.wrap ((k : Int) + 1) = (k : Int) + 1 := wrap64 (by omega) (by omega)
  by_cases h : k < ws.length
  · have hg : (strs ws)[k]? = some (.str ws[k]) := by simp [strs, h]
    by_cases he : ws[k] = w
    · have hq : ws[k]? = some w := by rw [List.getElem?_eq_getElem h, he]
      simp [F65, h, iaSl_at hg, he, hw, hq]
      exact leave_len rfl (by simp)
    · have hq : ¬ ws[k] = w := he
      simp [F65, h, iaSl_at hg, he, hw]
  · have hq : ws[k]? = none := by simp; omega
    simp [F65, h, hq]
end Go.Flat
/- The parser of conditions, further: chains of parts. -/
namespace Go.Flat
variable {E : Env} {H0 : Heap}
abbrev PR := Except (List Str) (List Test × List Str)
def wNot : Str := [110, 111, 116]
def wOpen : Str := [40]
def wClose : Str := [41]
def wFailed : Str := [102, 97, 105, 108, 101, 100]
def wRan : Str := [114, 97, 110]
def wRc : Str := [114, 99]
def wAnd : Str := [97, 110, 100]
def wOr : Str := [111, 114]
def opT (k : Int) : Test := ⟨k, [], 0, 0⟩
def restS (part : List Str → PR) (w : Str) (k : Int) : Nat → List Test → List Str → PR
  | 0, _, l => .error l
  | _ + 1, acc, [] => .ok (acc, [])
  | n + 1, acc, x :: r => if x = w then (match part r with
    | .error e => .error e
    | .ok (ts, r') => restS part w k n (acc ++ ts ++ [opT k]) r') else .ok (acc, x :: r)
def chainS (part : List Str → PR) (w : Str) (k : Int) (n : Nat) (l : List Str) : PR :=
  match part l with
  | .error e => .error e
  | .ok (ts, r) => restS part w k n ts r
/-- Whatever a part makes of words is shorter than they, and no longer than what it took. -/
def Ate (l : List Str) : PR → Prop
  | .error e => e.length ≤ l.length
  | .ok (ts, r) => r.length < l.length ∧ ts.length + r.length ≤ l.length ∧ ∃ a, l = a ++ r
def Eats (part : List Str → PR) (m : Nat) : Prop := ∀ l, l.length ≤ m → Ate l (part l)
theorem restS_eats {part : List Str → PR} {w : Str} {k : Int} {m : Nat} (hp : Eats part m) : ∀ (n : Nat) (acc : List Test) (l : List Str), l.length ≤ m → match restS part w k n acc l with
    | .error e => e.length ≤ l.length
    | .ok (ts, r) => r.length ≤ l.length ∧ ts.length + r.length ≤ acc.length + l.length ∧ ∃ a, l = a ++ r
  | 0, acc, l, h => by simp [restS]
  | n + 1, acc, [], h => by simp [restS]
  | n + 1, acc, x :: r, h => by
    simp only [restS]
    by_cases hx : x = w
    · rw [if_pos hx]
      have h1 := hp r (by simp at h; omega)
      cases hr : part r with
      | error e =>
        rw [hr] at h1
        simp [Ate] at h1 ⊢
        omega
      | ok z =>
        obtain ⟨ts, r'⟩ := z
        rw [hr] at h1
        simp only [Ate] at h1 ⊢
        obtain ⟨h2, h3, a, rfl⟩ := h1
        have h4 := restS_eats (w := w) (k := k) hp n (acc ++ ts ++ [opT k]) r' (by simp at h; omega)
        cases hq : restS part w k n (acc ++ ts ++ [opT k]) r' with
        | error e =>
          rw [hq] at h4
          simp at h4 ⊢
          omega
        | ok z =>
          obtain ⟨us, r2⟩ := z
          rw [hq] at h4
          simp at h4 ⊢
          obtain ⟨h5, h6, b, rfl⟩ := h4
          simp at h3 h5 h6 ⊢
          refine ⟨by omega, by omega, x :: (a ++ b), by simp⟩
    · rw [if_neg hx]
      simp
theorem chainS_eats {part : List Str → PR} {w : Str} {k : Int} {m n : Nat} (hp : Eats part m) : Eats (chainS part w k n) m := by
  intro l hl
  have h1 := hp l hl
  unfold chainS
  cases hr : part l with
  | error e => rw [hr] at h1; exact h1
  | ok z =>
    obtain ⟨ts, r⟩ := z
    rw [hr] at h1
    simp only [Ate] at h1 ⊢
    obtain ⟨h2, h3, a, rfl⟩ := h1
    have h4 := restS_eats (w := w) (k := k) hp n ts r (by omega)
    cases hq : restS part w k n ts r with
    | error e => rw [hq] at h4; simp [Ate] at h4 ⊢; omega
    | ok z =>
      obtain ⟨us, r2⟩ := z
      rw [hq] at h4
      simp [Ate] at h4 ⊢
      obtain ⟨h5, h6, b, rfl⟩ := h4
      simp at h2 h3 h5 h6 ⊢
      exact ⟨by omega, by omega, a ++ b, by simp⟩
/-- What is so behind a part. -/
def Post (ws : List Str) (k : Nat) (R : PR) (out : List Test) (b : Bool) (at' : Nat) (out' : List Test) : Prop :=
  at' ≤ ws.length ∧ out'.length + k ≤ out.length + at' ∧ match R with
  | .error e => b = false ∧ at' + e.length = ws.length
  | .ok (ts, r) => b = true ∧ ws.drop at' = r ∧ out' = out ++ ts
def Ends (H0 : Heap) (t : Tail) (ws : List Str) (k : Nat) (R : PR) (out : List Test) (r : PV × Heap) : Prop :=
  ∃ b k' τ' out' L', r = (.bool b, H0 ++ PObj t ws (k' : Nat) τ' out' :: L') ∧ TokOk H0.length L' τ' out' ∧ Post ws k R out b k' out'
def Parses (H0 : Heap) (run : Heap → Option (PV × Heap)) (S : List Str → PR) (m : Nat) : Prop :=
  ∀ (t : Tail) (ws : List Str) (k : Nat) (τ : Tail) (out : List Test) (L : Heap), (ws.length ≤ 1000000 ∧ ∀ w ∈ ws, w.length ≤ 281474976710656) → k ≤ ws.length → (ws.drop k).length ≤ m → out.length ≤ k → TokOk H0.length L τ out →
    ∃ r, Ends H0 t ws k (S (ws.drop k)) out r ∧ run (H0 ++ PObj t ws k τ out :: L) = some r
theorem drop_head {ws : List Str} {k : Nat} {w : Str} : (ws[k]? = some w) ↔ ∃ r, ws.drop k = w :: r := by
  constructor
  · intro h
    obtain ⟨hl, he⟩ := List.getElem?_eq_some_iff.1 h
    exact ⟨ws.drop (k + 1), by rw [← he, List.drop_eq_getElem_cons hl]⟩
  · rintro ⟨r, h⟩
    have : (ws.drop k)[0]? = some w := by rw [h]; rfl
    simpa using this
theorem drop_succ {ws : List Str} {k : Nat} {w : Str} {r : List Str} (h : ws.drop k = w :: r) : ws.drop (k + 1) = r := by
  have : (ws.drop k).drop 1 = r := by rw [h]; rfl
  rwa [List.drop_drop] at this
noncomputable def retE (res : List ARes) (fz : Bool) (H : Heap) (Φ : PV × Heap → Prop) (e : AExit) (st : St) : Prop := (e = .normal ∨ e = .ret) ∧ ∃ p, resultA st.T st.H res = some p ∧ Φ (leave fz H p st.H)
@[simp] theorem retE_ret {T : Temps} {H : Heap} {res : List ARes} {fz : Bool} {H0 : Heap} {Φ : PV × Heap → Prop} : retE res fz H0 Φ .ret ⟨T, H⟩ = ∃ p, resultA T H res = some p ∧ Φ (leave fz H0 p H) := by simp [retE]
@[simp] theorem retE_normal {T : Temps} {H : Heap} {res : List ARes} {fz : Bool} {H0 : Heap} {Φ : PV × Heap → Prop} : retE res fz H0 Φ .normal ⟨T, H⟩ = ∃ p, resultA T H res = some p ∧ Φ (leave fz H0 p H) := by simp [retE]
theorem call_wpQ {E : Env} {f : FuncId} {F : AFunc} {H : Heap} {Φ : PV × Heap → Prop} (hF : E.func f = some F) (hp : E.prim f = none) {args : List PV}
    (h : F.nd = false ∧ args.length ≤ F.n ∧ wp (call E) F.body ⟨initT args, H⟩ (retE F.res F.fz H Φ)) : ∃ r, Φ r ∧ call E f args H = some r := by
  obtain ⟨h1, h2, h3⟩ := h
  unfold wp at h3
  cases he : evC (call E) F.body ⟨initT args, H⟩ with
  | none => rw [he] at h3; exact h3.elim
  | some x =>
    rw [he] at h3
    obtain ⟨h4, p, h5, h6⟩ := h3
    exact ⟨_, h6, call_wp hF hp ⟨h1, h2, by unfold wp; rw [he]; exact ⟨h4, p, h5, rfl⟩⟩⟩
theorem done_ps {R : PR} {out0 : List Test} {b : Bool} {t : Tail} {ws : List Str} {k : Nat} {p p' : Int} (k' : Nat) {τ τ' : Tail} {out out' : List Test} {L L' : Heap} (hp : p' = (k' : Int)) (h1 : TokOk H0.length L τ out) (h2 : TokOk H0.length L' τ' out') (h3 : Post ws k R out0 b k' out') :
    Ends H0 t ws k R out0 (leave true (H0 ++ PObj t ws p τ out :: L) (.bool b) (H0 ++ PObj t ws p' τ' out' :: L')) := by
  subst hp
  obtain ⟨L2, hl1, hl2⟩ := leave_ps (H0 := H0) (b := b) (t := t) (ws := ws) (p := p) (p' := k') (τ := τ) (τ' := τ') (out := out) (out' := out') (L := L) (L' := L')
  exact ⟨b, k', τ', out', L2, hl1, hl2 h1 h2, h3⟩
set_option maxHeartbeats 1000000 in
theorem chain_c (hE : EnvP E) {pf : PV} {part : List Str → PR} {m : Nat} (hp : Parses H0 (callVal (call E) pf []) part m) (he : Eats part m) (w : Str) (kd : Int) (n : Nat) (hn : m < n) :
    Parses H0 (call E 45 [.ptr H0.length 0, .str w, .int .i64 kd, pf]) (chainS part w kd n) m := by
  intro t ws k τ out L hws hk hm hok htok
  have hlen := hws.1
  obtain ⟨_, ⟨b, k1, τ1, out1, L1, rfl, ht1, hp1, hp2, hp3⟩, hr⟩ := hp t ws k τ out L hws hk hm hok htok
  have hea := he (ws.drop k) hm
  refine call_wpQ hE.f45 (hE.p _ (by decide)) ⟨rfl, by simp [F45], ?_⟩
  cases hS : part (ws.drop k) with
  | error e =>
    rw [hS] at hp3
    obtain ⟨rfl, hp4⟩ := hp3
    simp [F45, hr]
    refine done_ps _ rfl htok ht1 ⟨hp1, hp2, ?_⟩
    simpa [chainS, hS] using hp4
  | ok z =>
    obtain ⟨ts, r⟩ := z
    rw [hS] at hp3 hea
    obtain ⟨rfl, hp4, hp5⟩ := hp3
    simp only [Ate] at hea
    obtain ⟨g1, g2, _⟩ := hea
    have hR : chainS part w kd n (ws.drop k) = restS part w kd n ts r := by simp only [chainS, hS]
    generalize chainS part w kd n (ws.drop k) = R at hR
    simp [F45, hr]
    refine wp_loop (fun q T H' => ∃ (f k2 : Nat) (τ2 : Tail) (out2 acc : List Test) (L2 : Heap), q = (ws.drop k2).length ∧ T 0 = .ptr H0.length 0 ∧ T 1 = .str w ∧ T 2 = .int .i64 kd ∧ T 3 = pf ∧ H' = H0 ++ PObj t ws (k2 : Nat) τ2 out2 :: L2 ∧ TokOk H0.length L2 τ2 out2 ∧
      k2 ≤ ws.length ∧ out2.length + k ≤ out.length + k2 ∧ out2 = out ++ acc ∧ (ws.drop k2).length < f ∧ (ws.drop k2).length ≤ m ∧ R = restS part w kd f acc (ws.drop k2)) ?_ (n := (ws.drop k1).length) ⟨n, k1, τ1, out1, ts, L1, ?_⟩
    · rintro q T H' ⟨f, k2, τ2, out2, acc, L2, rfl, h0, h1, h2, h3, rfl, ht2, q1, q2, rfl, q4, q5, q6⟩
      obtain ⟨f, rfl⟩ : ∃ f', f = f' + 1 := ⟨f - 1, by omega⟩
      have hi := fun L => is_c (H0 := H0) hE (t := t) (ws := ws) k2 k2 rfl (by omega) hlen (τ := τ2) (out := out ++ acc) (L := L) w
      by_cases hw : ws[k2]? = some w
      · obtain ⟨r2, hd⟩ := drop_head.1 hw
        have hd1 := drop_succ hd
        have hk2 : k2 < ws.length := (List.getElem?_eq_some_iff.1 hw).1
        rw [hd] at q4 q5 q6
        simp only [restS, if_true] at q6
        obtain ⟨_, ⟨b, k3, τ3, out3, L3, rfl, ht3, hp1, hp2, hp3⟩, hr3⟩ := hp t ws (k2 + 1) τ2 (out ++ acc) L2 hws (by omega) (by rw [hd1]; simp at q5; omega) (by simp at q2 ⊢; omega) ht2
        rw [hd1] at hp3
        have hea2 := he r2 (by simp at q5; omega)
        cases hS2 : part r2 with
        | error e =>
          rw [hS2] at hp3 q6
          obtain ⟨rfl, hp4⟩ := hp3
          simp at hr3
          simp [h0, h1, h2, h3, hi, hw, hr3]
          refine done_ps _ rfl htok ht3 ⟨hp1, by simp only [List.length_append] at *; omega, ?_⟩
          rw [q6]
          simpa using hp4
        | ok z =>
          obtain ⟨us, r3⟩ := z
          rw [hS2] at hp3 q6 hea2
          obtain ⟨rfl, hp4, hp5⟩ := hp3
          simp only [Ate] at hea2
          simp only at q6
          obtain ⟨e1, e2, a, ea⟩ := hea2
          subst hp5
          have hlt : k2 + 1 + us.length ≤ k3 := by
            have l1 : (ws.drop (k2 + 1)).length = r2.length := by rw [hd1]
            have l2 : (ws.drop k3).length = r3.length := by rw [hp4]
            simp at l1 l2
            omega
          have ha := app_out (t' := .exact) (H0 := H0) rfl ht3 (by simp at q2 hp2 ⊢; omega) (PObj t ws (k3 : Nat) τ3 (out ++ acc ++ us)) kd [] 0 0
          have ht4 := tok_app ht3 (opT kd)
          simp at hr3 ha
          simp [h0, h1, h2, h3, hi, hw, hr3, ha]
          refine ⟨ws.length - k3, by omega, f, k3, rfl, _, out ++ (acc ++ (us ++ [opT kd])), acc ++ (us ++ [opT kd]), _, ⟨⟨rfl, rfl, rfl⟩, rfl⟩, by simpa using ht4, hp1, ?_, rfl, ?_, ?_, ?_⟩
          · simp at q2 hp2 ⊢
            omega
          · have : (ws.drop k3).length = r3.length := by rw [hp4]
            simp at this q4
            omega
          · have : (ws.drop k3).length = r3.length := by rw [hp4]
            simp at this q5
            omega
          · rw [q6, hp4]
            simp
      · simp [h0, h1, h2, h3, hi, hw]
        refine done_ps _ rfl htok ht2 ⟨q1, by simp only [List.length_append] at *; omega, ?_⟩
        cases hd : ws.drop k2 with
        | nil =>
          rw [hd] at q6
          simp [q6, restS]
        | cons x r2 =>
          have hx : ¬ x = w := fun e => hw (drop_head.2 ⟨r2, by rw [hd, e]⟩)
          rw [hd] at q6
          simp [q6, restS, hx]
    · refine ⟨rfl, by simp, by simp, by simp, by simp, rfl, ht1, hp1, hp2, hp5, ?_, ?_, ?_⟩
      · rw [hp4]; omega
      · rw [hp4]; omega
      · rw [hp4]; exact hR
end Go.Flat
/- The parser of conditions, further: basic tests. -/
namespace Go.Flat
variable {E : Env} {H0 : Heap}
def rels : List Str := [[60], [60, 61], [61], [33, 61], [62, 61], [62]]
def numS (v : Str) : Option Int :=
  match Lib.atoiAll v with
  | .ok n => if 0 ≤ n ∧ n ≤ 4095 ∧ Lib.itoa n = v then some n else none
  | _ => none
def codeB (s : Str) : List Str → PR
  | [] => .error []
  | o :: r => match rels.findIdx? (· == o) with
    | none => .error (o :: r)
    | some op => match r with
      | [] => .error []
      | v :: r3 => match numS v with
        | none => .error (v :: r3)
        | some n => .ok ([⟨0, s, op, n⟩], r3)
def restB (s : Str) : List Str → PR
  | [] => .error []
  | x :: r => if x = wFailed then .ok ([⟨1, s, 0, 0⟩], r) else if x = wRan then .ok ([⟨2, s, 0, 0⟩], r) else if x = wRc then codeB s r else .error (x :: r)
def basicS : List Str → PR
  | [] => .error []
  | s :: r => if Nm.stepN s = true then restB s r else .error (s :: r)
theorem rels_c (hE : EnvP E) {H : Heap} : call E 53 [] H = some (.sl .shut (strs rels), H) := by
  refine call_wp hE.f53 (hE.p _ (by decide)) ⟨rfl, by simp [F53], ?_⟩
  simp [F53, uniform]
  have := leave_sl (H := H) (t := .exact) (xs := strs rels) (by decide) []
  simpa [strs, rels] using this
def mt (o : Option Str) (i : Nat) : Option Nat := (rels.take i).findIdx? (fun r => decide (o = some r))
theorem mt_succ (o : Option Str) {i : Nat} (hi : i < rels.length) : mt o (i + 1) = match mt o i with | some j => some j | none => if o = some rels[i] then some i else none := by
  unfold mt
  rw [List.take_add_one, List.getElem?_eq_getElem hi, List.findIdx?_append]
  cases h : List.findIdx? (fun r => decide (o = some r)) (rels.take i) with
  | some j => simp
  | none =>
    have hl : (rels.take i).length = i := by simp; omega
    by_cases ho : o = some rels[i]
    · simp [ho, Nat.min_eq_left (Nat.le_of_lt hi)]
    · simp [ho]
theorem mt_all {o : Str} : mt (some o) 6 = rels.findIdx? (· == o) := by
  unfold mt
  have : (fun r : Str => decide (some o = some r)) = (fun r => r == o) := by
    funext r
    by_cases h : o = r
    · simp [h]
    · have : ¬ r = o := fun e => h e.symm
      simp [h, this]
  rw [this]
  rfl
theorem mt_none (i : Nat) : mt none i = none := by
  unfold mt
  rw [List.findIdx?_eq_none_iff]
  simp
set_option maxHeartbeats 4000000 in
theorem basic_c (hE : EnvP E) (m : Nat) : Parses H0 (call E 89 [.ptr H0.length 0]) basicS m := by
  intro t ws k τ out L hws hk hm hok htok
  have hlen := hws.1
  refine call_wpQ hE.f89 (hE.p _ (by decide)) ⟨rfl, by simp [F89], ?_⟩
  cases hd : ws.drop k with
  | nil =>
    have hk' : k = ws.length := by
      have := congrArg List.length hd
      simp at this
      omega
    subst hk'
    simp [F89]
    exact ⟨false, ws.length, τ, out, L, rfl, htok, Nat.le_refl _, by omega, rfl, by simp⟩
  | cons s r =>
    have hg0 : ws[k]? = some s := drop_head.2 ⟨r, hd⟩
    obtain ⟨hkl, he0⟩ := List.getElem?_eq_some_iff.1 hg0
    have hg : (strs ws)[k]? = some (.str s) := by simp [strs, hg0]
    have hd1 := drop_succ hd
    have hst := fun H => Nm.step_c (H := H) hE.n s
    have hw : IntKind.i64.wrap ((k : Int) + 1) = (k : Int) + 1 := wrap64 (by omega) (by omega)
    have hlk : ¬ ((ws.length : Int) ≤ k) := by omega
    have hlk2 : ¬ (ws.length ≤ k) := by omega
    have hrl : (ws.drop k).length = r.length + 1 := by rw [hd]; rfl
    simp at hrl
    cases hs : Nm.stepN s with
    | false =>
      simp only [hs] at hst
      simp [F89, hlk, hlk2, iaSl_at hg, hst]
      exact ⟨false, k, τ, out, L, rfl, htok, hk, by omega, by simp [basicS, hs]; omega⟩
    | true =>
      simp only [hs] at hst
      rw [basicS, if_pos hs]
      have i1 := fun (L : Heap) w => is_c (H0 := H0) hE (t := t) (ws := ws) (k + 1) ((k : Int) + 1) (by omega) (by omega) hlen (τ := τ) (out := out) (L := L) w
      cases r with
      | nil =>
        have h1 : ws[k + 1]? = none := by simp at hrl ⊢; omega
        simp [F89, hlk, hlk2, iaSl_at hg, hst, hw, i1, h1]
        exact done_ps (R := restB s []) (out0 := out) (k + 1) (by omega) htok (tok_ext htok _) ⟨by omega, by omega, rfl, by simp at hrl ⊢; omega⟩
      | cons x r =>
        have h1 : ws[k + 1]? = some x := drop_head.2 ⟨r, hd1⟩
        have hd2 := drop_succ hd1
        have hx1 : k + 1 < ws.length := (List.getElem?_eq_some_iff.1 h1).1
        simp at hrl
        have fin : ∀ (p : Int) (kd op n : Int) (q : Nat) (r' : List Str) (L2 : Heap), TokOk H0.length L2 τ out → p = q → q ≤ ws.length → k + 1 ≤ q → ws.drop q = r' → restB s (x :: r) = .ok ([⟨kd, s, op, n⟩], r') →
            Ends H0 t ws k (restB s (x :: r)) out (leave true (H0 ++ PObj t ws k τ out :: L) (.bool true) (H0 ++ PObj t ws p (nT H0.length L2 τ) (out ++ [⟨kd, s, op, n⟩]) :: nL H0.length L2 τ (out.length + 1))) := by
          intro p kd op n q r' L2 hL hp hq hq1 hr' hR
          refine done_ps q hp htok (tok_app hL _) ⟨hq, by simp; omega, ?_⟩
          rw [hR]
          exact ⟨rfl, hr', rfl⟩
        by_cases c1 : x = wFailed
        · subst c1
          have hL := tok_ext htok [.cells [.int .i64 1, .str s, .int .i64 0, .int .i64 0]]
          have ha := fun P => app_out (t' := .exact) (H0 := H0) rfl hL (by omega) P 1 s 0 0
          have hf := fin ((k : Int) + 1 + 1) 1 0 0 (k + 2) r _ hL (by omega) (by omega) (by omega) hd2 (by simp [restB])
          simp [F89, hlk, hlk2, iaSl_at hg, hst, hw, i1, h1, wFailed, ha]
          exact hf
        · by_cases c2 : x = wRan
          · subst c2
            have hL := tok_ext htok [.cells [.int .i64 2, .str s, .int .i64 0, .int .i64 0]]
            have ha := fun P => app_out (t' := .exact) (H0 := H0) rfl hL (by omega) P 2 s 0 0
            have hf := fin ((k : Int) + 1 + 1) 2 0 0 (k + 2) r _ hL (by omega) (by omega) (by omega) hd2 (by simp [restB, c1])
            simp [F89, hlk, hlk2, iaSl_at hg, hst, hw, i1, h1, wRan, ha]
            exact hf
          · by_cases c3 : x = wRc
            · subst c3
              have hrel := fun H => rels_c (H := H) hE
              have i2 := fun (L : Heap) w => is_c (H0 := H0) hE (t := t) (ws := ws) (k + 2) ((k : Int) + 1 + 1) (by omega) (by omega) hlen (τ := τ) (out := out) (L := L) w
              simp [F89, hlk, hlk2, iaSl_at hg, hst, hw, i1, h1, wRc, hrel]
              refine wp_loop (fun n T H' => ∃ i : Nat, n = 6 - i ∧ i ≤ 6 ∧ T 65 = .int .i64 i ∧ T 64 = .int .i64 6 ∧ T 63 = .sl .shut (strs rels) ∧ T 0 = .ptr H0.length 0 ∧ T 3 = .ptr (H0.length + (L.length + 1)) 0 ∧
                H' = H0 ++ PObj t ws (if (mt ws[k + 2]? i).isSome then (k : Int) + 1 + 1 + 1 else (k : Int) + 1 + 1) τ out :: (L ++ [.cells [.int .i64 0, .str s, .int .i64 (match mt ws[k + 2]? i with | some j => (j : Int) | none => -1), .int .i64 0]])) ?_ (n := 6) ⟨0, ?_⟩
              · rintro n T H' ⟨i, rfl, hi, h65, h64, h63, hT0, hT3, rfl⟩
                by_cases hi6 : i < 6
                · have hi6' : i < rels.length := hi6
                  have hgr : (strs rels)[i]? = some (.str rels[i]) := by simp [strs, hi6']
                  have hwi : IntKind.i64.wrap ((i : Int) + 1) = (i : Int) + 1 := wrap64 (by omega) (by omega)
                  have hms := mt_succ ws[k + 2]? hi6'
                  have hii : (i : Int) < 6 := by omega
                  cases hm : mt ws[k + 2]? i with
                  | some j =>
                    rw [hm] at hms
                    simp only at hms
                    have hj : ¬ ((j : Int) < 0) := by omega
                    simp [h65, h64, h63, hT0, hT3, hii, iaSl_at hgr, hwi, hj]
                    refine ⟨6 - (i + 1), by omega, i + 1, rfl, by omega, by omega, ?_⟩
                    simp [hms]
                  | none =>
                    rw [hm] at hms
                    simp only at hms
                    by_cases ho : ws[k + 2]? = some rels[i]
                    · rw [if_pos ho] at hms
                      simp [h65, h64, h63, hT0, hT3, hii, iaSl_at hgr, hwi, i2, ho]
                      refine ⟨6 - (i + 1), by omega, i + 1, rfl, by omega, by omega, ?_⟩
                      rw [ho] at hms
                      simp [hms]
                    · rw [if_neg ho] at hms
                      simp [h65, h64, h63, hT0, hT3, hii, iaSl_at hgr, hwi, i2, ho]
                      refine ⟨6 - (i + 1), by omega, i + 1, rfl, by omega, by omega, ?_⟩
                      simp [hms]
                · have hie : i = 6 := by omega
                  subst hie
                  have hrl3 : ws.length = k + 2 + r.length := by omega
                  have hco : restB s (wRc :: r) = codeB s r := by simp [restB, c1, c2]
                  cases r with
                  | nil =>
                    have h2 : ws[k + 2]? = none := by simp at hrl3 ⊢; omega
                    simp [h65, h64, h63, hT0, hT3, h2, mt_none]
                    exact done_ps (R := restB s [wRc]) (out0 := out) (k + 2) (by omega) htok (tok_ext htok _) ⟨by omega, by omega, by rw [hco]; simp [codeB] at hrl3 ⊢; omega⟩
                  | cons o r =>
                    have h2 : ws[k + 2]? = some o := drop_head.2 ⟨r, hd2⟩
                    have hd3 := drop_succ hd2
                    simp at hrl3
                    rw [h2, mt_all]
                    cases hf : rels.findIdx? (· == o) with
                    | none =>
                      simp [h65, h64, h63, hT0, hT3]
                      exact done_ps (R := restB s (wRc :: o :: r)) (out0 := out) (k + 2) (by omega) htok (tok_ext htok _) ⟨by omega, by omega, by rw [hco]; simp [codeB, hf]; omega⟩
                    | some j =>
                      have hj : ¬ ((j : Int) < 0) := by omega
                      cases r with
                      | nil =>
                        have hl3 : (ws.length : Int) ≤ (k : Int) + 1 + 1 + 1 := by simp at hrl3; omega
                        simp [h65, h64, h63, hT0, hT3, hj, hl3]
                        exact done_ps (R := restB s [wRc, o]) (out0 := out) (k + 3) (by omega) htok (tok_ext htok _) ⟨by simp at hrl3; omega, by omega, by rw [hco]; simp [codeB, hf] at hrl3 ⊢; omega⟩
                      | cons v r =>
                        have h3 : ws[k + 3]? = some v := drop_head.2 ⟨r, hd3⟩
                        have hd4 := drop_succ hd3
                        simp at hrl3
                        have hl3 : ¬ (ws.length : Int) ≤ (k : Int) + 1 + 1 + 1 := by omega
                        have hl4 : (k : Int) + 1 + 1 + 1 < ws.length := by omega
                        have hg3 : (strs ws)[k + 3]? = some (.str v) := by simp [strs, h3]
                        have hia := iaSl_at (t := t) hg3 (size := 1) rfl
                        have hc3 : ((k + 3 : Nat) : Int) = (k : Int) + 1 + 1 + 1 := by omega
                        rw [hc3] at hia
                        have hvl : v.length ≤ 281474976710656 := hws.2 v (List.mem_of_getElem? h3)
                        obtain ⟨te, hat⟩ := hE.atoi
                        have hat := fun H => hat v H hvl
                        have hbad : numS v = none → restB s (wRc :: o :: v :: r) = .error (v :: r) := by
                          intro h
                          rw [hco]
                          simp [codeB, hf, h]
                        have bad : ∀ L2 : Heap, numS v = none → TokOk H0.length L2 τ out → Ends H0 t ws k (restB s (wRc :: o :: v :: r)) out (leave true (H0 ++ PObj t ws k τ out :: L) (.bool false) (H0 ++ PObj t ws ((k : Int) + 1 + 1 + 1) τ out :: L2)) := by
                          intro L2 hn hL2
                          exact done_ps (k + 3) (by omega) htok hL2 ⟨by omega, by omega, by rw [hbad hn]; simp; omega⟩
                        cases ha : Lib.atoiAll v
                        rotate_left 1
                        · simp only [ha] at hat
                          simp [h65, h64, h63, hT0, hT3, hj, hl3, hl4, hia, hat]
                          exact bad _ (by simp [numS, ha]) (tok_ext htok _)
                        · simp only [ha] at hat
                          simp [h65, h64, h63, hT0, hT3, hj, hl3, hl4, hia, hat]
                          exact bad _ (by simp [numS, ha]) (tok_ext htok _)
                        · rename_i n
                          simp only [ha] at hat
                          by_cases n0 : n < 0
                          · simp [h65, h64, h63, hT0, hT3, hj, hl3, hl4, hia, hat, n0]
                            exact bad _ (by simp [numS, ha]; omega) (tok_ext htok _)
                          · by_cases n1 : 4095 < n
                            · simp [h65, h64, h63, hT0, hT3, hj, hl3, hl4, hia, hat, n0, n1]
                              exact bad _ (by simp [numS, ha]; omega) (tok_ext htok _)
                            · have hit := fun H => hE.itoa n H (by omega) (by omega)
                              by_cases n2 : Lib.itoa n = v
                              · have hL := tok_ext htok [.cells [.int .i64 0, .str s, .int .i64 j, .int .i64 n]]
                                have hap := fun P => app_out (t' := .exact) (H0 := H0) rfl hL (by omega) P 0 s j n
                                have hw3 : IntKind.i64.wrap ((k : Int) + 1 + 1 + 1 + 1) = (k : Int) + 1 + 1 + 1 + 1 := wrap64 (by omega) (by omega)
                                have hns : numS v = some n := by simp [numS, ha, n2]; omega
                                have hfi := fin ((k : Int) + 1 + 1 + 1 + 1) 0 j n (k + 4) r _ hL (by omega) (by omega) (by omega) hd4 (by rw [hco]; simp [codeB, hf, hns])
                                simp [h65, h64, h63, hT0, hT3, hj, hl3, hl4, hia, hat, n0, n1, hit, n2, hw3, hap]
                                exact hfi
                              · simp [h65, h64, h63, hT0, hT3, hj, hl3, hl4, hia, hat, n0, n1, hit, n2]
                                exact bad _ (by simp [numS, ha, n2]) (tok_ext htok _)
              · simp [mt, rels]
            · have d1 : ¬ x = [102, 97, 105, 108, 101, 100] := c1
              have d2 : ¬ x = [114, 97, 110] := c2
              have d3 : ¬ x = [114, 99] := c3
              simp [F89, hlk, hlk2, iaSl_at hg, hst, hw, i1, h1, d1, d2, d3]
              exact done_ps (R := restB s (x :: r)) (out0 := out) (k + 1) (by omega) htok (tok_ext htok _) ⟨by omega, by omega, by simp [restB, c1, c2, c3]; omega⟩
end Go.Flat
/- The parser of conditions, further: parts, alternatives, and the whole. -/
namespace Go.Flat
variable {E : Env} {H0 : Heap}
def notsS : List Str → Nat × List Str
  | [] => (0, [])
  | x :: r => if x = wNot then ((notsS r).1 + 1, (notsS r).2) else (0, x :: r)
def addN (c : Nat) : PR → PR
  | .error e => .error e
  | .ok (ts, r) => .ok (ts ++ List.replicate c (opT 4), r)
def closeS : PR → PR
  | .error e => .error e
  | .ok (ts, y :: r) => if y = wClose then .ok (ts, r) else .error (y :: r)
  | .ok (_, []) => .error []
def partR (orF : List Str → PR) : List Str → PR
  | [] => .error []
  | x :: r => if x = wOpen then closeS (orF r) else if x = wFailed then .ok ([opT 3], r) else basicS (x :: r)
def partS (orF : List Str → PR) (l : List Str) : PR := addN (notsS l).1 (partR orF (notsS l).2)
theorem notsS_len : ∀ l : List Str, (notsS l).1 + (notsS l).2.length = l.length
  | [] => rfl
  | x :: r => by
    have := notsS_len r
    simp only [notsS]
    split
    · simp; omega
    · simp
theorem notsS_not : ∀ (l : List Str) (r : List Str), (notsS l).2 ≠ wNot :: r
  | [], r => by simp [notsS]
  | x :: l, r => by
    simp only [notsS]
    split
    · exact notsS_not l r
    · rename_i h
      simp
      intro e
      exact absurd e h
theorem notsS_drop : ∀ l : List Str, l.drop (notsS l).1 = (notsS l).2
  | [] => rfl
  | x :: r => by
    simp only [notsS]
    split
    · simpa using notsS_drop r
    · rfl
theorem notsS_at : ∀ (l : List Str) (i : Nat), i < (notsS l).1 → l[i]? = some wNot
  | [], i, h => by simp [notsS] at h
  | x :: r, i, h => by
    simp only [notsS] at h
    split at h
    · rename_i hx
      cases i with
      | zero => simp [hx]
      | succ i => simpa using notsS_at r i (by simp at h; omega)
    · simp at h
def ACode.snd : ACode → ACode
  | .seq _ b => b
  | c => c
def ACode.fst : ACode → ACode
  | .seq a _ => a
  | c => c
def nk66 : ACode := F66.body.snd.snd.snd.snd.snd
set_option maxHeartbeats 1000000 in
/-- The end of a part: as many nots as there were before it. -/
theorem nots_end (hE : EnvP E) {t : Tail} {ws : List Str} {k : Nat} {R : PR} {out : List Test} {p : Int} {τ : Tail} {L : Heap} (hlen : ws.length ≤ 1000000) (hok : out.length ≤ k) (htok : TokOk H0.length L τ out)
    {T : Temps} (k1 : Nat) {p1 : Int} (hp1 : p1 = k1) {τ1 : Tail} {out1 : List Test} {L1 : Heap} (ht1 : TokOk H0.length L1 τ1 out1) (c : Nat) {b : Bool} (h0 : T 0 = .ptr H0.length 0) (h3 : T 3 = .int .i64 c) (h4 : T 4 = .bool b)
    (hk1 : k1 ≤ ws.length) (hc : out1.length + c + k ≤ out.length + k1)
    (hR : match R with | .error e => b = false ∧ k1 + e.length = ws.length | .ok (ts, r) => b = true ∧ ws.drop k1 = r ∧ out1 ++ List.replicate c (opT 4) = out ++ ts) :
    wp (call E) nk66 ⟨T, H0 ++ PObj t ws p1 τ1 out1 :: L1⟩ (retE [.tmp 2] true (H0 ++ PObj t ws p τ out :: L) (Ends H0 t ws k R out)) := by
  subst hp1
  simp [nk66, ACode.snd, F66, h3]
  refine wp_loop (fun n T H' => ∃ (i : Nat) (τ2 : Tail) (L2 : Heap), n = c - i ∧ i ≤ c ∧ T 34 = .int .i64 i ∧ T 33 = .int .i64 c ∧ T 0 = .ptr H0.length 0 ∧ T 4 = .bool b ∧ H' = H0 ++ PObj t ws k1 τ2 (out1 ++ List.replicate i (opT 4)) :: L2 ∧ TokOk H0.length L2 τ2 (out1 ++ List.replicate i (opT 4))) ?_ (n := c) ⟨0, τ1, L1, ?_⟩
  · rintro n T H' ⟨i, τ2, L2, rfl, hi, h34, h33, h0, h4, rfl, ht2⟩
    by_cases hi' : i < c
    · have hwi : IntKind.i64.wrap ((i : Int) + 1) = (i : Int) + 1 := wrap64 (by omega) (by omega)
      have ha := app_out (t' := .exact) (H0 := H0) rfl ht2 (by simp; omega) (PObj t ws (k1 : Nat) τ2 (out1 ++ List.replicate i (opT 4))) 4 [] 0 0
      have ht3 := tok_app ht2 (opT 4)
      simp [h34, h33, h0, h4, hi', hwi, ha]
      refine ⟨c - (i + 1), by omega, i + 1, rfl, by omega, by omega, _, _, ⟨⟨rfl, ?_⟩, rfl⟩, ?_⟩
      · rw [List.replicate_succ']; rfl
      · rw [List.replicate_succ', ← List.append_assoc]
        simpa using ht3
    · have hie : i = c := by omega
      subst hie
      simp [h34, h33, h0, h4]
      refine done_ps k1 rfl htok ht2 ⟨hk1, by simp; omega, ?_⟩
      exact hR
  · simp [h0, h4, ht1]
theorem b66 : F66.body = .seq F66.body.fst (.seq F66.body.snd.fst (.seq F66.body.snd.snd.fst (.seq F66.body.snd.snd.snd.fst (.seq F66.body.snd.snd.snd.snd.fst nk66)))) := rfl
set_option maxHeartbeats 1000000 in
theorem part_c (hE : EnvP E) {orF : List Str → PR} {m : Nat} (hp : ∀ m', m = m' + 1 → Parses H0 (call E 21 [.ptr H0.length 0]) orF m') :
    Parses H0 (call E 66 [.ptr H0.length 0]) (partS orF) m := by
  intro t ws k τ out L hws hk hm hok htok
  have hlen := hws.1
  refine call_wpQ hE.f66 (hE.p _ (by decide)) ⟨rfl, by simp [F66], ?_⟩
  have hn1 := notsS_len (ws.drop k)
  have hn2 := notsS_not (ws.drop k)
  have hn3 := notsS_drop (ws.drop k)
  rw [b66]
  simp only [F66, ACode.fst, ACode.snd]
  simp
  unfold partS
  generalize hc : (notsS (ws.drop k)).1 = c at *
  generalize hr : (notsS (ws.drop k)).2 = r at *
  rw [List.drop_drop] at hn3
  have hn4 : c + r.length = ws.length - k := by simpa using hn1
  refine wp_loop (fun n T H' => ∃ (i : Nat), n = c - i ∧ i ≤ c ∧ T 3 = .int .i64 i ∧ T 0 = .ptr H0.length 0 ∧ H' = H0 ++ PObj t ws ((k : Int) + i) τ out :: L) ?_ (n := c) ⟨0, ?_⟩
  · rintro n T H' ⟨i, rfl, hi, h3, h0, rfl⟩
    have i1 := fun w => is_c (H0 := H0) hE (t := t) (ws := ws) (k + i) ((k : Int) + i) (by omega) (by simp at hn1; omega) hlen (τ := τ) (out := out) (L := L) w
    by_cases hi' : i < c
    · have hwi : IntKind.i64.wrap ((i : Int) + 1) = (i : Int) + 1 := wrap64 (by omega) (by omega)
      have hnot : ws[k + i]? = some wNot := by
        have := notsS_at (ws.drop k) i (by rw [hc]; exact hi')
        simpa using this
      simp [h3, h0, i1, hnot, wNot, hwi]
      refine ⟨c - (i + 1), by omega, i + 1, rfl, by omega, by omega, by omega⟩
    · have hie : i = c := by omega
      subst hie
      have hnn : ¬ ws[k + i]? = some wNot := by
        intro h
        obtain ⟨r', h⟩ := drop_head.1 h
        exact hn2 r' (by rw [← hn3, h])
      have hnn' : ¬ ws[k + i]? = some [110, 111, 116] := hnn
      have hkr : (ws.drop (k + i)).length = r.length := by rw [hn3]
      simp at hkr
      cases r with
      | nil =>
        have he : ws[k + i]? = none := by simpa using hn3
        have hb := basic_c (H0 := H0) hE (ws.drop (k + i)).length t ws (k + i) τ out L hws (by omega) (Nat.le_refl _) (by omega) htok
        obtain ⟨_, ⟨b, k1, τ1, out1, L1, rfl, ht1, hp1, hp2, hp3⟩, hr2⟩ := hb
        rw [hn3] at hp3
        obtain ⟨rfl, hp4⟩ := hp3
        simp at hr2
        simp [h3, h0, i1, hnn', he, hr2]
        exact nots_end (b := false) hE hlen hok htok k1 rfl ht1 i (by simp [h0]) (by simp [h3]) (by simp) hp1 (by omega) ⟨rfl, hp4⟩
      | cons x r =>
        have hx : ws[k + i]? = some x := drop_head.2 ⟨r, hn3⟩
        have hd1 := drop_succ hn3
        have hxn : ¬ x = [110, 111, 116] := by rintro rfl; exact hnn hx
        have hlt : k + i < ws.length := (List.getElem?_eq_some_iff.1 hx).1
        by_cases c1 : x = wOpen
        · subst c1
          obtain ⟨m', rfl⟩ : ∃ m', m = m' + 1 := ⟨m - 1, by simp at hm; omega⟩
          obtain ⟨_, ⟨b, k1, τ1, out1, L1, rfl, ht1, hp1, hp2, hp3⟩, hr2⟩ := hp m' rfl t ws (k + i + 1) τ out L hws (by omega) (by simp at hm ⊢; omega) (by omega) htok
          rw [hd1] at hp3
          have i2 := fun w => is_c (H0 := H0) hE (t := t) (ws := ws) k1 k1 rfl (by omega) hlen (τ := τ1) (out := out1) (L := L1) w
          simp at hr2
          cases ho : orF r with
          | error e =>
            rw [ho] at hp3
            obtain ⟨rfl, hp4⟩ := hp3
            simp [h3, h0, i1, hx, wOpen, wNot, hr2]
            exact nots_end (b := false) hE hlen hok htok k1 rfl ht1 i (by simp [h0]) (by simp [h3]) (by simp) hp1 (by omega) (by simpa [addN, partR, wOpen, ho, closeS] using hp4)
          | ok z =>
            obtain ⟨ts, r2⟩ := z
            rw [ho] at hp3
            obtain ⟨rfl, hp4, hp5⟩ := hp3
            cases r2 with
            | nil =>
              have hy : ws[k1]? = none := by simpa using hp4
              have hy2 : k1 = ws.length := by simp at hp4; omega
              simp [h3, h0, i1, hx, wOpen, wNot, hr2, i2, hy]
              exact nots_end (b := false) hE hlen hok htok k1 rfl ht1 i (by simp [h0]) (by simp [h3]) (by simp) hp1 (by omega) (by simpa [addN, partR, wOpen, ho, closeS] using hy2)
            | cons y r3 =>
              have hy : ws[k1]? = some y := drop_head.2 ⟨r3, hp4⟩
              have hyl : k1 < ws.length := (List.getElem?_eq_some_iff.1 hy).1
              have hd2 := drop_succ hp4
              by_cases c2 : y = wClose
              · subst c2
                simp [h3, h0, i1, hx, wOpen, wNot, hr2, i2, hy, wClose]
                exact nots_end (b := true) hE hlen hok htok (k1 + 1) (by simp) ht1 i (by simp [h0]) (by simp [h3]) (by simp) (by omega) (by omega) (by simp [addN, partR, wOpen, ho, closeS, wClose, hd2, hp5])
              · have hyl2 : (ws.drop k1).length = r3.length + 1 := by rw [hp4]; rfl
                simp at hyl2
                have c2' : ¬ y = [41] := c2
                simp [h3, h0, i1, hx, wOpen, wNot, hr2, i2, hy, c2']
                exact nots_end (b := false) hE hlen hok htok k1 rfl ht1 i (by simp [h0]) (by simp [h3]) (by simp) hp1 (by omega) (by simp [addN, partR, wOpen, ho, closeS, c2]; omega)
        · have c1' : ¬ x = [40] := c1
          by_cases c2 : x = wFailed
          · subst c2
            have ha := fun P => app_out (t' := .exact) (H0 := H0) rfl htok (by omega) P 3 [] 0 0
            simp [h3, h0, i1, hx, wFailed, wNot, ha]
            exact nots_end (b := true) hE hlen hok htok (k + i + 1) (by simp) (tok_app htok (opT 3)) i (by simp [h0]) (by simp [h3]) (by simp) (by omega) (by simp; omega) (by simp [addN, partR, wOpen, wFailed, hd1, opT])
          · have c2' : ¬ x = [102, 97, 105, 108, 101, 100] := c2
            have hb := basic_c (H0 := H0) hE (ws.drop (k + i)).length t ws (k + i) τ out L hws (by omega) (Nat.le_refl _) (by omega) htok
            obtain ⟨_, ⟨b, k1, τ1, out1, L1, rfl, ht1, hp1, hp2, hp3⟩, hr2⟩ := hb
            rw [hn3] at hp3
            simp at hr2
            simp [h3, h0, i1, hx, hxn, c1', c2', hr2]
            refine nots_end (b := b) hE hlen hok htok k1 rfl ht1 i (by simp [h0]) (by simp [h3]) (by simp) hp1 (by omega) ?_
            simp only [partR, c1, c2, if_false]
            cases hbs : basicS (x :: r) with
            | error e => rw [hbs] at hp3; exact hp3
            | ok z =>
              rw [hbs] at hp3
              obtain ⟨q1, q2, q3⟩ := hp3
              exact ⟨q1, q2, by rw [q3]; simp⟩
  · simp
theorem basicS_eats (m : Nat) : Eats basicS m := by
  intro l _
  match l with
  | [] => simp [basicS, Ate]
  | s :: r =>
    simp only [basicS]
    split
    · match r with
      | [] => simp [restB, Ate]
      | x :: r =>
        simp only [restB]
        split
        · simp [Ate]
          refine ⟨by omega, by omega, [s, x], rfl⟩
        · split
          · simp [Ate]
            refine ⟨by omega, by omega, [s, x], rfl⟩
          · split
            · match r with
              | [] => simp [codeB, Ate]
              | o :: r =>
                simp only [codeB]
                cases rels.findIdx? (· == o) with
                | none => simp [Ate]
                | some j =>
                  match r with
                  | [] => simp [Ate]
                  | v :: r =>
                    simp only
                    cases numS v with
                    | none => simp [Ate]
                    | some n =>
                      simp [Ate]
                      refine ⟨by omega, by omega, [s, x, o, v], rfl⟩
            · simp [Ate]
    · simp [Ate]
theorem partS_eats {orF : List Str → PR} {m : Nat} (hp : ∀ m', m = m' + 1 → Eats orF m') : Eats (partS orF) m := by
  intro l hl
  have h1 := notsS_len l
  have h2 := notsS_drop l
  have h3 : ∃ a, l = a ++ (notsS l).2 := ⟨l.take (notsS l).1, by rw [← h2]; simp⟩
  unfold partS
  generalize (notsS l).1 = c at *
  generalize (notsS l).2 = r at *
  clear h2
  have key : Ate r (partR orF r) := by
    match r with
    | [] => simp [partR, Ate]
    | x :: r =>
      simp only [partR]
      split
      · obtain ⟨m', rfl⟩ : ∃ m', m = m' + 1 := ⟨m - 1, by simp at h1; omega⟩
        have h4 := hp m' rfl r (by simp at h1; omega)
        cases ho : orF r with
        | error e => rw [ho] at h4; simp [closeS, Ate] at h4 ⊢; omega
        | ok z =>
          obtain ⟨ts, r2⟩ := z
          rw [ho] at h4
          simp only [Ate] at h4
          obtain ⟨g1, g2, a, rfl⟩ := h4
          match r2 with
          | [] => simp [closeS, Ate]
          | y :: r3 =>
            simp only [closeS]
            split
            · simp [Ate] at g1 g2 ⊢
              refine ⟨by omega, by omega, x :: (a ++ [y]), by simp⟩
            · simp [Ate] at g1 g2 ⊢
              omega
      · split
        · simp [Ate]
          exact ⟨by omega, [x], rfl⟩
        · exact basicS_eats (x :: r).length (x :: r) (Nat.le_refl _)
  cases hpr : partR orF r with
  | error e => rw [hpr] at key; simp [addN, Ate] at key ⊢; omega
  | ok z =>
    obtain ⟨ts, r'⟩ := z
    rw [hpr] at key
    simp only [addN, Ate] at key ⊢
    obtain ⟨g1, g2, a, rfl⟩ := key
    obtain ⟨b, rfl⟩ := h3
    simp at h1 g1 g2 ⊢
    refine ⟨by omega, by omega, b ++ a, by simp⟩
def orS : Nat → List Str → PR
  | 0, l => .error l
  | n + 1, l => chainS (chainS (partS (orS n)) wAnd 5 (n + 1)) wOr 6 (n + 1) l
theorem orS_eats : ∀ n, Eats (orS (n + 1)) n
  | 0 => chainS_eats (chainS_eats (partS_eats fun m' h => by omega))
  | n + 1 => chainS_eats (chainS_eats (partS_eats fun m' h => by
    obtain rfl : n = m' := by omega
    exact orS_eats n))
theorem ends_leave {t : Tail} {ws : List Str} {k : Nat} {R : PR} {out0 out : List Test} {p : Int} {τ : Tail} {L : Heap} {b : Bool} {H' : Heap} (ht : TokOk H0.length L τ out) (h : Ends H0 t ws k R out0 (.bool b, H')) :
    Ends H0 t ws k R out0 (leave true (H0 ++ PObj t ws p τ out :: L) (.bool b) H') := by
  obtain ⟨b', k', τ', out', L', h1, h2, h3⟩ := h
  simp only [Prod.mk.injEq, PV.bool.injEq] at h1
  obtain ⟨rfl, rfl⟩ := h1
  exact done_ps k' rfl ht h2 h3
theorem ends_bool {t : Tail} {ws : List Str} {k : Nat} {R : PR} {out0 : List Test} {r : PV × Heap} (h : Ends H0 t ws k R out0 r) : ∃ b H', r = (.bool b, H') := by
  obtain ⟨b', k', τ', out', L', h1, h2, h3⟩ := h
  exact ⟨_, _, h1⟩
theorem and_c (hE : EnvP E) (n : Nat) (hp : ∀ m', n = m' + 1 → Parses H0 (call E 21 [.ptr H0.length 0]) (orS n) m') (he : ∀ m', n = m' + 1 → Eats (orS n) m') :
    Parses H0 (call E 46 [.ptr H0.length 0]) (chainS (partS (orS n)) wAnd 5 (n + 1)) n := by
  intro t ws k τ out L hws hk hm hok htok
  have hpart := part_c (H0 := H0) hE (orF := orS n) (m := n) hp
  obtain ⟨r, h1, h2⟩ := chain_c (H0 := H0) hE (pf := .func (.func 66) [.ptr H0.length 0] []) (part := partS (orS n)) (m := n) hpart (partS_eats he) wAnd 5 (n + 1) (by omega) t ws k τ out L hws hk hm hok htok
  obtain ⟨b, H', rfl⟩ := ends_bool h1
  refine call_wpQ hE.f46 (hE.p _ (by decide)) ⟨rfl, by simp [F46], ?_⟩
  simp only [wAnd] at h2
  simp [F46, h2]
  exact ends_leave htok h1
theorem or_c (hE : EnvP E) : ∀ n, Parses H0 (call E 21 [.ptr H0.length 0]) (orS (n + 1)) n := by
  have step : ∀ n, (∀ m', n = m' + 1 → Parses H0 (call E 21 [.ptr H0.length 0]) (orS n) m') → (∀ m', n = m' + 1 → Eats (orS n) m') → Parses H0 (call E 21 [.ptr H0.length 0]) (orS (n + 1)) n := by
    intro n hp he t ws k τ out L hws hk hm hok htok
    have hand := and_c (H0 := H0) hE n hp he
    obtain ⟨r, h1, h2⟩ := chain_c (H0 := H0) hE (pf := .func (.func 46) [.ptr H0.length 0] []) (part := chainS (partS (orS n)) wAnd 5 (n + 1)) (m := n) hand (chainS_eats (partS_eats he)) wOr 6 (n + 1) (by omega) t ws k τ out L hws hk hm hok htok
    obtain ⟨b, H', rfl⟩ := ends_bool h1
    refine call_wpQ hE.f21 (hE.p _ (by decide)) ⟨rfl, by simp [F21], ?_⟩
    simp only [wOr] at h2
    simp [F21, h2]
    exact ends_leave htok h1
  intro n
  induction n with
  | zero => exact step 0 (fun m' h => by omega) (fun m' h => by omega)
  | succ n ih =>
    refine step (n + 1) (fun m' h => ?_) (fun m' h => ?_)
    · obtain rfl : n = m' := by omega
      exact ih
    · obtain rfl : n = m' := by omega
      exact orS_eats n
theorem leave_tup {τ : Tail} {xs : List PV} (h : plainL xs = true) {a b : Int} (M : Heap) : leave true H0 (.tup [.sl τ xs, .int .i64 a, .int .i64 b]) (H0 ++ M) = (.tup [.sl .shut xs, .int .i64 a, .int .i64 b], H0) := by
  unfold leave
  have e : (((PV.tup [.sl τ xs, .int .i64 a, .int .i64 b]).frz (H0 ++ M) H0.length).frz (H0 ++ M) H0.length).strip = .tup [.sl .shut xs, .int .i64 a, .int .i64 b] := by
    simp only [PV.frz, frzL, plainL_frz _ _ h, PV.strip, stripL, plainL_strip h]
  have e3 : (PV.tup [.sl .shut xs, .int .i64 a, .int .i64 b]).idsLt H0.length = true := PV.plain_ids _ (by simp [PV.plain, plainL, h])
  simp [e, e3]
/-- What Parse makes of words: tests, where it stopped, an error. -/
def parseS (ws : List Str) : List Test × Nat × Int :=
  if ws = [] then ([], 0, 0) else
  match orS (ws.length + 1) ws with
  | .error e => ([], ws.length - e.length, 3)
  | .ok (ts, r) => if r ≠ [] then ([], ws.length - r.length, 3) else if 32 < ts.length then ([], 0, 8) else (ts, 0, 0)
theorem parse_c (hE : EnvP E) {t : Tail} (ws : List Str) (hws : ws.length ≤ 1000000 ∧ ∀ w ∈ ws, w.length ≤ 281474976710656) :
    call E 8 [.sl t (strs ws)] H0 = some (.tup [.sl .shut (tests (parseS ws).1), .int .i64 (parseS ws).2.1, .int .i64 (parseS ws).2.2], H0) := by
  refine call_wp hE.f8 (hE.p _ (by decide)) ⟨rfl, by simp [F8], ?_⟩
  have htn : tests [] = [] := rfl
  cases hw : ws with
  | nil =>
    simp [F8, strs, parseS, htn]
    simpa using leave_tup (H0 := H0) (τ := .exact) (xs := []) rfl (a := 0) (b := 0) []
  | cons w r =>
    rw [← hw]
    have hlen : ¬ ws.length = 0 := by rw [hw]; simp
    have hlen2 : ¬ (ws.length : Int) = 0 := by omega
    have hne : ¬ ws = [] := by rw [hw]; simp
    obtain ⟨_, ⟨b, k1, τ1, out1, L1, rfl, ht1, hp1, hp2, hp3⟩, hr2⟩ := or_c (H0 := H0) hE ws.length t ws 0 .exact [] [] hws (by omega) (by simp) (by simp) (.inl ⟨rfl, rfl⟩)
    simp [htn] at hp3
    simp [PObj, htn] at hr2
    cases ho : orS (ws.length + 1) ws with
    | error e =>
      rw [ho] at hp3
      simp at hp3
      obtain ⟨rfl, hp4⟩ := hp3
      have hk : ws.length - e.length = k1 := by omega
      simp [F8, hlen2, hne, hr2, parseS, ho, hk, htn]
      exact leave_tup rfl _
    | ok z =>
      obtain ⟨ts, r2⟩ := z
      rw [ho] at hp3
      simp at hp3
      obtain ⟨rfl, hp4, rfl⟩ := hp3
      have hl : (ws.drop k1).length = r2.length := by rw [hp4]
      simp at hl
      by_cases hr : r2 = []
      · subst hr
        have hk1 : ¬ ((k1 : Int) < ws.length) := by simp at hl; omega
        have hk2 : ¬ (k1 < ws.length) := by simp at hl; omega
        by_cases h32 : 32 < out1.length
        · have h32' : (32 : Int) < out1.length := by omega
          simp [F8, hlen2, hne, hr2, parseS, ho, hk1, hk2, h32, h32', htn]
          exact leave_tup rfl _
        · have h32' : ¬ (32 : Int) < out1.length := by omega
          simp [F8, hlen2, hne, hr2, parseS, ho, hk1, hk2, h32, h32', htn]
          exact leave_tup (tests_plain _) _
      · have hr' : 0 < r2.length := List.length_pos_iff.2 hr
        have hk1 : ((k1 : Int) < ws.length) := by omega
        have hk2 : (k1 < ws.length) := by omega
        have hk : ws.length - r2.length = k1 := by omega
        simp [F8, hlen2, hne, hr2, parseS, ho, hk1, hk2, hr, hk, htn]
        exact leave_tup rfl _
end Go.Flat
