/- Part of a proof about a given Go program (texts ZCon3): lemmas, each for every value of its variables, under the hypotheses that it names. -/
import Derived.Test.YtkmlfjnmoieeeaaGreatDoorZCon2
set_option linter.unusedVariables false
set_option linter.unusedSimpArgs false
namespace Go.Flat
variable {E : Env} {H : Heap}
def Test.bare (t : Test) : Bool := decide (t.step = [] ∧ t.op = 0 ∧ t.n = 0)
def isLeaf (kn : Str → Bool) (t : Test) : Bool :=
  decide (t.kind = 3) && t.bare || decide ((t.kind = 1 ∨ t.kind = 2) ∧ t.op = 0 ∧ t.n = 0) && kn t.step || decide (t.kind = 0 ∧ 0 ≤ t.op ∧ t.op ≤ 5 ∧ 0 ≤ t.n ∧ t.n ≤ 4095) && kn t.step
def tstep (kn : Str → Bool) (i : Int) (t : Test) (st : List Node) : Option (List Node) :=
  if t.kind = 4 ∧ t.bare = true then (match st with
    | a :: r => some (.neg a :: r)
    | _ => none)
  else if (t.kind = 5 ∨ t.kind = 6) ∧ t.bare = true then (match st with
    | b :: a :: r => some (.pair (decide (t.kind = 5)) a b :: r)
    | _ => none)
  else if isLeaf kn t then some (.leaf t i :: st) else none
def trun (kn : Str → Bool) : Int → List Test → List Node → Option (List Node)
  | _, [], st => some st
  | i, t :: ts, st => (tstep kn i t st).bind (trun kn (i + 1) ts)
def single : Option (List Node) → Option Node
  | some [x] => some x
  | _ => none
def tree (kn : Str → Bool) (l : List Test) : Option Node := if 32 < l.length then none else single (trun kn 0 l [])
def encS (st : List Node) : List PV := st.reverse.map Node.enc
@[simp] theorem encS_length (st : List Node) : (encS st).length = st.length := by simp [encS]
def resT (x : Option Node) : PV := .tup [match x with | some x => x.enc | none => .niliface, .bool x.isSome]
@[simp] theorem resT_plain (x : Option Node) : (resT x).plain = true := by
  cases x <;> simp [resT, PV.plain, plainL, Node.plain]
def StackAt (H : Heap) (v : PV) (H' : Heap) (st : List Node) : Prop :=
  ∃ L, H' = H ++ L ∧ match st with
    | [] => v = .sl .exact []
    | st => ∃ j, v = .view (H.length + j) 1 0 st.length ∧ L[j]? = some (.vec 1 (encS st))
theorem failR {kn : Str → Bool} {l : List Test} {R : Option (List Node)} (ht : tree kn l = single R) (h : R = none) (M : Heap) : leave true H (.tup [.niliface, .bool false]) (H ++ M) = (resT (tree kn l), H) := by
  rw [show resT (tree kn l) = .tup [.niliface, .bool false] by rw [ht, h]; rfl]
  exact leave_plain rfl M
theorem okR {kn : Str → Bool} {l : List Test} {R : Option (List Node)} {k : Nat} {v : PV} {H' : Heap} (hk : k < l.length) (st' : List Node) (h : R = trun kn (k + 1) (l.drop (k + 1)) st') (hs : StackAt H v H' st') (hle : st'.length ≤ k + 1) :
    ∃ m, m < l.length - k ∧ ∃ k1 : Nat, m = l.length - k1 ∧ k1 ≤ l.length ∧ (k : Int) + 1 = k1 ∧ ∃ st, StackAt H v H' st ∧ st.length ≤ k1 ∧ R = trun kn k1 (l.drop k1) st :=
  ⟨l.length - (k + 1), by omega, k + 1, rfl, by omega, by omega, st', hs, hle, by rw [h]; rfl⟩
theorem stack_new {L : Heap} {c : HObj} {x : Node} {p : PV} (hp : p = x.enc) : StackAt H (.view (H.length + (L.length + 1)) 1 0 1) (H ++ (L ++ [c, .vec 1 [p], .dead])) [x] := by
  subst hp
  exact ⟨_, rfl, L.length + 1, rfl, by simp [encS]⟩
theorem stack_push {L : Heap} {c : HObj} {j n m : Nat} {st : List Node} {x : Node} {p : PV} (hp : p = x.enc) (hn : n = (x :: st).length) (hm : m = st.length) :
    StackAt H (.view (H.length + (L.length + 1)) 1 0 n) (H ++ ((L ++ [c]).set j .dead ++ [.vec 1 ((encS st).take m ++ [p]), .dead])) (x :: st) := by
  subst hp
  subst hn
  subst hm
  refine ⟨_, rfl, L.length + 1, rfl, ?_⟩
  rw [List.getElem?_append_right (by simp)]
  have e : (encS st).take st.length = encS st := List.take_of_length_le (by simp)
  rw [e]
  simp [encS]
theorem stack_pair {L : Heap} {c : HObj} {j n m : Nat} {a b x : Node} {r : List Node} {p : PV} (hp : p = x.enc) (hn : n = (x :: r).length) (hm : m = r.length) :
    StackAt H (.view (H.length + (L.length + 1)) 1 0 n) (H ++ ((L ++ [c]).set j .dead ++ [.vec 1 ((encS (b :: a :: r)).take m ++ [p]), .dead])) (x :: r) := by
  subst hp
  subst hn
  subst hm
  refine ⟨_, rfl, L.length + 1, rfl, ?_⟩
  rw [List.getElem?_append_right (by simp)]
  simp [encS]
theorem stack_neg {L : Heap} {c : HObj} {j n m : Nat} {a : Node} {r : List Node} {p : PV} (hj : L[j]? = some (.vec 1 (encS (a :: r)))) (hp : p = (Node.neg a).enc) (hn : n = (a :: r).length) (hm : m = r.length) :
    StackAt H (.view (H.length + j) 1 0 n) (H ++ (L ++ [c]).set j (.vec 1 ((encS (a :: r)).set m p))) (.neg a :: r) := by
  subst hp
  subst hn
  subst hm
  refine ⟨_, rfl, j, rfl, ?_⟩
  obtain ⟨hl, _⟩ := List.getElem?_eq_some_iff.1 hj
  rw [List.getElem?_set_self (by simp; omega)]
  simp [encS]
theorem wrap0 : IntKind.i64.wrap 0 = 0 := rfl
theorem wrap1 : IntKind.i64.wrap 1 = 1 := rfl
set_option maxHeartbeats 4000000 in
theorem tree_c (hE : EnvD E) {kn : Str → Bool} {kf : PV} (hcell : kf.isCell = true) (hkn : ∀ s L, callVal (call E) kf [.str s] (H ++ L) = some (.bool (kn s), H ++ L)) {t : Tail} (l : List Test) (hl : l.length ≤ 9223372036854775807) :
    call E 25 [.sl t (tests l), kf] H = some (resT (tree kn l), H) := by
  refine call_wp hE.f25 (hE.p _ (by decide)) ⟨rfl, by simp [F25], ?_⟩
  by_cases h32 : 32 < l.length
  · have h32' : (32 : Int) < l.length := by omega
    simp [F25, h32']
    rw [show resT (tree kn l) = .tup [.niliface, .bool false] by simp [tree, h32, resT]]
    exact leave_plain0 rfl
  have h32' : ¬ (32 : Int) < l.length := by omega
  have htr : tree kn l = single (trun kn 0 l []) := by simp [tree, h32]
  simp only [F25, wp_seq, wp_region]
  simp [h32']
  refine wp_loop (fun n T H' => ∃ k : Nat, n = l.length - k ∧ k ≤ l.length ∧ T 16 = .int .i64 k ∧ T 15 = .int .i64 l.length ∧ T 14 = .sl t (tests l) ∧ T 1 = kf ∧ ∃ st : List Node, StackAt H (T 6) H' st ∧ st.length ≤ k ∧ trun kn 0 l [] = trun kn k (l.drop k) st) ?_ (n := l.length) ⟨0, ?_⟩
  · rintro n T H' ⟨k, rfl, hk, h16, h15, h14, h1, st, ⟨L, rfl, hst⟩, hsk, hrun⟩
    revert htr hrun
    generalize trun kn 0 l [] = R
    intro htr hrun
    by_cases hk' : k < l.length
    · have hg : (tests l)[k]? = some (l[k].enc) := by simp [tests, hk']
      have hw : IntKind.i64.wrap ((k : Int) + 1) = (k : Int) + 1 := wrap64 (by omega) (by omega)
      have hd : l.drop k = l[k] :: l.drop (k + 1) := by rw [List.drop_eq_getElem_cons hk']
      rw [hd, trun] at hrun
      generalize l[k] = te at hg hrun
      obtain ⟨kd, s, o, m⟩ := te
      have hkc : (kd = 0 ∨ kd = 1 ∨ kd = 2 ∨ kd = 3 ∨ kd = 4 ∨ kd = 5 ∨ kd = 6) ∨ (kd ≠ 0 ∧ kd ≠ 1 ∧ kd ≠ 2 ∧ kd ≠ 3 ∧ kd ≠ 4 ∧ kd ≠ 5 ∧ kd ≠ 6) := by omega
      have hk32 : k < 32 := by omega
      by_cases hb : s = [] ∧ o = 0 ∧ m = 0
      · obtain ⟨rfl, rfl, rfl⟩ := hb
        rcases st with _ | ⟨b, _ | ⟨a, r⟩⟩
        · have h6 : T 6 = .sl .exact [] := hst
          rcases hkc with hkc | ⟨n0, n1, n2, n3, n4, n5, n6⟩
          · cases hs : kn [] <;> rcases hkc with rfl | rfl | rfl | rfl | rfl | rfl | rfl
            all_goals simp [h16, h15, h14, h1, hk', iaSl_at hg, hw, h6, hkn, wrap0, wrap1, hs]
            all_goals first
              | (refine failR htr ?_ _; simp [hrun, tstep, isLeaf, Test.bare, hs]; done)
              | (refine okR hk' ([.leaf ⟨_, _, _, _⟩ _]) ?_ (stack_new rfl) (by simp); simp [hrun, tstep, isLeaf, Test.bare, hs]; done)
          · simp [h16, h15, h14, h1, hk', iaSl_at hg, hw, h6, hkn, wrap0, wrap1, n0, n1, n2, n3, n4, n5, n6]
            all_goals first
              | (refine failR htr ?_ _; simp [hrun, tstep, isLeaf, Test.bare, n0, n1, n2, n3, n4, n5, n6]; done)
        · obtain ⟨j, h6, hj⟩ := hst
          have hj' := get_more hj
          have hgl : (encS [b])[0]? = some b.enc := by simp [encS]
          rcases hkc with hkc | ⟨n0, n1, n2, n3, n4, n5, n6⟩
          · cases hs : kn [] <;> rcases hkc with rfl | rfl | rfl | rfl | rfl | rfl | rfl
            all_goals simp [h16, h15, h14, h1, hk', iaSl_at hg, hw, h6, hkn, wrap0, wrap1, hs, hj', loadV_at hgl, storeV_at hgl]
            all_goals first
              | (refine failR htr ?_ _; simp [hrun, tstep, isLeaf, Test.bare, hs]; done)
              | (refine okR hk' ([.neg b]) ?_ (stack_neg hj rfl rfl rfl) (by simp); simp [hrun, tstep, isLeaf, Test.bare, hs]; done)
              | (refine okR hk' ([.leaf ⟨_, _, _, _⟩ _, b]) ?_ (stack_push rfl rfl rfl) (by simp at hsk ⊢; omega); simp [hrun, tstep, isLeaf, Test.bare, hs]; done)
          · simp [h16, h15, h14, h1, hk', iaSl_at hg, hw, h6, hkn, wrap0, wrap1, n0, n1, n2, n3, n4, n5, n6, hj', loadV_at hgl, storeV_at hgl]
            all_goals first
              | (refine failR htr ?_ _; simp [hrun, tstep, isLeaf, Test.bare, n0, n1, n2, n3, n4, n5, n6]; done)
        · obtain ⟨j, h6, hj⟩ := hst
          have hj' := get_more hj
          have hgb : (encS (b :: a :: r))[r.length + 1]? = some b.enc := by simp [encS]
          have hga : (encS (b :: a :: r))[r.length]? = some a.enc := by simp [encS]
          have hr : r.length + 1 + 1 ≤ 32 := by simp at hsk; omega
          have hr1 : r.length + 1 + 1 + 1 ≤ 4294967296 := by omega
          have hr2 : r.length + 1 ≤ 4294967296 := by omega
          have w1 : IntKind.i64.wrap ((r.length : Int) + 1 + 1 - 1) = (r.length : Int) + 1 := by rw [wrap64] <;> omega
          have w1a : IntKind.i64.wrap ((r.length : Int) + 1) = (r.length : Int) + 1 := by rw [wrap64] <;> omega
          have b6 : (r.length : Int) < (r.length : Int) + 1 := by omega
          have w2 : IntKind.i64.wrap ((r.length : Int) + 1 + 1 - 2) = (r.length : Int) := by rw [wrap64] <;> omega
          have b1 : (1 : Int) ≤ (r.length : Int) + 1 + 1 := by omega
          have b2 : (2 : Int) ≤ (r.length : Int) + 1 + 1 := by omega
          have b3 : (0 : Int) ≤ (r.length : Int) + 1 := by omega
          have b4 : ((r.length : Int) + 1).toNat = r.length + 1 := by omega
          have hp2 : (2 : Int).toNat = 2 := rfl
          have hp3 : r.length ≤ r.length + 1 + 1 := by omega
          have b5 : (r.length : Int) < (r.length : Int) + 1 + 1 := by omega
          rcases hkc with hkc | ⟨n0, n1, n2, n3, n4, n5, n6⟩
          · cases hs : kn [] <;> rcases hkc with rfl | rfl | rfl | rfl | rfl | rfl | rfl
            all_goals simp [h16, h15, h14, h1, hk', iaSl_at hg, hw, h6, hkn, wrap0, wrap1, hs, hj', loadV_at hga, loadV_at hgb, storeV_at hgb, w1, w1a, b6, w2, hp2, hp3, b1, b2, b3, b4, b5, hr1, hr2]
            all_goals first
              | (refine failR htr ?_ _; simp [hrun, tstep, isLeaf, Test.bare, hs]; done)
              | (refine okR hk' ((.neg b :: a :: r)) ?_ (stack_neg hj rfl rfl rfl) (by simp at hsk ⊢; omega); simp [hrun, tstep, isLeaf, Test.bare, hs]; done)
              | (refine okR hk' ((.leaf ⟨_, _, _, _⟩ _ :: b :: a :: r)) ?_ (stack_push rfl rfl rfl) (by simp at hsk ⊢; omega); simp [hrun, tstep, isLeaf, Test.bare, hs]; done)
              | (refine okR hk' ((.pair _ a b :: r)) ?_ (stack_pair rfl rfl rfl) (by simp at hsk ⊢; omega); simp [hrun, tstep, isLeaf, Test.bare, hs]; done)
          · simp [h16, h15, h14, h1, hk', iaSl_at hg, hw, h6, hkn, wrap0, wrap1, n0, n1, n2, n3, n4, n5, n6, hj', loadV_at hga, loadV_at hgb, storeV_at hgb, w1, w1a, b6, w2, hp2, hp3, b1, b2, b3, b4, b5, hr1, hr2]
            all_goals first
              | (refine failR htr ?_ _; simp [hrun, tstep, isLeaf, Test.bare, n0, n1, n2, n3, n4, n5, n6]; done)
      · have hbe : (List.isEmpty s && (o == 0 && m == 0)) = false := by
          cases s <;> simp_all
        rcases st with _ | ⟨b, _ | ⟨a, r⟩⟩
        · have h6 : T 6 = .sl .exact [] := hst
          rcases hkc with hkc | ⟨n0, n1, n2, n3, n4, n5, n6⟩
          · rcases hkc with rfl | rfl | rfl | rfl | rfl | rfl | rfl
            · by_cases c1 : 0 ≤ o <;> by_cases c2 : o ≤ 5 <;> by_cases c3 : 0 ≤ m <;> by_cases c4 : m ≤ 4095 <;> cases hs : kn s
              all_goals simp [h16, h15, h14, h1, hk', iaSl_at hg, hw, h6, hkn, wrap0, wrap1, hbe, c1, c2, c3, c4, hs]
              all_goals first
                | (refine failR htr ?_ _; simp [hrun, tstep, isLeaf, Test.bare, hb, c1, c2, c3, c4, hs]; done)
                | (refine okR hk' ([.leaf ⟨_, _, _, _⟩ _]) ?_ (stack_new rfl) (by simp); simp [hrun, tstep, isLeaf, Test.bare, hb, c1, c2, c3, c4, hs]; done)
            · by_cases c1 : o = 0 <;> by_cases c2 : m = 0 <;> cases hs : kn s
              all_goals simp [h16, h15, h14, h1, hk', iaSl_at hg, hw, h6, hkn, wrap0, wrap1, hbe, c1, c2, hs]
              all_goals first
                | (refine failR htr ?_ _; simp [hrun, tstep, isLeaf, Test.bare, hb, c1, c2, hs]; done)
                | (refine okR hk' ([.leaf ⟨_, _, _, _⟩ _]) ?_ (stack_new rfl) (by simp); simp [hrun, tstep, isLeaf, Test.bare, hb, c1, c2, hs]; done)
            · by_cases c1 : o = 0 <;> by_cases c2 : m = 0 <;> cases hs : kn s
              all_goals simp [h16, h15, h14, h1, hk', iaSl_at hg, hw, h6, hkn, wrap0, wrap1, hbe, c1, c2, hs]
              all_goals first
                | (refine failR htr ?_ _; simp [hrun, tstep, isLeaf, Test.bare, hb, c1, c2, hs]; done)
                | (refine okR hk' ([.leaf ⟨_, _, _, _⟩ _]) ?_ (stack_new rfl) (by simp); simp [hrun, tstep, isLeaf, Test.bare, hb, c1, c2, hs]; done)
            all_goals simp [h16, h15, h14, h1, hk', iaSl_at hg, hw, h6, hkn, wrap0, wrap1, hbe]
            all_goals first
              | (refine failR htr ?_ _; simp [hrun, tstep, isLeaf, Test.bare, hb]; done)
          · simp [h16, h15, h14, h1, hk', iaSl_at hg, hw, h6, hkn, wrap0, wrap1, hbe, n0, n1, n2, n3, n4, n5, n6]
            all_goals first
              | (refine failR htr ?_ _; simp [hrun, tstep, isLeaf, Test.bare, hb, n0, n1, n2, n3, n4, n5, n6]; done)
        · obtain ⟨j, h6, hj⟩ := hst
          have hj' := get_more hj
          have hgl : (encS [b])[0]? = some b.enc := by simp [encS]
          rcases hkc with hkc | ⟨n0, n1, n2, n3, n4, n5, n6⟩
          · rcases hkc with rfl | rfl | rfl | rfl | rfl | rfl | rfl
            · by_cases c1 : 0 ≤ o <;> by_cases c2 : o ≤ 5 <;> by_cases c3 : 0 ≤ m <;> by_cases c4 : m ≤ 4095 <;> cases hs : kn s
              all_goals simp [h16, h15, h14, h1, hk', iaSl_at hg, hw, h6, hkn, wrap0, wrap1, hbe, c1, c2, c3, c4, hs, hj', loadV_at hgl, storeV_at hgl]
              all_goals first
                | (refine failR htr ?_ _; simp [hrun, tstep, isLeaf, Test.bare, hb, c1, c2, c3, c4, hs]; done)
                | (refine okR hk' ([.leaf ⟨_, _, _, _⟩ _, b]) ?_ (stack_push rfl rfl rfl) (by simp at hsk ⊢; omega); simp [hrun, tstep, isLeaf, Test.bare, hb, c1, c2, c3, c4, hs]; done)
            · by_cases c1 : o = 0 <;> by_cases c2 : m = 0 <;> cases hs : kn s
              all_goals simp [h16, h15, h14, h1, hk', iaSl_at hg, hw, h6, hkn, wrap0, wrap1, hbe, c1, c2, hs, hj', loadV_at hgl, storeV_at hgl]
              all_goals first
                | (refine failR htr ?_ _; simp [hrun, tstep, isLeaf, Test.bare, hb, c1, c2, hs]; done)
                | (refine okR hk' ([.leaf ⟨_, _, _, _⟩ _, b]) ?_ (stack_push rfl rfl rfl) (by simp at hsk ⊢; omega); simp [hrun, tstep, isLeaf, Test.bare, hb, c1, c2, hs]; done)
            · by_cases c1 : o = 0 <;> by_cases c2 : m = 0 <;> cases hs : kn s
              all_goals simp [h16, h15, h14, h1, hk', iaSl_at hg, hw, h6, hkn, wrap0, wrap1, hbe, c1, c2, hs, hj', loadV_at hgl, storeV_at hgl]
              all_goals first
                | (refine failR htr ?_ _; simp [hrun, tstep, isLeaf, Test.bare, hb, c1, c2, hs]; done)
                | (refine okR hk' ([.leaf ⟨_, _, _, _⟩ _, b]) ?_ (stack_push rfl rfl rfl) (by simp at hsk ⊢; omega); simp [hrun, tstep, isLeaf, Test.bare, hb, c1, c2, hs]; done)
            all_goals simp [h16, h15, h14, h1, hk', iaSl_at hg, hw, h6, hkn, wrap0, wrap1, hbe, hj', loadV_at hgl, storeV_at hgl]
            all_goals first
              | (refine failR htr ?_ _; simp [hrun, tstep, isLeaf, Test.bare, hb]; done)
          · simp [h16, h15, h14, h1, hk', iaSl_at hg, hw, h6, hkn, wrap0, wrap1, hbe, n0, n1, n2, n3, n4, n5, n6, hj', loadV_at hgl, storeV_at hgl]
            all_goals first
              | (refine failR htr ?_ _; simp [hrun, tstep, isLeaf, Test.bare, hb, n0, n1, n2, n3, n4, n5, n6]; done)
        · obtain ⟨j, h6, hj⟩ := hst
          have hj' := get_more hj
          have hgb : (encS (b :: a :: r))[r.length + 1]? = some b.enc := by simp [encS]
          have hga : (encS (b :: a :: r))[r.length]? = some a.enc := by simp [encS]
          have hr : r.length + 1 + 1 ≤ 32 := by simp at hsk; omega
          have hr1 : r.length + 1 + 1 + 1 ≤ 4294967296 := by omega
          have hr2 : r.length + 1 ≤ 4294967296 := by omega
          have w1 : IntKind.i64.wrap ((r.length : Int) + 1 + 1 - 1) = (r.length : Int) + 1 := by rw [wrap64] <;> omega
          have w1a : IntKind.i64.wrap ((r.length : Int) + 1) = (r.length : Int) + 1 := by rw [wrap64] <;> omega
          have b6 : (r.length : Int) < (r.length : Int) + 1 := by omega
          have w2 : IntKind.i64.wrap ((r.length : Int) + 1 + 1 - 2) = (r.length : Int) := by rw [wrap64] <;> omega
          have b1 : (1 : Int) ≤ (r.length : Int) + 1 + 1 := by omega
          have b2 : (2 : Int) ≤ (r.length : Int) + 1 + 1 := by omega
          have b3 : (0 : Int) ≤ (r.length : Int) + 1 := by omega
          have b4 : ((r.length : Int) + 1).toNat = r.length + 1 := by omega
          have hp2 : (2 : Int).toNat = 2 := rfl
          have hp3 : r.length ≤ r.length + 1 + 1 := by omega
          have b5 : (r.length : Int) < (r.length : Int) + 1 + 1 := by omega
          rcases hkc with hkc | ⟨n0, n1, n2, n3, n4, n5, n6⟩
          · rcases hkc with rfl | rfl | rfl | rfl | rfl | rfl | rfl
            · by_cases c1 : 0 ≤ o <;> by_cases c2 : o ≤ 5 <;> by_cases c3 : 0 ≤ m <;> by_cases c4 : m ≤ 4095 <;> cases hs : kn s
              all_goals simp [h16, h15, h14, h1, hk', iaSl_at hg, hw, h6, hkn, wrap0, wrap1, hbe, c1, c2, c3, c4, hs, hj', loadV_at hga, loadV_at hgb, storeV_at hgb, w1, w1a, b6, w2, hp2, hp3, b1, b2, b3, b4, b5, hr1, hr2]
              all_goals first
                | (refine failR htr ?_ _; simp [hrun, tstep, isLeaf, Test.bare, hb, c1, c2, c3, c4, hs]; done)
                | (refine okR hk' ((.leaf ⟨_, _, _, _⟩ _ :: b :: a :: r)) ?_ (stack_push rfl rfl rfl) (by simp at hsk ⊢; omega); simp [hrun, tstep, isLeaf, Test.bare, hb, c1, c2, c3, c4, hs]; done)
            · by_cases c1 : o = 0 <;> by_cases c2 : m = 0 <;> cases hs : kn s
              all_goals simp [h16, h15, h14, h1, hk', iaSl_at hg, hw, h6, hkn, wrap0, wrap1, hbe, c1, c2, hs, hj', loadV_at hga, loadV_at hgb, storeV_at hgb, w1, w1a, b6, w2, hp2, hp3, b1, b2, b3, b4, b5, hr1, hr2]
              all_goals first
                | (refine failR htr ?_ _; simp [hrun, tstep, isLeaf, Test.bare, hb, c1, c2, hs]; done)
                | (refine okR hk' ((.leaf ⟨_, _, _, _⟩ _ :: b :: a :: r)) ?_ (stack_push rfl rfl rfl) (by simp at hsk ⊢; omega); simp [hrun, tstep, isLeaf, Test.bare, hb, c1, c2, hs]; done)
            · by_cases c1 : o = 0 <;> by_cases c2 : m = 0 <;> cases hs : kn s
              all_goals simp [h16, h15, h14, h1, hk', iaSl_at hg, hw, h6, hkn, wrap0, wrap1, hbe, c1, c2, hs, hj', loadV_at hga, loadV_at hgb, storeV_at hgb, w1, w1a, b6, w2, hp2, hp3, b1, b2, b3, b4, b5, hr1, hr2]
              all_goals first
                | (refine failR htr ?_ _; simp [hrun, tstep, isLeaf, Test.bare, hb, c1, c2, hs]; done)
                | (refine okR hk' ((.leaf ⟨_, _, _, _⟩ _ :: b :: a :: r)) ?_ (stack_push rfl rfl rfl) (by simp at hsk ⊢; omega); simp [hrun, tstep, isLeaf, Test.bare, hb, c1, c2, hs]; done)
            all_goals simp [h16, h15, h14, h1, hk', iaSl_at hg, hw, h6, hkn, wrap0, wrap1, hbe, hj', loadV_at hga, loadV_at hgb, storeV_at hgb, w1, w1a, b6, w2, hp2, hp3, b1, b2, b3, b4, b5, hr1, hr2]
            all_goals first
              | (refine failR htr ?_ _; simp [hrun, tstep, isLeaf, Test.bare, hb]; done)
          · simp [h16, h15, h14, h1, hk', iaSl_at hg, hw, h6, hkn, wrap0, wrap1, hbe, n0, n1, n2, n3, n4, n5, n6, hj', loadV_at hga, loadV_at hgb, storeV_at hgb, w1, w1a, b6, w2, hp2, hp3, b1, b2, b3, b4, b5, hr1, hr2]
            all_goals first
              | (refine failR htr ?_ _; simp [hrun, tstep, isLeaf, Test.bare, hb, n0, n1, n2, n3, n4, n5, n6]; done)
    · have hke : k = l.length := by omega
      subst hke
      simp only [List.drop_length, trun] at hrun
      rcases st with _ | ⟨b, _ | ⟨a, r⟩⟩
      · have h6 : T 6 = .sl .exact [] := hst
        simp [h16, h15, h14, h1, h6]
        refine failR (R := none) ?_ rfl _
        rw [htr, hrun]
        rfl
      · obtain ⟨j, h6, hj⟩ := hst
        have hgl : (encS [b])[0]? = some b.enc := by simp [encS]
        simp [h16, h15, h14, h1, h6, hj, loadV_at hgl]
        rw [htr, hrun]
        exact leave_plain (resT_plain (some b)) _
      · obtain ⟨j, h6, hj⟩ := hst
        have b1 : ¬ ((r.length : Int) + 1 + 1 = 1) := by omega
        simp [h16, h15, h14, h1, h6, b1]
        refine failR (R := none) ?_ rfl _
        rw [htr, hrun]
        rfl
  · refine ⟨by simp, Nat.zero_le _, by simp, by simp, by simp, by simp, [], ⟨[], by simp, by simp⟩, by simp, rfl⟩
end Go.Flat
