/- Proved here: the given statement ConditionOppositeCardSaid (the tied card of the law ConditionOpposite): for every input that the row lets in the law returns true and its arguments read as they did. Conditions: none beyond the row's own (the listed package variables, tied to the program's text). -/
import Derived.Test.YtkmlfjnmoieeeaaDoorDOMain
import Derived.Test.YtkmlfjnmoieeeaaDoorFlatT
import Derived.Test.YtkmlfjnmoieeeaaDoorFlatX
import Derived.Test.YtkmlfjnmoieeeaaDoorRows
import Derived.Test.YtkmlfjnmoieeeaaDoorTie
import Derived.Test.YtkmlfjnmoieeeaaDoorCards
import Derived.ProofKit
import Derived.Lay
import Derived.SizedLaws
import Derived.SevenTiedAt
set_option linter.unusedVariables false
set_option linter.unusedSimpArgs false
namespace Go.Proofs.YtkmlfjnmoieeeaaDoor
open Go.ChangeShapes Go.WideShapes Go.ChangeAt Go.RowKit Go.Flat

noncomputable def theEnv : Env := { func := fun i => compFunc Tryd.prog (if i == 23 then 2 else if i == 24 || i == 43 || i == 57 then 1 else 0) (!(i == 57 || i == 26)) i, prim := fun _ => Option.none }
theorem envOk : EnvOk Tryd.prog theEnv := ⟨(fun f g h => by cases h), (fun f F h => by
  simp only [theEnv] at h
  exact ⟨_, _, h⟩), by kernel_rfl⟩
theorem envD : EnvD theEnv := ⟨fun _ => rfl, by kernel_rfl, by kernel_rfl, by kernel_rfl, by kernel_rfl, by kernel_rfl, by kernel_rfl, by kernel_rfl, by kernel_rfl, by kernel_rfl, by kernel_rfl, by kernel_rfl, by kernel_rfl, by kernel_rfl, by kernel_rfl, by kernel_rfl, by kernel_rfl⟩
theorem envN : EnvN theEnv := ⟨fun _ => rfl, by kernel_rfl, by kernel_rfl, by kernel_rfl, by kernel_rfl, by kernel_rfl, by kernel_rfl, by kernel_rfl, by kernel_rfl, by kernel_rfl, by kernel_rfl, by kernel_rfl, by kernel_rfl, by kernel_rfl, by kernel_rfl, by kernel_rfl, by kernel_rfl, by kernel_rfl, by kernel_rfl, by kernel_rfl, by kernel_rfl, by kernel_rfl⟩
theorem env26 : theEnv.func 26 = some F26 := by kernel_rfl
theorem env11 : theEnv.func 11 = some F11 := by kernel_rfl
theorem env4 : theEnv.func 4 = some F4 := by kernel_rfl
theorem awakeX : callX theEnv 40 60 5 [] [] = some (.bool true, []) := by kernel_rfl
theorem awake : call theEnv 5 [] [] = some (.bool true, []) := call_run 40 60 awakeX

/-! ### Arguments -/
def shT : Shp := .sl (.st [.int .i64, .str, .int .i64, .int .i64])
def shE : Shp := .sl (.st [.bool, .bool, .int .i64])
def shS : Shp := .sl .str
theorem choose_list {α : Type} {enc : α → PV} {Q : PV → Prop} (hQ : ∀ p, Q p → ∃ a, p = enc a) : ∀ {xs : List PV}, (∀ x ∈ xs, Q x) → ∃ l : List α, xs = l.map enc
  | [], _ => ⟨[], rfl⟩
  | x :: xs, h => by
    obtain ⟨a, rfl⟩ := hQ x (h x (by simp))
    obtain ⟨l, rfl⟩ := choose_list hQ (xs := xs) (fun y hy => h y (by simp [hy]))
    exact ⟨a :: l, rfl⟩
theorem fits_tests {p : PV} (h : Fits shT p) : ∃ l : List Test, p = .sl .shut (tests l) ∧ l.length ≤ maxLen := by
  cases h with
  | sl _ xs h hl =>
    obtain ⟨l, rfl⟩ := choose_list (enc := Test.enc) (fun p hp => by
      cases hp with
      | st _ cs hc =>
        cases hc with | cons _ _ p1 _ a1 hc =>
        cases hc with | cons _ _ p2 _ a2 hc =>
        cases hc with | cons _ _ p3 _ a3 hc =>
        cases hc with | cons _ _ p4 _ a4 hc =>
        cases hc
        cases a1 with | int _ k _ =>
        cases a2 with | str s _ =>
        cases a3 with | int _ o _ =>
        cases a4 with | int _ n _ =>
        exact ⟨⟨k, s, o, n⟩, rfl⟩) h
    exact ⟨l, rfl, by simpa using hl⟩
theorem fits_ends {p : PV} (h : Fits shE p) : ∃ l : List Flat.End, p = .sl .shut (ends l) ∧ l.length ≤ maxLen := by
  cases h with
  | sl _ xs h hl =>
    obtain ⟨l, rfl⟩ := choose_list (enc := Flat.End.enc) (fun p hp => by
      cases hp with
      | st _ cs hc =>
        cases hc with | cons _ _ p1 _ a1 hc =>
        cases hc with | cons _ _ p2 _ a2 hc =>
        cases hc with | cons _ _ p3 _ a3 hc =>
        cases hc
        cases a1 with | bool a =>
        cases a2 with | bool b =>
        cases a3 with | int _ n _ =>
        exact ⟨⟨a, b, n⟩, rfl⟩) h
    exact ⟨l, rfl, by simpa using hl⟩
theorem fits_strs {p : PV} (h : Fits shS p) : ∃ l : List Str, p = .sl .shut (strs l) ∧ l.length ≤ maxLen := by
  cases h with
  | sl _ xs h hl =>
    obtain ⟨l, rfl⟩ := choose_list (enc := PV.str) (fun p hp => by
      cases hp with
      | str s _ => exact ⟨s, rfl⟩) h
    exact ⟨l, rfl, by simpa using hl⟩

theorem trodAll_len {H : Type} {enc : TypeId × Value → H} {P : Program} {w : World} {base : Nat} {spare : Nat → Bool} {held : Bool} : ∀ {ts : List TypeId} {vs : List Value} {ds : List (DataW H)} {ps : List MemPlace},
    DataW.TrodAll enc P w base spare held ts vs ds ps → ds.length = ts.length
  | [], _, _, _, h => by
    obtain ⟨_, rfl, _⟩ := trodAll_nil h
    rfl
  | t :: ts, _, _, _, h => by
    obtain ⟨v, vs', D, ds', p, q, rfl, rfl, rfl, _, t2⟩ := trodAll_cons h
    simp [trodAll_len t2]
theorem own : ownKnob Tryd.prog.godebug = Option.none := by kernel_rfl
theorem laidOut : laidOutB Tryd.prog = true := by kernel_rfl
theorem shapes : shps Tryd.prog 5 Tryd.f4.params.toList = some [shT, shS, shE] := by kernel_rfl
theorem law (pvs : List PV) (h : FitAll [shT, shS, shE] pvs) : call theEnv 4 pvs [] = some (.bool true, []) := by
  cases h with | cons _ _ p1 _ a1 h =>
  cases h with | cons _ _ p3 _ a3 h =>
  cases h with | cons _ _ p4 _ a4 h =>
  cases h
  obtain ⟨a, rfl, ha⟩ := fits_tests a1
  obtain ⟨s, rfl, hs⟩ := fits_strs a3
  obtain ⟨e, rfl, he⟩ := fits_ends a4
  exact opp_c envD envN env26 env11 env4 awake a s e ha hs he
set_option maxRecDepth 100000 in
theorem lifted (os : Os) (started : os.Started) (H : Type) (enc : TypeId × Value → H) :
    ReturnsInHanded {} Tryd.checked os 4 .any (fun w args => (Rows.conditionOppositeSpec.pre enc Tryd.prog Tryd.f4 [] false w args ∧ laidMetH Tryd.prog Rows.conditionOppositeRow.laid w) ∧ sizedMet enc Tryd.prog Tryd.f4 (OpenSpec.ofChange Rows.conditionOppositeSpec) false w args)
      (Rows.conditionOppositeSpec.post enc Tryd.prog Tryd.f4 false true false false) := by
  refine returnsInHanded_of_change_and (C := Tryd.checked) (X := fun w _ => laidMetH Tryd.prog Rows.conditionOppositeRow.laid w) (fun _ _ _ hh h => h.of_heap hh) own started (by kernel_rfl) Tryd.func4
    (ChangeSpec.witness_shaped (enc := enc) (C := Tryd.checked) (os := os) (X := fun w _ => laidMetH Tryd.prog Rows.conditionOppositeRow.laid w) false (World.laidAll Tryd.prog os Rows.conditionOppositeRow.laid) #[.slice Option.none 0 0, .slice Option.none 0 0, .slice Option.none 0 0] 8 (World.laidAll_os _ _ _)
      (World.shaped_of_ZipB (by kernel_rfl) (by kernel_rfl)) (by kernel_rfl) (by kernel_rfl) (by kernel_rfl)
      (by rw [MakeChecks.laidMetH_plain _ _ _ (by kernel_rfl)]; exact laidMet_laidAll _ (by kernel_rfl) (by kernel_rfl))) ?_
  intro W base args ds gs before hval0 hW _ _ hL _
  have hval : ∀ (j : Nat) t v, Tryd.f4.params.toList[j]? = some t → args[j]? = some v → Value.okWide Tryd.prog W .any base t v := fun j t v ht hv => hval0 j t v (by simpa using ht) hv
  have hW' := hW
  obtain ⟨p, q, hA0, hV, rfl, _, _⟩ := hW
  have hA : DataW.TrodAll enc Tryd.prog W 0 (fun _ => true) true Tryd.f4.params.toList args.toList ds p := hA0
  obtain ⟨rfl, rfl⟩ := trodVars_none hV
  refine (law_calls envOk shapes law hA hval).mono fun e W' ⟨he, bel⟩ => ?_
  subst he
  have hst := stays_all laidOut bel (by kernel_rfl) hA
  have hlen : ds.length = 3 := (trodAll_len hA).trans (by kernel_rfl)
  have hds : ∃ d1 d2 d3, ds = [d1, d2, d3] := by
    match ds, hlen with
    | [d1, d2, d3], _ => exact ⟨d1, d2, d3, rfl⟩
  obtain ⟨d1, d2, d3, rfl⟩ := hds
  exact ⟨_, rfl, _, _, _, [], _, [], hW', trodAll_mk1 (shut_bool Tryd.underlying4 _), hst, rfl, bel.frame _, fun h => by cases h⟩
theorem over : Rows.ConditionOppositeSaid :=
  OpenClaim.holds_of_wide 4 Tryd.f4 rfl rfl rfl rfl rfl rfl rfl ⟨rfl, rfl, rfl, rfl, rfl⟩ rfl rfl rfl rfl rfl (by kernel_rfl) Tryd.func4 (by kernel_rfl)
    (of_decide_eq_true (by kernel_rfl)) (by unfold Func.isWrapper; first | (rw [if_pos (by decide +kernel)]; kernel_rfl) | (rw [if_neg (by decide +kernel)]; exact ⟨rfl, rfl⟩))
    (fun os started H enc _ => lifted os started H enc)
/-- THE TIED CARD of ConditionOpposite: for every input that the row lets in the law returns true; its listed variables are tied to the program's text. -/
theorem conditionOpposite_card : Rows.ConditionOppositeCardSaid :=
  Claim7.holds_tied_plain_at .later [] [.data, .data, .data, .data, .sentinel, .sentinel, .pinned] true (true, "f2aaf18467918638ff5a4425ce59368da7296307a268aa8dff1f3a79ce51fa91") true
    over (fun _ h => by cases h) (by kernel_rfl) (fun _ h => by cases h) conditionOpposite_row_tie rfl ⟨rfl, rfl⟩ (by kernel_rfl) rfl
    (fun f fn hf hfn => by
      obtain rfl : f = 4 := Option.some.inj ((show Tryd.prog.funcNamed "dasd/dasdlaw40.ConditionOpposite" = some 4 by kernel_rfl).symm.trans hf) |>.symm
      obtain rfl : fn = Tryd.f4 := (Option.some.inj (Tryd.func4.symm.trans hfn)).symm
      exact ⟨by kernel_rfl, fun j t ht => by
        have hm : t ∈ Tryd.f4.params.toList := by simpa using Array.mem_of_getElem? ht
        have hall : (Tryd.f4.params.toList.all fun u => !Tryd.prog.wantsStandIn u) = true := by kernel_rfl
        exact (show Tryd.prog.wantsStandIn t = false by simpa using List.all_eq_true.1 hall t hm)⟩)
    (by kernel_rfl)
end Go.Proofs.YtkmlfjnmoieeeaaDoor
