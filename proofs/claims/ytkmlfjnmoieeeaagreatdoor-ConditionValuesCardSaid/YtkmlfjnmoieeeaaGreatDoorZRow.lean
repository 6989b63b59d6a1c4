/- Part of a proof about a given Go program (text ZRow): lemmas, each for every value of its variables, under the hypotheses that it names. -/
import Derived.Test.YtkmlfjnmoieeeaaGreatDoorZMain
import Derived.Test.YtkmlfjnmoieeeaaGreatDoorFlatT
import Derived.Test.YtkmlfjnmoieeeaaGreatDoorFlatX
import Derived.Test.YtkmlfjnmoieeeaaGreatDoorTryzSortP
import Derived.Test.YtkmlfjnmoieeeaaGreatDoorRows
import Derived.Test.YtkmlfjnmoieeeaaGreatDoorTie
import Derived.Test.YtkmlfjnmoieeeaaGreatDoorCards
import Derived.ProofKit
import Derived.Lay
import Derived.SizedLaws
import Derived.SevenTiedAt
set_option linter.unusedVariables false
set_option linter.unusedSimpArgs false
namespace Go.Proofs.YtkmlfjnmoieeeaaGreatDoor
open Go.ChangeShapes Go.WideShapes Go.ChangeAt Go.RowKit Go.Flat

/-- The functions as plain code; the sort of texts by its contract. -/
noncomputable def theEnv : Env := { func := fun i => compFunc Tryz.prog (if i == 48 then 2 else if i == 13 || i == 17 || i == 18 || i == 25 || i == 41 || i == 55 || i == 77 then 1 else 0) (!(i == 77)) i, prim := fun i => if i = 40 then Option.some sortP else Option.none }
theorem envOk : EnvOk Tryz.prog theEnv := ⟨(fun f g h => by
  simp only [theEnv] at h
  split at h
  · rename_i hf
    subst hf
    injection h with h
    subst h
    exact sort_prim (ρ := Tryz.lays190_ren) Tryz.lays190 ⟨_, Tryz.func40, beq_eq_false_iff_ne.1 (by kernel_rfl), by kernel_rfl⟩
  · cases h), (fun f F h => by
  simp only [theEnv] at h
  exact ⟨_, _, h⟩), by kernel_rfl⟩
theorem noPrim (f : FuncId) (h : f ≠ 40) : theEnv.prim f = Option.none := by simp only [theEnv, if_neg h]
theorem envD : EnvD theEnv := ⟨noPrim, by kernel_rfl, by kernel_rfl, by kernel_rfl, by kernel_rfl, by kernel_rfl, by kernel_rfl, by kernel_rfl, by kernel_rfl, by kernel_rfl, by kernel_rfl, by kernel_rfl, by kernel_rfl, by kernel_rfl, by kernel_rfl, by kernel_rfl⟩
theorem envR : EnvR theEnv := ⟨noPrim, by kernel_rfl, by kernel_rfl, by kernel_rfl, by kernel_rfl, by kernel_rfl, by kernel_rfl, by kernel_rfl, by kernel_rfl⟩
theorem envS : EnvS theEnv := ⟨by kernel_rfl, by kernel_rfl, by kernel_rfl, by kernel_rfl, by kernel_rfl, by kernel_rfl, by kernel_rfl⟩
theorem env4 : theEnv.func 4 = some F4 := by kernel_rfl
theorem awakeX : callX theEnv 40 60 6 [] [] = some (.bool true, []) := by kernel_rfl
theorem awake : call theEnv 6 [] [] = some (.bool true, []) := call_run 40 60 awakeX

/-! ### Arguments -/
def shT : Shp := .sl (.st [.int .i64, .str, .int .i64, .int .i64])
def shE : Shp := .sl (.st [.bool, .bool, .int .i64])
def shS : Shp := .sl .str
theorem choose_list {α : Type} {enc : α → PV} {Q : PV → Prop} (hQ : ∀ p, Q p → ∃ a, p = enc a) : ∀ {xs : List PV}, (∀ x ∈ xs, Q x) → ∃ l : List α, xs = l.map enc
  | [], _ => ⟨[], rfl⟩
  | x :: xs, h => by
    obtain ⟨a, rfl⟩ := hQ x (h x (by simp))
    obtain ⟨l, rfl⟩ := choose_list hQ (xs := xs) (fun y hy => h y (by simp [hy]))
    exact ⟨a :: l, rfl⟩
theorem fits_tests {p : PV} (h : Fits shT p) : ∃ l : List Test, p = .sl .shut (tests l) ∧ l.length ≤ maxLen := by
  cases h with
  | sl _ xs h hl =>
    obtain ⟨l, rfl⟩ := choose_list (enc := Test.enc) (fun p hp => by
      cases hp with
      | st _ cs hc =>
        cases hc with | cons _ _ p1 _ a1 hc =>
        cases hc with | cons _ _ p2 _ a2 hc =>
        cases hc with | cons _ _ p3 _ a3 hc =>
        cases hc with | cons _ _ p4 _ a4 hc =>
        cases hc
        cases a1 with | int _ k _ =>
        cases a2 with | str s _ =>
        cases a3 with | int _ o _ =>
        cases a4 with | int _ n _ =>
        exact ⟨⟨k, s, o, n⟩, rfl⟩) h
    exact ⟨l, rfl, by simpa using hl⟩
theorem fits_ends {p : PV} (h : Fits shE p) : ∃ l : List Flat.End, p = .sl .shut (ends l) ∧ l.length ≤ maxLen := by
  cases h with
  | sl _ xs h hl =>
    obtain ⟨l, rfl⟩ := choose_list (enc := Flat.End.enc) (fun p hp => by
      cases hp with
      | st _ cs hc =>
        cases hc with | cons _ _ p1 _ a1 hc =>
        cases hc with | cons _ _ p2 _ a2 hc =>
        cases hc with | cons _ _ p3 _ a3 hc =>
        cases hc
        cases a1 with | bool a =>
        cases a2 with | bool b =>
        cases a3 with | int _ n _ =>
        exact ⟨⟨a, b, n⟩, rfl⟩) h
    exact ⟨l, rfl, by simpa using hl⟩
theorem fits_strs {p : PV} (h : Fits shS p) : ∃ l : List Str, p = .sl .shut (strs l) ∧ l.length ≤ maxLen := by
  cases h with
  | sl _ xs h hl =>
    obtain ⟨l, rfl⟩ := choose_list (enc := PV.str) (fun p hp => by
      cases hp with
      | str s _ => exact ⟨s, rfl⟩) h
    exact ⟨l, rfl, by simpa using hl⟩

theorem trodAll_len {H : Type} {enc : TypeId × Value → H} {P : Program} {w : World} {base : Nat} {spare : Nat → Bool} {held : Bool} : ∀ {ts : List TypeId} {vs : List Value} {ds : List (DataW H)} {ps : List MemPlace},
    DataW.TrodAll enc P w base spare held ts vs ds ps → ds.length = ts.length
  | [], _, _, _, h => by
    obtain ⟨_, rfl, _⟩ := trodAll_nil h
    rfl
  | t :: ts, _, _, _, h => by
    obtain ⟨v, vs', D, ds', p, q, rfl, rfl, rfl, _, t2⟩ := trodAll_cons h
    simp [trodAll_len t2]
theorem own : ownKnob Tryz.prog.godebug = Option.none := by kernel_rfl
theorem laidOut : laidOutB Tryz.prog = true := by kernel_rfl
theorem shapes : shps Tryz.prog 5 Tryz.f4.params.toList = some [shT, shS, shE] := by kernel_rfl
theorem law (pvs : List PV) (h : FitAll [shT, shS, shE] pvs) : call theEnv 4 pvs [] = some (.bool true, []) := by
  cases h with | cons _ _ p1 _ a1 h =>
  cases h with | cons _ _ p3 _ a3 h =>
  cases h with | cons _ _ p4 _ a4 h =>
  cases h
  obtain ⟨a, rfl, ha⟩ := fits_tests a1
  obtain ⟨s, rfl, hs⟩ := fits_strs a3
  obtain ⟨e, rfl, he⟩ := fits_ends a4
  exact values_c envD envR envS env4 awake a s e ha hs he
set_option maxRecDepth 100000 in
theorem lifted (os : Os) (started : os.Started) (H : Type) (enc : TypeId × Value → H) :
    ReturnsInHanded {} Tryz.checked os 4 .any (fun w args => (Rows.conditionValuesSpec.pre enc Tryz.prog Tryz.f4 [] false w args ∧ laidMetH Tryz.prog Rows.conditionValuesRow.laid w) ∧ sizedMet enc Tryz.prog Tryz.f4 (OpenSpec.ofChange Rows.conditionValuesSpec) false w args)
      (Rows.conditionValuesSpec.post enc Tryz.prog Tryz.f4 false true false false) := by
  refine returnsInHanded_of_change_and (C := Tryz.checked) (X := fun w _ => laidMetH Tryz.prog Rows.conditionValuesRow.laid w) (fun _ _ _ hh h => h.of_heap hh) own started (by kernel_rfl) Tryz.func4
    (ChangeSpec.witness_shaped (enc := enc) (C := Tryz.checked) (os := os) (X := fun w _ => laidMetH Tryz.prog Rows.conditionValuesRow.laid w) false (World.laidAll Tryz.prog os Rows.conditionValuesRow.laid) #[.slice Option.none 0 0, .slice Option.none 0 0, .slice Option.none 0 0] 8 (World.laidAll_os _ _ _)
      (World.shaped_of_ZipB (by kernel_rfl) (by kernel_rfl)) (by kernel_rfl) (by kernel_rfl) (by kernel_rfl)
      (by rw [MakeChecks.laidMetH_plain _ _ _ (by kernel_rfl)]; exact laidMet_laidAll _ (by kernel_rfl) (by kernel_rfl))) ?_
  intro W base args ds gs before hval0 hW _ _ hL _
  have hval : ∀ (j : Nat) t v, Tryz.f4.params.toList[j]? = some t → args[j]? = some v → Value.okWide Tryz.prog W .any base t v := fun j t v ht hv => hval0 j t v (by simpa using ht) hv
  have hW' := hW
  obtain ⟨p, q, hA0, hV, rfl, _, _⟩ := hW
  have hA : DataW.TrodAll enc Tryz.prog W 0 (fun _ => true) true Tryz.f4.params.toList args.toList ds p := hA0
  obtain ⟨rfl, rfl⟩ := trodVars_none hV
  refine (law_calls envOk shapes law hA hval).mono fun e W' ⟨he, bel⟩ => ?_
  subst he
  have hst := stays_all laidOut bel (by kernel_rfl) hA
  have hlen : ds.length = 3 := (trodAll_len hA).trans (by kernel_rfl)
  have hds : ∃ d1 d2 d3, ds = [d1, d2, d3] := by
    match ds, hlen with
    | [d1, d2, d3], _ => exact ⟨d1, d2, d3, rfl⟩
  obtain ⟨d1, d2, d3, rfl⟩ := hds
  exact ⟨_, rfl, _, _, _, [], _, [], hW', trodAll_mk1 (shut_bool Tryz.underlying4 _), hst, rfl, bel.frame _, fun h => by cases h⟩
theorem over : Rows.ConditionValuesSaid :=
  OpenClaim.holds_of_wide 4 Tryz.f4 rfl rfl rfl rfl rfl rfl rfl ⟨rfl, rfl, rfl, rfl, rfl⟩ rfl rfl rfl rfl rfl (by kernel_rfl) Tryz.func4 (by kernel_rfl)
    (of_decide_eq_true (by kernel_rfl)) (by unfold Func.isWrapper; first | (rw [if_pos (by decide +kernel)]; kernel_rfl) | (rw [if_neg (by decide +kernel)]; exact ⟨rfl, rfl⟩))
    (fun os started H enc _ => lifted os started H enc)
/-- THE TIED CARD of ConditionValues: for every input that the row lets in the law returns true; its listed variables are tied to the program's text. -/
theorem conditionValues_card : Rows.ConditionValuesCardSaid :=
  Claim7.holds_tied_plain_at .later [] [.data, .data, .data, .data, .sentinel, .sentinel, .pinned] true (true, "3ba95d1429463b6113a4f3471efbf9d5934353d33e2f31e962c2f4c844f8c4de") true
    over (fun _ h => by cases h) (by kernel_rfl) (fun _ h => by cases h) conditionValues_row_tie rfl ⟨rfl, rfl⟩ (by kernel_rfl) rfl
    (fun f fn hf hfn => by
      obtain rfl : f = 4 := Option.some.inj ((show Tryz.prog.funcNamed "dasd/dasdlaw40.ConditionValues" = some 4 by kernel_rfl).symm.trans hf) |>.symm
      obtain rfl : fn = Tryz.f4 := (Option.some.inj (Tryz.func4.symm.trans hfn)).symm
      exact ⟨by kernel_rfl, fun j t ht => by
        have hm : t ∈ Tryz.f4.params.toList := by simpa using Array.mem_of_getElem? ht
        have hall : (Tryz.f4.params.toList.all fun u => !Tryz.prog.wantsStandIn u) = true := by kernel_rfl
        exact (show Tryz.prog.wantsStandIn t = false by simpa using List.all_eq_true.1 hall t hm)⟩)
    (by kernel_rfl)
end Go.Proofs.YtkmlfjnmoieeeaaGreatDoor
