/- ConditionReturns of the given program: the row and the tied card: for every input that the row lets in, the law returns true. -/
import Derived.Test.YtkmlfjnmoieeeaaGreatDoorZEnv
import Derived.Test.YtkmlfjnmoieeeaaGreatDoorZRet2
import Derived.Test.YtkmlfjnmoieeeaaGreatDoorTie
import Derived.Test.YtkmlfjnmoieeeaaGreatDoorCards
import Derived.SizedLaws
import Derived.SevenTiedAt
set_option linter.unusedVariables false
set_option linter.unusedSimpArgs false
namespace Go.Proofs.YtkmlfjnmoieeeaaGreatDoor
open Go.ChangeShapes Go.WideShapes Go.ChangeAt Go.RowKit Go.Flat

/-! ### Arguments -/
def shT : Shp := .sl (.st [.int .i64, .str, .int .i64, .int .i64])
def shS : Shp := .sl .str
theorem choose_list {α : Type} {enc : α → PV} {Q : PV → Prop} (hQ : ∀ p, Q p → ∃ a, p = enc a) : ∀ {xs : List PV}, (∀ x ∈ xs, Q x) → ∃ l : List α, xs = l.map enc
  | [], _ => ⟨[], rfl⟩
  | x :: xs, h => by
    obtain ⟨a, rfl⟩ := hQ x (h x (by simp))
    obtain ⟨l, rfl⟩ := choose_list hQ (xs := xs) (fun y hy => h y (by simp [hy]))
    exact ⟨a :: l, rfl⟩
theorem fits_tests {p : PV} (h : Fits shT p) : ∃ l : List Test, p = .sl .shut (tests l) ∧ l.length ≤ maxLen := by
  cases h with
  | sl _ xs h hl =>
    obtain ⟨l, rfl⟩ := choose_list (enc := Test.enc) (fun p hp => by
      cases hp with
      | st _ cs hc =>
        cases hc with | cons _ _ p1 _ a1 hc =>
        cases hc with | cons _ _ p2 _ a2 hc =>
        cases hc with | cons _ _ p3 _ a3 hc =>
        cases hc with | cons _ _ p4 _ a4 hc =>
        cases hc
        cases a1 with | int _ k _ =>
        cases a2 with | str s _ =>
        cases a3 with | int _ o _ =>
        cases a4 with | int _ n _ =>
        exact ⟨⟨k, s, o, n⟩, rfl⟩) h
    exact ⟨l, rfl, by simpa using hl⟩
theorem fits_strs {p : PV} (h : Fits shS p) : ∃ l : List Str, p = .sl .shut (Flat.strs l) ∧ l.length ≤ maxLen := by
  cases h with
  | sl _ xs h hl =>
    obtain ⟨l, rfl⟩ := choose_list (enc := PV.str) (fun p hp => by
      cases hp with
      | str s _ => exact ⟨s, rfl⟩) h
    exact ⟨l, rfl, by simpa using hl⟩
theorem trodAll_len {H : Type} {enc : TypeId × Value → H} {P : Program} {w : World} {base : Nat} {spare : Nat → Bool} {held : Bool} : ∀ {ts : List TypeId} {vs : List Value} {ds : List (DataW H)} {ps : List MemPlace},
    DataW.TrodAll enc P w base spare held ts vs ds ps → ds.length = ts.length
  | [], _, _, _, h => by
    obtain ⟨_, rfl, _⟩ := trodAll_nil h
    rfl
  | t :: ts, _, _, _, h => by
    obtain ⟨v, vs', D, ds', p, q, rfl, rfl, rfl, _, t2⟩ := trodAll_cons h
    simp [trodAll_len t2]
/-! ### What the listed variables hold -/
theorem heap_of_var {P : Program} {W : World} {n : String} {g : Nat} {cs : Array Value} (hg : P.globalNamed n = Option.some g) (h : W.var? P n = Option.some cs) : ∃ t f, W.heap[g]? = Option.some (.cells cs t f) := by
  unfold World.var? at h
  rw [hg] at h
  simp only [Option.bind_some] at h
  split at h
  · rename_i c t f hc
    injection h with h
    subst h
    exact ⟨t, f, hc⟩
  · cases h
theorem globs_ok {W : World} {g : Nat} {Q : Obj → Prop} {cs : Array Value} {t : TypeId} {f : Nat × Nat} (h : W.heap[g]? = Option.some (.cells cs t f)) (hq : Q (.cells cs t f)) : g < W.heap.size ∧ (∀ o id, (ctx0 W).own g o ≠ .ob id) ∧ ∃ x, W.heap[g]? = Option.some x ∧ Q x := by
  have hlt : g < W.heap.size := by
    rcases Nat.lt_or_ge g W.heap.size with h' | h'
    · exact h'
    · rw [Array.getElem?_eq_none h'] at h; cases h
  exact ⟨hlt, fun o id => by simp [ctx0, hlt], _, h, hq⟩
theorem err_of_head {P : Program} {W : World} {n nm : String} {d : DataW Unit} {r : List (String × DataW Unit)} {g : Nat} {ti : TypeId} {ms : Array (String × TypeId)} (h : laidMet P ((n, .iface nm d) :: r) W)
    (hg : P.globalNamed n = Option.some g) (ht : (P.globals[g]?).map (·.type) = Option.some ti) (hi : P.underlying ti = Option.some (.interface ms)) : ∃ te pe, W.var? P n = Option.some #[.iface te pe] := by
  obtain ⟨ps, ⟨g0, t0, cs0, f0, p0, q0, hg0, ht0, hv0, hd0, _, e0⟩, _, hrows⟩ := h
  obtain rfl := Option.some.inj (hg.symm.trans hg0)
  obtain rfl := Option.some.inj (ht.symm.trans ht0)
  obtain ⟨f1, u, v, he, _⟩ := iface_of_trod hi hd0
  obtain ⟨l0⟩ := cs0
  simp only at he
  subst he
  exact ⟨u, v, hv0⟩
theorem globs_of {W : World} (h : laidMetH Tryz.prog Rows.conditionReturnsRow.laid W) : GlobsOk (ctx0 W) W := by
  rw [MakeChecks.laidMetH_plain _ _ _ (by kernel_rfl)] at h
  have hl : laidMet Tryz.prog Rows.conditionReturnsRow.laid W := h
  have h2 := laidMet.tail (laidMet.tail hl)
  have h4 := laidMet.tail (laidMet.tail h2)
  have h5 := laidMet.tail h4
  have tab : Lib.TabIs Tryz.prog W "internal/strconv.uint64pow10" .u64 Lib.pow10Tab := Lib.tabIs_of_head (g := 1) (t := 146) (e := 119) (n := 20) (by kernel_rfl) (by kernel_rfl) (by kernel_rfl) (by kernel_rfl) (by kernel_rfl) (by kernel_rfl) h2
  obtain ⟨te, pe, hr⟩ := err_of_head (g := 3) (ti := 129) h4 (by kernel_rfl) (by kernel_rfl) Tryz.underlying129
  obtain ⟨te2, pe2, hs⟩ := err_of_head (g := 2) (ti := 129) h5 (by kernel_rfl) (by kernel_rfl) Tryz.underlying129
  intro g Q hQ
  simp only [Globs.G] at hQ
  split at hQ
  · rename_i e
    subst e
    injection hQ with hQ
    subst hQ
    obtain ⟨t, f, hh⟩ := heap_of_var (g := 1) (by kernel_rfl) tab
    exact globs_ok hh ⟨t, f, rfl⟩
  · split at hQ
    · rename_i e
      subst e
      injection hQ with hQ
      subst hQ
      obtain ⟨t, f, hh⟩ := heap_of_var (g := 2) (by kernel_rfl) hs
      exact globs_ok hh ⟨_, _, t, f, rfl⟩
    · split at hQ
      · rename_i e
        subst e
        injection hQ with hQ
        subst hQ
        obtain ⟨t, f, hh⟩ := heap_of_var (g := 3) (by kernel_rfl) hr
        exact globs_ok hh ⟨_, _, t, f, rfl⟩
      · cases hQ
/-! ### The row -/
theorem own : ownKnob Tryz.prog.godebug = Option.none := by kernel_rfl
theorem laidOut : laidOutB Tryz.prog = true := by kernel_rfl
theorem shapes : shps Tryz.prog 5 Tryz.f5.params.toList = Option.some [shT, shS] := by kernel_rfl
theorem law (pvs : List PV) (h : FitAll [shT, shS] pvs) : call theEnv 5 pvs [] = Option.some (.bool true, []) := by
  cases h with | cons _ _ p1 _ a1 h =>
  cases h with | cons _ _ p2 _ a2 h =>
  cases h
  obtain ⟨a, rfl, ha⟩ := fits_tests a1
  obtain ⟨b, rfl, hb⟩ := fits_strs a2
  exact returns_law envF envS env5 awake a b ha hb
set_option maxRecDepth 100000 in
theorem lifted (os : Os) (started : os.Started) (H : Type) (enc : TypeId × Value → H) :
    ReturnsInHanded {} Tryz.checked os 5 .any (fun w args => (Rows.conditionReturnsSpec.pre enc Tryz.prog Tryz.f5 [] false w args ∧ laidMetH Tryz.prog Rows.conditionReturnsRow.laid w) ∧ sizedMet enc Tryz.prog Tryz.f5 (OpenSpec.ofChange Rows.conditionReturnsSpec) false w args)
      (Rows.conditionReturnsSpec.post enc Tryz.prog Tryz.f5 false true false false) := by
  refine returnsInHanded_of_change_and (C := Tryz.checked) (X := fun w _ => laidMetH Tryz.prog Rows.conditionReturnsRow.laid w) (fun _ _ _ hh h => h.of_heap hh) own started (by kernel_rfl) Tryz.func5
    (ChangeSpec.witness_shaped (enc := enc) (C := Tryz.checked) (os := os) (X := fun w _ => laidMetH Tryz.prog Rows.conditionReturnsRow.laid w) false (World.laidAll Tryz.prog os Rows.conditionReturnsRow.laid) #[.slice Option.none 0 0, .slice Option.none 0 0] 8 (World.laidAll_os _ _ _)
      (World.shaped_of_ZipB (by kernel_rfl) (by kernel_rfl)) (by kernel_rfl) (by kernel_rfl) (by kernel_rfl)
      (by rw [MakeChecks.laidMetH_plain _ _ _ (by kernel_rfl)]; exact laidMet_laidAll _ (by kernel_rfl) (by kernel_rfl))) ?_
  intro W base args ds gs before hval0 hW _ _ hL _
  have hval : ∀ (j : Nat) t v, Tryz.f5.params.toList[j]? = Option.some t → args[j]? = Option.some v → Value.okWide Tryz.prog W .any base t v := fun j t v ht hv => hval0 j t v (by simpa using ht) hv
  have hW' := hW
  obtain ⟨p, q, hA0, hV, rfl, _, _⟩ := hW
  have hA : DataW.TrodAll enc Tryz.prog W 0 (fun _ => true) true Tryz.f5.params.toList args.toList ds p := hA0
  obtain ⟨rfl, rfl⟩ := trodVars_none hV
  refine (law_calls envOk (globs_of hL) shapes law hA hval).mono fun e W' ⟨he, bel⟩ => ?_
  subst he
  have hst := stays_all laidOut bel (by kernel_rfl) hA
  have hlen : ds.length = 2 := (trodAll_len hA).trans (by kernel_rfl)
  have hds : ∃ d1 d2, ds = [d1, d2] := by
    match ds, hlen with
    | [d1, d2], _ => exact ⟨d1, d2, rfl⟩
  obtain ⟨d1, d2, rfl⟩ := hds
  exact ⟨_, rfl, _, _, _, [], _, [], hW', trodAll_mk1 (shut_bool Tryz.underlying4 _), hst, rfl, bel.frame _, fun h => by cases h⟩
theorem over : Rows.ConditionReturnsSaid :=
  OpenClaim.holds_of_wide 5 Tryz.f5 rfl rfl rfl rfl rfl rfl rfl ⟨rfl, rfl, rfl, rfl, rfl⟩ rfl rfl rfl rfl rfl (by kernel_rfl) Tryz.func5 (by kernel_rfl)
    (of_decide_eq_true (by kernel_rfl)) (by unfold Func.isWrapper; first | (rw [if_pos (by decide +kernel)]; kernel_rfl) | (rw [if_neg (by decide +kernel)]; exact ⟨rfl, rfl⟩))
    (fun os started H enc _ => lifted os started H enc)
/-- THE TIED CARD of ConditionReturns: for every input that the row lets in the law returns true; its listed variables are tied to the program's text. -/
theorem conditionReturns_card : Rows.ConditionReturnsCardSaid :=
  Claim7.holds_tied_plain_at .later [] [.data, .data, .data, .data, .sentinel, .sentinel, .pinned] true (true, "3ba95d1429463b6113a4f3471efbf9d5934353d33e2f31e962c2f4c844f8c4de") true
    over (fun _ h => by cases h) (by kernel_rfl) (fun _ h => by cases h) conditionReturns_row_tie rfl ⟨rfl, rfl⟩ (by kernel_rfl) rfl
    (fun f fn hf hfn => by
      obtain rfl : f = 5 := Option.some.inj ((show Tryz.prog.funcNamed "dasd/dasdlaw40.ConditionReturns" = Option.some 5 by kernel_rfl).symm.trans hf) |>.symm
      obtain rfl : fn = Tryz.f5 := (Option.some.inj (Tryz.func5.symm.trans hfn)).symm
      exact ⟨by kernel_rfl, fun j t ht => by
        have hm : t ∈ Tryz.f5.params.toList := by simpa using Array.mem_of_getElem? ht
        have hall : (Tryz.f5.params.toList.all fun u => !Tryz.prog.wantsStandIn u) = true := by kernel_rfl
        exact (show Tryz.prog.wantsStandIn t = false by simpa using List.all_eq_true.1 hall t hm)⟩)
    (by kernel_rfl)
end Go.Proofs.YtkmlfjnmoieeeaaGreatDoor
