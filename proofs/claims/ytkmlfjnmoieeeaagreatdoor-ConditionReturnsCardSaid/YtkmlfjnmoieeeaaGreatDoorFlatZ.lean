/- A machine over plain values. Part Z: numbers' texts and the errors of strconv, by contracts of the library's functions. -/
import Derived.Test.YtkmlfjnmoieeeaaGreatDoorFlatY
import Derived.Test.YtkmlfjnmoieeeaaGreatDoorFlatU
import Derived.Shelf.Strconv.Itoa3
import Derived.Shelf.Strconv.AtoiAll
import Derived.Lib.LaidU8
import Derived.Stop.LaidErr
set_option linter.unusedVariables false
set_option linter.unusedSimpArgs false
namespace Go.Flat
open Go.Sort Go.RowKit Go.Shelf Go.Proofs
variable {P : Program} {C : Cx} {H : Heap} {w w' : World}
/-- What was there is as it was. -/
theorem below_sim [Globs] (s : Sim C H w) (b : Below w.heap.size w w') : Evo C w C w' ∧ Sim C H w' := by
  have hc : ∀ k o, k < w.heap.size → cellAt w' k o = cellAt w k o := fun k o hk => by simp only [cellAt, World.cell?, b.block k hk]
  have hf : ∀ k o, k < w.heap.size → w'.frozen? ⟨k, o, none⟩ = w.frozen? ⟨k, o, none⟩ := fun k o hk => by simp only [World.frozen?, b.block k hk]
  have ev : Evo C w C w' := ⟨b.os, b.tape, b.output, b.size, fun k o h => ⟨h, hc k o (s.lt k o (by rw [h]; simp))⟩, fun _ _ h => h, fun id t h => ⟨t, h, Nat.le_refl _, fun _ => rfl⟩, fun k hk hn => ⟨b.block k hk, hn⟩⟩
  refine ⟨ev, ⟨fun i y hy => ?_, fun k o h => Nat.lt_of_lt_of_le (s.lt k o h) b.size, s.new_at, s.new_tk, s.new_own, s.inv.mono ev⟩⟩
  refine (s.obj i y hy).keep ev ⟨fun k o h => ?_, fun k x h hx _ => ?_, rfl⟩
  · have hk := s.lt k o (by rw [h]; simp)
    exact ⟨h, hc k o hk, hf k o hk⟩
  · rw [b.block k (s.lt k 0 (by rw [h]; simp))]
    exact hx
theorem one_arg {p : PV} {vs : Array Value} (h : RepL C w [p] vs) : ∃ v, vs = #[v] ∧ Rep C w p v := by
  obtain ⟨l⟩ := vs
  match l, h with
  | [v], h => exact ⟨v, rfl, h.2 0 _ v rfl rfl⟩
  | [], h => have := h.1; simp at this
  | _ :: _ :: _, h => have := h.1; simp at this
theorem two_args {p q : PV} {vs : Array Value} (h : RepL C w [p, q] vs) : ∃ v u, vs = #[v, u] ∧ Rep C w p v ∧ Rep C w q u := by
  obtain ⟨l⟩ := vs
  match l, h with
  | [v, u], h => exact ⟨v, u, rfl, h.2 0 _ v rfl rfl, h.2 1 _ u rfl rfl⟩
  | [], h => have := h.1; simp at this
  | [_], h => have := h.1; simp at this
  | _ :: _ :: _ :: _, h => have := h.1; simp at this
/-- strconv.Itoa. -/
def itoaP : List PV → Heap → Option (PV × Heap)
  | [.int .i64 n], H => if -9223372036854775808 ≤ n ∧ n ≤ 9223372036854775807 then some (.str (Lib.itoa n), H) else none
  | _, _ => none
def IsTab (k : IntKind) (zs : List Int) (x : Obj) : Prop := ∃ t f, x = .cells (zs.map fun z => Value.int k z).toArray t f
theorem tab_of [Globs] (s : GlobsOk C w) {name : String} {g : Nat} {k : IntKind} {zs : List Int} (hg : P.globalNamed name = some g) (hG : Globs.G g = some (IsTab k zs)) : Lib.TabIs P w name k zs := by
  obtain ⟨_, _, x, hx, t, f, rfl⟩ := s g _ hG
  simp [Lib.TabIs, World.var?, hg, hx]
theorem itoa_prim [Globs] {ρ : Ren} (Ly : LaysM.n171 P ρ) {g : Nat} (hg : P.globalNamed "internal/strconv.uint64pow10" = some g) (hG : Globs.G g = some (IsTab .u64 Lib.pow10Tab))
    (hf : ∃ fn, P.funcs[ρ.f 171]? = some fn ∧ fn.name ≠ "runtime.NumGoroutine" ∧ fn.body.isSome = true) : PrimOk P (ρ.f 171) itoaP := by
  refine ⟨hf, fun args H r H' h C w vs s hr => ?_⟩
  unfold itoaP at h
  split at h
  case h_2 => simp at h
  rename_i n
  split at h
  case isFalse => simp at h
  rename_i hn
  injection h with h
  injection h with h1 h2
  subst h1; subst h2
  obtain ⟨v, rfl, hv⟩ := one_arg hr
  obtain rfl := rep_int hv
  refine (Any.strconv_Itoa Ly n hn.1 hn.2 w (tab_of s.inv hg hG)).mono fun e w' ⟨he, k, os, hw⟩ => ?_
  subst hw
  have hb : Below w.heap.size w (grow (w.drewN k) os) := ⟨rfl, rfl, rfl, by simp [grow, World.drewN], fun i hi => by
    have := heap_grow_old (w.drewN k) os (k := i) hi
    rw [this]; rfl⟩
  obtain ⟨b1, b2⟩ := below_sim s hb
  exact ⟨_, C, he, b1, b2, by have := Rep.str (C := C) (w := grow (w.drewN k) os) ⟨(Lib.itoa n).toArray⟩; simpa using this⟩
/-- strconv.syntaxError, strconv.rangeError: a pointer to something new. -/
def errP : List PV → Heap → Option (PV × Heap)
  | [.str _, .str s], H => if s.length ≤ 281474976710656 then some (.fp [], H) else none
  | _, _ => none
def IsErr (x : Obj) : Prop := ∃ te pe t f, x = .cells #[.iface te pe] t f
theorem err_cell [Globs] (s : GlobsOk C w) {g : Nat} (hG : Globs.G g = some IsErr) : ∃ te pe, w.cell? ⟨g, 0, none⟩ = some (.iface te pe) := by
  obtain ⟨_, _, x, hx, te, pe, t, f, rfl⟩ := s g _ hG
  exact ⟨te, pe, by simp [World.cell?, hx]⟩
theorem err_prim [Globs] {f : FuncId} {g : Nat} (hG : Globs.G g = some IsErr)
    (hc : ∀ (fn s : ByteArray) (ev : Value) (w : World), s.size ≤ 281474976710656 → w.cell? ⟨g, 0, none⟩ = some ev → (ev = .nilIface ∨ ∃ te pe, ev = .iface te pe) →
      Calls P f #[.string fn, .string s] w fun e w' => ∃ N, e = .returned (.pointer (some ⟨N, 0, none⟩)) ∧ Below w.heap.size w w')
    (hf : ∃ fn, P.funcs[f]? = some fn ∧ fn.name ≠ "runtime.NumGoroutine" ∧ fn.body.isSome = true) : PrimOk P f errP := by
  refine ⟨hf, fun args H r H' h C w vs s hr => ?_⟩
  unfold errP at h
  split at h
  case h_2 => simp at h
  split at h
  case isFalse => simp at h
  rename_i hn
  injection h with h
  injection h with h1 h2
  subst h1; subst h2
  obtain ⟨v, u, rfl, hv, hu⟩ := two_args hr
  obtain ⟨s1, rfl, h1⟩ := rep_str hv
  obtain ⟨s2, rfl, h2⟩ := rep_str hu
  obtain ⟨te, pe, hcell⟩ := err_cell s.inv hG
  refine (hc s1 s2 _ w (by rw [← h2] at hn; simpa using hn) hcell (.inr ⟨_, _, rfl⟩)).mono fun e w' ⟨N, he, hb⟩ => ?_
  obtain ⟨b1, b2⟩ := below_sim s hb
  exact ⟨_, C, he, b1, b2, .fp (fun _ => undef) (fun j p hj => by simp at hj) (fun j p hj => by simp at hj)⟩
/-- strconv.Atoi; te: the type behind its error. -/
def atoiP (te : TypeId) : List PV → Heap → Option (PV × Heap)
  | [.str s], H => if s.length ≤ 281474976710656 then (match Lib.atoiAll s with
    | .ok v => some (.tup [.int .i64 v, .niliface], H)
    | .range => some (.tup [.int .i64 (Lib.atoiSat s), .iface te (.fp [])], H)
    | _ => some (.tup [.int .i64 0, .iface te (.fp [])], H)) else none
  | _, _ => none
theorem rep_fp0 {N : Nat} : Rep C w (.fp []) (.pointer (some ⟨N, 0, none⟩)) := .fp (fun _ => undef) (fun j p hj => by simp at hj) (fun j p hj => by simp at hj)
theorem rep_tup2 {p q : PV} {v u : Value} (h1 : Rep C w p v) (h2 : Rep C w q u) : Rep C w (.tup [p, q]) (.tuple #[v, u]) := by
  refine .tup rfl fun i a b ha hb => ?_
  match i with
  | 0 => simp at ha hb; subst ha; subst hb; exact h1
  | 1 => simp at ha hb; subst ha; subst hb; exact h2
  | i + 2 => simp at ha
theorem atoi_prim [Globs] {ρ : Ren} (L : LaysC.n172 P ρ) (hG1 : Globs.G (ρ.g 15) = some IsErr) (hG2 : Globs.G (ρ.g 16) = some IsErr)
    (hf : ∃ fn, P.funcs[ρ.f 172]? = some fn ∧ fn.name ≠ "runtime.NumGoroutine" ∧ fn.body.isSome = true) : PrimOk P (ρ.f 172) (atoiP (ρ.t 168)) := by
  refine ⟨hf, fun args H r H' h C w vs s hr => ?_⟩
  unfold atoiP at h
  split at h
  case h_2 => simp at h
  split at h
  case isFalse => simp at h
  rename_i hn
  obtain ⟨v, rfl, hv⟩ := one_arg hr
  obtain ⟨b, rfl, hb⟩ := rep_str hv
  rw [← hb] at h hn
  have hlen : b.size ≤ 281474976710656 := by simpa using hn
  cases ha : Lib.atoiAll b.data.toList
  · rename_i n
    simp only [ha] at h
    injection h with h
    injection h with h1 h2
    subst h1; subst h2
    refine (Any.strconv_Atoi_ok L b (by omega) n ha w).mono fun e w' ⟨he, hw⟩ => ?_
    have hbl : Below w.heap.size w w' := by
      rcases hw with rfl | ⟨t, rfl⟩
      · exact Below.refl _ _
      · exact Lib.bytesWorld_below _ _ _
    obtain ⟨b1, b2⟩ := below_sim s hbl
    exact ⟨_, C, he, b1, b2, rep_tup2 (.int _ _) .niliface⟩
  · simp only [ha] at h
    injection h with h
    injection h with h1 h2
    subst h1; subst h2
    obtain ⟨te, pe, hcell⟩ := err_cell s.inv hG1
    refine (Any.strconv_Atoi_syntax L b hlen ha _ w hcell (.inr ⟨_, _, rfl⟩)).mono fun e w' ⟨N, he, _, _, hbl⟩ => ?_
    obtain ⟨b1, b2⟩ := below_sim s hbl
    exact ⟨_, C, he, b1, b2, rep_tup2 (.int _ _) (.iface _ rep_fp0)⟩
  · simp only [ha] at h
    injection h with h
    injection h with h1 h2
    subst h1; subst h2
    obtain ⟨te, pe, hcell⟩ := err_cell s.inv hG2
    refine (Any.strconv_Atoi_range L b hlen ha _ w hcell (.inr ⟨_, _, rfl⟩)).mono fun e w' ⟨N, he, _, _, hbl⟩ => ?_
    obtain ⟨b1, b2⟩ := below_sim s hbl
    exact ⟨_, C, he, b1, b2, rep_tup2 (.int _ _) (.iface _ rep_fp0)⟩
end Go.Flat
