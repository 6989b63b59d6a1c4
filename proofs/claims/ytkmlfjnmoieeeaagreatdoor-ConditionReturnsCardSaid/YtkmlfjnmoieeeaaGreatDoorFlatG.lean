/- A machine over plain values. Part G: the pure operations together. -/
import Derived.Test.YtkmlfjnmoieeeaaGreatDoorFlatF
set_option linter.unusedVariables false
set_option linter.unusedSimpArgs false
namespace Go.Flat
variable {P : Program} {mu : Bool} {C : Cx} {w : World} {n : Nat} {T : Temps} {a : Act}

theorem faddr_ok {t : TypeId} {f : Nat} {fd : Field} {size : Nat} (hf : fieldOf P t f = some fd) (hs : sizeT P fd.type = some size) (hz : size ≠ 0) {p q : PV} {v : Value} (hp : Rep C w p v)
    (h : faddrA fd.offset p = some q) : Gives P C w (Instr.fieldAt t v f) q := by
  unfold fieldOf at hf
  split at hf
  · rename_i fs hu
    have run : ∀ b o, (Instr.fieldAt t (.pointer (some ⟨b, o, none⟩)) f).run P w = .ok (.pointer (some ⟨b, o + fd.offset, none⟩)) w := by
      intro b o
      simp [Instr.fieldAt, run_underlying hu, hf, Instr.sureAddr, fieldPlace, run_sizeT hs w, hz, add_none]
    cases p with
    | ptr id o =>
      simp only [faddrA] at h
      injection h with h; subst h
      cases hp with
      | ptr off hat => exact ⟨_, run _ _, by rw [Nat.add_assoc]; exact .ptr _ hat⟩
    | fp cs =>
      simp only [faddrA] at h
      split at h
      · rename_i hlt
        injection h with h; subst h
        cases hp with
        | fp vs h1 h2 =>
          rename_i b o
          refine ⟨_, run b o, .fp (fun j => vs (fd.offset + j)) (fun j p hj => ?_) (fun j p hj => ?_)⟩
          · rw [List.getElem?_drop] at hj
            have := h1 _ _ hj
            rw [← Nat.add_assoc] at this
            exact this
          · rw [List.getElem?_drop] at hj
            exact h2 _ _ hj
      · simp at h
    | eptr id k i o =>
      simp only [faddrA] at h
      injection h with h; subst h
      cases hp with
      | eptr _ _ _ hat => exact ⟨_, run _ _, by rw [Nat.add_assoc]; exact .eptr _ _ _ hat⟩
    | _ => simp [faddrA] at h
  · simp at hf

theorem idxStr_ok {t : TypeId} (hu : P.underlying t = some .string) {l : List UInt8} {k : IntKind} {i : Int} {v u : Value} (hv : Rep C w (.str l) v) (hi : Rep C w (.int k i) u) {b : UInt8} (h0 : 0 ≤ i) (hb : l[i.toNat]? = some b) :
    Gives P C w (Instr.index t v u) (.int .u8 b.toNat) := by
  obtain ⟨s, rfl, rfl⟩ := rep_str hv
  cases rep_int hi
  have hlt : i.toNat < s.data.size := by
    rcases Nat.lt_or_ge i.toNat s.data.size with h' | h'
    · exact h'
    · rw [List.getElem?_eq_none (by simpa using h')] at hb; simp at hb
  have hs : s[i.toNat]? = some b := by
    have e : s[i.toNat]? = some (s[i.toNat]'hlt) := getElem?_pos s i.toNat hlt
    rw [e]
    rw [List.getElem?_eq_getElem (by simpa using hlt)] at hb
    injection hb with hb
    rw [← hb]
    rfl
  refine ⟨.int .u8 b.toNat, ?_, .int _ _⟩
  simp [Instr.index, asIntOf, run_underlying hu, h0, hs]

theorem iaSl_ok {t elem : TypeId} {size : Nat} (hu : P.underlying t = some (.slice elem)) (hs : sizeT P elem = some size) {p : PV} {k : IntKind} {i : Int} {v u : Value} (hv : Rep C w p v) (hi : Rep C w (.int k i) u) {q : PV}
    (h : iaSlA size p i = some q) : Gives P C w (Instr.indexAt t v u) q := by
  cases rep_int hi
  cases p with
  | sl τ xs =>
    simp only [iaSlA] at h
    split at h
    · rename_i h0
      split at h
      · rename_i p hp
        split at h
        · rename_i hsz
          injection h with h; subst h
          cases hv with
          | sl vs ha ht hc hr =>
            rename_i a' c b o k'
            have hlt : i.toNat < xs.length := by
              rcases Nat.lt_or_ge i.toNat xs.length with h' | h'
              · exact h'
              · rw [List.getElem?_eq_none h'] at hp; simp at hp
            obtain ⟨g1, g2, g3⟩ := hc _ _ hp
            have e1 := (hr _ _ hp).cells.1
            have hk : k' = size := by omega
            subst hk
            have hane : a' = some ⟨b, o, none⟩ := ha (by intro e; subst e; simp at hlt)
            subst hane
            have hlt2 : i < (xs.length : Int) := by omega
            refine ⟨.pointer (some ⟨b, o + i.toNat * k', none⟩), ?_, .fp (fun j => (vs i.toNat).cells[j]?.getD undef) (fun j q hj => ?_) (fun j q hj => ?_)⟩
            · simp [Instr.indexAt, asIntOf, run_underlying hu, h0, hlt2, run_sizeT hs w, add_none]
            · have hjl : j < p.cells.length := by
                rcases Nat.lt_or_ge j p.cells.length with h' | h'
                · exact h'
                · rw [List.getElem?_eq_none h'] at hj; simp at hj
              obtain ⟨g4, g5⟩ := g3 j (by omega)
              refine ⟨g2 q (List.mem_of_getElem? hj), g4, ?_⟩
              rw [g5, Array.getElem?_eq_getElem (by omega)]
              simp
            · have hjl : j < p.cells.length := by
                rcases Nat.lt_or_ge j p.cells.length with h' | h'
                · exact h'
                · rw [List.getElem?_eq_none h'] at hj; simp at hj
              refine (hr _ _ hp).cells.2 j q _ hj ?_
              rw [Array.getElem?_eq_getElem (by omega)]
              simp
        · simp at h
      · simp at h
    · simp at h
  | view id k j m =>
    simp only [iaSlA] at h
    split at h
    · rename_i hb
      obtain ⟨rfl, hb1, hb2⟩ := hb
      injection h with h; subst h
      cases hv with
      | view _ _ _ hat hcap hle ha =>
        rename_i b o c a'
        rw [ha (by omega)]
        refine ⟨.pointer (some ⟨b, o + j * k + i.toNat * k, none⟩), ?_, ?_⟩
        · simp [Instr.indexAt, asIntOf, run_underlying hu, hb1, hb2, run_sizeT hs w, add_none]
        · have := Rep.eptr (C := C) (w := w) k (j + i.toNat) 0 hat
          rw [Nat.add_mul, Nat.add_zero, ← Nat.add_assoc] at this
          exact this
    · simp at h
  | _ => simp [iaSlA] at h

theorem iaArr_ok {t elem : TypeId} {len size : Nat} (hu : P.underlying t = some (.array len elem)) (hs : sizeT P elem = some size) {id o : Nat} {k : IntKind} {i : Int} {v u : Value} (hv : Rep C w (.ptr id o) v) (hi : Rep C w (.int k i) u)
    (h0 : 0 ≤ i) (h1 : i < len) : Gives P C w (Instr.indexAt t v u) (.ptr id (o + i.toNat * size)) := by
  cases rep_int hi
  cases hv with
  | ptr off hat =>
    rename_i b o'
    refine ⟨.pointer (some ⟨b, o' + o + i.toNat * size, none⟩), ?_, by rw [Nat.add_assoc]; exact .ptr _ hat⟩
    simp [Instr.indexAt, asIntOf, Instr.sureAddr, run_underlying hu, h0, h1, run_sizeT hs w, add_none]

theorem idxArr_ok {t elem : TypeId} {len size : Nat} {agg : Bool} (hu : P.underlying t = some (.array len elem)) (hs : sizeT P elem = some size) (hg : aggT P elem = some agg) {cs : List PV} {k : IntKind} {i : Int} {v u : Value} (hv : Rep C w (.agg cs) v) (hi : Rep C w (.int k i) u)
    (h0 : 0 ≤ i) (h1 : i < len) {q : PV} (h : partA (i.toNat * size) size agg cs = some q) : Gives P C w (Instr.index t v u) q := by
  cases rep_int hi
  cases hv with
  | agg g1 g2 gr =>
    rename_i vs
    obtain ⟨x, hx, hr⟩ := part_ok (P := P) hs hg g1 g2 gr h
    refine ⟨x, ?_, hr⟩
    simp [Instr.index, asIntOf, run_underlying hu, h0, h1, run_sizeT hs w, hx]

theorem ext_ok {i : Nat} {vs : List PV} {v : Value} (hv : Rep C w (.tup vs) v) {q : PV} (h : vs[i]? = some q) : Gives P C w (Instr.extract v i) q := by
  cases hv with
  | tup h1 hr =>
    rename_i us
    have hlt : i < vs.length := by
      rcases Nat.lt_or_ge i vs.length with h' | h'
      · exact h'
      · rw [List.getElem?_eq_none h'] at h; simp at h
    have hu : us[i]? = some us[i] := Array.getElem?_eq_getElem (by omega)
    exact ⟨us[i], by simp [Instr.extract, hu], hr i q _ h hu⟩

theorem tass_ok {t xt : TypeId} {zero : PV} {ok : Bool} (hu : ∃ d, P.underlying t = some d ∧ ∀ ms, d ≠ .interface ms) (hz : zeroT P t = some zero) {p : PV} {v : Value} (hv : Rep C w p v) {q : PV}
    (h : tassA t zero ok p = some q) : Gives P C w (Instr.typeAssert v xt t ok) q := by
  obtain ⟨d, hd, hne⟩ := hu
  obtain ⟨z, z1, z2⟩ := run_zeroT hz
  have two : ∀ {x y : PV} {u v : Value}, Rep C w x u → Rep C w y v → Rep C w (.tup [x, y]) (.tuple #[u, v]) := by
    intro x y u v h1 h2
    refine .tup rfl (fun i p v hp hv => ?_)
    match i, hp, hv with
    | 0, hp, hv => simp at hp hv; subst hp; subst hv; exact h1
    | 1, hp, hv => simp at hp hv; subst hp; subst hv; exact h2
  cases p with
  | iface u p' =>
    simp only [tassA] at h
    cases hv with
    | iface _ hr =>
      rename_i v'
      split at h
      · rename_i he
        subst he
        injection h with h; subst h
        cases ok
        · refine ⟨v', ?_, hr⟩
          simp only [Instr.typeAssert, Sem.run_bind, run_underlying hd, Result.andThen_ok]
          cases d <;> first | exact absurd rfl (hne _) | simp
        · refine ⟨.tuple #[v', .bool true], ?_, two hr (.bool true)⟩
          simp only [Instr.typeAssert, Sem.run_bind, run_underlying hd, Result.andThen_ok]
          cases d <;> first | exact absurd rfl (hne _) | simp
      · rename_i he
        split at h
        · rename_i hok
          subst hok
          injection h with h; subst h
          refine ⟨.tuple #[z, .bool false], ?_, two (z2 C w) (.bool false)⟩
          simp only [Instr.typeAssert, Sem.run_bind, run_underlying hd, Result.andThen_ok]
          cases d <;> first | exact absurd rfl (hne _) | simp [he, z1]
        · simp at h
  | niliface =>
    simp only [tassA] at h
    cases hv
    split at h
    · rename_i hok
      subst hok
      injection h with h; subst h
      refine ⟨.tuple #[z, .bool false], ?_, two (z2 C w) (.bool false)⟩
      simp only [Instr.typeAssert, Sem.run_bind, run_underlying hd, Result.andThen_ok]
      cases d <;> first | exact absurd rfl (hne _) | simp [z1]
    · simp at h
  | _ => simp [tassA] at h

theorem minmax_ok {mx : Bool} {p q r : PV} {u v : Value} (hp : Rep C w p u) (hq : Rep C w q v) (h : minmaxA mx p q = some r) : Gives P C w (if mx then Builtin.max2 u v else Builtin.min2 u v) r := by
  unfold minmaxA at h
  split at h
  · split at h
    · rename_i hk
      subst hk
      cases rep_int hp; cases rep_int hq
      injection h with h; subst h
      cases mx
      · exact ⟨_, rfl, .int _ _⟩
      · exact ⟨_, rfl, .int _ _⟩
    · simp at h
  · simp at h
theorem fold_ok {mx : Bool} : ∀ {qs : List PV} {p r : PV} {u : Value} {vs : List Value}, Rep C w p u → qs.length = vs.length → (∀ (i : Nat) p v, qs[i]? = some p → vs[i]? = some v → Rep C w p v) → foldA mx p qs = some r →
    Gives P C w (vs.foldlM (if mx then Builtin.max2 else Builtin.min2) u) r
  | [], p, r, u, vs, hp, hl, hr, h => by
    cases vs with
    | nil => simp [foldA] at h; subst h; exact ⟨u, rfl, hp⟩
    | cons => simp at hl
  | q :: qs, p, r, u, vs, hp, hl, hr, h => by
    cases vs with
    | nil => simp at hl
    | cons v vs =>
      simp only [foldA] at h
      split at h
      · rename_i s hs
        obtain ⟨x, hx, hrx⟩ := minmax_ok (P := P) hp (hr 0 q v (by simp) (by simp)) hs
        obtain ⟨y, hy, hry⟩ := fold_ok (mx := mx) hrx (by simpa using hl) (fun i p v h1 h2 => hr (i + 1) p v (by simpa using h1) (by simpa using h2)) h
        refine ⟨y, ?_, hry⟩
        rw [List.foldlM_cons, Sem.run_bind]
        cases mx <;> (simp only [if_true, Bool.false_eq_true, if_false] at hx hy ⊢; rw [hx]; exact hy)
      · simp at h

end Go.Flat
