/- A machine over plain values. Part E: what the pure operations come to. -/
import Derived.Test.YtkmlfjnmoieeeaaGreatDoorFlatD
import Derived.Laws.StructEq
set_option linter.unusedVariables false
set_option linter.unusedSimpArgs false
namespace Go.Flat
variable {P : Program} {C : Cx} {w : World} {n : Nat} {T : Temps} {a : Act}

theorem eqCell_ok {t : TypeId} {d : Nat} {k : EqK} {p q : PV} {u v : Value} {b : Bool} (hk : (k = .bool → P.underlying t = some .bool) ∧ (k = .int → ∃ j, P.underlying t = some (.int j)) ∧ (k = .str → P.underlying t = some .string))
    (hp : Rep C w p u) (hq : Rep C w q v) (h : eqCell k p q = some b) : (Op.equalIn (d + 1) t u v).run P w = .ok b w := by
  unfold eqCell at h
  split at h
  · split at h
    · rename_i hkk
      subst hkk
      injection h with h; subst h
      cases rep_int hp; cases rep_int hq
      obtain ⟨j, hj⟩ := hk.2.1 rfl
      exact run_equalIn_int w _ _ _ _ _ _ hj
    · simp at h
  · injection h with h; subst h
    obtain ⟨s1, rfl, rfl⟩ := rep_str hp
    obtain ⟨s2, rfl, rfl⟩ := rep_str hq
    rw [run_equalIn_string w _ _ _ _ (hk.2.2 rfl), ByteArray.toList_eq, ByteArray.toList_eq]
  · injection h with h; subst h
    cases rep_bool hp; cases rep_bool hq
    exact run_equalIn_bool' w _ _ _ _ (hk.1 rfl)
  · simp at h
theorem agg_ok :
    ∀ (d : Nat) (l : List Field) (m : Nat) (ks : List EqK), flatFields P m l = some ks → ∀ (ps qs : List PV) (xs ys : Array Value) (b : Bool),
      (∀ i p u, ps[i]? = some p → xs[m + i]? = some u → Rep C w p u) → (∀ i p u, qs[i]? = some p → ys[m + i]? = some u → Rep C w p u) →
      xs.size = m + ps.length → ys.size = m + qs.length → eqCells ks ps qs = some b → (Op.eqFields (d + 1) xs ys l).run P w = .ok b w
  | d, [], m, ks, hf, ps, qs, xs, ys, b, hx, hy, sx, sy, he => by
    simp [flatFields] at hf
    subst hf
    cases ps with
    | nil =>
      cases qs with
      | nil => simp [eqCells] at he; subst he; simp [Op.eqFields]
      | cons q qs => simp [eqCells] at he
    | cons p ps => simp [eqCells] at he
  | d, f :: l, m, ks, hf, ps, qs, xs, ys, b, hx, hy, sx, sy, he => by
    simp only [flatFields] at hf
    split at hf
    case isFalse => simp at hf
    rename_i hno
    simp only [Bool.and_eq_true, beq_iff_eq, bne_iff_ne, ne_eq] at hno
    obtain ⟨hn, ho⟩ := hno
    have main : ∀ k ks', (k = .bool → P.underlying f.type = some .bool) ∧ (k = .int → ∃ j, P.underlying f.type = some (.int j)) ∧ (k = .str → P.underlying f.type = some .string) →
        aggT P f.type = some false → flatFields P (m + 1) l = some ks' → eqCells (k :: ks') ps qs = some b → (Op.eqFields (d + 1) xs ys (f :: l)).run P w = .ok b w := by
      intro k ks' hk hagg hl he
      cases ps with
      | nil => cases qs <;> simp [eqCells] at he
      | cons p ps =>
        cases qs with
        | nil => simp [eqCells] at he
        | cons q qs =>
          simp only [eqCells] at he
          split at he
          · rename_i b1 b2 h1 h2
            injection he with he
            subst he
            have sx' : m < xs.size := by rw [sx]; simp
            have sy' : m < ys.size := by rw [sy]; simp
            have rx := hx 0 p xs[m] (by simp) (by simp [Array.getElem?_eq_getElem sx'])
            have ry := hy 0 q ys[m] (by simp) (by simp [Array.getElem?_eq_getElem sy'])
            have ih := agg_ok d l (m + 1) ks' hl ps qs xs ys b2 (fun i p u h h' => hx (i + 1) p u (by simpa using h) (by rw [show m + (i + 1) = m + 1 + i by omega]; exact h'))
              (fun i p u h h' => hy (i + 1) p u (by simpa using h) (by rw [show m + (i + 1) = m + 1 + i by omega]; exact h')) (by simp at sx; omega) (by simp at sy; omega) h2
            have hag := run_aggT hagg w
            have hpx : (part f.type xs f.offset).run P w = .ok xs[m] w := by
              rw [ho]; simp [part, hag, Array.getElem?_eq_getElem sx']
            have hpy : (part f.type ys f.offset).run P w = .ok ys[m] w := by
              rw [ho]; simp [part, hag, Array.getElem?_eq_getElem sy']
            have heq := eqCell_ok (P := P) (d := d) hk rx ry h1
            have hn' : f.name ≠ "_" := hn
            simp only [Op.eqFields, if_pos hn', Sem.run_bind, hpx, hpy, heq, Result.andThen_ok]
            cases b1
            · simp
            · simpa using ih
          · simp at he
    split at hf
    all_goals first
      | (rename_i ks' h1 h2; injection hf with hf; subst hf; exact main _ ks' (by simp [h1]) (by simp [aggT, h1]) h2 he)
      | (rename_i j ks' h1 h2; injection hf with hf; subst hf; exact main _ ks' (by simp [h1]) (by simp [aggT, h1]) h2 he)
      | (simp at hf)

/-- What an operation that makes a value comes to. -/
def Gives (P : Program) (C : Cx) (w : World) (s : Sem Value) (p : PV) : Prop := ∃ v, s.run P w = .ok v w ∧ Rep C w p v

theorem nil_value {kd : NilKind} {x : Operand} (h : isNilOpd kd x = true) : ∃ z, x = .const z ∧ (kd = .ptr → z = .pointer none) ∧ (kd = .iface → z = .nilIface) ∧ (kd = .func → z = .nilFunc) ∧ (kd = .map → z = .map none) := by
  unfold isNilOpd at h
  split at h <;> simp at h
  all_goals subst h; exact ⟨_, rfl, by simp⟩
theorem nilK_ok {d : Nat} {t : TypeId} {kd : NilKind} (hk : nilKind P t = some kd) {p : PV} {v z : Value} {b : Bool} (hp : Rep C w p v) (h : isNilK kd p = some b)
    (hm : (kd = .ptr → z = .pointer none) ∧ (kd = .iface → z = .nilIface) ∧ (kd = .func → z = .nilFunc) ∧ (kd = .map → z = .map none)) :
    (Op.equalIn (d + 1) t v z).run P w = .ok b w ∧ (Op.equalIn (d + 1) t z v).run P w = .ok b w := by
  have hu : (kd = .ptr → ∃ e, P.underlying t = some (.pointer e)) ∧ (kd = .iface → ∃ e, P.underlying t = some (.interface e)) ∧ (kd = .func → ∃ x y z, P.underlying t = some (.func x y z)) ∧ (kd = .map → ∃ x y, P.underlying t = some (.map x y)) := by
    unfold nilKind at hk
    split at hk <;> simp at hk <;> subst hk <;> simp_all
  unfold isNilK at h
  split at h <;> simp at h <;> subst h
  · obtain ⟨e, he⟩ := hu.1 rfl; rw [hm.1 rfl]; cases hp; exact ⟨by simp only [Op.equalIn, Sem.run_bind, run_underlying he, Result.andThen_ok]; rfl, by simp only [Op.equalIn, Sem.run_bind, run_underlying he, Result.andThen_ok]; rfl⟩
  · obtain ⟨e, he⟩ := hu.1 rfl; rw [hm.1 rfl]; cases hp; exact ⟨by simp only [Op.equalIn, Sem.run_bind, run_underlying he, Result.andThen_ok]; rfl, by simp only [Op.equalIn, Sem.run_bind, run_underlying he, Result.andThen_ok]; rfl⟩
  · obtain ⟨e, he⟩ := hu.1 rfl; rw [hm.1 rfl]; cases hp; exact ⟨by simp only [Op.equalIn, Sem.run_bind, run_underlying he, Result.andThen_ok]; rfl, by simp only [Op.equalIn, Sem.run_bind, run_underlying he, Result.andThen_ok]; rfl⟩
  · obtain ⟨e, he⟩ := hu.1 rfl; rw [hm.1 rfl]; cases hp; exact ⟨by simp only [Op.equalIn, Sem.run_bind, run_underlying he, Result.andThen_ok]; rfl, by simp only [Op.equalIn, Sem.run_bind, run_underlying he, Result.andThen_ok]; rfl⟩
  · obtain ⟨e, he⟩ := hu.2.1 rfl; rw [hm.2.1 rfl]; cases hp; exact ⟨by simp only [Op.equalIn, Sem.run_bind, run_underlying he, Result.andThen_ok]; rfl, by simp only [Op.equalIn, Sem.run_bind, run_underlying he, Result.andThen_ok]; rfl⟩
  · obtain ⟨e, he⟩ := hu.2.1 rfl; rw [hm.2.1 rfl]; cases hp; exact ⟨by simp only [Op.equalIn, Sem.run_bind, run_underlying he, Result.andThen_ok]; rfl, by simp only [Op.equalIn, Sem.run_bind, run_underlying he, Result.andThen_ok]; rfl⟩
  · obtain ⟨_, _, _, he⟩ := hu.2.2.1 rfl; rw [hm.2.2.1 rfl]; cases hp; exact ⟨by simp only [Op.equalIn, Sem.run_bind, run_underlying he, Result.andThen_ok]; rfl, by simp only [Op.equalIn, Sem.run_bind, run_underlying he, Result.andThen_ok]; rfl⟩
  · obtain ⟨_, _, _, he⟩ := hu.2.2.1 rfl; rw [hm.2.2.1 rfl]; cases hp; exact ⟨by simp only [Op.equalIn, Sem.run_bind, run_underlying he, Result.andThen_ok]; rfl, by simp only [Op.equalIn, Sem.run_bind, run_underlying he, Result.andThen_ok]; rfl⟩
  · obtain ⟨_, _, he⟩ := hu.2.2.2 rfl; rw [hm.2.2.2 rfl]; cases hp; exact ⟨by simp only [Op.equalIn, Sem.run_bind, run_underlying he, Result.andThen_ok]; rfl, by simp only [Op.equalIn, Sem.run_bind, run_underlying he, Result.andThen_ok]; rfl⟩
  · obtain ⟨_, _, he⟩ := hu.2.2.2 rfl; rw [hm.2.2.2 rfl]; cases hp; exact ⟨by simp only [Op.equalIn, Sem.run_bind, run_underlying he, Result.andThen_ok]; rfl, by simp only [Op.equalIn, Sem.run_bind, run_underlying he, Result.andThen_ok]; rfl⟩

end Go.Flat
