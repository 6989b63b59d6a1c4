/- A machine over plain values. Part U: more of what code comes to. -/
import Derived.Test.YtkmlfjnmoieeeaaDoorFlatW
namespace Go.Flat
variable {c : CallT} {T : Temps} {H : Heap}
theorem leave_sl {fz : Bool} {t : Tail} {xs : List PV} (h : plainL xs = true) (l : Heap) : leave fz H (.sl t xs) (H ++ l) = (.sl .shut xs, H) := by
  unfold leave
  have e : (if fz then ((PV.sl t xs).frz (H ++ l) H.length).frz (H ++ l) H.length else .sl t xs) = .sl t xs := by
    simp only [PV.frz, plainL_frz _ _ h]
    simp
  rw [e]
  have e2 : (PV.sl t xs).strip = .sl .shut xs := by simp only [PV.strip, plainL_strip h]
  have e3 : (PV.sl .shut xs).idsLt H.length = true := PV.plain_ids _ (by simp [PV.plain, h])
  simp [e2, e3]
theorem leave_sl_at {fz : Bool} {t : Tail} {xs : List PV} {H' : Heap} (h : plainL xs = true) (hp : ∃ l, H' = H ++ l) : leave fz H (.sl t xs) H' = (.sl .shut xs, H) := by
  obtain ⟨l, rfl⟩ := hp
  exact leave_sl h l
end Go.Flat
