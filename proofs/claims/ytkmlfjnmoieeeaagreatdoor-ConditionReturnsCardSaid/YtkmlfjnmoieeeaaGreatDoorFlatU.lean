/- A machine over plain values. Part U: more of what code comes to. -/
import Derived.Test.YtkmlfjnmoieeeaaGreatDoorFlatW
set_option linter.unusedVariables false
set_option linter.unusedSimpArgs false
namespace Go.Flat
variable {c : CallT} {T : Temps} {H : Heap}
theorem leave_sl {t : Tail} {xs : List PV} (h : plainL xs = true) (l : Heap) : leave true H (.sl t xs) (H ++ l) = (.sl .shut xs, H) := by
  unfold leave
  have e : (((PV.sl t xs).frz (H ++ l) H.length).frz (H ++ l) H.length).strip = .sl .shut xs := by
    simp only [PV.frz, plainL_frz _ _ h, PV.strip, plainL_strip h]
  have e3 : (PV.sl .shut xs).idsLt H.length = true := PV.plain_ids _ (by simp [PV.plain, h])
  simp [e, e3]
theorem leave_sl_at {t : Tail} {xs : List PV} {H' : Heap} (h : plainL xs = true) (hp : ∃ l, H' = H ++ l) : leave true H (.sl t xs) H' = (.sl .shut xs, H) := by
  obtain ⟨l, rfl⟩ := hp
  exact leave_sl h l
/-- What holds a place of its own keeps the heap. -/
theorem leave_stay {p : PV} {H' : Heap} (h : p.idsLt H.length = false) : leave false H p H' = (p, H') := by
  unfold leave
  simp [h]
@[simp] theorem exec_extS {k : ExtK} {x y : Opd} : execA c (.extS k x y) T H = keepH H (extA k (x.ev T) (y.ev T)) := rfl
@[simp] theorem extA_count {s : List UInt8} {n : Int} : extA .count (.str s) (.int .u8 n) = some (.int .i64 (Go.Lib.countByte s n.toNat.toUInt8)) := rfl
@[simp] theorem extA_index {s : List UInt8} {n : Int} : extA .index (.str s) (.int .u8 n) = some (.int .i64 (Go.Lib.indexByte s n.toNat.toUInt8)) := rfl
@[simp] theorem exec_toBytes_str {x : Opd} : execA c (.toBytes x) T H = keepH H (match x.ev T with | .str s => some (.sl .shut (s.map fun b => .int .u8 b.toNat)) | _ => none) := rfl
@[simp] theorem bins_add {a b : List UInt8} : binA .add (.str a) (.str b) = if a.length + b.length ≤ 9223372036854775807 then some (.str (a ++ b)) else none := rfl
@[simp] theorem makeSlA_int {size bytes : Nat} {z : PV} {k l : IntKind} {n m : Int} : makeSlA H size bytes z (.int k n) (.int l m) = if 0 ≤ n ∧ n ≤ m ∧ m ≤ 4294967296 ∧ bytes ≤ 4096 ∧ 0 < size ∧ z.cells.length = size then
    some (.view H.length size 0 n.toNat, H ++ [.vec size (List.replicate n.toNat z), .dead]) else none := rfl
@[simp] theorem exec_makeSl {size bytes : Nat} {z : PV} {n m : Opd} : execA c (.makeSl size bytes z n m) T H = makeSlA H size bytes z (n.ev T) (m.ev T) := rfl
@[simp] theorem exec_litV {size : Nat} {ps : List Opd} : execA c (.litV size ps) T H = if 0 < size ∧ uniform size (evs T ps) = true then some (.view H.length size 0 (evs T ps).length, H ++ [.vec size (evs T ps), .dead]) else none := rfl
def elemsV (k i n : Nat) : Option HObj → Option (List PV)
  | some (.vec k' es) => if k = k' ∧ i + n ≤ es.length then some ((es.drop i).take n) else none
  | _ => none
@[simp] theorem elemsV_vec {k i n k' : Nat} {es : List PV} : elemsV k i n (some (.vec k' es)) = if k = k' ∧ i + n ≤ es.length then some ((es.drop i).take n) else none := rfl
@[simp] theorem elemsOf_view {id k i n : Nat} : elemsOf H (.view id k i n) = elemsV k i n H[id]? := by
  cases hH : H[id]? with
  | none => simp only [elemsOf, hH, elemsV]
  | some o => cases o <;> simp only [elemsOf, hH, elemsV]
def appO (H : Heap) (size bytes : Nat) (mu : Bool) (x : PV) : Option (List PV) → Option (PV × Heap)
  | some ys => appendA H size bytes mu x (.sl .shut ys)
  | none => none
@[simp] theorem appO_some {size bytes : Nat} {mu : Bool} {x : PV} {ys : List PV} : appO H size bytes mu x (some ys) = appendA H size bytes mu x (.sl .shut ys) := rfl
@[simp] theorem append_any_view {size bytes : Nat} {mu : Bool} {x : PV} {a b d e : Nat} : appendA H size bytes mu x (.view a b d e) = appO H size bytes mu x (elemsV b d e H[a]?) := by
  rw [← elemsOf_view]
  cases he : elemsOf H (.view a b d e) with
  | none => cases x <;> simp only [appendA, he, appO]
  | some ys => cases x <;> simp only [appendA, he, appO, elemsOf_sl]
theorem leave_view {j n : Nat} {es : List PV} {l : Heap} (h : l[j]? = some (.vec 1 es)) (hn : n ≤ es.length) (hp : plainL (es.take n) = true) :
    leave true H (.view (H.length + j) 1 0 n) (H ++ l) = (.sl .shut (es.take n), H) := by
  unfold leave
  have e1 : (PV.view (H.length + j) 1 0 n).frz (H ++ l) H.length = .sl .shut (es.take n) := by
    simp only [PV.frz, get_end, h]
    rw [if_pos ⟨by omega, trivial, by omega⟩]
    simp
  have e2 : ((PV.sl .shut (es.take n)).frz (H ++ l) H.length).strip = .sl .shut (es.take n) := by
    simp only [PV.frz, plainL_frz _ _ hp, PV.strip, plainL_strip hp]
  have e3 : (PV.sl .shut (es.take n)).idsLt H.length = true := PV.plain_ids _ (by simp [PV.plain, hp])
  simp [e1, e2, e3]
end Go.Flat
