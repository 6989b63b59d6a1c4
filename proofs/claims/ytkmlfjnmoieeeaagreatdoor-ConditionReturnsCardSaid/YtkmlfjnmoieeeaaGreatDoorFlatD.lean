/- A machine over plain values. Part D: the model's operations turned into the plain machine's, and that those which don't touch the heap agree. -/
import Derived.Test.YtkmlfjnmoieeeaaGreatDoorFlatC
set_option linter.unusedVariables false
set_option linter.unusedSimpArgs false
namespace Go.Flat

def compOpt : Option Operand → Option (Option Opd)
  | none => some none
  | some x => (compOpd x).map some
def isNilOpd (kd : NilKind) : Operand → Bool
  | .const (.pointer none) => kd == .ptr
  | .const .nilIface => kd == .iface
  | .const .nilFunc => kd == .func
  | .const (.map none) => kd == .map
  | _ => false
def nilKind (P : Program) (t : TypeId) : Option NilKind :=
  match P.underlying t with
  | some (.pointer _) => some .ptr
  | some (.interface _) => some .iface
  | some (.func ..) => some .func
  | some (.map ..) => some .map
  | _ => none
/-- Structs of plain cells alone, each field a cell behind the other: the cells' kinds. -/
def flatFields (P : Program) : Nat → List Field → Option (List EqK)
  | _, [] => some []
  | n, f :: fs => if f.name != "_" && f.offset == n then
      (match P.underlying f.type, flatFields P (n + 1) fs with
        | some .bool, some ks => some (.bool :: ks)
        | some (.int _), some ks => some (.int :: ks)
        | some .string, some ks => some (.str :: ks)
        | _, _ => none)
      else none
/-- The types of integers that may be compared. -/
def intTypes (P : Program) : List TypeId := (List.range P.types.size).filter fun t => (match P.info? t with | some i => i.comparable | none => false) && (match P.underlying t with | some (.int _) => true | _ => false)
def compBin (P : Program) (op : BinOp) (xt : TypeId) (x y : Operand) : Option AOp :=
  match P.underlying xt with
  | some (.int _) | some .string => do some (.bin op (← compOpd x) (← compOpd y))
  | some .bool => do if op == .eql then some (.eqBool false (← compOpd x) (← compOpd y)) else if op == .neq then some (.eqBool true (← compOpd x) (← compOpd y)) else none
  | some (.struct fs) => do
    let ks ← flatFields P 0 fs.toList
    if !P.stoodInHeld xt && !P.eqGuardType P.depth xt && (op == .eql || op == .neq) then some (.eqAgg (op == .neq) ks (← compOpd x) (← compOpd y)) else none
  | _ => do
    let kd ← nilKind P xt
    if op == .eql || op == .neq then (if isNilOpd kd y then (compOpd x).map (.eqNil kd (op == .neq)) else if isNilOpd kd x then (compOpd y).map (.eqNil kd (op == .neq)) else if kd == .iface then do some (.eqIf (op == .neq) (intTypes P) (← compOpd x) (← compOpd y)) else none)
    else none
def fieldOf (P : Program) (t : TypeId) (f : Nat) : Option Field :=
  match P.underlying t with
  | some (.struct fs) => fs[f]?
  | _ => none
def structPlaces (P : Program) (fs : List Field) : Option (List (Nat × Nat)) := fs.mapM fun f => (P.info? f.type).map fun i => (f.offset, i.size)
def compParts (places : Nat → Option (Nat × Nat)) : List (Nat × Operand) → Option (List (Nat × Nat × Opd))
  | [] => some []
  | (i, x) :: rest => do
    let (o, s) ← places i
    let y ← compOpd x
    let r ← compParts places rest
    some ((o, s, y) :: r)
def keyKind (P : Program) (t : TypeId) : Option EqK :=
  match P.underlying t with
  | some (.int _) => some .int
  | some .string => some .str
  | some .bool => some .bool
  | _ => none
def appendedT (P : Program) (t : TypeId) : Bool :=
  match P.underlying t with
  | some (.slice _) | some .string => true
  | _ => false
def ptrFits (P : Program) (t : TypeId) (ptr : Bool) : Bool :=
  match P.underlying t with
  | some (.pointer _) => ptr
  | some _ => !ptr
  | none => false
/-- Which function a method's name stands for, by the type behind the interface. -/
def methodOf (P : Program) (name : String) (t : TypeId) : Option (TypeId × FuncId) := do
  let i ← P.info? t
  let m ← i.methods.find? (·.name == name)
  let (f, ptr) ← m.func
  let fn ← P.funcs[f]?
  if m.path.isEmpty && ptrFits P t ptr && fn.name != "runtime.NumGoroutine" && fn.body.isSome then some (t, f) else none
def methodTab (P : Program) (name : String) : List (TypeId × FuncId) := (List.range P.types.size).filterMap (methodOf P name)
/-- Functions without a body of which the model knows what they do. -/
def extOf (fn : Func) : Option ExtK :=
  if fn.body.isNone && (Extern.findNext fn).isNone then
    (if fn.name == "internal/bytealg.CountString" then some .count else if fn.name == "internal/bytealg.IndexByteString" then some .index else none)
  else none
def intT (P : Program) (t : TypeId) : Bool :=
  match P.underlying t with
  | some (.int _) => true
  | _ => false
def compOp (P : Program) (mu : Nat) : Op → Option AOp
  | .move x | .assign x => do some (.mv (← compOpd x))
  | .pick c a b => do some (.pick (← compOpd c) (← compOpd a) (← compOpd b))
  | .binOp op xt x y _ => compBin P op xt x y
  | .unOp op _ x => do some (.un op (← compOpd x))
  | .convert src dst x => match P.underlying src, P.underlying dst with
    | some (.int _), some (.int k) => do some (.convInt k (← compOpd x))
    | some .string, some .string => do some (.convStr (← compOpd x))
    | some (.slice e), some .string => match P.underlying e with
      | some (.int .u8) => do some (.toStr (← compOpd x))
      | _ => none
    | some .string, some (.slice e) => match P.underlying e with
      | some (.int .u8) => do some (.toBytes (← compOpd x))
      | _ => none
    | _, _ => none
  | .makeInterface t x => match P.underlying t with
    | some (.interface _) | none => none
    | _ => do some (.iface t (← compOpd x))
  | .makeFunc fn first caps => do some (.func fn (← compOpds first.toList) (← compOpds caps.toList))
  | .field t x f => do
    let fd ← fieldOf P t f
    some (.field fd.offset (← sizeT P fd.type) (← aggT P fd.type) (← compOpd x))
  | .fieldAddr t x f => do
    let fd ← fieldOf P t f
    let s ← sizeT P fd.type
    if s = 0 then none else some (.faddr fd.offset (← compOpd x))
  | .index t x i => match P.underlying t with
    | some .string => do some (.idxStr (← compOpd x) (← compOpd i))
    | some (.array len elem) => do some (.idxArr len (← sizeT P elem) (← aggT P elem) (← compOpd x) (← compOpd i))
    | _ => none
  | .indexAddr t x i => match P.underlying t with
    | some (.slice elem) => do some (.iaSl (← sizeT P elem) (← compOpd x) (← compOpd i))
    | some (.array len elem) => do some (.iaArr len (← sizeT P elem) (← compOpd x) (← compOpd i))
    | _ => none
  | .extract x i => do some (.ext i (← compOpd x))
  | .typeAssert x _ t ok => match P.underlying t with
    | some (.interface _) | none => none
    | _ => do some (.tass t (← zeroT P t) ok (← compOpd x))
  | .build t parts => do
    let z ← zeroT P t
    match P.underlying t with
    | some (.struct fs) => do
      let pl ← structPlaces P fs.toList
      some (.build z.cells (← compParts (pl.toArray[·]?) parts.toList))
    | some (.array _ e) => do
      let s ← sizeT P e
      some (.build z.cells (← compParts (fun i => some (i * s, s)) parts.toList))
    | _ => none
  | .buildSlice t len parts => match P.underlying t with
    | some (.slice e) => do
      let s ← sizeT P e
      let _ ← zeroT P e
      if 0 < s ∧ len * s ≤ 65536 ∧ parts.toList.map (·.1) = List.range len then (do let ps ← compOpds (parts.toList.map (·.2)); some (if mu == 2 && 0 < len then .litV s ps else .lit s ps)) else none
    | _ => none
  | .nilCheck x => do some (.nilchk (← compOpd x))
  | .call { callee := .builtin .len, args, argTypes } => match args.toList, argTypes.toList with
    | [x], [t] => match P.underlying t with
      | some .string => do some (.lenStr (← compOpd x))
      | some (.slice _) => do some (.lenSl (← compOpd x))
      | some (.array n _) => some (.lenArr n)
      | some (.map ..) => do some (.lenMap (← compOpd x))
      | _ => none
    | _, _ => none
  | .call { callee := .builtin .min, args, .. } => do some (.minmax false (← compOpds args.toList))
  | .call { callee := .builtin .max, args, .. } => do some (.minmax true (← compOpds args.toList))
  | .slice t x lo hi none => match P.underlying t with
    | some .string => do some (.slStr (← compOpd x) (← compOpt lo) (← compOpt hi))
    | some (.slice e) => do some (.slSl (← sizeT P e) (← compOpd x) (← compOpt lo) (← compOpt hi))
    | _ => none
  | .alloc t => do
    let z ← zeroT P t
    some (.alloc z.cells)
  | .box _ x => do some (.box (← compOpd x))
  | .load t a => do some (.load (← sizeT P t) (← aggT P t) (← compOpd a))
  | .store t a x => do some (.store (← sizeT P t) (← compOpd a) (← compOpd x))
  | .call { callee := .builtin .append, args, argTypes } => match args.toList, argTypes.toList with
    | [x, y], [t, t2] => match P.underlying t with
      | some (.slice e) => do
        let s ← sizeT P e
        let z ← zeroT P e
        let b ← (P.info? e).map (·.bytes)
        if appendedT P t2 && z.cells.length == s then some (.append s b (mu != 0) (← compOpd x) (← compOpd y)) else if intT P t2 then some (.appendZ s b z (← compOpd x) (← compOpd y)) else none
      | _ => none
    | _, _ => none
  | .call { callee := .builtin .cap, args, argTypes } => match args.toList, argTypes.toList with
    | [x], [t] => match P.underlying t with
      | some (.slice _) => do some (.capSl (← compOpd x))
      | _ => none
    | _, _ => none
  | .call { callee := .builtin .copy, args, argTypes } => match args.toList, argTypes.toList with
    | [x, y], [t, _] => match P.underlying t with
      | some (.slice e) => do some (.copySl (← sizeT P e) (← compOpd x) (← compOpd y))
      | _ => none
    | _, _ => none
  | .call { callee := .builtin .clear, args, argTypes } => match args.toList, argTypes.toList with
    | [x], [t] => match P.underlying t with
      | some (.slice e) => do some (.clearSl (← sizeT P e) (← zeroT P e) (← compOpd x))
      | _ => none
    | _, _ => none
  | .makeSlice t len cap => match P.underlying t with
    | some (.slice e) => do
      let s ← sizeT P e
      let z ← zeroT P e
      let b ← (P.info? e).map (·.bytes)
      some (.makeSl s b z (← compOpd len) (← compOpd cap))
    | _ => none
  | .call { callee := .invoke recv name, args, .. } => do
    some (.invoke (methodTab P name) (← compOpd recv) (← compOpds args.toList))
  | .makeMap t none => match P.underlying t with
    | some (.map ..) => some .makeMap
    | _ => none
  | .mapUpdate t m k v | .insert t m k v => match P.underlying t with
    | some (.map kt _) => do some (.mapUpd (← keyKind P kt) (← compOpd m) (← compOpd k) (← compOpd v))
    | _ => none
  | .lookup t m k ok => match P.underlying t with
    | some (.map kt et) => do some (.lookup (← keyKind P kt) (← zeroT P et) ok (← compOpd m) (← compOpd k))
    | _ => none
  | .range t x => match P.underlying t with
    | some (.map ..) => do some (.rangeMap (← compOpd x))
    | _ => none
  | .next it false => do some (.next (← compOpd it))
  | .entry it => do some (.entry (← compOpd it))
  | .call { callee := .value f, args, .. } => match f with
    | .func f => match P.funcs[f]? with
      | some fn => if fn.name != "runtime.NumGoroutine" && fn.body.isSome then do some (.callF f (← compOpds args.toList)) else
        (match extOf fn, args.toList with
          | some k, [x, y] => do some (.extS k (← compOpd x) (← compOpd y))
          | _, _ => none)
      | none => none
    | f => do some (.callV (← compOpd f) (← compOpds args.toList))
  | _ => none

section
variable {P : Program} {C : Cx} {w : World} {n : Nat} {T : Temps} {a : Act}

theorem add_none (b o n : Nat) : (⟨b, o, none⟩ : Addr).add n = ⟨b, o + n, none⟩ := by unfold Addr.add; split <;> simp_all
theorem rep_bool {v : Value} {b : Bool} (h : Rep C w (.bool b) v) : v = .bool b := by cases h; rfl
theorem rep_int {v : Value} {k : IntKind} {i : Int} (h : Rep C w (.int k i) v) : v = .int k i := by cases h; rfl
theorem rep_str {v : Value} {l : List UInt8} (h : Rep C w (.str l) v) : ∃ s : ByteArray, v = .string s ∧ s.data.toList = l := by cases h; exact ⟨_, rfl, rfl⟩

theorem intBin_ok (op : BinOp) (k : IntKind) (x y : Int) (p : PV) (h : intBin op k x y = some p) (hs : op ≠ .shl) (hr : op ≠ .shr) (xt : TypeId) :
    ∃ v, (binOp op xt (.int k x) (.int k y)).run P w = .ok v w ∧ Rep C w p v := by
  cases op
  case shl => exact absurd rfl hs
  case shr => exact absurd rfl hr
  case quo =>
    simp only [intBin] at h
    split at h
    · simp at h
    · rename_i hz
      injection h with h; subst h
      refine ⟨_, ?_, .int _ _⟩
      simp [binOp, Op.intDiv, hz]
  case rem =>
    simp only [intBin] at h
    split at h
    · simp at h
    · rename_i hz
      injection h with h; subst h
      refine ⟨_, ?_, .int _ _⟩
      simp [binOp, Op.intDiv, hz]
  all_goals
    simp only [intBin, Option.some.injEq, reduceCtorEq] at h
    subst h
    first
    | exact ⟨_, by simp [binOp, Op.intArith]; rfl, .int _ _⟩
    | exact ⟨_, by simp [binOp, Op.intBits]; rfl, .int _ _⟩
    | exact ⟨_, by simp only [binOp, ne_eq, not_true_eq_false, if_false]; rfl, .bool _⟩
    | exact ⟨_, by simp only [binOp, ne_eq, not_true_eq_false, if_false]; rfl, .int _ _⟩
theorem strBin_ok (op : BinOp) (x y : ByteArray) (p : PV) (h : strBin op x.data.toList y.data.toList = some p) (hs : op ≠ .shl) (hr : op ≠ .shr) (xt : TypeId) :
    ∃ v, (binOp op xt (.string x) (.string y)).run P w = .ok v w ∧ Rep C w p v := by
  cases op
  case shl => exact absurd rfl hs
  case shr => exact absurd rfl hr
  case add =>
    simp only [strBin] at h
    split at h
    · rename_i hl
      injection h with h
      subst h
      refine ⟨.string (x ++ y), ?_, ?_⟩
      · have : ¬ ((x.size + y.size : Nat) : Int) > IntKind.i64.max := by
          have hm : IntKind.i64.max = 9223372036854775807 := by decide
          have e1 : x.size = x.data.size := rfl
          have e2 : y.size = y.data.size := rfl
          simp only [Array.length_toList] at hl
          rw [hm, e1, e2]; omega
        show (Op.stringOp .add x y).run P w = _
        simp only [Op.stringOp, if_neg this]
        rfl
      · have := Rep.str (C := C) (w := w) (x ++ y)
        simpa using this
    · simp at h
  all_goals
    simp only [strBin, Option.some.injEq, reduceCtorEq] at h
    try subst h
    try (refine ⟨_, rfl, ?_⟩; simp only [ByteArray.toList_eq]; exact .bool _)
end
end Go.Flat
