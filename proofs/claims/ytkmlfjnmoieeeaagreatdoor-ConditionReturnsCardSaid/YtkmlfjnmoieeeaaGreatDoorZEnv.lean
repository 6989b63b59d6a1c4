/- The functions of this program as plain code; the library's Itoa, Atoi and sort of texts by their contracts; what the listed variables hold. -/
import Derived.Test.YtkmlfjnmoieeeaaGreatDoorZWords
import Derived.Test.YtkmlfjnmoieeeaaGreatDoorZRefers3
import Derived.Test.YtkmlfjnmoieeeaaGreatDoorFlatT
import Derived.Test.YtkmlfjnmoieeeaaGreatDoorFlatX
import Derived.Test.YtkmlfjnmoieeeaaGreatDoorTryzSortP
import Derived.Test.YtkmlfjnmoieeeaaGreatDoorTryzNumP
import Derived.Test.YtkmlfjnmoieeeaaGreatDoorRows
import Derived.ProofKit
import Derived.Lay
import Derived.Lib.LaidTab
import Derived.Stop.LaidErr
set_option linter.unusedVariables false
set_option linter.unusedSimpArgs false
namespace Go.Proofs.YtkmlfjnmoieeeaaGreatDoor
open Go.ChangeShapes Go.WideShapes Go.ChangeAt Go.RowKit Go.Flat

instance theGlobs : Globs := ⟨fun g => if g = 1 then Option.some (IsTab .u64 Lib.pow10Tab) else if g = 2 then Option.some IsErr else if g = 3 then Option.some IsErr else Option.none⟩
/-- The functions as plain code. -/
noncomputable def theEnv : Env := { func := fun i => compFunc Tryz.prog (if i == 48 then 2 else if i == 9 || i == 13 || i == 17 || i == 18 || i == 24 || i == 25 || i == 41 || i == 55 || i == 77 then 1 else 0) (!(i == 77 || i == 24)) i, prim := fun i => if i = 40 then Option.some sortP else if i = 54 then Option.some itoaP else if i = 101 then Option.some (atoiP (Tryz.laysC172_ren.t 168)) else Option.none }
theorem envOk : EnvOk Tryz.prog theEnv := ⟨(fun f g h => by
  simp only [theEnv] at h
  split at h
  · rename_i hf
    subst hf
    injection h with h
    subst h
    exact sort_prim (ρ := Tryz.lays190_ren) Tryz.lays190 ⟨_, Tryz.func40, beq_eq_false_iff_ne.1 (by kernel_rfl), by kernel_rfl⟩
  · split at h
    · rename_i hf
      subst hf
      injection h with h
      subst h
      exact itoa_prim (ρ := Tryz.laysM171_ren) Tryz.laysM171 (g := 1) (by kernel_rfl) rfl ⟨_, Tryz.func54, beq_eq_false_iff_ne.1 (by kernel_rfl), by kernel_rfl⟩
    · split at h
      · rename_i hf
        subst hf
        injection h with h
        subst h
        exact atoi_prim (ρ := Tryz.laysC172_ren) Tryz.laysC172 rfl rfl ⟨_, Tryz.func101, beq_eq_false_iff_ne.1 (by kernel_rfl), by kernel_rfl⟩
      · cases h), (fun f F h => by
  simp only [theEnv] at h
  exact ⟨_, _, h⟩), by kernel_rfl⟩
theorem noPrim (f : FuncId) (h : np f = true) : theEnv.prim f = Option.none := by
  simp only [np, Bool.and_eq_true, bne_iff_ne, ne_eq] at h
  simp only [theEnv, if_neg h.1.1, if_neg h.1.2, if_neg h.2]
theorem envD : EnvD theEnv := ⟨noPrim, by kernel_rfl, by kernel_rfl, by kernel_rfl, by kernel_rfl, by kernel_rfl, by kernel_rfl, by kernel_rfl, by kernel_rfl, by kernel_rfl, by kernel_rfl, by kernel_rfl, by kernel_rfl, by kernel_rfl, by kernel_rfl, by kernel_rfl⟩
theorem envR : EnvR theEnv := ⟨noPrim, by kernel_rfl, by kernel_rfl, by kernel_rfl, by kernel_rfl, by kernel_rfl, by kernel_rfl, by kernel_rfl, by kernel_rfl⟩
theorem envN : EnvN theEnv := ⟨noPrim, by kernel_rfl, by kernel_rfl, by kernel_rfl, by kernel_rfl, by kernel_rfl, by kernel_rfl, by kernel_rfl, by kernel_rfl, by kernel_rfl, by kernel_rfl, by kernel_rfl, by kernel_rfl, by kernel_rfl, by kernel_rfl, by kernel_rfl, by kernel_rfl, by kernel_rfl, by kernel_rfl, by kernel_rfl, by kernel_rfl, by kernel_rfl⟩
theorem atoi_call : ∃ te, ∀ (s : Str) (H : Heap), s.length ≤ 281474976710656 → call theEnv 101 [.str s] H = Option.some (match Lib.atoiAll s with
    | .ok v => .tup [.int .i64 v, .niliface]
    | .range => .tup [.int .i64 (Lib.atoiSat s), .iface te (.fp [])]
    | _ => .tup [.int .i64 0, .iface te (.fp [])], H) := by
  refine ⟨Tryz.laysC172_ren.t 168, fun s H hs => ?_⟩
  rw [call_prim (g := atoiP (Tryz.laysC172_ren.t 168)) (by kernel_rfl)]
  simp only [atoiP, if_pos hs]
  cases Lib.atoiAll s <;> rfl
theorem itoa_call (n : Int) (H : Heap) (h0 : -9223372036854775808 ≤ n) (h1 : n ≤ 9223372036854775807) : call theEnv 54 [.int .i64 n] H = Option.some (.str (Lib.itoa n), H) := by
  rw [call_prim (g := itoaP) (by kernel_rfl)]
  simp only [itoaP]
  rw [if_pos ⟨h0, h1⟩]
theorem envP : EnvP theEnv := ⟨envD, envN, noPrim, by kernel_rfl, by kernel_rfl, by kernel_rfl, by kernel_rfl, by kernel_rfl, by kernel_rfl, by kernel_rfl, by kernel_rfl, atoi_call, itoa_call⟩
theorem envQ : EnvQ theEnv := ⟨envP, by kernel_rfl, by kernel_rfl⟩
theorem envT : EnvT theEnv := ⟨envQ, envR, noPrim, by kernel_rfl, by kernel_rfl, by kernel_rfl, by kernel_rfl⟩
theorem envF : EnvF theEnv := ⟨envT, noPrim, by kernel_rfl, by kernel_rfl, by kernel_rfl, by kernel_rfl, by kernel_rfl, by kernel_rfl, by kernel_rfl, by kernel_rfl, by kernel_rfl, by kernel_rfl, by kernel_rfl, by kernel_rfl, by kernel_rfl⟩
theorem envS : EnvS theEnv := ⟨by kernel_rfl, by kernel_rfl, by kernel_rfl, by kernel_rfl, by kernel_rfl, by kernel_rfl, by kernel_rfl⟩
theorem env3 : theEnv.func 3 = Option.some F3 := by kernel_rfl
theorem env5 : theEnv.func 5 = Option.some F5 := by kernel_rfl
theorem awakeX : callX theEnv 40 60 6 [] [] = Option.some (.bool true, []) := by kernel_rfl
theorem awake : call theEnv 6 [] [] = Option.some (.bool true, []) := call_run 40 60 awakeX
end Go.Proofs.YtkmlfjnmoieeeaaGreatDoor
