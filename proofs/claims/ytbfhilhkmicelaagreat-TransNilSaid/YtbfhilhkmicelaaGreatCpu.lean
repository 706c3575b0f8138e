/-
  The kinds of a processor's cells.
-/
import Derived.Test.YtbfhilhkmicelaaGreatAwk
import Derived.Test.YtbfhilhkmicelaaGreatJt
import Derived.KernelRfl
namespace Go.Proofs.YtbfhilhkmicelaaGreat
open Go.Em

noncomputable def cpuK : List (Option IntKind) := [some .u32, some .u32, some .u32, some .u32, some .u32, some .u32, some .u32, some .u32, some .u32, some .u32, some .u16, none, some .u32, some .u32, some .i64, none, some .i64, none, none, some .u16, none, some .u32, some .u32, some .i64, none, some .i64, none, none, some .u16, none, some .u32, some .u32, some .i64, none, some .i64, none, none, some .u16, none, some .u32, some .u32, some .i64, none, some .i64, none, none, some .u16, none, some .u32, some .u32, some .i64, none, some .i64, none, none, some .u16, none, some .u32, some .u32, some .i64, none, some .i64, none, none, some .u32, some .u32, some .u32, some .u32, some .u16, some .u32, some .u16, some .u16, none, some .u32, some .u32, some .i64, none, some .i64, none, none, none, none, none]
noncomputable def cpuT : List Nat := [23, 23, 23, 23, 23, 23, 23, 23, 23, 23, 25, 4, 23, 23, 3, 4, 3, 4, 4, 25, 4, 23, 23, 3, 4, 3, 4, 4, 25, 4, 23, 23, 3, 4, 3, 4, 4, 25, 4, 23, 23, 3, 4, 3, 4, 4, 25, 4, 23, 23, 3, 4, 3, 4, 4, 25, 4, 23, 23, 3, 4, 3, 4, 4, 23, 23, 23, 23, 25, 23, 25, 25, 4, 23, 23, 3, 4, 3, 4, 4, 4, 4, 4]
theorem cpuT_ok : Tryz.prog.cellTypes Tryz.prog.depth 34 = some cpuT := by kernel_rfl
theorem cpuSize : Tryz.prog.cellsOf 34 = cpuK.length := by kernel_rfl
theorem cpuLen : cpuT.length = cpuK.length := by kernel_rfl

theorem cpu_kinds : ∀ (i u : Nat), cpuT[i]? = some u → (∃ k, cpuK[i]? = some (some k) ∧ Tryz.prog.underlying u = some (.int k)) ∨ (cpuK[i]? = some none ∧ Tryz.prog.underlying u = some .bool) :=
  kindsB_ok Tryz.prog cpuT cpuK (by kernel_rfl)

theorem laidOut : laidOutB Tryz.prog = true := by kernel_rfl
theorem read34 : Tryz.prog.readableRec 34 = true := by kernel_rfl
theorem row34 : 34 < Tryz.prog.types.size := of_decide_eq_true (by kernel_rfl)

noncomputable def argsC (f : Nat → Int) (g : Nat → Bool) (n : Int) : List Value := [.agg (mkC f g cpuK 0).toArray, .int .i64 n]
end Go.Proofs.YtbfhilhkmicelaaGreat
