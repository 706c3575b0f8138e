/-
  The evaluator's runs of function 8; and closed facts on what it is handed.
-/
import Derived.Test.YtbfhilhkmicelaaGreatEnd
import Derived.Test.YtbfhilhkmicelaaGreatJt
import Derived.KernelRfl
namespace Go.Proofs.YtbfhilhkmicelaaGreat
open Go.Em

def isTrueRet (r : Option (Fin × Heap)) : Bool := match r with
  | some (.ret (.bool true), _) => true
  | _ => false

set_option maxRecDepth 1000000 in
theorem run8 (l c : Nat) (n : Int) : isTrueRet (callH cx jt 100000 8 [.slice (some ⟨0, 0, none⟩) l c, .int .i64 n] ⟨.nil, 1, []⟩) = true := by kernel_rfl
set_option maxRecDepth 1000000 in
theorem run8n (n : Int) : isTrueRet (callH cx jt 100000 8 [.slice none 0 0, .int .i64 n] ⟨.nil, 1, []⟩) = true := by kernel_rfl

theorem laidOut : laidOutB Tryz.prog = true := by kernel_rfl
theorem read55 : Tryz.prog.readableRec 55 = true := by kernel_rfl
theorem row55 : 55 < Tryz.prog.types.size := of_decide_eq_true (by kernel_rfl)
end Go.Proofs.YtbfhilhkmicelaaGreat
