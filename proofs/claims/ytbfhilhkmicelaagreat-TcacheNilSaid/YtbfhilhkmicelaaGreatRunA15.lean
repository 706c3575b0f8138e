/-
  The evaluator's run of function 15.
-/
import Derived.Test.YtbfhilhkmicelaaGreatEnd
import Derived.Test.YtbfhilhkmicelaaGreatJt
import Derived.KernelRfl
namespace Go.Proofs.YtbfhilhkmicelaaGreat
open Go.Em

def isTrueRet (r : Option (Fin × Heap)) : Bool := match r with
  | some (.ret (.bool true), _) => true
  | _ => false

set_option maxRecDepth 1000000 in
theorem runA : isTrueRet (callH cx jt 100000 15 [] noHeap) = true := by kernel_rfl
end Go.Proofs.YtbfhilhkmicelaaGreat
