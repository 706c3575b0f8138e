/-
  The evaluator's run of function 7.
-/
import Derived.Test.YtbfhilhkmicelaaGreatEnd
import Derived.Test.YtbfhilhkmicelaaGreatTab
import Derived.KernelRfl
namespace Go.Proofs.YtbfhilhkmicelaaGreat
open Go.Em

def isTrueRet (r : Option (Fin × Heap)) : Bool := match r with
  | some (.ret (.bool true), _) => true
  | _ => false

theorem run7 : isTrueRet (callG cx 100000 7 [] noHeap) = true := by kernel_rfl
end Go.Proofs.YtbfhilhkmicelaaGreat
