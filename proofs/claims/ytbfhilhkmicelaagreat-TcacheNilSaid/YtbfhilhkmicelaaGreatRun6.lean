/-
  The evaluator's run of function 6, function 15 not gone into; and that one's run.
-/
import Derived.Test.YtbfhilhkmicelaaGreatCpu
import Derived.Test.YtbfhilhkmicelaaGreatJtA
namespace Go.Proofs.YtbfhilhkmicelaaGreat
open Go.Em

noncomputable def res6 (f : Nat → Int) (g : Nat → Bool) (n : Int) : Bool := retB (callH (withA cx 15) jt 100000 6 (argsC f g n) ⟨.nil, 0, []⟩)

set_option maxRecDepth 1000000 in
theorem run6 (f : Nat → Int) (g : Nat → Bool) (n : Int) : res6 f g n = eqL (mkC f g cpuK 0) (mkC f g cpuK 0) := by kernel_rfl
end Go.Proofs.YtbfhilhkmicelaaGreat
