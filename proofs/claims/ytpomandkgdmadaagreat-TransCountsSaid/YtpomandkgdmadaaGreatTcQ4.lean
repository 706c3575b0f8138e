/-
  What stands ahead of the loop, by a run: a block of 5 instructions at most.
-/
import Derived.Test.YtpomandkgdmadaaGreatTcS
import Derived.KernelRfl
namespace Go.Proofs.YtpomandkgdmadaaGreat
open Go.Em
set_option linter.unusedVariables false
set_option maxRecDepth 1000000

theorem pre4n (s : ExtF) (times most : Int) (lim : Value) (k q : Nat) :
    outN [0, 2, 8, 9, 11] (besd none (fillH (xP k 514 0) shape4)) (exec (withE cx s) (callHU (withE cx s) (eMake k q) jt 100000) false 100 (seqs preL .skip) (stL [(0, .int .i64 times), (1, .int .i64 most), (2, lim), (7, .bool true), (8, env0)] (litH (besd none (fillH x0 shape0)) nx0))) =
      some ([(0, .int .i64 (wT k)), (2, lim), (8, env4), (9, blk4), (11, .int .i64 0)], besd none (fillH (xP k 514 0) shape4), 22053, [offB (isI (IntKind.wrap .i64 (Int.ofNat 1 + Int.ofNat (q + 4))) (q + 5)), offB (eqB (Nat.ble 65 (q + 5)) false), offB (isI (fewI most 63) (q + 4)), offB (isI (fewI times 200) k)]) := by kernel_rfl

theorem pre4o (o : Em.Obj) (s : ExtF) (times most : Int) (lim : Value) (k q : Nat) :
    outN [0, 2, 8, 9, 11] (besd (some o) (fillH (xP k 514 0) shape4)) (exec (withE cx s) (callHU (withE cx s) (eMake k q) jt 100000) false 100 (seqs preL .skip) (stL [(0, .int .i64 times), (1, .int .i64 most), (2, lim), (7, .bool true), (8, env0)] (litH (besd (some o) (fillH x0 shape0)) nx0))) =
      some ([(0, .int .i64 (wT k)), (2, lim), (8, env4), (9, blk4), (11, .int .i64 0)], besd (some o) (fillH (xP k 514 0) shape4), 22053, [offB (isI (IntKind.wrap .i64 (Int.ofNat 1 + Int.ofNat (q + 4))) (q + 5)), offB (eqB (Nat.ble 65 (q + 5)) false), offB (isI (fewI most 63) (q + 4)), offB (isI (fewI times 200) k)]) := by kernel_rfl

end Go.Proofs.YtpomandkgdmadaaGreat
