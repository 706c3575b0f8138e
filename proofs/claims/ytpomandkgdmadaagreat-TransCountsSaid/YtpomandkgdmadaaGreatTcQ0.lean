/-
  What stands ahead of the loop, by a run: a block of 1 instructions at most.
-/
import Derived.Test.YtpomandkgdmadaaGreatTcS
import Derived.KernelRfl
namespace Go.Proofs.YtpomandkgdmadaaGreat
open Go.Em
set_option linter.unusedVariables false
set_option maxRecDepth 1000000

theorem pre0n (s : ExtF) (times most : Int) (lim : Value) (k q : Nat) :
    outN [0, 2, 8, 9, 11] (besd none (fillH (xP k 514 0) shape1)) (exec (withE cx s) (callHU (withE cx s) (ePre k 0) jt 100000) false 100 (seqs preL .skip) (stL [(0, .int .i64 times), (1, .int .i64 most), (2, lim), (7, .bool true), (8, env0)] (litH (besd none (fillH x0 shape0)) nx0))) =
      some ([(0, .int .i64 (wT k)), (2, lim), (8, env1), (9, blk1), (11, .int .i64 0)], besd none (fillH (xP k 514 0) shape1), nx1, [offB (isI (fewI most 63) 0), offB (isI (fewI times 200) k)]) := by kernel_rfl

theorem pre0o (o : Em.Obj) (s : ExtF) (times most : Int) (lim : Value) (k q : Nat) :
    outN [0, 2, 8, 9, 11] (besd (some o) (fillH (xP k 514 0) shape1)) (exec (withE cx s) (callHU (withE cx s) (ePre k 0) jt 100000) false 100 (seqs preL .skip) (stL [(0, .int .i64 times), (1, .int .i64 most), (2, lim), (7, .bool true), (8, env0)] (litH (besd (some o) (fillH x0 shape0)) nx0))) =
      some ([(0, .int .i64 (wT k)), (2, lim), (8, env1), (9, blk1), (11, .int .i64 0)], besd (some o) (fillH (xP k 514 0) shape1), nx1, [offB (isI (fewI most 63) 0), offB (isI (fewI times 200) k)]) := by kernel_rfl

end Go.Proofs.YtpomandkgdmadaaGreat

/-
  What stands ahead of the loop, by a run: a block of 2 instructions at most.
-/
namespace Go.Proofs.YtpomandkgdmadaaGreat
open Go.Em
set_option linter.unusedVariables false
set_option maxRecDepth 1000000

theorem pre1n (s : ExtF) (times most : Int) (lim : Value) (k q : Nat) :
    outN [0, 2, 8, 9, 11] (besd none (fillH (xP k 514 0) shape2)) (exec (withE cx s) (callHU (withE cx s) (ePre k 1) jt 100000) false 100 (seqs preL .skip) (stL [(0, .int .i64 times), (1, .int .i64 most), (2, lim), (7, .bool true), (8, env0)] (litH (besd none (fillH x0 shape0)) nx0))) =
      some ([(0, .int .i64 (wT k)), (2, lim), (8, env2), (9, blk2), (11, .int .i64 0)], besd none (fillH (xP k 514 0) shape2), nx2, [offB (isI (fewI most 63) 1), offB (isI (fewI times 200) k)]) := by kernel_rfl

theorem pre1o (o : Em.Obj) (s : ExtF) (times most : Int) (lim : Value) (k q : Nat) :
    outN [0, 2, 8, 9, 11] (besd (some o) (fillH (xP k 514 0) shape2)) (exec (withE cx s) (callHU (withE cx s) (ePre k 1) jt 100000) false 100 (seqs preL .skip) (stL [(0, .int .i64 times), (1, .int .i64 most), (2, lim), (7, .bool true), (8, env0)] (litH (besd (some o) (fillH x0 shape0)) nx0))) =
      some ([(0, .int .i64 (wT k)), (2, lim), (8, env2), (9, blk2), (11, .int .i64 0)], besd (some o) (fillH (xP k 514 0) shape2), nx2, [offB (isI (fewI most 63) 1), offB (isI (fewI times 200) k)]) := by kernel_rfl

end Go.Proofs.YtpomandkgdmadaaGreat
