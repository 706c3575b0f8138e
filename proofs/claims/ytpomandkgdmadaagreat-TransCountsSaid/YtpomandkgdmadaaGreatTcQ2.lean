/-
  What stands ahead of the loop, by a run: a block of 3 instructions at most.
-/
import Derived.Test.YtpomandkgdmadaaGreatTcS
import Derived.KernelRfl
namespace Go.Proofs.YtpomandkgdmadaaGreat
open Go.Em
set_option linter.unusedVariables false
set_option maxRecDepth 1000000

theorem pre2n (s : ExtF) (times most : Int) (lim : Value) (k q : Nat) :
    outN [0, 2, 8, 9, 11] (besd none (fillH (xP k 514 0) shape3)) (exec (withE cx s) (callHU (withE cx s) (ePre k 2) jt 100000) false 100 (seqs preL .skip) (stL [(0, .int .i64 times), (1, .int .i64 most), (2, lim), (7, .bool true), (8, env0)] (litH (besd none (fillH x0 shape0)) nx0))) =
      some ([(0, .int .i64 (wT k)), (2, lim), (8, env3), (9, blk3), (11, .int .i64 0)], besd none (fillH (xP k 514 0) shape3), nx3, [offB (isI (fewI most 63) 2), offB (isI (fewI times 200) k)]) := by kernel_rfl

theorem pre2o (o : Em.Obj) (s : ExtF) (times most : Int) (lim : Value) (k q : Nat) :
    outN [0, 2, 8, 9, 11] (besd (some o) (fillH (xP k 514 0) shape3)) (exec (withE cx s) (callHU (withE cx s) (ePre k 2) jt 100000) false 100 (seqs preL .skip) (stL [(0, .int .i64 times), (1, .int .i64 most), (2, lim), (7, .bool true), (8, env0)] (litH (besd (some o) (fillH x0 shape0)) nx0))) =
      some ([(0, .int .i64 (wT k)), (2, lim), (8, env3), (9, blk3), (11, .int .i64 0)], besd (some o) (fillH (xP k 514 0) shape3), nx3, [offB (isI (fewI most 63) 2), offB (isI (fewI times 200) k)]) := by kernel_rfl

end Go.Proofs.YtpomandkgdmadaaGreat

/-
  What stands ahead of the loop, by a run: a block of 4 instructions at most.
-/
namespace Go.Proofs.YtpomandkgdmadaaGreat
open Go.Em
set_option linter.unusedVariables false
set_option maxRecDepth 1000000

theorem pre3n (s : ExtF) (times most : Int) (lim : Value) (k q : Nat) :
    outN [0, 2, 8, 9, 11] (besd none (fillH (xP k 514 0) shape4)) (exec (withE cx s) (callHU (withE cx s) (ePre k 3) jt 100000) false 100 (seqs preL .skip) (stL [(0, .int .i64 times), (1, .int .i64 most), (2, lim), (7, .bool true), (8, env0)] (litH (besd none (fillH x0 shape0)) nx0))) =
      some ([(0, .int .i64 (wT k)), (2, lim), (8, env4), (9, blk4), (11, .int .i64 0)], besd none (fillH (xP k 514 0) shape4), 22052, [offB (isI (fewI most 63) 3), offB (isI (fewI times 200) k)]) := by kernel_rfl

theorem pre3o (o : Em.Obj) (s : ExtF) (times most : Int) (lim : Value) (k q : Nat) :
    outN [0, 2, 8, 9, 11] (besd (some o) (fillH (xP k 514 0) shape4)) (exec (withE cx s) (callHU (withE cx s) (ePre k 3) jt 100000) false 100 (seqs preL .skip) (stL [(0, .int .i64 times), (1, .int .i64 most), (2, lim), (7, .bool true), (8, env0)] (litH (besd (some o) (fillH x0 shape0)) nx0))) =
      some ([(0, .int .i64 (wT k)), (2, lim), (8, env4), (9, blk4), (11, .int .i64 0)], besd (some o) (fillH (xP k 514 0) shape4), 22052, [offB (isI (fewI most 63) 3), offB (isI (fewI times 200) k)]) := by kernel_rfl

end Go.Proofs.YtpomandkgdmadaaGreat
