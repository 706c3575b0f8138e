/-
  What a block's run does, of form 1.
-/
import Derived.Test.YtpomandkgdmadaaGreatTcE
import Derived.KernelRfl
namespace Go.Proofs.YtpomandkgdmadaaGreat
open Go.Em
set_option linter.unusedVariables false
set_option maxRecDepth 1000000

theorem r1_256_1 (s s2 s3 : ExtF) (R F : Nat → Nat → Nat → Nat) (ok : Nat → Nat → Nat → Bool) (G : Nat → Nat → Nat) (a b c fl t k j : Nat) :
    outM (fillH (pv [.ofNat a, .ofNat b, .ofNat c, .ofNat fl, .ofNat 256, .ofNat t]) shape1) (callHU (withE cx s3) (eTop s s2 true R F ok G) jt 100000 9 [blk1, env1, .int .i64 (.ofNat (j + 1))] (litH (fillH (pv [.ofNat a, .ofNat b, .ofNat c, .ofNat fl, .ofNat 256, .ofNat t]) shape1) nx1)) =
      some (.ret (.int .i64 (.ofNat 1)), fillH (pv [.ofNat (a + 1), .ofNat b, .ofNat c, .ofNat (G a fl), .ofNat 257, .ofNat (t + 1)]) shape1, (cI R F ok G a fl t (cQ fl []))) := by kernel_rfl

theorem r1_257_1 (s s2 s3 : ExtF) (R F : Nat → Nat → Nat → Nat) (ok : Nat → Nat → Nat → Bool) (G : Nat → Nat → Nat) (a b c fl t k j : Nat) :
    outM (fillH (pv [.ofNat a, .ofNat b, .ofNat c, .ofNat fl, .ofNat 257, .ofNat t]) shape1) (callHU (withE cx s3) (eTop s s2 true R F ok G) jt 100000 9 [blk1, env1, .int .i64 (.ofNat (j + 1))] (litH (fillH (pv [.ofNat a, .ofNat b, .ofNat c, .ofNat fl, .ofNat 257, .ofNat t]) shape1) nx1)) =
      some (.ret (.int .i64 (.ofNat 1)), fillH (pv [.ofNat a, .ofNat (b + 1), .ofNat c, .ofNat (G b fl), .ofNat 258, .ofNat (t + 1)]) shape1, (cS fl (cI R F ok G b fl t []))) := by kernel_rfl

theorem r1_258_1 (s s2 s3 : ExtF) (R F : Nat → Nat → Nat → Nat) (ok : Nat → Nat → Nat → Bool) (G : Nat → Nat → Nat) (a b c fl t k j : Nat) :
    outM (fillH (pv [.ofNat a, .ofNat b, .ofNat (k + 2), .ofNat fl, .ofNat 258, .ofNat t]) shape1) (callHU (withE cx s3) (eTop s s2 true R F ok G) jt 100000 9 [blk1, env1, .int .i64 (.ofNat (j + 1))] (litH (fillH (pv [.ofNat a, .ofNat b, .ofNat (k + 2), .ofNat fl, .ofNat 258, .ofNat t]) shape1) nx1)) =
      some (.ret (.int .i64 (.ofNat 1)), fillH (pv [.ofNat a, .ofNat b, .ofNat (k + 1), .ofNat fl, .ofNat 256, .ofNat (t + 1)]) shape1, (cS fl (cL k t []))) := by kernel_rfl

theorem r1_258_1z (s s2 s3 : ExtF) (R F : Nat → Nat → Nat → Nat) (ok : Nat → Nat → Nat → Bool) (G : Nat → Nat → Nat) (a b c fl t k j : Nat) :
    outM (fillH (pv [.ofNat a, .ofNat b, .ofNat 1, .ofNat fl, .ofNat 258, .ofNat t]) shape1) (callHU (withE cx s3) (eTop s s2 false R F ok G) jt 100000 9 [blk1, env1, .int .i64 (.ofNat (j + 1))] (litH (fillH (pv [.ofNat a, .ofNat b, .ofNat 1, .ofNat fl, .ofNat 258, .ofNat t]) shape1) nx1)) =
      some (.ret (.int .i64 (.ofNat 1)), fillH (pv [.ofNat a, .ofNat b, .ofNat 0, .ofNat fl, .ofNat 260, .ofNat (t + 1)]) shape1, (cS fl (cZ t []))) := by kernel_rfl

end Go.Proofs.YtpomandkgdmadaaGreat
