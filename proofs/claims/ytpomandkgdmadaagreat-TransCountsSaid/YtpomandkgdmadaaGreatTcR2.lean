/-
  What a block's run does, of form 2.
-/
import Derived.Test.YtpomandkgdmadaaGreatTcE
import Derived.KernelRfl
namespace Go.Proofs.YtpomandkgdmadaaGreat
open Go.Em
set_option linter.unusedVariables false
set_option maxRecDepth 1000000

theorem r2_256_1 (s s2 s3 : ExtF) (R F : Nat → Nat → Nat → Nat) (ok : Nat → Nat → Nat → Bool) (G : Nat → Nat → Nat) (a b c fl t k j : Nat) :
    outM (fillH (pv [.ofNat a, .ofNat b, .ofNat c, .ofNat fl, .ofNat 256, .ofNat t]) shape2) (callHU (withE cx s3) (eTop s s2 true R F ok G) jt 100000 9 [blk2, env2, .int .i64 (.ofNat 1)] (litH (fillH (pv [.ofNat a, .ofNat b, .ofNat c, .ofNat fl, .ofNat 256, .ofNat t]) shape2) nx2)) =
      some (.ret (.int .i64 (.ofNat 1)), fillH (pv [.ofNat (a + 1), .ofNat b, .ofNat c, .ofNat (G a fl), .ofNat 257, .ofNat (t + 1)]) shape2, (cI R F ok G a fl t (cQ fl []))) := by kernel_rfl

theorem r2_256_2 (s s2 s3 : ExtF) (R F : Nat → Nat → Nat → Nat) (ok : Nat → Nat → Nat → Bool) (G : Nat → Nat → Nat) (a b c fl t k j : Nat) :
    outM (fillH (pv [.ofNat a, .ofNat b, .ofNat c, .ofNat fl, .ofNat 256, .ofNat t]) shape2) (callHU (withE cx s3) (eTop s s2 true R F ok G) jt 100000 9 [blk2, env2, .int .i64 (.ofNat (j + 2))] (litH (fillH (pv [.ofNat a, .ofNat b, .ofNat c, .ofNat fl, .ofNat 256, .ofNat t]) shape2) nx2)) =
      some (.ret (.int .i64 (.ofNat 2)), fillH (pv [.ofNat (a + 1), .ofNat (b + 1), .ofNat c, .ofNat (G b (G a fl)), .ofNat 258, .ofNat (t + 2)]) shape2, (cI R F ok G b (G a fl) (t + 1) (cQ (G a fl) (cI R F ok G a fl t (cQ fl []))))) := by kernel_rfl

theorem r2_257_1 (s s2 s3 : ExtF) (R F : Nat → Nat → Nat → Nat) (ok : Nat → Nat → Nat → Bool) (G : Nat → Nat → Nat) (a b c fl t k j : Nat) :
    outM (fillH (pv [.ofNat a, .ofNat b, .ofNat c, .ofNat fl, .ofNat 257, .ofNat t]) shape2) (callHU (withE cx s3) (eTop s s2 true R F ok G) jt 100000 9 [blk2, env2, .int .i64 (.ofNat (j + 1))] (litH (fillH (pv [.ofNat a, .ofNat b, .ofNat c, .ofNat fl, .ofNat 257, .ofNat t]) shape2) nx2)) =
      some (.ret (.int .i64 (.ofNat 1)), fillH (pv [.ofNat a, .ofNat (b + 1), .ofNat c, .ofNat (G b fl), .ofNat 258, .ofNat (t + 1)]) shape2, (cS fl (cI R F ok G b fl t []))) := by kernel_rfl

theorem r2_258_1 (s s2 s3 : ExtF) (R F : Nat → Nat → Nat → Nat) (ok : Nat → Nat → Nat → Bool) (G : Nat → Nat → Nat) (a b c fl t k j : Nat) :
    outM (fillH (pv [.ofNat a, .ofNat b, .ofNat (k + 2), .ofNat fl, .ofNat 258, .ofNat t]) shape2) (callHU (withE cx s3) (eTop s s2 true R F ok G) jt 100000 9 [blk2, env2, .int .i64 (.ofNat (j + 1))] (litH (fillH (pv [.ofNat a, .ofNat b, .ofNat (k + 2), .ofNat fl, .ofNat 258, .ofNat t]) shape2) nx2)) =
      some (.ret (.int .i64 (.ofNat 1)), fillH (pv [.ofNat a, .ofNat b, .ofNat (k + 1), .ofNat fl, .ofNat 256, .ofNat (t + 1)]) shape2, (cS fl (cL k t []))) := by kernel_rfl

theorem r2_258_1z (s s2 s3 : ExtF) (R F : Nat → Nat → Nat → Nat) (ok : Nat → Nat → Nat → Bool) (G : Nat → Nat → Nat) (a b c fl t k j : Nat) :
    outM (fillH (pv [.ofNat a, .ofNat b, .ofNat 1, .ofNat fl, .ofNat 258, .ofNat t]) shape2) (callHU (withE cx s3) (eTop s s2 false R F ok G) jt 100000 9 [blk2, env2, .int .i64 (.ofNat (j + 1))] (litH (fillH (pv [.ofNat a, .ofNat b, .ofNat 1, .ofNat fl, .ofNat 258, .ofNat t]) shape2) nx2)) =
      some (.ret (.int .i64 (.ofNat 1)), fillH (pv [.ofNat a, .ofNat b, .ofNat 0, .ofNat fl, .ofNat 260, .ofNat (t + 1)]) shape2, (cS fl (cZ t []))) := by kernel_rfl

end Go.Proofs.YtpomandkgdmadaaGreat
