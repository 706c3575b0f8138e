/-
  What a block's run does, of form 3.
-/
import Derived.Test.YtpomandkgdmadaaGreatTcE
import Derived.KernelRfl
namespace Go.Proofs.YtpomandkgdmadaaGreat
open Go.Em
set_option linter.unusedVariables false
set_option maxRecDepth 1000000

theorem r3_256_1 (s s2 s3 : ExtF) (R F : Nat → Nat → Nat → Nat) (ok : Nat → Nat → Nat → Bool) (G : Nat → Nat → Nat) (a b c fl t k j : Nat) :
    outM (fillH (pv [.ofNat a, .ofNat b, .ofNat c, .ofNat fl, .ofNat 256, .ofNat t]) shape3) (callHU (withE cx s3) (eTop s s2 true R F ok G) jt 100000 9 [blk3, env3, .int .i64 (.ofNat 1)] (litH (fillH (pv [.ofNat a, .ofNat b, .ofNat c, .ofNat fl, .ofNat 256, .ofNat t]) shape3) nx3)) =
      some (.ret (.int .i64 (.ofNat 1)), fillH (pv [.ofNat (a + 1), .ofNat b, .ofNat c, .ofNat (G a fl), .ofNat 257, .ofNat (t + 1)]) shape3, (cI R F ok G a fl t (cQ fl []))) := by kernel_rfl

theorem r3_256_2 (s s2 s3 : ExtF) (R F : Nat → Nat → Nat → Nat) (ok : Nat → Nat → Nat → Bool) (G : Nat → Nat → Nat) (a b c fl t k j : Nat) :
    outM (fillH (pv [.ofNat a, .ofNat b, .ofNat c, .ofNat fl, .ofNat 256, .ofNat t]) shape3) (callHU (withE cx s3) (eTop s s2 true R F ok G) jt 100000 9 [blk3, env3, .int .i64 (.ofNat 2)] (litH (fillH (pv [.ofNat a, .ofNat b, .ofNat c, .ofNat fl, .ofNat 256, .ofNat t]) shape3) nx3)) =
      some (.ret (.int .i64 (.ofNat 2)), fillH (pv [.ofNat (a + 1), .ofNat (b + 1), .ofNat c, .ofNat (G b (G a fl)), .ofNat 258, .ofNat (t + 2)]) shape3, (cI R F ok G b (G a fl) (t + 1) (cQ (G a fl) (cI R F ok G a fl t (cQ fl []))))) := by kernel_rfl

theorem r3_256_3 (s s2 s3 : ExtF) (R F : Nat → Nat → Nat → Nat) (ok : Nat → Nat → Nat → Bool) (G : Nat → Nat → Nat) (a b c fl t k j : Nat) :
    outM (fillH (pv [.ofNat a, .ofNat b, .ofNat (k + 2), .ofNat fl, .ofNat 256, .ofNat t]) shape3) (callHU (withE cx s3) (eTop s s2 true R F ok G) jt 100000 9 [blk3, env3, .int .i64 (.ofNat (j + 3))] (litH (fillH (pv [.ofNat a, .ofNat b, .ofNat (k + 2), .ofNat fl, .ofNat 256, .ofNat t]) shape3) nx3)) =
      some (.ret (.int .i64 (.ofNat 3)), fillH (pv [.ofNat (a + 1), .ofNat (b + 1), .ofNat (k + 1), .ofNat (G b (G a fl)), .ofNat 256, .ofNat (t + 3)]) shape3, (cL k (t + 2) (cQ (G b (G a fl)) (cI R F ok G b (G a fl) (t + 1) (cQ (G a fl) (cI R F ok G a fl t (cQ fl []))))))) := by kernel_rfl

theorem r3_256_3z (s s2 s3 : ExtF) (R F : Nat → Nat → Nat → Nat) (ok : Nat → Nat → Nat → Bool) (G : Nat → Nat → Nat) (a b c fl t k j : Nat) :
    outM (fillH (pv [.ofNat a, .ofNat b, .ofNat 1, .ofNat fl, .ofNat 256, .ofNat t]) shape3) (callHU (withE cx s3) (eTop s s2 false R F ok G) jt 100000 9 [blk3, env3, .int .i64 (.ofNat (j + 3))] (litH (fillH (pv [.ofNat a, .ofNat b, .ofNat 1, .ofNat fl, .ofNat 256, .ofNat t]) shape3) nx3)) =
      some (.ret (.int .i64 (.ofNat 3)), fillH (pv [.ofNat (a + 1), .ofNat (b + 1), .ofNat 0, .ofNat (G b (G a fl)), .ofNat 260, .ofNat (t + 3)]) shape3, (cZ (t + 2) (cQ (G b (G a fl)) (cI R F ok G b (G a fl) (t + 1) (cQ (G a fl) (cI R F ok G a fl t (cQ fl []))))))) := by kernel_rfl

theorem r3_257_1 (s s2 s3 : ExtF) (R F : Nat → Nat → Nat → Nat) (ok : Nat → Nat → Nat → Bool) (G : Nat → Nat → Nat) (a b c fl t k j : Nat) :
    outM (fillH (pv [.ofNat a, .ofNat b, .ofNat c, .ofNat fl, .ofNat 257, .ofNat t]) shape3) (callHU (withE cx s3) (eTop s s2 true R F ok G) jt 100000 9 [blk3, env3, .int .i64 (.ofNat (j + 1))] (litH (fillH (pv [.ofNat a, .ofNat b, .ofNat c, .ofNat fl, .ofNat 257, .ofNat t]) shape3) nx3)) =
      some (.ret (.int .i64 (.ofNat 1)), fillH (pv [.ofNat a, .ofNat (b + 1), .ofNat c, .ofNat (G b fl), .ofNat 258, .ofNat (t + 1)]) shape3, (cS fl (cI R F ok G b fl t []))) := by kernel_rfl

theorem r3_258_1 (s s2 s3 : ExtF) (R F : Nat → Nat → Nat → Nat) (ok : Nat → Nat → Nat → Bool) (G : Nat → Nat → Nat) (a b c fl t k j : Nat) :
    outM (fillH (pv [.ofNat a, .ofNat b, .ofNat (k + 2), .ofNat fl, .ofNat 258, .ofNat t]) shape3) (callHU (withE cx s3) (eTop s s2 true R F ok G) jt 100000 9 [blk3, env3, .int .i64 (.ofNat (j + 1))] (litH (fillH (pv [.ofNat a, .ofNat b, .ofNat (k + 2), .ofNat fl, .ofNat 258, .ofNat t]) shape3) nx3)) =
      some (.ret (.int .i64 (.ofNat 1)), fillH (pv [.ofNat a, .ofNat b, .ofNat (k + 1), .ofNat fl, .ofNat 256, .ofNat (t + 1)]) shape3, (cS fl (cL k t []))) := by kernel_rfl

theorem r3_258_1z (s s2 s3 : ExtF) (R F : Nat → Nat → Nat → Nat) (ok : Nat → Nat → Nat → Bool) (G : Nat → Nat → Nat) (a b c fl t k j : Nat) :
    outM (fillH (pv [.ofNat a, .ofNat b, .ofNat 1, .ofNat fl, .ofNat 258, .ofNat t]) shape3) (callHU (withE cx s3) (eTop s s2 false R F ok G) jt 100000 9 [blk3, env3, .int .i64 (.ofNat (j + 1))] (litH (fillH (pv [.ofNat a, .ofNat b, .ofNat 1, .ofNat fl, .ofNat 258, .ofNat t]) shape3) nx3)) =
      some (.ret (.int .i64 (.ofNat 1)), fillH (pv [.ofNat a, .ofNat b, .ofNat 0, .ofNat fl, .ofNat 260, .ofNat (t + 1)]) shape3, (cS fl (cZ t []))) := by kernel_rfl

end Go.Proofs.YtpomandkgdmadaaGreat
