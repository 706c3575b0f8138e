/-
  One more, with flags 518: what alu.Do comes to.
-/
import Derived.Test.YtpomandkgdmadaaGreatTcA
import Derived.KernelRfl
namespace Go.Proofs.YtpomandkgdmadaaGreat
open Go.Em
set_option maxRecDepth 1000000 in
theorem alu518 : allN (fun x => chkA x 518) 208 = true := by kernel_rfl
end Go.Proofs.YtpomandkgdmadaaGreat
