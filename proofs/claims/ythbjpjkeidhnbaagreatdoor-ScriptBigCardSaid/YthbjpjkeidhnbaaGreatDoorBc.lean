/-
  PRINTED BY a program of the claim's own (ChunkGen.lean): closed runs, by the kernel.
-/
import Derived.Test.YthbjpjkeidhnbaaGreatDoorBd
set_option linter.all false
namespace Go.Proofs
open Go Go.Abs
set_option maxRecDepth 100000
theorem Ps.ran : ran (callA cx0 (exec cx0 1000000) 5 Ps.args (hpOf 0 Ps.h0)) Ps.v 157 Ps.h1 = true := by kernel_rfl
theorem PRep.ran : ran (callA cx0 (exec cx0 1000000) 18 PRep.args (hpOf 559 PRep.h0)) PRep.v 694 PRep.h1 = true := by kernel_rfl
theorem PSim.ran : ran (callA cxS (exec cxS 1000000) 17 PSim.args (hpOf 158 PSim.h0)) PSim.v 558 PSim.h1 = true := by kernel_rfl
end Go.Proofs
