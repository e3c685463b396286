/-
  PRINTED BY a program of the claim's own (ChunkGen.lean): closed runs, by the kernel.
-/
import Derived.Test.YthbjpjkeidhnbaaGreatDoorBd
set_option linter.all false
namespace Go.Proofs
open Go Go.Abs
set_option maxRecDepth 100000
theorem PStart.ran : ran (callA cx0 (exec cx0 1000000) 58 PStart.args (hpOf 191 PStart.h0)) PStart.v 430 PStart.h1 = true := by kernel_rfl
theorem PReal.ran : ran (callA cx0 (exec cx0 1000000) 65 PReal.args (hpOf 439 PReal.h0)) PReal.v 558 PReal.h1 = true := by kernel_rfl
end Go.Proofs
