/-
  PRINTED BY a program of the claim's own (ChunkGen.lean): closed runs, by the kernel.
-/
import Derived.Test.YthbjpjkeidhnbaaGreatDoorBd
set_option linter.all false
namespace Go.Proofs
open Go Go.Abs
set_option maxRecDepth 100000
theorem P2.ran : ran (callA cx0 (exec cx0 1000000) 5 P2.args (hpOf 0 P2.h0)) P2.v 157 P2.h1 = true := by kernel_rfl
theorem P3.ran : ran (callA cx0 (exec cx0 1000000) 5 P3.args (hpOf 0 P3.h0)) P3.v 157 P3.h1 = true := by kernel_rfl
end Go.Proofs
