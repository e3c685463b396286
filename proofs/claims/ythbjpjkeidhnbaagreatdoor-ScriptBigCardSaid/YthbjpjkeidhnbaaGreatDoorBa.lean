/-
  PRINTED BY a program of the claim's own (ChunkGen.lean): closed runs, by the kernel.
-/
import Derived.Test.YthbjpjkeidhnbaaGreatDoorBd
set_option linter.all false
namespace Go.Proofs
open Go Go.Abs
set_option maxRecDepth 100000
theorem P0.ran : ran (callA cx0 (exec cx0 1000000) 5 P0.args (hpOf 0 P0.h0)) P0.v 157 P0.h1 = true := by kernel_rfl
theorem P1.ran : ran (callA cx0 (exec cx0 1000000) 5 P1.args (hpOf 0 P1.h0)) P1.v 157 P1.h1 = true := by kernel_rfl
end Go.Proofs
