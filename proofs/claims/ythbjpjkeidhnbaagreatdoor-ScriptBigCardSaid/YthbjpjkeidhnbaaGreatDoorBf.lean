/-
  PRINTED BY a program of the claim's own (ChunkGen.lean): closed runs, by the kernel.
-/
import Derived.Test.YthbjpjkeidhnbaaGreatDoorBd
set_option linter.all false
namespace Go.Proofs
open Go Go.Abs
set_option maxRecDepth 100000
theorem R0.ran : ran (callA cxR0 (exec cxR0 1000000) 6 R0.args (hpOf 0 R0.h0)) R0.v 694 R0.h1 = true := by kernel_rfl
theorem R1.ran : ran (callA cxR1 (exec cxR1 1000000) 6 R1.args (hpOf 0 R1.h0)) R1.v 694 R1.h1 = true := by kernel_rfl
theorem R2.ran : ran (callA cxR2 (exec cxR2 1000000) 6 R2.args (hpOf 0 R2.h0)) R2.v 694 R2.h1 = true := by kernel_rfl
theorem R3.ran : ran (callA cxR3 (exec cxR3 1000000) 6 R3.args (hpOf 0 R3.h0)) R3.v 694 R3.h1 = true := by kernel_rfl
theorem Rs.ran : ran (callA cxRs (exec cxRs 1000000) 6 Rs.args (hpOf 0 Rs.h0)) Rs.v 694 Rs.h1 = true := by kernel_rfl
theorem Aw.ran : ran (callA cxA (exec cxA 1000000) 7 Aw.args (hpOf 0 Aw.h0)) Aw.v 705 Aw.h1 = true := by kernel_rfl
theorem P4.ran : ran (callA cx0 (exec cx0 1000000) 5 P4.args (hpOf 0 P4.h0)) P4.v 3 P4.h1 = true := by kernel_rfl
theorem R4.ran : ran (callA cx0 (exec cx0 1000000) 6 R4.args (hpOf 0 R4.h0)) R4.v 4 R4.h1 = true := by kernel_rfl
theorem P5.ran : ran (callA cx0 (exec cx0 1000000) 5 P5.args (hpOf 0 P5.h0)) P5.v 3 P5.h1 = true := by kernel_rfl
theorem R5.ran : ran (callA cx0 (exec cx0 1000000) 6 R5.args (hpOf 0 R5.h0)) R5.v 4 R5.h1 = true := by kernel_rfl
theorem P6.ran : ran (callA cx0 (exec cx0 1000000) 5 P6.args (hpOf 0 P6.h0)) P6.v 3 P6.h1 = true := by kernel_rfl
theorem R6.ran : ran (callA cx0 (exec cx0 1000000) 6 R6.args (hpOf 0 R6.h0)) R6.v 4 R6.h1 = true := by kernel_rfl
end Go.Proofs
