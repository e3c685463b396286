/-
  PRINTED BY a program of the claim's own (CloGen.lean): what each function of the program names.
  PRINTED BY a program of the claim's own (CloGen.lean): what each function of the program names.
  PRINTED BY a program of the claim's own (CloGen.lean): what each function of the program names.
-/
import Derived.Test.YthbjpjkeidhnbaaGreatDoorCa
import Derived.KernelRfl
set_option linter.all false
namespace Go.Proofs
open Go Go.Abs
set_option maxRecDepth 100000
theorem clo0 : chkLeads Tryz.prog cloTab 680 0 114 = true := by kernel_rfl
end Go.Proofs

namespace Go.Proofs
open Go Go.Abs
set_option maxRecDepth 100000
theorem clo1 : chkLeads Tryz.prog cloTab 680 114 114 = true := by kernel_rfl
end Go.Proofs

namespace Go.Proofs
open Go Go.Abs
set_option maxRecDepth 100000
theorem clo2 : chkLeads Tryz.prog cloTab 680 228 114 = true := by kernel_rfl
end Go.Proofs
