/-
  PRINTED BY a program of the claim's own (CloGen.lean): what each function of the program names.
  PRINTED BY a program of the claim's own (CloGen.lean): what each function of the program names.
  PRINTED BY a program of the claim's own (CloGen.lean): what each function of the program names.
-/
import Derived.Test.YthbjpjkeidhnbaaGreatDoorCa
import Derived.KernelRfl
set_option linter.all false
namespace Go.Proofs
open Go Go.Abs
set_option maxRecDepth 100000
theorem clo3 : chkLeads Tryz.prog cloTab 680 342 114 = true := by kernel_rfl
end Go.Proofs

namespace Go.Proofs
open Go Go.Abs
set_option maxRecDepth 100000
theorem clo4 : chkLeads Tryz.prog cloTab 680 456 114 = true := by kernel_rfl
end Go.Proofs

namespace Go.Proofs
open Go Go.Abs
set_option maxRecDepth 100000
theorem clo5 : chkLeads Tryz.prog cloTab 680 570 110 = true := by kernel_rfl
end Go.Proofs
