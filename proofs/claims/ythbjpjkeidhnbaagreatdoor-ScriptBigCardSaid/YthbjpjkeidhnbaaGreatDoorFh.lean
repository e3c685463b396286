/-
  Closed facts of the row of ScriptBig, each by the kernel.
-/
import Derived.Test.YthbjpjkeidhnbaaGreatDoorRows
import Derived.JoinedOf
import Derived.KernelRfl
set_option linter.all false
namespace Go.Proofs.YthbjpjkeidhnbaaGreatDoor
open Go Go.Proofs
set_option maxRecDepth 100000
theorem fact_stopsHeard : Tryz.prog.stopsHeard = true := by kernel_rfl
end Go.Proofs.YthbjpjkeidhnbaaGreatDoor
