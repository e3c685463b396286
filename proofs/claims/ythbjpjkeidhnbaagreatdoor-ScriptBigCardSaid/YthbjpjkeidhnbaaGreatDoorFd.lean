/-
  Closed facts of the row of ScriptBig, each by the kernel.
-/
import Derived.Test.YthbjpjkeidhnbaaGreatDoorProg
import Derived.JoinedOf
import Derived.Test.YthbjpjkeidhnbaaGreatDoorXa
import Derived.KernelRfl
set_option linter.all false
namespace Go.Proofs.YthbjpjkeidhnbaaGreatDoor
open Go Go.Abs Go.Proofs
set_option maxRecDepth 100000
theorem fact_lo0 : (List.range' 0 140).all (rowFine Tryz.prog) = true := by kernel_rfl
theorem fact_lo1 : (List.range' 140 140).all (rowFine Tryz.prog) = true := by kernel_rfl
theorem fact_lo2 : (List.range' 280 140).all (rowFine Tryz.prog) = true := by kernel_rfl
end Go.Proofs.YthbjpjkeidhnbaaGreatDoor
