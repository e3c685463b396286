/-
  Closed facts of the row of ScriptBig, each by the kernel.
-/
import Derived.Test.YthbjpjkeidhnbaaGreatDoorProg
import Derived.JoinedOf
import Derived.Test.YthbjpjkeidhnbaaGreatDoorXa
import Derived.KernelRfl
set_option linter.all false
namespace Go.Proofs.YthbjpjkeidhnbaaGreatDoor
open Go Go.Abs Go.Proofs
set_option maxRecDepth 100000
theorem fact_lo3 : (List.range' 420 140).all (rowFine Tryz.prog) = true := by kernel_rfl
theorem fact_lo4 : (List.range' 560 140).all (rowFine Tryz.prog) = true := by kernel_rfl
theorem fact_lo5 : (List.range' 700 140).all (rowFine Tryz.prog) = true := by kernel_rfl
end Go.Proofs.YthbjpjkeidhnbaaGreatDoor
