/-
  Closed facts of the row of ScriptBig, each by the kernel.
-/
import Derived.Test.YthbjpjkeidhnbaaGreatDoorRows
import Derived.JoinedOf
import Derived.Test.YthbjpjkeidhnbaaGreatDoorCd
import Derived.KernelRfl
set_option linter.all false
namespace Go.Proofs.YthbjpjkeidhnbaaGreatDoor
open Go Go.Abs Go.Proofs
set_option maxRecDepth 100000
theorem fact_named : Tryz.prog.varsNamed 3 = Rows.scriptBigRow.named := by
  unfold Program.varsNamed
  rw [clo_eq]
  kernel_rfl
end Go.Proofs.YthbjpjkeidhnbaaGreatDoor
