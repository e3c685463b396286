/-
  Closed facts of the tie of ScriptBig's row, each by the kernel.
-/
import Derived.Test.YthbjpjkeidhnbaaGreatDoorRows
import Derived.LaidByTextLater
import Derived.SevenTiedAt
import Derived.KernelRfl
set_option linter.all false
namespace Go.Proofs.YthbjpjkeidhnbaaGreatDoor
open Go Go.Proofs
set_option maxRecDepth 100000
theorem tie_f : Tryz.prog.funcNamed "gosem.cut.vars" = some 679 := by kernel_rfl
theorem varsId_eq : varsId Tryz.prog = 679 := by
  unfold varsId
  rw [tie_f]
  rfl
end Go.Proofs.YthbjpjkeidhnbaaGreatDoor
