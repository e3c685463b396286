/-
  Closed facts of the tie of ScriptBig's row, each by the kernel.
-/
import Derived.Test.YthbjpjkeidhnbaaGreatDoorRows
import Derived.LaidByTextLater
import Derived.SevenTiedAt
import Derived.KernelRfl
set_option linter.all false
namespace Go.Proofs.YthbjpjkeidhnbaaGreatDoor
open Go Go.Proofs
set_option maxRecDepth 100000
theorem tie_p : Tryz.prog.pinnedFits "unicode/utf8.first" = true := by kernel_rfl
end Go.Proofs.YthbjpjkeidhnbaaGreatDoor
