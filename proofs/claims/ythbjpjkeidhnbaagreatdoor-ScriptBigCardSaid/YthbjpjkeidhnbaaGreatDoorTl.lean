/-
  Closed facts of the tie of ScriptBig's row, each by the kernel.
  Closed facts of the tie of ScriptBig's row, each by the kernel.
  Closed facts of the tie of ScriptBig's row, each by the kernel.
-/
import Derived.Test.YthbjpjkeidhnbaaGreatDoorRows
import Derived.LaidByTextLater
import Derived.SevenTiedAt
import Derived.KernelRfl
set_option linter.all false
namespace Go.Proofs.YthbjpjkeidhnbaaGreatDoor
open Go Go.Proofs
set_option maxRecDepth 100000
theorem tie_u : Tryz.pinned.checked.prog.headLifts.contains "ownunsafe" = false := by kernel_rfl
end Go.Proofs.YthbjpjkeidhnbaaGreatDoor

namespace Go.Proofs.YthbjpjkeidhnbaaGreatDoor
open Go Go.Proofs
set_option maxRecDepth 100000
theorem tie_l : Tryz.pinned.checked.prog.listedFits Rows.scriptBigRow.laid = true := by
  unfold Program.listedFits
  rw [tie_u]
  kernel_rfl
end Go.Proofs.YthbjpjkeidhnbaaGreatDoor

namespace Go.Proofs.YthbjpjkeidhnbaaGreatDoor
open Go Go.Proofs
set_option maxRecDepth 100000
theorem tie_d (os : Os) (tape : Tape) : varsDone Tryz.prog 400 679 os tape = true := by kernel_rfl
end Go.Proofs.YthbjpjkeidhnbaaGreatDoor
