/-
  Closed facts of the row of ScriptBig, each by the kernel.
  Closed facts of the row of ScriptBig, each by the kernel.
-/
import Derived.Test.YthbjpjkeidhnbaaGreatDoorRows
import Derived.JoinedOf
import Derived.Test.YthbjpjkeidhnbaaGreatDoorCd
import Derived.KernelRfl
set_option linter.all false
namespace Go.Proofs.YthbjpjkeidhnbaaGreatDoor
open Go Go.Abs Go.Proofs
set_option maxRecDepth 100000
theorem fact_unfollowed : Tryz.prog.unfollowed 3 = true := by
  unfold Program.unfollowed
  rw [clo_eq]
  kernel_rfl
theorem fact_recurses : Tryz.prog.recurses 3 = true := by
  unfold Program.recurses
  rw [fact_unfollowed]
  rfl
end Go.Proofs.YthbjpjkeidhnbaaGreatDoor

namespace Go.Proofs.YthbjpjkeidhnbaaGreatDoor
open Go Go.Abs Go.Proofs
set_option maxRecDepth 100000
theorem fact_inPlace : Tryz.prog.inPlace 3 = Rows.scriptBigRow.inPlace := by
  unfold Program.inPlace
  rw [clo_eq]
  kernel_rfl
end Go.Proofs.YthbjpjkeidhnbaaGreatDoor
