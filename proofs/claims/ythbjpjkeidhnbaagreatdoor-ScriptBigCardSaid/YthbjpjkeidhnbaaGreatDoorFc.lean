/-
  Closed facts of the row of ScriptBig, each by the kernel.
-/
import Derived.Test.YthbjpjkeidhnbaaGreatDoorRows
import Derived.JoinedOf
import Derived.Test.YthbjpjkeidhnbaaGreatDoorCd
import GoSem.ClaimGoes
import Derived.KernelRfl
set_option linter.all false
namespace Go.Proofs.YthbjpjkeidhnbaaGreatDoor
open Go Go.Abs Go.Proofs
set_option maxRecDepth 100000
theorem fact_any1 : (cloL.any fun g => (Tryz.prog.funcs[g]?).any Func.goes) = false := by kernel_rfl
theorem fact_any2 : Tryz.prog.funcs.any Func.goes = false := by kernel_rfl
theorem fact_goes : Tryz.prog.goes 3 = false := by
  unfold Program.goes
  rw [clo_eq, fact_any1, fact_any2]
  simp
end Go.Proofs.YthbjpjkeidhnbaaGreatDoor
