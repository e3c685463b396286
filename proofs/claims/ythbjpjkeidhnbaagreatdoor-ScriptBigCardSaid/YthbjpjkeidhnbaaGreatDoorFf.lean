/-
  Closed facts of the row of ScriptBig, each by the kernel.
-/
import Derived.Test.YthbjpjkeidhnbaaGreatDoorFd
import Derived.Test.YthbjpjkeidhnbaaGreatDoorFe
import Derived.KernelRfl
set_option linter.all false
namespace Go.Proofs.YthbjpjkeidhnbaaGreatDoor
open Go Go.Abs Go.Proofs
set_option maxRecDepth 100000
theorem fact_types : Tryz.prog.types.size = 840 := by kernel_rfl
theorem fact_lg : Tryz.prog.globals.all (fun g => decide (g.type < Tryz.prog.types.size)) = true := by rw [fact_types]; kernel_rfl
theorem fact_lf : Tryz.prog.funcs.all (fun f => f.params.all fun t => decide (t < Tryz.prog.types.size)) = true := by rw [fact_types]; kernel_rfl
theorem fact_laidOut : laidOutB Tryz.prog = true := by
  unfold laidOutB
  rw [fact_lg, fact_lf, fact_types]
  simp only [Bool.and_true]
  rw [List.all_eq_true]
  intro x hx
  have hx := List.mem_range.1 hx
  rcases Nat.lt_or_ge x 140 with h0 | h0
  · exact List.all_eq_true.1 fact_lo0 x (List.mem_range'_1.2 ⟨by omega, by omega⟩)
  rcases Nat.lt_or_ge x 280 with h1 | h1
  · exact List.all_eq_true.1 fact_lo1 x (List.mem_range'_1.2 ⟨by omega, by omega⟩)
  rcases Nat.lt_or_ge x 420 with h2 | h2
  · exact List.all_eq_true.1 fact_lo2 x (List.mem_range'_1.2 ⟨by omega, by omega⟩)
  rcases Nat.lt_or_ge x 560 with h3 | h3
  · exact List.all_eq_true.1 fact_lo3 x (List.mem_range'_1.2 ⟨by omega, by omega⟩)
  rcases Nat.lt_or_ge x 700 with h4 | h4
  · exact List.all_eq_true.1 fact_lo4 x (List.mem_range'_1.2 ⟨by omega, by omega⟩)
  rcases Nat.lt_or_ge x 840 with h5 | h5
  · exact List.all_eq_true.1 fact_lo5 x (List.mem_range'_1.2 ⟨by omega, by omega⟩)
  omega
end Go.Proofs.YthbjpjkeidhnbaaGreatDoor
