/-
  PRINTED BY a program of the claim's own (CloGen.lean): what each function of the program names.
-/
import Derived.Test.YthbjpjkeidhnbaaGreatDoorCb
import Derived.Test.YthbjpjkeidhnbaaGreatDoorCc
import Derived.KernelRfl
set_option linter.all false
namespace Go.Proofs
open Go Go.Abs
set_option maxRecDepth 100000
theorem cloN : Tryz.prog.funcs.size = 680 := by kernel_rfl
theorem cloE : ∀ f : Nat, f < 680 → leadsOf Tryz.prog f = tabOf cloTab 680 f := by
  intro f hf
  rcases Nat.lt_or_ge f 114 with h0 | h0
  · exact chkLeads_ok clo0 f (by omega) (by omega)
  rcases Nat.lt_or_ge f 228 with h1 | h1
  · exact chkLeads_ok clo1 f (by omega) (by omega)
  rcases Nat.lt_or_ge f 342 with h2 | h2
  · exact chkLeads_ok clo2 f (by omega) (by omega)
  rcases Nat.lt_or_ge f 456 with h3 | h3
  · exact chkLeads_ok clo3 f (by omega) (by omega)
  rcases Nat.lt_or_ge f 570 with h4 | h4
  · exact chkLeads_ok clo4 f (by omega) (by omega)
  rcases Nat.lt_or_ge f 680 with h5 | h5
  · exact chkLeads_ok clo5 f (by omega) (by omega)
  omega
theorem cloS : ((List.range 680).map fun f => (tabOf cloTab 680 f).length + 1).sum = 2031 := by kernel_rfl
theorem clo_eq : Tryz.prog.closure 3 = cloL := (closure_of cloN cloE cloS 3).trans (by kernel_rfl)
end Go.Proofs
