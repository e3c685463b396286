/-
  Closed facts of the row of ScriptBig, each by the kernel.
-/
import Derived.Test.YthbjpjkeidhnbaaGreatDoorRows
import Derived.JoinedOf
import Derived.SevenTiedAt
import Derived.KernelRfl
set_option linter.all false
namespace Go.Proofs.YthbjpjkeidhnbaaGreatDoor
open Go Go.Proofs
set_option maxRecDepth 100000
theorem fact_wf : Rows.scriptBigRow.wf (OpenSpec.ofChange Rows.scriptBigSpec) = true := by kernel_rfl
theorem fact_readable : Tryz.f3.params.all (Tryz.prog.readableRec ·) = true := by kernel_rfl
theorem fact_namedTie : namedTie Tryz.prog Rows.scriptBigRow.named Rows.scriptBigSpec.vars = true := by kernel_rfl
theorem fact_stops : (Tryz.prog.stops == []) = true := by kernel_rfl
theorem fact_stopKnobs : (Tryz.prog.stopKnobs == []) = true := by kernel_rfl
theorem fact_maps : (Rows.scriptBigRow.maps == (Tryz.f3.params.toList ++ Rows.scriptBigSpec.plain.varTypes Tryz.prog).any (Tryz.prog.mapsRec ·)) = true := by kernel_rfl
theorem fact_ifaces : (Rows.scriptBigRow.ifaces == (Tryz.f3.params.toList ++ Rows.scriptBigSpec.plain.varTypes Tryz.prog).any (Tryz.prog.ifacesRec ·)) = true := by kernel_rfl
theorem fact_mapsOut : (Rows.scriptBigRow.mapsOut == Tryz.prog.mapsAmong Tryz.f3.resultTypes.toList) = true := by kernel_rfl
theorem fact_loops : (Rows.scriptBigRow.loops == (Tryz.f3.params.toList ++ Rows.scriptBigSpec.plain.varTypes Tryz.prog).any (Tryz.prog.loopsFrom ·)) = true := by kernel_rfl
theorem fact_wideKeys : (Rows.scriptBigRow.wideKeys == (Tryz.f3.params.toList ++ Rows.scriptBigSpec.plain.varTypes Tryz.prog ++ Tryz.f3.resultTypes.toList).any (Tryz.prog.wideKeysFrom ·)) = true := by kernel_rfl
theorem fact_resOK : Tryz.f3.resultTypes.all (fun t => Tryz.prog.readableRec t && decide (t < Tryz.prog.types.size)) = true := by kernel_rfl
theorem fact_ifacesOut : (Rows.scriptBigRow.ifacesOut == Tryz.f3.resultTypes.toList.any (Tryz.prog.ifacesRec ·)) = true := by kernel_rfl
theorem fact_loopsOut : (Rows.scriptBigRow.loopsOut == Tryz.f3.resultTypes.toList.any (Tryz.prog.loopsFrom ·)) = true := by kernel_rfl
theorem fact_plainKeys : (Rows.scriptBigRow.plainKeys == Tryz.prog.plainKeys) = true := by kernel_rfl
theorem fact_lifted : (Rows.scriptBigRow.lifted == Tryz.prog.liftsFinal) = true := by kernel_rfl
theorem fact_make : (Tryz.prog.make == some Rows.scriptBigRow.make) = true := by kernel_rfl
theorem fact_pinned : (Rows.scriptBigRow.pinned == Rows.scriptBigRow.pinnedBy) = true := by kernel_rfl
theorem fact_veiled : (Rows.scriptBigRow.veiled == (Tryz.f3.params.toList ++ Rows.scriptBigSpec.plain.varTypes Tryz.prog ++ Tryz.f3.resultTypes.toList).any (Tryz.prog.veiledRec ·)) = true := by kernel_rfl
theorem fact_veiledFits : Rows.scriptBigRow.veiledFits Tryz.prog Tryz.f3.params.toList (Tryz.f3.params.toList ++ Rows.scriptBigSpec.plain.varTypes Tryz.prog ++ Tryz.f3.resultTypes.toList) = true := by kernel_rfl
theorem fact_wfByText : Rows.scriptBigRow.wfByText (OpenSpec.ofChange Rows.scriptBigSpec) = true := by kernel_rfl
theorem fact_mainIs : Tryz.prog.mainIs = some (true, "85f2fd4beb4e322003ed0f68d557bb4b1669393c658705b26f22114432012032".toList) := by kernel_rfl
theorem fact_looks : Tryz.prog.looks [] = true := by kernel_rfl
theorem fact_wants : Tryz.prog.wantsStandIn 3 = false := by kernel_rfl
end Go.Proofs.YthbjpjkeidhnbaaGreatDoor
