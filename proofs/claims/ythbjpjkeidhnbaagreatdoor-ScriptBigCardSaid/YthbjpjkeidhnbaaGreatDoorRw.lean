/-
  Closed facts of the row of ScriptBig: no goroutine.
  The row of ScriptBig, proved.
-/
import Derived.Test.YthbjpjkeidhnbaaGreatDoorFc
import Derived.Test.YthbjpjkeidhnbaaGreatDoorFj
import Derived.Test.YthbjpjkeidhnbaaGreatDoorBs
import Derived.Test.YthbjpjkeidhnbaaGreatDoorWt
import Derived.Test.YthbjpjkeidhnbaaGreatDoorFa
import Derived.Test.YthbjpjkeidhnbaaGreatDoorFb
import Derived.Test.YthbjpjkeidhnbaaGreatDoorFf
import Derived.Test.YthbjpjkeidhnbaaGreatDoorFg
import Derived.Test.YthbjpjkeidhnbaaGreatDoorFh
import Derived.Test.YthbjpjkeidhnbaaGreatDoorFi
import Derived.Test.YthbjpjkeidhnbaaGreatDoorFk
import Derived.ProofKit
set_option linter.all false
namespace Go.Proofs.YthbjpjkeidhnbaaGreatDoor
open Go Go.Proofs
theorem goesBy_of {P : Program} {c : OpenClaim} {f : FuncId} (hf : P.funcNamed c.func = some f) (hs : c.start = .entering) (hg : P.goes f = false) : false = c.goesBy P := by
  unfold OpenClaim.goesBy Program.goesAt Program.goesFrom
  rw [hf, hs]
  simp [hg]
theorem fact_goesBy : false = Rows.scriptBigRow.goesBy Tryz.prog := goesBy_of (P := Tryz.prog) (c := Rows.scriptBigRow) (f := 3) fact_funcNamed rfl fact_goes
end Go.Proofs.YthbjpjkeidhnbaaGreatDoor

namespace Go.Proofs.YthbjpjkeidhnbaaGreatDoor
open Go.ChangeShapes Go.WideShapes Go.ChangeAt Go.RowKit

theorem kept {w w' : World} (h : Far w w') (may : MemPlace → Prop) : w.keptBut w' may := by
  refine ⟨h.os, h.output, fun i hi => ?_⟩
  rw [h.keep i hi]
  cases w.heap[i]? with
  | none => rfl
  | some o => cases o <;> first | exact ⟨rfl, rfl, rfl, fun _ _ => rfl⟩ | exact .inr ⟨rfl, rfl⟩ | rfl

set_option maxRecDepth 100000 in
theorem fact_joined : joinedFacts Tryz.prog 3 Tryz.f3 Rows.scriptBigSpec Rows.scriptBigRow = true := by
  unfold joinedFacts
  rw [fact_wf, fact_laidOut, fact_mapsRowed, fact_readable, fact_namedTie, fact_stops, fact_stopKnobs, fact_inPlace, fact_unfollowed, fact_recurses, fact_named, fact_maps, fact_ifaces, fact_mapsOut, fact_loops, fact_wideKeys,
    fact_resOK, fact_ifacesOut, fact_loopsOut, fact_plainKeys, fact_stopsHeard, fact_mayEnter, fact_lifted, fact_make, fact_pinned, fact_veiled, fact_veiledFits]
  kernel_rfl

set_option maxRecDepth 100000 in
theorem lifted (os : Os) (started : os.Started) (H : Type) (enc : TypeId × Value → H) :
    ReturnsInHanded {} Tryz.checked os 3 .any (fun w args => (Rows.scriptBigSpec.pre enc Tryz.prog Tryz.f3 [] false w args ∧ laidMetH Tryz.prog Rows.scriptBigRow.laid w) ∧ sizedMet enc Tryz.prog Tryz.f3 (OpenSpec.ofChange Rows.scriptBigSpec) false w args)
      (Rows.scriptBigSpec.post enc Tryz.prog Tryz.f3 false true false false) := by
  refine returnsInHanded_of_change_and (C := Tryz.checked) (X := fun w _ => laidMetH Tryz.prog Rows.scriptBigRow.laid w) (fun _ _ _ hh h => h.of_heap hh) own started fact_noInit Tryz.func3
    (ChangeSpec.witness_shaped (enc := enc) (C := Tryz.checked) (os := os) (X := fun w _ => laidMetH Tryz.prog Rows.scriptBigRow.laid w) false (W0 os) #[.int .i64 0] 8 rfl
      (w_shaped os) (fact_ok os) (fact_pre os) (fact_sized os) (laid_heap os _)) ?_
  intro W base args ds gs before hval0 hW _ _ _ _
  have hval : ∀ (j : Nat) t v, Tryz.f3.params[j]? = some t → args[j]? = some v → Value.okWide Tryz.prog W .any base t v := hval0
  have hW' := hW
  obtain ⟨p, q, hA0, hV, rfl, _, _⟩ := hW
  have hA : DataW.TrodAll enc Tryz.prog W 0 (fun _ => true) true Tryz.f3.params.toList args.toList ds p := hA0
  rw [Tryz.params3] at hA hval
  obtain ⟨v0, d0, rfl, rfl, h0⟩ := trodAll_one hA
  obtain ⟨rfl, rfl⟩ := trodVars_none hV
  obtain ⟨x, rfl, rfl, rfl, wx⟩ := open_int Tryz.underlying3 (hval 0 3 v0 rfl rfl) h0
  simp only [List.append_nil] at hW'
  refine big_call x W fun W' hf => ?_
  exact ⟨_, rfl, _, _, _, [], [], [], hW', trodAll_mk1 (shut_bool Tryz.underlying4 _), trodAll_mk1 (shut_int Tryz.underlying3 wx), rfl, kept hf _, fun h => by cases h⟩

theorem scriptBig_holds : Rows.ScriptBigSaid :=
  OpenClaim.holds_of_wide 3 Tryz.f3 rfl rfl rfl rfl rfl rfl rfl ⟨rfl, rfl, rfl, rfl, rfl⟩ rfl rfl rfl rfl rfl fact_funcNamed Tryz.func3 fact_joined
    (of_decide_eq_true (by as_aux_lemma => kernel_rfl)) (by unfold Func.isWrapper; first | (rw [if_pos (by decide +kernel)]; kernel_rfl) | (rw [if_neg (by decide +kernel)]; exact ⟨rfl, rfl⟩))
    (fun os started H enc _ => lifted os started H enc)
#print axioms scriptBig_holds
end Go.Proofs.YthbjpjkeidhnbaaGreatDoor
