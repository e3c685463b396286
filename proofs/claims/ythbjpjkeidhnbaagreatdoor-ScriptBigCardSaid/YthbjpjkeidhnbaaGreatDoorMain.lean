/-
  Every call of drydocklaw45.ScriptBig returns true, whatever its number: the row, and the card that ties what the row lists to the program's text; no further condition.
-/
import Derived.Test.YthbjpjkeidhnbaaGreatDoorCards
import Derived.Test.YthbjpjkeidhnbaaGreatDoorRw
import Derived.Test.YthbjpjkeidhnbaaGreatDoorTa
import Derived.Test.YthbjpjkeidhnbaaGreatDoorTb
import Derived.Test.YthbjpjkeidhnbaaGreatDoorTc
import Derived.Test.YthbjpjkeidhnbaaGreatDoorTp
import Derived.Test.YthbjpjkeidhnbaaGreatDoorTl
import Derived.Test.YthbjpjkeidhnbaaGreatDoorTv
import Derived.SevenTiedAt
import Derived.Great.ByCallsLater
set_option linter.all false
namespace Go.Proofs.YthbjpjkeidhnbaaGreatDoor
open Go Go.Proofs
set_option maxRecDepth 100000
theorem tie7 : Tryz.prog.laidByTextLater L7 [LaidKind.data, .data, .sentinel, .sentinel, .data, .data, .data] true := by
  refine Program.laidByTextLater_of_R tie_w tie_w' tie_r tie_kinds ?_ ?_ tie_R
  · rw [tie_f]; rfl
  · rw [varsId_eq]; exact tie_n
theorem fact_pdatum : Pinned.datum "unicode/utf8.first" = some Rows.laid_unicode_utf8_first := by kernel_rfl
theorem row_tie : Rows.scriptBigRow.laidByTextAt .later Tryz.pinned [.data, .pinned, .data, .sentinel, .sentinel, .data, .data, .data] true :=
  OpenClaim.laidByTextAt_pinned rfl rfl tie7 rfl rfl rfl rfl (fun y hy e => by
    simp only [Rows.scriptBigRow, List.zip_cons_cons, List.zip_nil_right, List.mem_cons, List.mem_nil_iff, or_false] at hy
    rcases hy with rfl | rfl | rfl | rfl | rfl | rfl | rfl | rfl
    · cases e
    · exact ⟨tie_p, fact_pdatum⟩
    · cases e
    · cases e
    · cases e
    · cases e
    · cases e
    · cases e) tie_l
theorem scriptBig_card : Rows.ScriptBigCardSaid :=
  Claim7.holds_tied_plain_at .later [] [.data, .pinned, .data, .sentinel, .sentinel, .data, .data, .data] true (true, "85f2fd4beb4e322003ed0f68d557bb4b1669393c658705b26f22114432012032") true
    scriptBig_holds (fun _ h => by cases h) fact_wfByText (fun _ h => by cases h) row_tie rfl ⟨rfl, rfl⟩ fact_mainIs rfl
    (fun f fn hf hfn => by
      obtain rfl : f = 3 := Option.some.inj (fact_funcNamed.symm.trans hf) |>.symm
      obtain rfl : fn = Tryz.f3 := (Option.some.inj (Tryz.func3.symm.trans hfn)).symm
      exact ⟨fact_looks.symm, fun j t ht => by
        rw [Tryz.params3] at ht
        have hm : t ∈ [3] := by simpa using Array.mem_of_getElem? ht
        obtain rfl : t = 3 := by simpa using hm
        exact fact_wants⟩)
    fact_goesBy
#print axioms scriptBig_card
end Go.Proofs.YthbjpjkeidhnbaaGreatDoor
