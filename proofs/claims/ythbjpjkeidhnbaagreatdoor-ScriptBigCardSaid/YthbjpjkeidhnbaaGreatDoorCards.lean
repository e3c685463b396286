/-
  DERIVED. GIVEN WITH THE SEED: THE CARDS: each row of YthbjpjkeidhnbaaGreatDoorRows.lean that lists a variable, with what it lists TIED to the program's text (the seventh form; the later family's looks); each row that meets fmt, with fmt's text TOLD by the authors' own Lean function (tested against real Go, not proved from fmt's source: count such statements apart). THE CARD IS WHAT COUNTS. Prove the row's statement (the work); the ties are given (YthbjpjkeidhnbaaGreatDoorTie.lean); close each card by the builder's one call (the guide's Derived/Test/ToyasCard.lean, 'card_holds'). Laid BY PROGRAM, IN A SANDBOX (cutbox-door.mjs). By AI agents, Wed Nov 11 2026. No macro, syntax, notation, axiom, sorry.
-/
import Derived.Test.YthbjpjkeidhnbaaGreatDoorRows
import GoSem.ClaimSeven
namespace Go.Proofs.YthbjpjkeidhnbaaGreatDoor
namespace Rows

/-- THE TIED CARD OF 'drydocklaw45.ScriptBig'. -/
def scriptBigCard : Claim7 := { stood := { row := scriptBigRow, standIns := [], harness := (true, "85f2fd4beb4e322003ed0f68d557bb4b1669393c658705b26f22114432012032"), looks := true }, kinds := [], alts := [], laidByText := true, laidKinds := [.data, .pinned, .data, .sentinel, .sentinel, .data, .data, .data], laidTests := true, laidLooks := .later }
def ScriptBigCardSaid : Prop := Claim7.holds Tryz.pinned (.plain (OpenSpec.ofChange scriptBigSpec)) scriptBigCard

/-- THE SECOND FORM's CARD OF 'drydocklaw45.ScriptBig'. -/
def scriptBigUptoCard : Claim7 := { stood := { row := scriptBigUptoRow, standIns := [], harness := (true, "85f2fd4beb4e322003ed0f68d557bb4b1669393c658705b26f22114432012032"), looks := true }, kinds := [], alts := [], laidByText := true, laidKinds := [.data, .pinned, .data, .sentinel, .sentinel, .data, .data, .data], laidTests := true, laidLooks := .later }
def ScriptBigUptoCardSaid : Prop := Claim7.holds Tryz.pinned (.plain (OpenSpec.upto scriptBigSpec)) scriptBigUptoCard
end Rows
end Go.Proofs.YthbjpjkeidhnbaaGreatDoor
