/-
  Closed facts of the tie of ScriptBig's row, each by the kernel.
  Closed facts of the tie of ScriptBig's row, each by the kernel.
  Closed facts of the tie of ScriptBig's row, each by the kernel.
  Closed facts of the tie of ScriptBig's row, each by the kernel.
  Closed facts of the tie of ScriptBig's row, each by the kernel.
  Closed facts of the tie of ScriptBig's row, each by the kernel.
  Closed facts of the tie of ScriptBig's row, each by the kernel.
-/
import Derived.Test.YthbjpjkeidhnbaaGreatDoorRows
import Derived.LaidByTextLater
import Derived.SevenTiedAt
import Derived.KernelRfl
set_option linter.all false
namespace Go.Proofs.YthbjpjkeidhnbaaGreatDoor
open Go Go.Proofs
set_option maxRecDepth 100000
theorem tie_k_lev : Tryz.prog.kindBase "drydock/syntax.levels" = some .data := by kernel_rfl
end Go.Proofs.YthbjpjkeidhnbaaGreatDoor

namespace Go.Proofs.YthbjpjkeidhnbaaGreatDoor
open Go Go.Proofs
set_option maxRecDepth 100000
theorem tie_k_acc : Tryz.prog.kindBase "unicode/utf8.acceptRanges" = some .data := by kernel_rfl
end Go.Proofs.YthbjpjkeidhnbaaGreatDoor

namespace Go.Proofs.YthbjpjkeidhnbaaGreatDoor
open Go Go.Proofs
set_option maxRecDepth 100000
theorem tie_k_esy : Tryz.prog.kindBase "strconv.ErrSyntax" = some .sentinel := by kernel_rfl
end Go.Proofs.YthbjpjkeidhnbaaGreatDoor

namespace Go.Proofs.YthbjpjkeidhnbaaGreatDoor
open Go Go.Proofs
set_option maxRecDepth 100000
theorem tie_k_era : Tryz.prog.kindBase "strconv.ErrRange" = some .sentinel := by kernel_rfl
end Go.Proofs.YthbjpjkeidhnbaaGreatDoor

namespace Go.Proofs.YthbjpjkeidhnbaaGreatDoor
open Go Go.Proofs
set_option maxRecDepth 100000
theorem tie_k_pow : Tryz.prog.kindBase "internal/strconv.uint64pow10" = some .data := by kernel_rfl
end Go.Proofs.YthbjpjkeidhnbaaGreatDoor

namespace Go.Proofs.YthbjpjkeidhnbaaGreatDoor
open Go Go.Proofs
set_option maxRecDepth 100000
theorem tie_k_d32 : Tryz.prog.kindBase "math/bits.deBruijn32tab" = some .data := by kernel_rfl
end Go.Proofs.YthbjpjkeidhnbaaGreatDoor

namespace Go.Proofs.YthbjpjkeidhnbaaGreatDoor
open Go Go.Proofs
set_option maxRecDepth 100000
theorem tie_k_d64 : Tryz.prog.kindBase "math/bits.deBruijn64tab" = some .data := by kernel_rfl
end Go.Proofs.YthbjpjkeidhnbaaGreatDoor
