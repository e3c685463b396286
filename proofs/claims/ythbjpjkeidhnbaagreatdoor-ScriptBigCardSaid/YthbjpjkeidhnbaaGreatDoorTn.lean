/-
  Closed facts of the tie of ScriptBig's row, each by the kernel.
-/
import Derived.Test.YthbjpjkeidhnbaaGreatDoorTf
import Derived.Test.YthbjpjkeidhnbaaGreatDoorTk
import Derived.Test.YthbjpjkeidhnbaaGreatDoorRows
import Derived.LaidByTextLater
import Derived.SevenTiedAt
import Derived.KernelRfl
set_option linter.all false
namespace Go.Proofs.YthbjpjkeidhnbaaGreatDoor
open Go Go.Proofs
set_option maxRecDepth 100000
abbrev L7 : List (String × DataW Unit) := [("drydock/syntax.levels", Rows.laid_drydock_syntax_levels), ("unicode/utf8.acceptRanges", Rows.laid_unicode_utf8_acceptRanges), ("strconv.ErrSyntax", Rows.laid_strconv_ErrSyntax), ("strconv.ErrRange", Rows.laid_strconv_ErrRange), ("internal/strconv.uint64pow10", Rows.laid_internal_strconv_uint64pow10), ("math/bits.deBruijn32tab", Rows.laid_math_bits_deBruijn32tab), ("math/bits.deBruijn64tab", Rows.laid_math_bits_deBruijn64tab)]
theorem tie_alone : (match (Tryz.prog.funcs[679]?).bind (·.body) with | some code => Tryz.prog.callsLaidAlone 679 code | none => false) = true := by kernel_rfl
theorem tie_n : varsNamedLaterB Tryz.prog 679 L7 = true := by
  unfold varsNamedLaterB
  simp only [L7, List.all_cons, List.all_nil, tie_k_lev, tie_k_acc, tie_k_esy, tie_k_era, tie_k_pow, tie_k_d32, tie_k_d64]
  kernel_rfl
theorem tie_kinds : L7.map (fun x => Tryz.prog.kindOfLater x.1) = [LaidKind.data, .data, .sentinel, .sentinel, .data, .data, .data].map some := by
  simp only [L7, List.map_cons, List.map_nil, Program.kindOfLater, tie_k_lev, tie_k_acc, tie_k_esy, tie_k_era, tie_k_pow, tie_k_d32, tie_k_d64]
end Go.Proofs.YthbjpjkeidhnbaaGreatDoor
