/-
  The world in which a call of ScriptBig fits: what the program begins with.
  The world in which a call of ScriptBig fits: the listed variables laid.
  The world in which a call of ScriptBig fits: its shape; the call.
-/
import Derived.Test.YthbjpjkeidhnbaaGreatDoorProg
import Derived.Lay
import Derived.KernelRfl
import Derived.Test.YthbjpjkeidhnbaaGreatDoorRows
import Derived.Lib.LaidIn
import Derived.LaidMore
import Derived.ProofKit
set_option linter.all false
namespace Go.Proofs.YthbjpjkeidhnbaaGreatDoor
open Go Go.Proofs
set_option maxRecDepth 100000
theorem fact_wait : waiting Tryz.prog = Array.replicate 9 false := by kernel_rfl
def hB : Array Obj := #[.cells (Array.replicate 5 (.string .empty)) 221, .cells #[.int .i64 0] 3, .cells (Array.replicate 20 (.int .u64 0)) 679, .cells (Array.replicate 256 (.int .u8 0)) 692, .cells (Array.replicate 32 (.int .u8 0)) 695,
  .cells #[.nilIface] 53, .cells #[.nilIface] 53, .cells (Array.replicate 32 (.int .u8 0)) 793, .cells (Array.replicate 64 (.int .u8 0)) 794,
  .cells ((Array.range 840).map fun t => .int .u64 (Int.ofNat t)) 0, .map #[] 0, .finalizers #[] none, .cells #[.bool false] 0, .finalizers #[] none]
theorem beginHeap (os : Os) : (begin Tryz.prog (fun _ _ => 0) os).world.heap = hB := by
  simp only [begin, fact_wait]
  kernel_rfl
end Go.Proofs.YthbjpjkeidhnbaaGreatDoor

namespace Go.Proofs.YthbjpjkeidhnbaaGreatDoor
open Go Go.Proofs
set_option maxRecDepth 100000
def hW : Array Obj := #[.cells #[(.string ⟨#[]⟩), (.string ⟨#[115, 105, 116, 101]⟩), (.string ⟨#[114, 111, 111, 109]⟩), (.string ⟨#[114, 97, 99, 107]⟩), (.string ⟨#[109, 97, 99, 104, 105, 110, 101]⟩)] 221,
  .cells #[(.int .i64 0)] 3,
  .cells #[(.int .u64 1), (.int .u64 10), (.int .u64 100), (.int .u64 1000), (.int .u64 10000), (.int .u64 100000), (.int .u64 1000000), (.int .u64 10000000), (.int .u64 100000000), (.int .u64 1000000000), (.int .u64 10000000000), (.int .u64 100000000000), (.int .u64 1000000000000), (.int .u64 10000000000000), (.int .u64 100000000000000), (.int .u64 1000000000000000), (.int .u64 10000000000000000), (.int .u64 100000000000000000), (.int .u64 1000000000000000000), (.int .u64 10000000000000000000)] 679,
  .cells #[(.int .u8 240), (.int .u8 240), (.int .u8 240), (.int .u8 240), (.int .u8 240), (.int .u8 240), (.int .u8 240), (.int .u8 240), (.int .u8 240), (.int .u8 240), (.int .u8 240), (.int .u8 240), (.int .u8 240), (.int .u8 240), (.int .u8 240), (.int .u8 240), (.int .u8 240), (.int .u8 240), (.int .u8 240), (.int .u8 240), (.int .u8 240), (.int .u8 240), (.int .u8 240), (.int .u8 240), (.int .u8 240), (.int .u8 240), (.int .u8 240), (.int .u8 240), (.int .u8 240), (.int .u8 240), (.int .u8 240), (.int .u8 240), (.int .u8 240), (.int .u8 240), (.int .u8 240), (.int .u8 240), (.int .u8 240), (.int .u8 240), (.int .u8 240), (.int .u8 240), (.int .u8 240), (.int .u8 240), (.int .u8 240), (.int .u8 240), (.int .u8 240), (.int .u8 240), (.int .u8 240), (.int .u8 240), (.int .u8 240), (.int .u8 240), (.int .u8 240), (.int .u8 240), (.int .u8 240), (.int .u8 240), (.int .u8 240), (.int .u8 240), (.int .u8 240), (.int .u8 240), (.int .u8 240), (.int .u8 240), (.int .u8 240), (.int .u8 240), (.int .u8 240), (.int .u8 240), (.int .u8 240), (.int .u8 240), (.int .u8 240), (.int .u8 240), (.int .u8 240), (.int .u8 240), (.int .u8 240), (.int .u8 240), (.int .u8 240), (.int .u8 240), (.int .u8 240), (.int .u8 240), (.int .u8 240), (.int .u8 240), (.int .u8 240), (.int .u8 240), (.int .u8 240), (.int .u8 240), (.int .u8 240), (.int .u8 240), (.int .u8 240), (.int .u8 240), (.int .u8 240), (.int .u8 240), (.int .u8 240), (.int .u8 240), (.int .u8 240), (.int .u8 240), (.int .u8 240), (.int .u8 240), (.int .u8 240), (.int .u8 240), (.int .u8 240), (.int .u8 240), (.int .u8 240), (.int .u8 240), (.int .u8 240), (.int .u8 240), (.int .u8 240), (.int .u8 240), (.int .u8 240), (.int .u8 240), (.int .u8 240), (.int .u8 240), (.int .u8 240), (.int .u8 240), (.int .u8 240), (.int .u8 240), (.int .u8 240), (.int .u8 240), (.int .u8 240), (.int .u8 240), (.int .u8 240), (.int .u8 240), (.int .u8 240), (.int .u8 240), (.int .u8 240), (.int .u8 240), (.int .u8 240), (.int .u8 240), (.int .u8 240), (.int .u8 240), (.int .u8 240), (.int .u8 240), (.int .u8 241), (.int .u8 241), (.int .u8 241), (.int .u8 241), (.int .u8 241), (.int .u8 241), (.int .u8 241), (.int .u8 241), (.int .u8 241), (.int .u8 241), (.int .u8 241), (.int .u8 241), (.int .u8 241), (.int .u8 241), (.int .u8 241), (.int .u8 241), (.int .u8 241), (.int .u8 241), (.int .u8 241), (.int .u8 241), (.int .u8 241), (.int .u8 241), (.int .u8 241), (.int .u8 241), (.int .u8 241), (.int .u8 241), (.int .u8 241), (.int .u8 241), (.int .u8 241), (.int .u8 241), (.int .u8 241), (.int .u8 241), (.int .u8 241), (.int .u8 241), (.int .u8 241), (.int .u8 241), (.int .u8 241), (.int .u8 241), (.int .u8 241), (.int .u8 241), (.int .u8 241), (.int .u8 241), (.int .u8 241), (.int .u8 241), (.int .u8 241), (.int .u8 241), (.int .u8 241), (.int .u8 241), (.int .u8 241), (.int .u8 241), (.int .u8 241), (.int .u8 241), (.int .u8 241), (.int .u8 241), (.int .u8 241), (.int .u8 241), (.int .u8 241), (.int .u8 241), (.int .u8 241), (.int .u8 241), (.int .u8 241), (.int .u8 241), (.int .u8 241), (.int .u8 241), (.int .u8 241), (.int .u8 241), (.int .u8 2), (.int .u8 2), (.int .u8 2), (.int .u8 2), (.int .u8 2), (.int .u8 2), (.int .u8 2), (.int .u8 2), (.int .u8 2), (.int .u8 2), (.int .u8 2), (.int .u8 2), (.int .u8 2), (.int .u8 2), (.int .u8 2), (.int .u8 2), (.int .u8 2), (.int .u8 2), (.int .u8 2), (.int .u8 2), (.int .u8 2), (.int .u8 2), (.int .u8 2), (.int .u8 2), (.int .u8 2), (.int .u8 2), (.int .u8 2), (.int .u8 2), (.int .u8 2), (.int .u8 2), (.int .u8 19), (.int .u8 3), (.int .u8 3), (.int .u8 3), (.int .u8 3), (.int .u8 3), (.int .u8 3), (.int .u8 3), (.int .u8 3), (.int .u8 3), (.int .u8 3), (.int .u8 3), (.int .u8 3), (.int .u8 35), (.int .u8 3), (.int .u8 3), (.int .u8 52), (.int .u8 4), (.int .u8 4), (.int .u8 4), (.int .u8 68), (.int .u8 241), (.int .u8 241), (.int .u8 241), (.int .u8 241), (.int .u8 241), (.int .u8 241), (.int .u8 241), (.int .u8 241), (.int .u8 241), (.int .u8 241), (.int .u8 241)] 692,
  .cells #[(.int .u8 128), (.int .u8 191), (.int .u8 160), (.int .u8 191), (.int .u8 128), (.int .u8 159), (.int .u8 144), (.int .u8 191), (.int .u8 128), (.int .u8 143), (.int .u8 0), (.int .u8 0), (.int .u8 0), (.int .u8 0), (.int .u8 0), (.int .u8 0), (.int .u8 0), (.int .u8 0), (.int .u8 0), (.int .u8 0), (.int .u8 0), (.int .u8 0), (.int .u8 0), (.int .u8 0), (.int .u8 0), (.int .u8 0), (.int .u8 0), (.int .u8 0), (.int .u8 0), (.int .u8 0), (.int .u8 0), (.int .u8 0)] 695,
  .cells #[(.iface 760 (.pointer (some ⟨14, 0, none⟩)))] 53,
  .cells #[(.iface 760 (.pointer (some ⟨15, 0, none⟩)))] 53,
  .cells #[(.int .u8 0), (.int .u8 1), (.int .u8 28), (.int .u8 2), (.int .u8 29), (.int .u8 14), (.int .u8 24), (.int .u8 3), (.int .u8 30), (.int .u8 22), (.int .u8 20), (.int .u8 15), (.int .u8 25), (.int .u8 17), (.int .u8 4), (.int .u8 8), (.int .u8 31), (.int .u8 27), (.int .u8 13), (.int .u8 23), (.int .u8 21), (.int .u8 19), (.int .u8 16), (.int .u8 7), (.int .u8 26), (.int .u8 12), (.int .u8 18), (.int .u8 6), (.int .u8 11), (.int .u8 5), (.int .u8 10), (.int .u8 9)] 793,
  .cells #[(.int .u8 0), (.int .u8 1), (.int .u8 56), (.int .u8 2), (.int .u8 57), (.int .u8 49), (.int .u8 28), (.int .u8 3), (.int .u8 61), (.int .u8 58), (.int .u8 42), (.int .u8 50), (.int .u8 38), (.int .u8 29), (.int .u8 17), (.int .u8 4), (.int .u8 62), (.int .u8 47), (.int .u8 59), (.int .u8 36), (.int .u8 45), (.int .u8 43), (.int .u8 51), (.int .u8 22), (.int .u8 53), (.int .u8 39), (.int .u8 33), (.int .u8 30), (.int .u8 24), (.int .u8 18), (.int .u8 12), (.int .u8 5), (.int .u8 63), (.int .u8 55), (.int .u8 48), (.int .u8 27), (.int .u8 60), (.int .u8 41), (.int .u8 37), (.int .u8 16), (.int .u8 46), (.int .u8 35), (.int .u8 44), (.int .u8 21), (.int .u8 52), (.int .u8 32), (.int .u8 23), (.int .u8 11), (.int .u8 54), (.int .u8 26), (.int .u8 40), (.int .u8 15), (.int .u8 34), (.int .u8 20), (.int .u8 31), (.int .u8 10), (.int .u8 25), (.int .u8 14), (.int .u8 19), (.int .u8 9), (.int .u8 13), (.int .u8 8), (.int .u8 7), (.int .u8 6)] 794,
  .cells ((Array.range 840).map fun t => .int .u64 (Int.ofNat t)) 0,
  .map #[] 0,
  .finalizers #[] none,
  .cells #[.bool false] 0,
  .finalizers #[] none,
  .cells #[(.string ⟨#[105, 110, 118, 97, 108, 105, 100, 32, 115, 121, 110, 116, 97, 120]⟩)] 762, .cells #[(.string ⟨#[118, 97, 108, 117, 101, 32, 111, 117, 116, 32, 111, 102, 32, 114, 97, 110, 103, 101]⟩)] 762]
def W0 (os : Os) : World := { heap := hW, tape := fun _ _ => 0, drawn := 0, os := os, output := #[] }
theorem laid_lev (os : Os) : LaidIn Tryz.prog (W0 os) [("drydock/syntax.levels", Rows.laid_drydock_syntax_levels)] [0] := LaidIn.of_run [0] 8 (by as_aux_lemma => kernel_rfl) (by as_aux_lemma => kernel_rfl) (by as_aux_lemma => kernel_rfl) (by as_aux_lemma => kernel_rfl)
theorem laid_fst (os : Os) : LaidIn Tryz.prog (W0 os) [("unicode/utf8.first", Rows.laid_unicode_utf8_first)] [3] := LaidIn.of_run [3] 8 (by as_aux_lemma => kernel_rfl) (by as_aux_lemma => kernel_rfl) (by as_aux_lemma => kernel_rfl) (by as_aux_lemma => kernel_rfl)
theorem laid_acc (os : Os) : LaidIn Tryz.prog (W0 os) [("unicode/utf8.acceptRanges", Rows.laid_unicode_utf8_acceptRanges)] [4] := LaidIn.of_run [4] 8 (by as_aux_lemma => kernel_rfl) (by as_aux_lemma => kernel_rfl) (by as_aux_lemma => kernel_rfl) (by as_aux_lemma => kernel_rfl)
theorem laid_esy (os : Os) : LaidIn Tryz.prog (W0 os) [("strconv.ErrSyntax", Rows.laid_strconv_ErrSyntax)] [5, 14] := LaidIn.of_run [5, 14] 8 (by as_aux_lemma => kernel_rfl) (by as_aux_lemma => kernel_rfl) (by as_aux_lemma => kernel_rfl) (by as_aux_lemma => kernel_rfl)
theorem laid_era (os : Os) : LaidIn Tryz.prog (W0 os) [("strconv.ErrRange", Rows.laid_strconv_ErrRange)] [6, 15] := LaidIn.of_run [6, 15] 8 (by as_aux_lemma => kernel_rfl) (by as_aux_lemma => kernel_rfl) (by as_aux_lemma => kernel_rfl) (by as_aux_lemma => kernel_rfl)
theorem laid_pow (os : Os) : LaidIn Tryz.prog (W0 os) [("internal/strconv.uint64pow10", Rows.laid_internal_strconv_uint64pow10)] [2] := LaidIn.of_run [2] 8 (by as_aux_lemma => kernel_rfl) (by as_aux_lemma => kernel_rfl) (by as_aux_lemma => kernel_rfl) (by as_aux_lemma => kernel_rfl)
theorem laid_d32 (os : Os) : LaidIn Tryz.prog (W0 os) [("math/bits.deBruijn32tab", Rows.laid_math_bits_deBruijn32tab)] [7] := LaidIn.of_run [7] 8 (by as_aux_lemma => kernel_rfl) (by as_aux_lemma => kernel_rfl) (by as_aux_lemma => kernel_rfl) (by as_aux_lemma => kernel_rfl)
theorem laid_d64 (os : Os) : LaidIn Tryz.prog (W0 os) [("math/bits.deBruijn64tab", Rows.laid_math_bits_deBruijn64tab)] [8] := LaidIn.of_run [8] 8 (by as_aux_lemma => kernel_rfl) (by as_aux_lemma => kernel_rfl) (by as_aux_lemma => kernel_rfl) (by as_aux_lemma => kernel_rfl)
theorem laid_all (os : Os) : laidMet Tryz.prog Rows.scriptBigRow.laid (W0 os) :=
  (LaidIn.append (laid_lev os) (LaidIn.append (laid_fst os) (LaidIn.append (laid_acc os) (LaidIn.append (laid_esy os) (LaidIn.append (laid_era os) (LaidIn.append (laid_pow os) (LaidIn.append (laid_d32 os) (laid_d64 os) (by kernel_rfl)) (by kernel_rfl)) (by kernel_rfl)) (by kernel_rfl)) (by kernel_rfl)) (by kernel_rfl)) (by kernel_rfl)).met
theorem laid_heap (os : Os) (args : Array Value) : laidMetH Tryz.prog Rows.scriptBigRow.laid ((W0 os).forCall (fun _ _ => 0) ⟨#[], args, []⟩).memory := by
  rw [MakeChecks.laidMetH_plain _ _ _ (by kernel_rfl)]
  exact (laid_all os).of_heap (by simp [World.memory, World.forCall, Input.heap])
end Go.Proofs.YthbjpjkeidhnbaaGreatDoor

namespace Go.Proofs.YthbjpjkeidhnbaaGreatDoor
open Go Go.Proofs
open Go.ChangeShapes Go.WideShapes Go.ChangeAt Go.RowKit
set_option maxRecDepth 100000
abbrev wc (os : Os) : World := (W0 os).forCall (fun _ _ => 0) ⟨#[], #[.int .i64 0], []⟩
theorem fact_zip (os : Os) : (wc os).variablesZipB Tryz.prog = true := by
  simp only [World.variablesZipB, beginHeap]
  kernel_rfl
theorem fact_gs : Tryz.prog.globals.size = 9 := by kernel_rfl
theorem fact_row (os : Os) : ((wc os).heap.toList.drop Tryz.prog.globals.size).take ((begin Tryz.prog (fun _ _ => 0) default).world.heap.size - Tryz.prog.globals.size) =
    (begin Tryz.prog (fun _ _ => 0) default).world.heap.toList.drop Tryz.prog.globals.size := by
  rw [beginHeap, fact_gs]
  kernel_rfl
theorem w_shaped (os : Os) : (wc os).Shaped Tryz.prog := World.shaped_of_ZipB (fact_zip os) (fact_row os)
theorem fact_ok (os : Os) : Input.okWideB Tryz.prog (wc os) 3 ⟨#[], #[.int .i64 0], []⟩ = true := by kernel_rfl
theorem fact_pre {H : Type} {enc : TypeId × Value → H} (os : Os) : Rows.scriptBigSpec.preB enc Tryz.prog Tryz.f3 [] false (wc os).memory #[.int .i64 0] 8 = true := by kernel_rfl
theorem fact_sized {H : Type} {enc : TypeId × Value → H} (os : Os) : Rows.scriptBigSpec.sizedB enc Tryz.prog Tryz.f3 false (wc os).memory #[.int .i64 0] 8 = true := by kernel_rfl
theorem fact_noInit : Tryz.prog.inits.idxOf? 3 = none := by kernel_rfl
theorem own : ownKnob Tryz.prog.godebug = none := by kernel_rfl
end Go.Proofs.YthbjpjkeidhnbaaGreatDoor
