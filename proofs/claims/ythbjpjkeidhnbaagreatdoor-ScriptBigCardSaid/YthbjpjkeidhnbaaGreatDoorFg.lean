/-
  Closed facts of the row of ScriptBig, each by the kernel.
-/
import Derived.Test.YthbjpjkeidhnbaaGreatDoorFf
import Derived.JoinedOf
import Derived.KernelRfl
set_option linter.all false
namespace Go.Proofs.YthbjpjkeidhnbaaGreatDoor
open Go Go.Abs Go.Proofs
set_option maxRecDepth 100000
theorem mr_sum (p : Nat → Bool) {n : Nat} (hn : n = 840) (h0 : (List.range' 0 210).all p = true) (h1 : (List.range' 210 210).all p = true) (h2 : (List.range' 420 210).all p = true) (h3 : (List.range' 630 210).all p = true) : (List.range n).all p = true := by
  subst hn
  rw [List.all_eq_true]
  intro x hx
  have hx := List.mem_range.1 hx
  rcases Nat.lt_or_ge x 210 with g0 | g0
  · exact List.all_eq_true.1 h0 x (List.mem_range'_1.2 ⟨by omega, by omega⟩)
  rcases Nat.lt_or_ge x 420 with g1 | g1
  · exact List.all_eq_true.1 h1 x (List.mem_range'_1.2 ⟨by omega, by omega⟩)
  rcases Nat.lt_or_ge x 630 with g2 | g2
  · exact List.all_eq_true.1 h2 x (List.mem_range'_1.2 ⟨by omega, by omega⟩)
  rcases Nat.lt_or_ge x 840 with g3 | g3
  · exact List.all_eq_true.1 h3 x (List.mem_range'_1.2 ⟨by omega, by omega⟩)
  omega
noncomputable def mrOK (t : Nat) : Bool := match Tryz.prog.underlying t with | some (.map _ e) => decide (e < 840) | _ => true
theorem fact_mr0 : (List.range' 0 210).all mrOK = true := by kernel_rfl
theorem fact_mr1 : (List.range' 210 210).all mrOK = true := by kernel_rfl
theorem fact_mr2 : (List.range' 420 210).all mrOK = true := by kernel_rfl
theorem fact_mr3 : (List.range' 630 210).all mrOK = true := by kernel_rfl
theorem fact_mapsRowed : mapsRowed Tryz.prog = true := by
  unfold mapsRowed
  rw [fact_types]
  exact mr_sum mrOK rfl fact_mr0 fact_mr1 fact_mr2 fact_mr3
end Go.Proofs.YthbjpjkeidhnbaaGreatDoor
