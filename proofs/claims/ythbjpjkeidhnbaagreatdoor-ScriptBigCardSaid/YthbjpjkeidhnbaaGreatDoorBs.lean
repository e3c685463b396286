/-
  The law ScriptBig: the functions that were told do what was told; the call of the law.
  The law ScriptBig: every call of it gives true, and leaves what was there.
-/
import Derived.Test.YthbjpjkeidhnbaaGreatDoorBa
import Derived.Test.YthbjpjkeidhnbaaGreatDoorBb
import Derived.Test.YthbjpjkeidhnbaaGreatDoorBc
import Derived.Test.YthbjpjkeidhnbaaGreatDoorBe
import Derived.Test.YthbjpjkeidhnbaaGreatDoorBf
import Derived.Test.YthbjpjkeidhnbaaGreatDoorBw
set_option linter.all false
namespace Go.Proofs
open Go Go.Abs
set_option maxRecDepth 100000

theorem mixedP : Tryz.prog.follows .mixedOrders = true := by kernel_rfl

theorem x74 : CallS Tryz.prog (only 74 sameF) := sum_same (fn := Tryz.f74) Tryz.func74 (by kernel_rfl) (by kernel_rfl) (by kernel_rfl) (by kernel_rfl)
theorem x282 : CallS Tryz.prog (only 282 countByteF) := sum_count (fn := Tryz.f282) Tryz.func282 (by kernel_rfl) (by kernel_rfl) (by kernel_rfl) (by kernel_rfl)
theorem x392 : CallS Tryz.prog (only 392 indexByteF) := sum_index (fn := Tryz.f392) Tryz.func392 (by kernel_rfl) (by kernel_rfl) (by kernel_rfl) (by kernel_rfl)
theorem x484 : CallS Tryz.prog (only 484 (makeNoZeroF 5)) :=
  sum_noZero (ps := Tryz.f484.params) (t := 23) (fn := Tryz.f484) Tryz.func484 (by kernel_rfl) (by kernel_rfl) (by kernel_rfl) (by kernel_rfl) (by kernel_rfl)

theorem extsOK : ∀ p ∈ bigExts, CallS Tryz.prog (only p.1 p.2) := by
  intro p hp
  unfold bigExts at hp
  simp only [List.mem_cons, List.not_mem_nil, or_false] at hp
  rcases hp with rfl | rfl | rfl | rfl
  · exact x74
  · exact x282
  · exact x392
  · exact x484

theorem consOK {f : Nat} {g : SF} {l : List (Nat × SF)} (h : CallS Tryz.prog (only f g)) (hl : ∀ p ∈ l, CallS Tryz.prog (only p.1 p.2)) : ∀ p ∈ (f, g) :: l, CallS Tryz.prog (only p.1 p.2) := by
  intro p hp
  rcases List.mem_cons.1 hp with rfl | hp
  · exact h
  · exact hl p hp

theorem exS_of {l : List (Nat × SF)} (hl : ∀ p ∈ l, CallS Tryz.prog (only p.1 p.2)) (N : Nat) : ExS Tryz.prog (exec (ctxP Tryz.prog l) N) :=
  exec_sound (ctxP_ok mixedP l) (sumS_of hl) (drawS (ctxP_ok mixedP l)) N
theorem callS_of {l : List (Nat × SF)} (hl : ∀ p ∈ l, CallS Tryz.prog (only p.1 p.2)) (N : Nat) : CallS Tryz.prog (callA (ctxP Tryz.prog l) (exec (ctxP Tryz.prog l) N)) :=
  call_sound (ctxP_ok mixedP l) (sumS_of hl) (drawS (ctxP_ok mixedP l)) N

theorem call0 : CallS Tryz.prog (callA cx0 (exec cx0 1000000)) := callS_of extsOK 1000000
theorem sumsSOK : ∀ p ∈ sumsS, CallS Tryz.prog (only p.1 p.2) := consOK (sum_chunk call0 PStart.ran) (consOK (sum_chunk call0 PReal.ran) extsOK)
theorem callS' : CallS Tryz.prog (callA cxS (exec cxS 1000000)) := callS_of sumsSOK 1000000
theorem sumsR0OK : ∀ p ∈ sumsR0, CallS Tryz.prog (only p.1 p.2) := consOK (sum_chunk call0 P0.ran) (consOK (sum_chunk callS' PSim.ran) (consOK (sum_chunk call0 PRep.ran) extsOK))
theorem sumsR1OK : ∀ p ∈ sumsR1, CallS Tryz.prog (only p.1 p.2) := consOK (sum_chunk call0 P1.ran) (consOK (sum_chunk callS' PSim.ran) (consOK (sum_chunk call0 PRep.ran) extsOK))
theorem sumsR2OK : ∀ p ∈ sumsR2, CallS Tryz.prog (only p.1 p.2) := consOK (sum_chunk call0 P2.ran) (consOK (sum_chunk callS' PSim.ran) (consOK (sum_chunk call0 PRep.ran) extsOK))
theorem sumsR3OK : ∀ p ∈ sumsR3, CallS Tryz.prog (only p.1 p.2) := consOK (sum_chunk call0 P3.ran) (consOK (sum_chunk callS' PSim.ran) (consOK (sum_chunk call0 PRep.ran) extsOK))
theorem sumsRsOK : ∀ p ∈ sumsRs, CallS Tryz.prog (only p.1 p.2) := consOK (sum_chunk call0 Ps.ran) (consOK (sum_chunk callS' PSim.ran) (consOK (sum_chunk call0 PRep.ran) extsOK))
theorem sumsAOK : ∀ p ∈ sumsA, CallS Tryz.prog (only p.1 p.2) := consOK (sum_chunk (callS_of sumsRsOK 1000000) Rs.ran) extsOK
theorem callAw : CallS Tryz.prog (callA cxA (exec cxA 1000000)) := callS_of sumsAOK 1000000

theorem awOK : CallS Tryz.prog (only 7 (told (· = []) (.bool true))) := sum_told callAw Aw.ran (args_self rfl)

/-! ### Within -/
noncomputable def wB : Code := match fnP Tryz.prog 4 with
  | some f => f.body
  | none => .skip
noncomputable def w1 : Code := Code.c2 wB
noncomputable def w2 : Code := Code.c2 w1
noncomputable def w3 : Code := Code.c2 w2
noncomputable def w4 : Code := Code.c2 w3
noncomputable def p0 : Array Oper := Code.os (Code.c1 wB)
noncomputable def p1 : Code := Code.c1 w1
noncomputable def p3 : Array Oper := Code.os (Code.c1 w2)
noncomputable def p4 : Array Oper := Code.os (Code.c1 (Code.c1 w3))
noncomputable def p4c : Code := Code.c2 (Code.c1 w3)
theorem wshape0 : wB = .seq (.region 0 p0 false) w1 := by kernel_rfl
theorem wshape1 : w1 = .seq p1 w2 := by kernel_rfl
theorem wshape2 : w2 = .seq (.region 3 p3 false) w3 := by kernel_rfl
theorem wshape3 : w3 = .seq (.seq (.region 4 p4 false) p4c) w4 := by kernel_rfl

section
variable (a : Int) (H : Hp)
noncomputable def g0 : T AV := argsA .lf 0 [.int .i64 a, .int .i64 7]
noncomputable def g1 : T AV := (g0 a).set 4 (.int .i64 0)
noncomputable def g2 : T AV := ((g1 a).set 6 (.int .i64 7)).set 7 (.bool false)
noncomputable def g3 (r : Int) : T AV := ((((g2 a).set 8 (.int .i64 a)).set 9 (.int .i64 7)).set 10 (.int .i64 r)).set 5 (.int .i64 r)
noncomputable def g4 (r : Int) (b : Bool) : T AV := ((g3 a r).set 11 (.int .i64 r)).set 12 (.bool b)
noncomputable def g5 (r : Int) (b : Bool) : T AV := ((((g4 a r b).set 13 (.int .i64 r)).set 14 (.int .i64 7)).set 15 (.int .i64 (wrapA .i64 (r + 7)))).set 4 (.int .i64 (wrapA .i64 (r + 7)))
noncomputable def g6 (r : Int) (b : Bool) : T AV := ((g4 a r b).set 16 (.int .i64 r)).set 4 (.int .i64 r)

theorem within_body (m : Nat) : exec cx0 (m + 9) none 17 wB ⟨g0 a, [], H⟩ = some (.ret, ⟨match ltI (a.tmod 7) 0 with | true => g5 a (a.tmod 7) true | false => g6 a (a.tmod 7) false, [], H⟩) := by
  have e0 : exec cx0 (m + 9) none 17 wB ⟨g0 a, [], H⟩ = exec cx0 (m + 8) none 17 w1 ⟨g1 a, [], H⟩ := by
    rw [wshape0]; exact exec_seq (exec_region (by kernel_rfl))
  have e1 : exec cx0 (m + 8) none 17 w1 ⟨g1 a, [], H⟩ = exec cx0 (m + 7) none 17 w2 ⟨g2 a, [], H⟩ := by
    rw [wshape1]; exact exec_seq (by kernel_rfl)
  have e2 : exec cx0 (m + 7) none 17 w2 ⟨g2 a, [], H⟩ = exec cx0 (m + 6) none 17 w3 ⟨g3 a (a.tmod 7), [], H⟩ := by
    rw [wshape2]; exact exec_seq (exec_region (by kernel_rfl))
  have e3 : exec cx0 (m + 4) none 17 (.region 4 p4 false) ⟨g3 a (a.tmod 7), [], H⟩ = some (.normal, ⟨g4 a (a.tmod 7) (ltI (a.tmod 7) 0), [], H⟩) := exec_region (by kernel_rfl)
  rw [e0, e1, e2, wshape3]
  cases hb : ltI (a.tmod 7) 0 with
  | true =>
    rw [hb] at e3
    refine exec_seq_x (by simp) ((exec_seq e3).trans ?_)
    kernel_rfl
  | false =>
    rw [hb] at e3
    have e4 : exec cx0 (m + 5) none 17 (.seq (.region 4 p4 false) p4c) ⟨g3 a (a.tmod 7), [], H⟩ = some (Ex.normal, ⟨g4 a (a.tmod 7) false, [], H⟩) := (exec_seq e3).trans (by kernel_rfl)
    refine (exec_seq e4).trans ?_
    kernel_rfl

theorem within_run : callC cx0 (exec cx0 100) 4 [.int .i64 a, .int .i64 7] H = some (.int .i64 (a % 7), H) := by
  have hcall : callC cx0 (exec cx0 100) 4 [.int .i64 a, .int .i64 7] H = callR cx0 (exec cx0 100 none 17 wB ⟨g0 a, [], H⟩) [.tmp 4] := by kernel_rfl
  rw [hcall, within_body a H 91]
  have ht : a.tmod 7 = if 0 ≤ a then a % 7 else -((-a) % 7) := by
    split
    · rename_i h; exact Int.tmod_eq_emod_of_nonneg h
    · rename_i h
      rw [← Int.tmod_eq_emod_of_nonneg (show 0 ≤ -a by omega), Int.neg_tmod, Int.neg_neg]
  cases hb : ltI (a.tmod 7) 0 with
  | true =>
    have hlt := (ltI_iff _ _).1 hb
    have hv : wrapA .i64 (a.tmod 7 + 7) = a % 7 := by
      rw [wrapA_eq, wrap_i64 _ (by split at ht <;> omega) (by split at ht <;> omega)]
      split at ht <;> omega
    have h1 : callR cx0 (some (.ret, ⟨g5 a (a.tmod 7) true, [], H⟩)) [.tmp 4] = some (.int .i64 (wrapA .i64 (a.tmod 7 + 7)), H) := by kernel_rfl
    exact h1.trans (by rw [hv])
  | false =>
    have hge : ¬ a.tmod 7 < 0 := fun h => by rw [(ltI_iff _ _).2 h] at hb; cases hb
    have hv : a.tmod 7 = a % 7 := by
      split at ht <;> omega
    have h1 : callR cx0 (some (.ret, ⟨g6 a (a.tmod 7) false, [], H⟩)) [.tmp 4] = some (.int .i64 (a.tmod 7), H) := by kernel_rfl
    exact h1.trans (by rw [hv])
end

theorem withinOK : CallS Tryz.prog (only 4 withinF) := by
  refine callS_only fun args H v H' h φ w xs hr hv => ?_
  unfold withinF at h
  split at h
  case h_2 => cases h
  rename_i a b
  split at h
  case h_2 => cases h
  rename_i hb
  have hb := (eqI_iff _ _).1 hb
  subst hb
  simp only [Option.some.injEq, Prod.mk.injEq] at h
  obtain ⟨rfl, rfl⟩ := h
  obtain ⟨h1, h2⟩ := callC_sound (ctxP_ok mixedP bigExts) (exS_of extsOK 100) (within_run a H) hr hv
  exact ⟨_, _, h1, .inr ⟨rfl, rfl, h2⟩⟩
end Go.Proofs

namespace Go.Proofs
open Go Go.Abs
set_option maxRecDepth 100000

noncomputable def aggOf : AV → List AV
  | .tup (.agg l :: _) => l
  | _ => []
noncomputable def strOf : AV → List UInt8
  | .tup (.str l :: _) => l
  | _ => []
noncomputable def csK : List AV := aggOf (blur P0.v)
noncomputable def csL : List AV := aggOf (blur P4.v)
noncomputable def tK : List UInt8 := strOf (blur R0.v)

theorem txt (size m : Nat) (h : size - 48 = m) {args0 : List AV} (ha : args0 = [.rep bigHead 120 m]) : ∀ args, args = [.str (bigText size)] → ∀ (φ : Phi) (xs : List Value), VL φ args xs → VL Phi.zero args0 xs := by
  intro args hargs φ xs hv
  subst ha
  refine args_rep (p := bigHead) (c := 120) (n := m) args ?_ φ xs hv
  rw [hargs, ← h]
  rfl

/-- what the two calls do at a size -/
structure At (size : Nat) (cs : List AV) (e : Int) (t : List UInt8) : Prop where
  parse : CallS Tryz.prog (only 5 (told (· = [.str (bigText size)]) (v5 cs e)))
  run : CallS Tryz.prog (only 6 (told (· = [.str (bigText size)]) (v6 e t)))

theorem at0 : At 19997 csK 0 tK := ⟨(by kernel_rfl : blur P0.v = v5 csK 0) ▸ sum_told call0 P0.ran (txt _ 19949 rfl rfl), (by kernel_rfl : blur R0.v = v6 0 tK) ▸ sum_told (callS_of sumsR0OK 1000000) R0.ran (txt _ 19949 rfl rfl)⟩
theorem at1 : At 19998 csK 0 tK := ⟨(by kernel_rfl : blur P1.v = v5 csK 0) ▸ sum_told call0 P1.ran (txt _ 19950 rfl rfl), (by kernel_rfl : blur R1.v = v6 0 tK) ▸ sum_told (callS_of sumsR1OK 1000000) R1.ran (txt _ 19950 rfl rfl)⟩
theorem at2 : At 19999 csK 0 tK := ⟨(by kernel_rfl : blur P2.v = v5 csK 0) ▸ sum_told call0 P2.ran (txt _ 19951 rfl rfl), (by kernel_rfl : blur R2.v = v6 0 tK) ▸ sum_told (callS_of sumsR2OK 1000000) R2.ran (txt _ 19951 rfl rfl)⟩
theorem at3 : At 20000 csK 0 tK := ⟨(by kernel_rfl : blur P3.v = v5 csK 0) ▸ sum_told call0 P3.ran (txt _ 19952 rfl rfl), (by kernel_rfl : blur R3.v = v6 0 tK) ▸ sum_told (callS_of sumsR3OK 1000000) R3.ran (txt _ 19952 rfl rfl)⟩
theorem at4 : At 20001 csL 2 [] := ⟨(by kernel_rfl : blur P4.v = v5 csL 2) ▸ sum_told call0 P4.ran (txt _ 19953 rfl rfl), (by kernel_rfl : blur R4.v = v6 2 []) ▸ sum_told call0 R4.ran (txt _ 19953 rfl rfl)⟩
theorem at5 : At 20002 csL 2 [] := ⟨(by kernel_rfl : blur P5.v = v5 csL 2) ▸ sum_told call0 P5.ran (txt _ 19954 rfl rfl), (by kernel_rfl : blur R5.v = v6 2 []) ▸ sum_told call0 R5.ran (txt _ 19954 rfl rfl)⟩
theorem at6 : At 20003 csL 2 [] := ⟨(by kernel_rfl : blur P6.v = v5 csL 2) ▸ sum_told call0 P6.ran (txt _ 19955 rfl rfl), (by kernel_rfl : blur R6.v = v6 2 []) ▸ sum_told call0 R6.ran (txt _ 19955 rfl rfl)⟩

/-- What was there is left: new blocks come behind the old ones. -/
structure Far (w w' : World) : Prop where
  size : w.heap.size ≤ w'.heap.size
  keep : ∀ b, b < w.heap.size → w'.heap[b]? = w.heap[b]?
  os : w'.os = w.os
  output : w'.output = w.output
  tape : w'.tape = w.tape
  drawn : w.drawn ≤ w'.drawn

theorem call_at {k size : Nat} {cs : List AV} {e : Int} {t : List UInt8} (hk : k ≤ 6) (hsz : size = 19997 + k) (he : e = if k ≤ 3 then 0 else 2) (hcs : cs.length = 18) (hfl : flat cs = true) (ha : At size cs e t) {n : Int} (hn : n % 7 = (k : Int))
    (w : World) {R : Ending → World → Prop} (hR : ∀ w', Far w w' → R (.returned (.bool true)) w') : CallsIn Fence.wide 0 Tryz.prog 3 #[.int .i64 n] w R := by
  have hsums : ∀ p ∈ sumsL size cs e t, CallS Tryz.prog (only p.1 p.2) := consOK withinOK (consOK ha.parse (consOK ha.run (consOK awOK extsOK)))
  obtain ⟨H', hrun⟩ := law_run (n := n) (cs := cs) (t := t) hk hsz he hn hcs hfl
  refine (callC_sound (ctxP_ok mixedP (sumsL size cs e t)) (exS_of hsums 30000) hrun (Rel.zero w) (.cons (.int .i64 n) .nil)).2 R ?_
  intro y ψ w' hy _ ha'
  cases hy
  exact hR w' ⟨ha'.size, fun b hb => ha'.keep b hb (fun i e he => nomatch (show (none : Option Ent) = some e from he)), ha'.os, ha'.output, ha'.tape, ha'.drawn⟩

/-- **The law, called.** -/
theorem big_call (n : Int) (w : World) {R : Ending → World → Prop} (hR : ∀ w', Far w w' → R (.returned (.bool true)) w') : Calls Tryz.prog 3 #[.int .i64 n] w R := by
  refine callsIn_wide (n := 0).1 ?_
  have h0 : n % 7 = 0 ∨ n % 7 = 1 ∨ n % 7 = 2 ∨ n % 7 = 3 ∨ n % 7 = 4 ∨ n % 7 = 5 ∨ n % 7 = 6 := by omega
  rcases h0 with h | h | h | h | h | h | h
  · exact call_at (k := 0) (by omega) rfl rfl (by kernel_rfl) (by kernel_rfl) at0 h w hR
  · exact call_at (k := 1) (by omega) rfl rfl (by kernel_rfl) (by kernel_rfl) at1 h w hR
  · exact call_at (k := 2) (by omega) rfl rfl (by kernel_rfl) (by kernel_rfl) at2 h w hR
  · exact call_at (k := 3) (by omega) rfl rfl (by kernel_rfl) (by kernel_rfl) at3 h w hR
  · exact call_at (k := 4) (by omega) rfl rfl (by kernel_rfl) (by kernel_rfl) at4 h w hR
  · exact call_at (k := 5) (by omega) rfl rfl (by kernel_rfl) (by kernel_rfl) at5 h w hR
  · exact call_at (k := 6) (by omega) rfl rfl (by kernel_rfl) (by kernel_rfl) at6 h w hR
#print axioms big_call
end Go.Proofs
