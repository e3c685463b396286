/-
  Towards regions that draw their order: the canonical run has a world.
  Regions that draw their order: the canonical run's heaps.
  Regions that draw their order: what has been done, whatever the order.
  Regions that draw their order: an operation that is no effect.
  Regions that draw their order: what an operation reads; the frame that it looks at.
  Regions that draw their order: an effect.
  Regions that draw their order: a read; every operation; the theorem.
-/
import Derived.Test.YthbjpjkeidhnbaaGreatDoorXe
set_option linter.all false
namespace Go.Abs
open Go

theorem room_FR (r : Option Nat) (n : Nat) : (FR r).room n := fun _ h => by simp [FR, Fence.wide] at h

/-- what does not depend on the outcome holds, if there is an outcome -/
theorem wpIn_const {P : Program} {o : Oper} {a : Act} {w : World} {r : Option Nat} {Φ : Prop} (h : o.wpIn (FR r) 0 P a w (fun _ _ => Φ) (fun _ _ _ => Φ)) : Φ := by
  have h := h.2
  generalize (o.semAt (FR r).round a.eval).run P w = res at h
  cases res with
  | ok x w' =>
    cases x with
    | value v => exact h
    | skip => exact h
    | defer d => exact h
    | enter f args =>
      obtain ⟨_, _, h⟩ := h
      obtain ⟨e, w', fr, hR, _⟩ := h [] (room_FR r _)
      cases e with
      | returned v => exact hR
      | panicked c => exact hR
      | outgrown => obtain ⟨_, _, h⟩ := hR; exact h
    | row x args =>
      obtain ⟨_, h⟩ := h
      obtain ⟨v, w', hR, _⟩ := h default [] (room_FR r _)
      exact hR
    | round l f tmps asg body =>
      obtain ⟨_, _, h⟩ := h
      obtain ⟨e, w', hR, _⟩ := h default [] (room_FR r _)
      cases e with
      | returned v => exact hR
      | panicked c => exact hR
      | outgrown => obtain ⟨_, _, h⟩ := hR; exact h
    | _ => exact h.elim
  | halt x w' =>
    cases x <;> first | exact h | exact h.elim

/-- There is a world that stands to this frame and this heap. -/
def Ghost (nt : Nat) (F : T AV) (H : Hp) : Prop := ∃ φ tmps w, TR φ F nt tmps ∧ Rel φ H w

section
variable {P : Program} {C : Ctx} (hC : CtxOK C P) {call : CallF} {yld : YldF} (hcall : CallS P call) (hyld : YldS P yld)
include hC hcall hyld

theorem ghost_step {nt : Nat} {F F' : T AV} {H H' : Hp} {ops : Array Oper} {o : Oper} {v : AV} (hg : Ghost nt F H) (h : stepA C call yld ops.toList F H o = some (v, H')) (hput : putA nt F o.dst v = some F') :
    Ghost nt F' H' := by
  obtain ⟨φ, tmps, w, hT, hr⟩ := hg
  have := stepA_sound hC hcall hyld (a := ⟨tmps, []⟩) (ops := ops) (r := none) hT hr h (K := fun _ _ => Ghost nt F' H') (Q := fun _ _ _ => Ghost nt F' H')
    (fun ψ x w' h1 h2 h3 => ⟨ψ, _, w', putA_TR (a := ⟨tmps, []⟩) h3.le hT hput h1, h2⟩)
  split at this
  · exact wpIn_const this
  · exact this.2

theorem ghost_run {nt : Nat} {ops : Array Oper} {l : List Stp} {F : Nat → T AV} {H : Nat → Hp} {v : Nat → AV} {S : Nat → List (Nat × Hp)} {I : Nat → Hp} (hrun : Run C call yld nt ops.toList l F H v S I)
    (h0 : Ghost nt (F 0) (H 0)) : ∀ j, j ≤ l.length → Ghost nt (F j) (H j)
  | 0, _ => h0
  | j + 1, hj => by
    have hlt : j < l.length := by omega
    have hs : l[j]? = some l[j] := List.getElem?_eq_getElem hlt
    exact ghost_step hC hcall hyld (ghost_run hrun h0 j (by omega)) (hrun.step j _ hs) (hrun.put j _ hs)
end

/-- A relation of objects, seen through another map. -/
theorem TR.transfer {φ ψ χ : Phi} (hd : ∀ i e e', φ i = some e → ψ i = some e' → χ i = some e') {F : T AV} {nt : Nat} {tmps tmps' : Array Value} (h : TR φ F nt tmps) (h' : TR ψ F nt tmps') : TR χ F nt tmps' :=
  ⟨h'.1, fun t v hv => by
    obtain ⟨x, _, h1⟩ := h.2 t v hv
    obtain ⟨y, hy, h2⟩ := h'.2 t v hv
    exact ⟨y, hy, h1.transfer hd h2⟩⟩

theorem ObR.transfer {φ ψ χ : Phi} (hd : ∀ i e e', φ i = some e → ψ i = some e' → χ i = some e') {e e' : Ent} {o : AO} {ob ob' : Obj} (h : ObR φ e o ob) (h' : ObR ψ e' o ob') : ObR χ e' o ob' := by
  cases h with
  | cells hs hn hz hv hf =>
    cases h' with
    | cells hs' hn' hz' hv' hf' =>
      refine .cells hs' hn' hz' ?_ hf'
      intro i v hi hc
      obtain ⟨x, _, h1⟩ := hv i v hi hc
      obtain ⟨y, hy, h2⟩ := hv' i v hi hc
      exact ⟨y, hy, h1.transfer hd h2⟩
  | map hk hv =>
    cases h' with
    | map hk' hv' => exact .map (hk.transfer hd hk') (hv.transfer hd hv')
  | miter0 hb => cases h' with | miter0 hb' => exact .miter0 hb'
  | miter1 hb h => cases h' with | miter1 hb' h' => exact .miter1 hb' (hd _ _ _ h h')
  | loop ht =>
    generalize hq : AO.loop _ _ _ _ _ _ _ = q at h'
    cases h' <;> first | (cases hq; done) | skip
    rename_i F' nt' L' ht'
    injection hq with q1 q2 q3 q4 q5 q6 q7
    subst q1; subst q2
    exact .loop (ht.transfer hd ht')
  | dfr => cases h' with | dfr => exact .dfr
end Go.Abs

namespace Go.Abs
open Go

/-- What is given: a region's plan and its canonical run. -/
structure Canon (P : Program) (C : Ctx) (call : CallF) (yld : YldF) (nt : Nat) (ops : Array Oper) (l : List Stp) (F : Nat → T AV) (H : Nat → Hp) (v : Nat → AV) (S : Nat → List (Nat × Hp)) (I : Nat → Hp) : Prop where
  ctx : CtxOK C P
  callS : CallS P call
  yldS : YldS P yld
  plan : PlanOK C ops l
  run : Run C call yld nt ops.toList l F H v S I
  ghost : ∀ j, j ≤ l.length → Ghost nt (F j) (H j)
  s0 : S 0 = [(ops.size, H 0)]
  i0 : I 0 = ⟨.lf, 0⟩

section
variable {P : Program} {C : Ctx} {call : CallF} {yld : YldF} {nt : Nat} {ops : Array Oper} {l : List Stp} {F : Nat → T AV} {H : Nat → Hp} {v : Nat → AV} {S : Nat → List (Nat × Hp)} {I : Nat → Hp}
variable (K : Canon P C call yld nt ops l F H v S I)
include K

omit K in
theorem lt_of {j : Nat} {s : Stp} (h : l[j]? = some s) : j < l.length := (List.getElem?_eq_some_iff.1 h).1

/-- A step that is no effect: it is not wanted, or the operation gives the value. -/
theorem Canon.calm {j : Nat} {s : Stp} (hs : l[j]? = some s) (hc : s.c ≠ .e) :
    (wantedA (F j) ops.toList s.o = some false ∧ v j = .tup [] ∧ H (j + 1) = H j) ∨ (wantedA (F j) ops.toList s.o = some true ∧ opA C (F j) (H j) s.o.op = some (.val (v j) (H (j + 1)))) := by
  have hcl := (K.plan.mem s (List.mem_of_getElem? hs)).2.1
  have h := K.run.step j s hs
  unfold stepA at h
  split at h
  · cases h
  · rename_i hw
    simp only [Option.some.injEq, Prod.mk.injEq] at h
    exact .inl ⟨hw, h.1.symm, h.2.symm⟩
  · rename_i hw
    split at h
    · rename_i v' H1 hop
      simp only [Option.some.injEq, Prod.mk.injEq] at h
      obtain ⟨rfl, rfl⟩ := h
      exact .inr ⟨hw, hop⟩
    · rename_i hop
      exact absurd (hcl.trans (cls_noCall (.inl ⟨_, _, rfl⟩) hop)) hc
    · rename_i hop
      exact absurd (hcl.trans (cls_noCall (.inr ⟨_, _, rfl⟩) hop)) hc
    · cases h

/-- ... it leaves the heap, or makes an object. -/
theorem Canon.heap {j : Nat} {s : Stp} (hs : l[j]? = some s) (hc : s.c ≠ .e) : H (j + 1) = H j ∨ (s.c = .a ∧ ∃ ob, H (j + 1) = (H j).new ob) := by
  have hcl := (K.plan.mem s (List.mem_of_getElem? hs)).2.1
  rcases K.calm hs hc with ⟨_, _, h⟩ | ⟨hw, h⟩
  · exact .inl h
  obtain ⟨φ, tmps, w, hT, hr⟩ := K.ghost j (Nat.le_of_lt (lt_of hs))
  cases hcs : s.c with
  | p => exact .inl (cls_p (a := ⟨tmps, []⟩) K.ctx (hcl.symm.trans hcs) hT h).2
  | r =>
    rcases K.run.read j s hs hcs with hw' | ⟨x, hx, _⟩
    · rw [hw] at hw'; cases hw'
    · exact .inl (cls_r (hcl.symm.trans hcs) hx (K := H j) rfl h).2
  | a =>
    obtain ⟨vf, obj, _, _, h2⟩ := cls_a (a := ⟨tmps, []⟩) K.ctx (hcl.symm.trans hcs) hT h
    exact .inr ⟨rfl, obj, h2⟩
  | e => exact absurd hcs hc

theorem Canon.next_le {j : Nat} {s : Stp} (hs : l[j]? = some s) : (H j).next ≤ (H (j + 1)).next := by
  by_cases hc : s.c = .e
  · exact (K.run.eff j s hs hc).1
  · rcases K.heap hs hc with h | ⟨_, ob, h⟩
    · rw [h]; exact Nat.le_refl _
    · rw [h, Hp.next_new]; omega

theorem Canon.next_mono {i j : Nat} (hij : i ≤ j) (hj : j ≤ l.length) : (H i).next ≤ (H j).next := by
  induction hij with
  | refl => exact Nat.le_refl _
  | @step k hik ih => exact Nat.le_trans (ih (by omega)) (K.next_le (List.getElem?_eq_getElem (show k < l.length by omega)))

/-- the step made an object -/
def MadeAt (H : Nat → Hp) (j : Nat) : Prop := ∃ ob, H (j + 1) = (H j).new ob

theorem Canon.made_lt {i j : Nat} (hm : MadeAt H i) (hij : i < j) (hj : j ≤ l.length) : (H i).next < (H j).next := by
  obtain ⟨ob, h⟩ := hm
  have h1 := K.next_mono (i := i + 1) (j := j) hij hj
  rw [h, Hp.next_new] at h1
  omega

/-- Between two positions with no effect: what the first heap holds the second holds; what the second holds beyond was made between them. -/
theorem Canon.between {J j : Nat} (hJ : J ≤ j) (hj : j ≤ l.length) (hne : ∀ (k : Nat) s, J ≤ k → k < j → l[k]? = some s → s.c ≠ .e) (i : Nat) (o : AO) :
    (H j).get i = some o ↔ (H J).get i = some o ∨ ∃ k, J ≤ k ∧ k < j ∧ MadeAt H k ∧ i = (H k).next ∧ (H (k + 1)).get i = some o := by
  induction hJ with
  | refl => exact ⟨.inl, fun h => by rcases h with h | ⟨k, h1, h2, _⟩; exact h; omega⟩
  | @step m hm ih =>
    have hs : l[m]? = some l[m] := List.getElem?_eq_getElem (show m < l.length by omega)
    have ih := ih (by omega) (fun k s h1 h2 h3 => hne k s h1 (by omega) h3)
    rcases K.heap hs (hne m _ hm (by omega) hs) with h | ⟨_, ob, h⟩
    · rw [h, ih]
      constructor
      · rintro (h1 | ⟨k, h1, h2, h3⟩)
        · exact .inl h1
        · exact .inr ⟨k, h1, by omega, h3⟩
      · rintro (h1 | ⟨k, h1, h2, h3, h4, h5⟩)
        · exact .inl h1
        · refine .inr ⟨k, h1, ?_, h3, h4, h5⟩
          rcases Nat.lt_or_ge k m with hlt | hge
          · exact hlt
          · obtain rfl : k = m := by omega
            obtain ⟨ob, h3⟩ := h3
            rw [h3] at h
            have := congrArg Hp.next h
            rw [Hp.next_new] at this
            omega
    · have hget : (H (m + 1)).get i = if i = (H m).next then some ob else (H m).get i := by rw [h, Hp.get_new]
      by_cases hi : i = (H m).next
      · constructor
        · intro h1
          exact .inr ⟨m, hm, by omega, ⟨ob, h⟩, hi, h1⟩
        · rintro (h1 | ⟨k, h1, h2, h3, h4, h5⟩)
          · exfalso
            obtain ⟨φ, tmps, w, _, hr⟩ := K.ghost J (Nat.le_trans hm (by omega))
            have := hr.lt h1
            have := K.next_mono hm (by omega)
            omega
          · rcases Nat.lt_or_ge k m with hlt | hge
            · have := K.made_lt h3 hlt (by omega)
              omega
            · obtain rfl : k = m := by omega
              exact h5
      · rw [hget, if_neg hi, ih]
        constructor
        · rintro (h1 | ⟨k, h1, h2, h3⟩)
          · exact .inl h1
          · exact .inr ⟨k, h1, by omega, h3⟩
        · rintro (h1 | ⟨k, h1, h2, h3, h4, h5⟩)
          · exact .inl h1
          · refine .inr ⟨k, h1, ?_, h3, h4, h5⟩
            rcases Nat.lt_or_ge k m with hlt | hge
            · exact hlt
            · obtain rfl : k = m := by omega
              exact absurd h4 hi
end
end Go.Abs

namespace Go.Abs
open Go

def Lst (lst : Array Bool) (i : Nat) : Prop := lst[i]? = some true

def Flt (l : List Stp) (H : Nat → Hp) (J : Nat) (lst : Array Bool) (j : Nat) : Prop := J ≤ j ∧ (∃ s, l[j]? = some s ∧ Lst lst s.i) ∧ MadeAt H j
def KO (l : List Stp) (H : Nat → Hp) (J : Nat) (lst : Array Bool) (i : Nat) (o : AO) : Prop := (H J).get i = some o ∨ ∃ j, Flt l H J lst j ∧ i = (H j).next ∧ (H (j + 1)).get i = some o
def KD (l : List Stp) (H : Nat → Hp) (J : Nat) (lst : Array Bool) (i : Nat) : Prop := i < (H J).next ∨ ∃ j, Flt l H J lst j ∧ i = (H j).next

structure Inv (nt : Nat) (ops : Array Oper) (l : List Stp) (F : Nat → T AV) (H : Nat → Hp) (v : Nat → AV) (φ0 : Phi) (w0 : World) (ds : List Deferred) (lst : Array Bool) (J : Nat) (φ : Phi) (a : Act) (w : World) : Prop where
  size : lst.size = ops.size
  down : ∀ i, Lst lst i → ∀ b, (maskOf ops i).testBit b = true → Lst lst b
  Jle : J ≤ l.length
  Jbd : J = 0 ∨ ∃ j s, J = j + 1 ∧ l[j]? = some s ∧ s.c = .e
  pre : ∀ (j : Nat) s, j < J → l[j]? = some s → Lst lst s.i
  flt : ∀ (j : Nat) s, J ≤ j → l[j]? = some s → Lst lst s.i → s.c ≠ .e
  len : nt ≤ a.tmps.size
  wr : ∀ (j : Nat) s t, l[j]? = some s → Lst lst s.i → s.o.dst = some t → ∃ x, a.tmps[t]? = some x ∧ V φ (v j) x
  ini : ∀ t u, (∀ (j : Nat) s, l[j]? = some s → s.o.dst = some t → ¬ Lst lst s.i) → (F 0).get t = some u → ∃ x, a.tmps[t]? = some x ∧ V φ u x
  obj : ∀ i o, KO l H J lst i o → ∃ e ob, φ i = some e ∧ w.heap[e.blk]? = some ob ∧ ObR φ e o ob
  sep : ∀ i i' o o' e e', i ≠ i' → KO l H J lst i o → KO l H J lst i' o' → φ i = some e → φ i' = some e' → e.blk ≠ e'.blk
  dom : ∀ i e, φ i = some e → KD l H J lst i ∧ e.blk < w.heap.size
  fsep : ∀ j e, Flt l H J lst j → φ (H j).next = some e → ∀ i e', i ≠ (H j).next → φ i = some e' → e'.blk ≠ e.blk
  aft : Aft φ0 w0 φ w
  defers : a.defers = ds

theorem ready_spec {ops : Array Oper} {lst : Array Bool} (hsz : lst.size = ops.size) {i : Nat} (h : i ∈ Region.ready .any ops lst) (hd : ∀ i, Lst lst i → ∀ b, (maskOf ops i).testBit b = true → Lst lst b) :
    i < ops.size ∧ ¬ Lst lst i ∧ ∀ b, (maskOf ops i).testBit b = true → Lst lst b := by
  unfold Region.ready at h
  rw [List.mem_filter] at h
  obtain ⟨h1, h2⟩ := h
  rw [List.mem_range] at h1
  simp only [Bool.and_eq_true, Bool.not_eq_true'] at h2
  obtain ⟨h2, h3⟩ := h2
  refine ⟨h1, ?_, ?_⟩
  · intro hl
    rw [Array.getD_eq_getD_getElem?, hl] at h2
    simp at h2
  · intro b hb
    obtain ⟨o, ho⟩ : ∃ o, ops[i]? = some o := ⟨ops[i], by simp [h1]⟩
    rw [ho] at h3
    simp only [Option.map_some, Option.getD_some, Array.all_eq_true'] at h3
    obtain ⟨x, hx, hbi, hor⟩ := mask_bit ho hb
    have hx := h3 x (by simpa using hx)
    rw [hbi] at hx
    simp only [Bool.not_true, Bool.false_or] at hx
    have hon : Lst lst x.on := by
      rw [Array.getD_eq_getD_getElem?] at hx
      cases hc : lst[x.on]? with
      | none => rw [hc] at hx; simp at hx
      | some t => rw [hc] at hx; simp at hx; subst hx; exact hc
    rcases hor with rfl | hor
    · exact hon
    · exact hd _ hon b hor

theorem ready_nil {C : Ctx} {ops : Array Oper} {l : List Stp} (hp : PlanOK C ops l) {lst : Array Bool} (hsz : lst.size = ops.size) (h : Region.ready .any ops lst = []) : ∀ (j : Nat) s, l[j]? = some s → Lst lst s.i := by
  intro j
  induction j using Nat.strongRecOn with
  | _ j ih =>
    intro s hs
    refine Classical.byContradiction fun hn => ?_
    have ho := (hp.mem s (List.mem_of_getElem? hs)).1
    have hlt : s.i < ops.size := (Array.getElem?_eq_some_iff.1 ho).1
    have hmem : s.i ∈ Region.ready .any ops lst := by
      unfold Region.ready
      rw [List.mem_filter, List.mem_range]
      refine ⟨hlt, ?_⟩
      simp only [Bool.and_eq_true, Bool.not_eq_true']
      constructor
      · rw [Array.getD_eq_getD_getElem?]
        cases hc : lst[s.i]? with
        | none =>
          have := Array.getElem?_eq_none_iff.1 hc
          omega
        | some t =>
          cases t with
          | true => exact absurd hc hn
          | false => rfl
      · rw [ho]
        simp only [Option.map_some, Option.getD_some, Array.all_eq_true']
        intro x hx
        by_cases hb : Region.binds .any x = true
        · have := mask_on ho (by simpa using hx) hb
          obtain ⟨j', s', h1, h2, h3⟩ := hp.pred j s _ hs this
          have := ih j' h1 s' h2
          rw [h3] at this
          rw [Array.getD_eq_getD_getElem?, this]
          simp
        · simp [hb]
    rw [h] at hmem
    cases hmem

section
variable {P : Program} {C : Ctx} {call : CallF} {yld : YldF} {nt : Nat} {ops : Array Oper} {l : List Stp} {F : Nat → T AV} {H : Nat → Hp} {v : Nat → AV} {S : Nat → List (Nat × Hp)} {I : Nat → Hp}
variable (K : Canon P C call yld nt ops l F H v S I)
include K

/-- what a slot of a canonical frame holds -/
theorem Canon.slot {j : Nat} (hj : j ≤ l.length) {t : Nat} {u : AV} (h : (F j).get t = some u) :
    (∃ (j' : Nat) (s' : Stp), j' < j ∧ l[j']? = some s' ∧ s'.o.dst = some t ∧ v j' = u) ∨ ((∀ (j' : Nat) s', j' < j → l[j']? = some s' → s'.o.dst ≠ some t) ∧ (F 0).get t = some u) := by
  induction j with
  | zero => exact .inr ⟨fun j' s' hj => absurd hj (Nat.not_lt_zero _), h⟩
  | succ j ih =>
    have hs : l[j]? = some l[j] := List.getElem?_eq_getElem (by omega)
    have hput := K.run.put j _ hs
    have keep : l[j].o.dst ≠ some t → (F j).get t = some u → ((∃ (j' : Nat) (s' : Stp), j' < j + 1 ∧ l[j']? = some s' ∧ s'.o.dst = some t ∧ v j' = u) ∨
        ((∀ (j' : Nat) s', j' < j + 1 → l[j']? = some s' → s'.o.dst ≠ some t) ∧ (F 0).get t = some u)) := fun hne hF => by
      rcases ih (by omega) hF with ⟨j', s', h1, h2⟩ | ⟨h1, h2⟩
      · exact Or.inl ⟨j', s', by omega, h2⟩
      · refine Or.inr ⟨?_, h2⟩
        intro j' s' hj' hs'
        rcases Nat.lt_or_ge j' j with hlt | hge
        · exact h1 j' s' hlt hs'
        · obtain rfl : j' = j := by omega
          rw [hs] at hs'
          cases hs'
          exact hne
    unfold putA at hput
    split at hput
    · rename_i hd
      simp only [Option.some.injEq] at hput
      rw [← hput] at h
      exact keep (by rw [hd]; simp) h
    · rename_i d hd
      split at hput
      case h_2 => cases hput
      simp only [Option.some.injEq] at hput
      rw [← hput, get_set] at h
      by_cases ht : t = d
      · rw [if_pos ht] at h
        simp only [Option.some.injEq] at h
        exact .inl ⟨j, _, by omega, hs, by rw [hd, ht], h⟩
      · rw [if_neg ht] at h
        exact keep (by rw [hd]; simpa using fun hh => ht hh.symm) h

/-- What an operation that is ready looks at. -/
theorem Canon.looks {φ0 : Phi} {w0 : World} {ds : List Deferred} {lst : Array Bool} {J : Nat} {φ : Phi} {a : Act} {w : World} (hI : Inv nt ops l F H v φ0 w0 ds lst J φ a w) {j : Nat} {s : Stp} (hs : l[j]? = some s)
    (hn : ¬ Lst lst s.i) (hr : ∀ b, (maskOf ops s.i).testBit b = true → Lst lst b) {t : Nat} (ht : t ∈ looksA ops.toList s.o) {u : AV} (hu : (F j).get t = some u) : ∃ x, a.tmps[t]? = some x ∧ V φ u x := by
  have hsm := List.mem_of_getElem? hs
  rcases K.slot (Nat.le_of_lt (lt_of hs)) hu with ⟨j', s', h1, h2, h3, h4⟩ | ⟨h1, h2⟩
  · rcases K.plan.look s hsm s' (List.mem_of_getElem? h2) t h3 ht with hh | hh | hh
    · have := K.plan.once j j' s s' hs h2 hh; omega
    · rw [← h4]; exact hI.wr j' s' t h2 (hr _ hh) h3
    · obtain ⟨j2, s2, k1, k2, k3⟩ := K.plan.pred j' s' _ h2 hh
      have := K.plan.once j2 j s2 s k2 hs k3
      omega
  · refine hI.ini t u ?_ h2
    intro j' s' hs' hd hl
    rcases K.plan.look s hsm s' (List.mem_of_getElem? hs') t hd ht with hh | hh | hh
    · rw [hh] at hn; exact hn hl
    · obtain ⟨j2, s2, k1, k2, k3⟩ := K.plan.pred j s _ hs hh
      have := K.plan.once j2 j' s2 s' k2 hs' k3
      subst this
      rw [hs'] at k2
      cases k2
      exact h1 j2 s' k1 hs' hd
    · exact hn (hI.down _ hl _ hh)
end
end Go.Abs

namespace Go.Abs
open Go

theorem Lst_set {lst : Array Bool} {n : Nat} (hn : n < lst.size) (i : Nat) : Lst (lst.setIfInBounds n true) i ↔ Lst lst i ∨ i = n := by
  unfold Lst
  by_cases h : i = n
  · subst h
    rw [Array.getElem?_setIfInBounds_self_of_lt hn]
    simp
  · rw [Array.getElem?_setIfInBounds_ne (Ne.symm h)]
    simp [h]

section
variable {P : Program} {C : Ctx} {call : CallF} {yld : YldF} {nt : Nat} {ops : Array Oper} {l : List Stp} {F : Nat → T AV} {H : Nat → Hp} {v : Nat → AV} {S : Nat → List (Nat × Hp)} {I : Nat → Hp}
variable (K : Canon P C call yld nt ops l F H v S I)
variable {φ0 : Phi} {w0 : World} {ds : List Deferred} {lst : Array Bool} {J : Nat} {φ : Phi} {a : Act} {w : World}
include K

/-- the frame behind an operation -/
theorem Canon.frame (hI : Inv nt ops l F H v φ0 w0 ds lst J φ a w) {j : Nat} {s : Stp} (hs : l[j]? = some s) {ψ : Phi} (hle : φ.le ψ) {x : Value} (hx : V ψ (v j) x) :
    (nt ≤ (a.put s.o.dst x).tmps.size) ∧
    (∀ (j' : Nat) s' t, l[j']? = some s' → Lst (lst.setIfInBounds s.i true) s'.i → s'.o.dst = some t → ∃ y, (a.put s.o.dst x).tmps[t]? = some y ∧ V ψ (v j') y) ∧
    (∀ t u, (∀ (j' : Nat) s', l[j']? = some s' → s'.o.dst = some t → ¬ Lst (lst.setIfInBounds s.i true) s'.i) → (F 0).get t = some u → ∃ y, (a.put s.o.dst x).tmps[t]? = some y ∧ V ψ u y) := by
  have hsm := List.mem_of_getElem? hs
  have hlt : s.i < lst.size := by
    rw [hI.size]
    exact (Array.getElem?_eq_some_iff.1 (K.plan.mem s hsm).1).1
  have hput := K.run.put j s hs
  have hd : ∀ d, s.o.dst = some d → d < nt := by
    intro d hd
    unfold putA at hput
    rw [hd] at hput
    simp only at hput
    split at hput
    · rename_i hh; exact Nat.le_of_ble_eq_true hh
    · cases hput
  have hother : ∀ t, s.o.dst ≠ some t → (a.put s.o.dst x).tmps[t]? = a.tmps[t]? := by
    intro t ht
    cases hdst : s.o.dst with
    | none => rfl
    | some d =>
      simp only [Act.put]
      rw [Array.getElem?_setIfInBounds_ne]
      intro hh
      subst hh
      exact ht hdst
  refine ⟨?_, ?_, ?_⟩
  · have := hI.len
    cases hdst : s.o.dst with
    | none => exact this
    | some d => simp only [Act.put, Array.size_setIfInBounds]; exact this
  · intro j' s' t hs' hl ht
    by_cases hj : j' = j
    · subst hj
      rw [hs] at hs'
      cases hs'
      rw [ht]
      refine ⟨x, ?_, hx⟩
      simp only [Act.put]
      rw [Array.getElem?_setIfInBounds_self_of_lt (Nat.lt_of_lt_of_le (hd t ht) hI.len)]
    · have hne : s'.i ≠ s.i := fun hh => hj (K.plan.once j' j s' s hs' hs hh)
      have hl' : Lst lst s'.i := ((Lst_set hlt s'.i).1 hl).resolve_right hne
      obtain ⟨y, h1, h2⟩ := hI.wr j' s' t hs' hl' ht
      refine ⟨y, ?_, h2.mono hle⟩
      rw [hother t (fun hh => hne (K.plan.wr s' (List.mem_of_getElem? hs') s hsm t ht hh))]
      exact h1
  · intro t u hn hu
    have hsd : s.o.dst ≠ some t := fun hh => hn j s hs hh ((Lst_set hlt _).2 (.inr rfl))
    obtain ⟨y, h1, h2⟩ := hI.ini t u (fun j' s' hs' hd' hl => hn j' s' hs' hd' ((Lst_set hlt _).2 (.inl hl))) hu
    exact ⟨y, by rw [hother t hsd]; exact h1, h2.mono hle⟩

/-- An operation that is no effect and makes nothing. -/
theorem Canon.stay (hI : Inv nt ops l F H v φ0 w0 ds lst J φ a w) {j : Nat} {s : Stp} (hs : l[j]? = some s) (hc : s.c ≠ .e) (hJ : J ≤ j)
    (hr : ∀ b, (maskOf ops s.i).testBit b = true → Lst lst b) (hH : H (j + 1) = H j) {x : Value} (hx : V φ (v j) x) :
    Inv nt ops l F H v φ0 w0 ds (lst.setIfInBounds s.i true) J φ (a.put s.o.dst x) w := by
  have hsm := List.mem_of_getElem? hs
  have hlt : s.i < lst.size := by
    rw [hI.size]
    exact (Array.getElem?_eq_some_iff.1 (K.plan.mem s hsm).1).1
  obtain ⟨f1, f2, f3⟩ := K.frame hI hs (Phi.le_refl φ) hx
  have hnm : ¬ MadeAt H j := by
    rintro ⟨ob, h⟩
    have := congrArg Hp.next (h.symm.trans hH)
    rw [Hp.next_new] at this
    omega
  have hflt : ∀ j', Flt l H J (lst.setIfInBounds s.i true) j' → Flt l H J lst j' := by
    rintro j' ⟨h1, ⟨s', h2, h3⟩, h4⟩
    rcases (Lst_set hlt s'.i).1 h3 with h | h
    · exact ⟨h1, ⟨s', h2, h⟩, h4⟩
    · have := K.plan.once j' j s' s h2 hs h
      subst this
      exact absurd h4 hnm
  have hflt' : ∀ j', Flt l H J lst j' → Flt l H J (lst.setIfInBounds s.i true) j' := by
    rintro j' ⟨h1, ⟨s', h2, h3⟩, h4⟩
    exact ⟨h1, ⟨s', h2, (Lst_set hlt s'.i).2 (.inl h3)⟩, h4⟩
  have hKO : ∀ i o, KO l H J (lst.setIfInBounds s.i true) i o → KO l H J lst i o := by
    rintro i o (h | ⟨j', h1, h2⟩)
    · exact .inl h
    · exact .inr ⟨j', hflt j' h1, h2⟩
  refine ⟨by simpa using hI.size, ?_, hI.Jle, hI.Jbd, fun j' s' h1 h2 => (Lst_set hlt _).2 (.inl (hI.pre j' s' h1 h2)), ?_, f1, f2, f3, fun i o h => hI.obj i o (hKO i o h),
    fun i i' o o' e e' h1 h2 h3 => hI.sep i i' o o' e e' h1 (hKO _ _ h2) (hKO _ _ h3), ?_, fun j' e h => hI.fsep j' e (hflt j' h), hI.aft, ?_⟩
  · intro i hi b hb
    rcases (Lst_set hlt i).1 hi with h | rfl
    · exact (Lst_set hlt b).2 (.inl (hI.down i h b hb))
    · exact (Lst_set hlt b).2 (.inl (hr b hb))
  · intro j' s' h1 h2 h3
    rcases (Lst_set hlt s'.i).1 h3 with h | h
    · exact hI.flt j' s' h1 h2 h
    · have := K.plan.once j' j s' s h2 hs h
      subst this
      rw [hs] at h2
      cases h2
      exact hc
  · intro i e he
    obtain ⟨h1, h2⟩ := hI.dom i e he
    refine ⟨?_, h2⟩
    rcases h1 with h1 | ⟨j', h1, h3⟩
    · exact .inl h1
    · exact .inr ⟨j', hflt' j' h1, h3⟩
  · rw [put_defers]; exact hI.defers

/-- An operation that is no effect and makes an object. -/
theorem Canon.make (hI : Inv nt ops l F H v φ0 w0 ds lst J φ a w) {j : Nat} {s : Stp} (hs : l[j]? = some s) (hc : s.c ≠ .e) (hJ : J ≤ j) (hn : ¬ Lst lst s.i)
    (hr : ∀ b, (maskOf ops s.i).testBit b = true → Lst lst b) {ob : AO} (hH : H (j + 1) = (H j).new ob) {x : Value} {lim n : Nat} {co : Obj}
    (hx : V (φ.put (H j).next ⟨w.heap.size, 0, lim⟩) (v j) x) (ho : ObR (φ.put (H j).next ⟨w.heap.size, 0, lim⟩) ⟨w.heap.size, 0, lim⟩ ob co) :
    φ.le (φ.put (H j).next ⟨w.heap.size, 0, lim⟩) ∧ Inv nt ops l F H v φ0 w0 ds (lst.setIfInBounds s.i true) J (φ.put (H j).next ⟨w.heap.size, 0, lim⟩) (a.put s.o.dst x) { newB w co with drawn := w.drawn + n } := by
  have hsm := List.mem_of_getElem? hs
  have hjl := lt_of hs
  have hlt : s.i < lst.size := by
    rw [hI.size]
    exact (Array.getElem?_eq_some_iff.1 (K.plan.mem s hsm).1).1
  have hmade : MadeAt H j := ⟨ob, hH⟩
  -- the number is new
  have hnew : ∀ i, KD l H J lst i → i ≠ (H j).next := by
    rintro i (h | ⟨j', ⟨h1, ⟨s', h2, h3⟩, h4⟩, rfl⟩) hh
    · have := K.next_mono hJ (by omega); omega
    · have hjj : j' ≠ j := by
        rintro rfl
        rw [hs] at h2
        cases h2
        exact hn h3
      rcases Nat.lt_or_ge j' j with hlt | hge
      · have := K.made_lt h4 hlt (by omega); omega
      · have := K.made_lt hmade (show j < j' by omega) (Nat.le_of_lt (lt_of h2)); omega
  have hle : φ.le (φ.put (H j).next ⟨w.heap.size, 0, lim⟩) := by
    intro i e he
    rw [Phi.put_ne _ _ (hnew i (hI.dom i e he).1)]
    exact he
  refine ⟨hle, ?_⟩
  obtain ⟨f1, f2, f3⟩ := K.frame hI hs hle hx
  have hflt : ∀ j', Flt l H J (lst.setIfInBounds s.i true) j' → Flt l H J lst j' ∨ j' = j := by
    rintro j' ⟨h1, ⟨s', h2, h3⟩, h4⟩
    rcases (Lst_set hlt s'.i).1 h3 with h | h
    · exact .inl ⟨h1, ⟨s', h2, h⟩, h4⟩
    · exact .inr (K.plan.once j' j s' s h2 hs h)
  have hflt' : ∀ j', Flt l H J lst j' → Flt l H J (lst.setIfInBounds s.i true) j' := by
    rintro j' ⟨h1, ⟨s', h2, h3⟩, h4⟩
    exact ⟨h1, ⟨s', h2, (Lst_set hlt s'.i).2 (.inl h3)⟩, h4⟩
  have hfj : Flt l H J (lst.setIfInBounds s.i true) j := ⟨hJ, ⟨s, hs, (Lst_set hlt _).2 (.inr rfl)⟩, hmade⟩
  have hget : (H (j + 1)).get (H j).next = some ob := by rw [hH, Hp.get_new, if_pos rfl]
  have hKO : ∀ i o, KO l H J (lst.setIfInBounds s.i true) i o → (KO l H J lst i o ∧ i ≠ (H j).next) ∨ (i = (H j).next ∧ o = ob) := by
    rintro i o (h | ⟨j', h1, h2, h3⟩)
    · refine .inl ⟨.inl h, hnew i (.inl ?_)⟩
      obtain ⟨φ', tmps, w', _, hr'⟩ := K.ghost J hI.Jle
      exact hr'.lt h
    · rcases hflt j' h1 with h | rfl
      · exact .inl ⟨.inr ⟨j', h, h2, h3⟩, hnew i (.inr ⟨j', h, h2⟩)⟩
      · refine .inr ⟨h2, ?_⟩
        rw [h2, hget] at h3
        exact (Option.some.inj h3).symm
  have hsz : w.heap.size < (newB w co).heap.size := by rw [newB_size]; omega
  refine ⟨by simpa using hI.size, ?_, hI.Jle, hI.Jbd, fun j' s' h1 h2 => (Lst_set hlt _).2 (.inl (hI.pre j' s' h1 h2)), ?_, f1, f2, f3, ?_, ?_, ?_, ?_, ?_, ?_⟩
  · intro i hi b hb
    rcases (Lst_set hlt i).1 hi with h | rfl
    · exact (Lst_set hlt b).2 (.inl (hI.down i h b hb))
    · exact (Lst_set hlt b).2 (.inl (hr b hb))
  · intro j' s' h1 h2 h3
    rcases (Lst_set hlt s'.i).1 h3 with h | h
    · exact hI.flt j' s' h1 h2 h
    · have := K.plan.once j' j s' s h2 hs h
      subst this
      rw [hs] at h2
      cases h2
      exact hc
  · intro i o h
    rcases hKO i o h with ⟨h, hne⟩ | ⟨rfl, rfl⟩
    · obtain ⟨e, cob, h1, h2, h3⟩ := hI.obj i o h
      refine ⟨e, cob, hle _ _ h1, ?_, h3.mono hle⟩
      show (newB w co).heap[e.blk]? = some cob
      rw [newB_lt _ _ (hI.dom i e h1).2]
      exact h2
    · exact ⟨_, co, Phi.put_same _ _ _, newB_same w co, ho⟩
  · intro i i' o o' e e' hne h1 h2 he he'
    rcases hKO i o h1 with ⟨k1, n1⟩ | ⟨rfl, rfl⟩
    · rw [Phi.put_ne _ _ n1] at he
      rcases hKO i' o' h2 with ⟨k2, n2⟩ | ⟨rfl, rfl⟩
      · rw [Phi.put_ne _ _ n2] at he'
        exact hI.sep i i' o o' e e' hne k1 k2 he he'
      · rw [Phi.put_same] at he'
        cases he'
        have := (hI.dom i e he).2
        show e.blk ≠ w.heap.size
        omega
    · rw [Phi.put_same] at he
      cases he
      rcases hKO i' o' h2 with ⟨k2, n2⟩ | ⟨rfl, rfl⟩
      · rw [Phi.put_ne _ _ n2] at he'
        have := (hI.dom i' e' he').2
        show w.heap.size ≠ e'.blk
        omega
      · exact absurd rfl hne
  · intro i e he
    by_cases hi : i = (H j).next
    · subst hi
      rw [Phi.put_same] at he
      cases he
      exact ⟨.inr ⟨j, hfj, rfl⟩, hsz⟩
    · rw [Phi.put_ne _ _ hi] at he
      obtain ⟨h1, h2⟩ := hI.dom i e he
      refine ⟨?_, Nat.lt_trans h2 hsz⟩
      rcases h1 with h1 | ⟨j', h1, h3⟩
      · exact .inl h1
      · exact .inr ⟨j', hflt' j' h1, h3⟩
  · intro j' e hf he i e' hne he'
    rcases hflt j' hf with h | rfl
    · have hnn := hnew _ (.inr ⟨j', h, rfl⟩)
      rw [Phi.put_ne _ _ hnn] at he
      by_cases hi : i = (H j).next
      · subst hi
        rw [Phi.put_same] at he'
        cases he'
        have := (hI.dom _ e he).2
        show w.heap.size ≠ e.blk
        omega
      · rw [Phi.put_ne _ _ hi] at he'
        exact hI.fsep j' e h he i e' hne he'
    · rw [Phi.put_same] at he
      cases he
      rw [Phi.put_ne _ _ hne] at he'
      have := (hI.dom i e' he').2
      show e'.blk ≠ w.heap.size
      omega
  · refine hI.aft.trans (Aft.drew ⟨hle, Nat.le_of_lt hsz, ?_, fun b hb _ => newB_lt w co hb, rfl, rfl, rfl, Nat.le_refl _⟩ (Nat.le_add_right _ _))
    intro i e he
    by_cases hi : i = (H j).next
    · subst hi
      rw [Phi.put_same] at he
      cases he
      exact .inr (Nat.le_refl _)
    · rw [Phi.put_ne _ _ hi] at he
      exact .inl ⟨i, e, he, rfl⟩
  · rw [put_defers]; exact hI.defers
end
end Go.Abs

namespace Go.Abs
open Go

section
variable {P : Program} {φ : Phi} {F : T AV} {nt : Nat} {a : Act} {C : Ctx}

/-- A reading operation leaves the world. -/
theorem cls_r_run (hC : CtxOK C P) {o : Oper} {H H' : Hp} {v : AV} {x : Nat} {w : World} (hcl : clsOf C o = .r) (hx : readId F o = some x) (hT : TR φ F nt a.tmps) (hr : Rel φ H w)
    (h : opA C F H o.op = some (.val v H')) : ∃ y, (execOp a.eval o).run P w = .ok (.value y) w ∧ V φ v y := by
  cases ho : o.op with
  | load t p =>
    rw [ho] at h
    obtain ⟨h1, rfl⟩ := valO_val (show valO H (opLoad C F H t p) = _ from h)
    unfold opLoad at h1
    split at h1
    case h_2 => cases h1
    rename_i b off hev
    split at h1
    case h_2 => cases h1
    rename_i ti ht
    obtain ⟨e, he, hev⟩ := ev_ptr hT hev
    obtain ⟨u, hu, hvu⟩ := loadA_sound hC hr ht h1 he
    exact ⟨u, by simp [execOp, ho, hev, Instr.loadAt, Instr.sureAddr, hu], hvu⟩
  | convert s d p =>
    rw [ho] at h
    have h := valH_val (show valH (opConvert C F H s d p) = _ from h)
    simp only [clsOf, ho] at hcl
    cases hts : C.ty.get s with
    | none => simp [hts] at hcl
    | some ts =>
    cases htd : C.ty.get d with
    | none => simp [hts, htd] at hcl
    | some td =>
    simp only [hts, htd] at hcl
    simp only [readId, ho] at hx
    unfold opConvert at h
    cases hs : ts.td <;> cases hd : td.td <;> simp only [hs, hd] at hcl <;> first | (cases hcl; done) | skip
    rename_i e
    have key : ∀ y : AV, ev F p = some y → ((∃ b o' l c, y = .slc b o' l c) ∨ (∃ b o' l c, y = .slo b o' l c)) → convertA C H s d y = some (v, H') → ∃ z, (convert s d (a.eval p)).run P w = .ok z w ∧ V φ v z := by
      intro y hev hy hc
      have vx := ev_sound hT hev
      have main : (match C.ty.get e with
          | some te => match te.td, lenA y with
            | .int .u8, some n => match y with
              | .str _ => none
              | _ => match firstA H 1 n y with
                | some cs => match ofBytes cs with
                  | some b => some (AV.str b, H)
                  | none => none
                | none => none
            | _, _ => none
          | none => none) = some (v, H') := by
        unfold convertA at hc
        rcases hy with ⟨b, o', l, c, rfl⟩ | ⟨b, o', l, c, rfl⟩ <;> simp only [hts, htd, hd, hs] at hc <;> exact hc
      split at main
      case h_2 => cases main
      rename_i te hte
      split at main
      case h_2 => cases main
      rename_i n ht8 hl
      split at main
      · cases main
      rename_i hns
      split at main
      case h_2 => cases main
      rename_i cs hcs
      split at main
      case h_2 => cases main
      rename_i bs hbs
      simp only [Option.some.injEq, Prod.mk.injEq] at main
      obtain ⟨rfl, rfl⟩ := main
      exact conv_bytes hC hr vx hts htd hs hd hte ht8 hl (fun b hb => by rcases hy with ⟨_, _, _, _, hy⟩ | ⟨_, _, _, _, hy⟩ <;> rw [hy] at hb <;> cases hb) hcs hbs
    have fin : (∃ z, (convert s d (a.eval p)).run P w = .ok z w ∧ V φ v z) → ∃ y, (execOp a.eval o).run P w = .ok (.value y) w ∧ V φ v y := by
      rintro ⟨z, h1, h2⟩
      exact ⟨z, by simp only [execOp, ho, Sem.run_bind, h1, Result.andThen_ok, Sem.run_pure], h2⟩
    split at hx
    · rename_i b o' l c hy
      simp only [hy] at h
      exact fin (key _ hy (.inl ⟨b, o', l, c, rfl⟩) h)
    · rename_i b o' l c hy
      simp only [hy] at h
      exact fin (key _ hy (.inr ⟨b, o', l, c, rfl⟩) h)
    · cases hx
  | call c =>
    exfalso
    simp only [clsOf, ho] at hcl
    repeat' split at hcl
    all_goals cases hcl
  | _ => simp [clsOf, ho] at hcl

theorem readId_known (hT : TR φ F nt a.tmps) {o : Oper} {x : Nat} (hx : readId F o = some x) : ∃ e, φ x = some e := by
  unfold readId at hx
  split at hx
  · split at hx
    · rename_i hev
      simp only [Option.some.injEq] at hx
      subst hx
      obtain ⟨e, he, _⟩ := ev_ptr hT hev
      exact ⟨e, he⟩
    · cases hx
  · split at hx
    · rename_i hev
      simp only [Option.some.injEq] at hx
      subst hx
      have h1 := ev_sound hT hev
      generalize a.eval _ = u at h1
      cases h1 with | slc h _ => exact ⟨_, h⟩
    · rename_i hev
      simp only [Option.some.injEq] at hx
      subst hx
      have h1 := ev_sound hT hev
      generalize a.eval _ = u at h1
      cases h1 with | slo h _ _ => exact ⟨_, h⟩
    · cases hx
  · cases hx
end

/-! ### The frame cut down to what an operation looks at -/
noncomputable def restr (F : T AV) : List Nat → T AV
  | [] => .lf
  | t :: l => match F.get t with
    | some v => (restr F l).set t v
    | none => restr F l

theorem restr_get (F : T AV) : ∀ (l : List Nat) (t : Nat), (restr F l).get t = if t ∈ l then F.get t else none
  | [], t => by simp [restr, get_lf]
  | u :: l, t => by
    simp only [restr]
    cases hu : F.get u with
    | none =>
      simp only
      rw [restr_get F l t]
      by_cases h : t = u
      · subst h; simp [hu]
      · simp [h]
    | some v =>
      simp only
      rw [get_set, restr_get F l t]
      by_cases h : t = u
      · subst h; simp [hu]
      · simp [h]

theorem restr_agree (F : T AV) {l m : List Nat} (h : ∀ t ∈ m, t ∈ l) : Agree m (restr F l) F := by
  intro t ht
  rw [restr_get, if_pos (h t ht)]

theorem looks_op {ops : List Oper} {o : Oper} : ∀ t ∈ opSlots o.op, t ∈ looksA ops o := by
  intro t ht
  unfold looksA
  repeat' split
  all_goals first | exact ht | exact List.mem_cons_of_mem _ ht

theorem wantedA_congr {F G : T AV} {ops : List Oper} {o : Oper} (h : Agree (looksA ops o) F G) : wantedA F ops o = wantedA G ops o := by
  unfold wantedA
  unfold looksA at h
  cases hg : o.guard with
  | none => rfl
  | some g =>
    obtain ⟨j, want⟩ := g
    simp only [hg] at h
    simp only
    cases hp : ops[j]? with
    | none => rfl
    | some p =>
      simp only [hp] at h
      simp only
      cases hd : p.dst with
      | none => rfl
      | some d =>
        simp only [hd] at h
        simp only
        rw [h d (by simp)]

section
variable {C : Ctx} {call : CallF} {yld : YldF}
theorem stepA_congr {F G : T AV} {H : Hp} {ops : List Oper} {o : Oper} (h : Agree (looksA ops o) F G) : stepA C call yld ops F H o = stepA C call yld ops G H o := by
  unfold stepA
  rw [wantedA_congr h, opA_congr (fun t ht => h t (looks_op t ht))]

theorem readId_congr {F G : T AV} {o : Oper} (h : Agree (opSlots o.op) F G) : readId F o = readId G o := by
  unfold readId
  cases ho : o.op <;> first | rfl | (rw [ho] at h; simp only [ev_congr h])
end
end Go.Abs

namespace Go.Abs
open Go

def Phi.cut (φ : Phi) (n : Nat) : Phi := fun i => if i < n then φ i else none
theorem Phi.cut_some {φ : Phi} {n i : Nat} {e : Ent} : φ.cut n i = some e ↔ i < n ∧ φ i = some e := by
  unfold Phi.cut
  by_cases h : i < n
  · rw [if_pos h]; exact ⟨fun k => ⟨h, k⟩, fun k => k.2⟩
  · rw [if_neg h]; exact ⟨fun k => (by cases k), fun k => absurd k.1 h⟩
theorem Phi.cut_le (φ : Phi) (n : Nat) : (φ.cut n).le φ := fun _ _ h => (Phi.cut_some.1 h).2
def Phi.join (ψ φ : Phi) (n : Nat) : Phi := fun i => if i < n then ψ i else φ i
theorem Phi.join_lt (ψ φ : Phi) {n i : Nat} (h : i < n) : ψ.join φ n i = ψ i := by simp [Phi.join, h]
theorem Phi.join_ge (ψ φ : Phi) {n i : Nat} (h : n ≤ i) : ψ.join φ n i = φ i := by simp [Phi.join, Nat.not_lt.2 h]

section
variable {P : Program} {C : Ctx} {call : CallF} {yld : YldF} {nt : Nat} {ops : Array Oper} {l : List Stp} {F : Nat → T AV} {H : Nat → Hp} {v : Nat → AV} {S : Nat → List (Nat × Hp)} {I : Nat → Hp}
variable (K : Canon P C call yld nt ops l F H v S I)
variable {φ0 : Phi} {w0 : World} {ds : List Deferred} {lst : Array Bool} {J : Nat} {φ : Phi} {a : Act} {w : World}
include K

/-- the canonical heap at a position ahead of which everything is listed -/
theorem Canon.relCut (hI : Inv nt ops l F H v φ0 w0 ds lst J φ a w) {j : Nat} (hj : j ≤ l.length) (hJ : J ≤ j) (hpre : ∀ (j' : Nat) s', j' < j → l[j']? = some s' → Lst lst s'.i) :
    Rel (φ.cut (H j).next) (H j) w := by
  obtain ⟨φg, tg, wg, hTg, hrg⟩ := K.ghost j hj
  have hne : ∀ (k : Nat) s, J ≤ k → k < j → l[k]? = some s → s.c ≠ .e := fun k s h1 h2 h3 => hI.flt k s h1 h3 (hpre k s h2 h3)
  have hKO : ∀ i o, (H j).get i = some o → KO l H J lst i o := by
    intro i o h
    rcases (K.between hJ hj hne i o).1 h with h | ⟨k, h1, h2, h3, h4, h5⟩
    · exact .inl h
    · have hs : l[k]? = some l[k] := List.getElem?_eq_getElem (show k < l.length by omega)
      exact .inr ⟨k, ⟨h1, ⟨_, hs, hpre k _ h2 hs⟩, h3⟩, h4, h5⟩
  refine ⟨?_, ?_, ?_⟩
  · intro i o hi
    obtain ⟨e, ob, he, hob, hor⟩ := hI.obj i o (hKO i o hi)
    obtain ⟨eg, obg, _, _, horg⟩ := hrg.obj i o hi
    exact ⟨e, ob, Phi.cut_some.2 ⟨hrg.lt hi, he⟩, hob, horg.transfer (fun i e e' h1 h2 => Phi.cut_some.2 ⟨(hrg.dom i e h1).1, h2⟩) hor⟩
  · intro i i' o o' e e' hne' hi hi' he he'
    exact hI.sep i i' o o' e e' hne' (hKO _ _ hi) (hKO _ _ hi') (Phi.cut_le _ _ _ _ he) (Phi.cut_le _ _ _ _ he')
  · intro i e he
    obtain ⟨h1, h2⟩ := Phi.cut_some.1 he
    exact ⟨h1, (hI.dom i e h2).2⟩

/-- the frame of an operation that is ready -/
theorem Canon.looksTR (hI : Inv nt ops l F H v φ0 w0 ds lst J φ a w) {j : Nat} {s : Stp} (hs : l[j]? = some s)
    (hn : ¬ Lst lst s.i) (hr : ∀ b, (maskOf ops s.i).testBit b = true → Lst lst b) : TR (φ.cut (H j).next) (restr (F j) (looksA ops.toList s.o)) nt a.tmps := by
  obtain ⟨φg, tg, wg, hTg, hrg⟩ := K.ghost j (Nat.le_of_lt (lt_of hs))
  refine ⟨hI.len, ?_⟩
  intro t u hu
  rw [restr_get] at hu
  split at hu
  · rename_i ht
    obtain ⟨x, hx, hv⟩ := K.looks hI hs hn hr ht hu
    obtain ⟨y, hy, hvg⟩ := hTg.2 t u hu
    exact ⟨x, hx, hvg.transfer (fun i e e' h1 h2 => Phi.cut_some.2 ⟨(hrg.dom i e h1).1, h2⟩) hv⟩
  · cases hu

omit K in
theorem J_le' (hI : Inv nt ops l F H v φ0 w0 ds lst J φ a w) {j : Nat} {s : Stp} (hs : l[j]? = some s) (hn : ¬ Lst lst s.i) : J ≤ j := by
  rcases Nat.lt_or_ge j J with h | h
  · exact absurd (hI.pre j s h hs) hn
  · exact h

theorem Canon.effect (hI : Inv nt ops l F H v φ0 w0 ds lst J φ a w) {j : Nat} {s : Stp} (hs : l[j]? = some s) (hc : s.c = .e) (hn : ¬ Lst lst s.i)
    (hr : ∀ b, (maskOf ops s.i).testBit b = true → Lst lst b) {ψ : Phi} {x : Value} {w' : World} (hx : V ψ (v j) x) (hrel : Rel ψ (H (j + 1)) w') (haft : Aft (φ.cut (H j).next) w ψ w') :
    Inv nt ops l F H v φ0 w0 ds (lst.setIfInBounds s.i true) (j + 1) (ψ.join φ (H (j + 1)).next) (a.put s.o.dst x) w' := by
  have hJ := J_le' hI hs hn
  have hjl := lt_of hs
  have hN := K.next_le hs
  have hNJ := K.next_mono hJ (Nat.le_of_lt hjl)
  have hlt : s.i < lst.size := by
    rw [hI.size]
    exact (Array.getElem?_eq_some_iff.1 (K.plan.mem s (List.mem_of_getElem? hs)).1).1
  have hpre : ∀ (j' : Nat) s', j' < j → l[j']? = some s' → Lst lst s'.i := fun j' s' h1 h2 => hr _ (K.plan.eff j s hs hc j' s' h1 h2)
  have hψχ : ψ.le (ψ.join φ (H (j + 1)).next) := by
    intro i e he
    rw [Phi.join_lt _ _ (hrel.dom i e he).1]; exact he
  -- the floats behind the effect
  have hfge : ∀ j', Flt l H J lst j' → (H j').next < (H j).next ∨ (j < j' ∧ (H (j + 1)).next ≤ (H j').next) := by
    rintro j' ⟨h1, ⟨s', h2, h3⟩, h4⟩
    rcases Nat.lt_trichotomy j' j with h | rfl | h
    · exact .inl (K.made_lt h4 h (Nat.le_of_lt hjl))
    · rw [hs] at h2
      cases h2
      exact absurd h3 hn
    · exact .inr ⟨h, K.next_mono h (Nat.le_of_lt (lt_of h2))⟩
  have hle : φ.le (ψ.join φ (H (j + 1)).next) := by
    intro i e he
    have low : i < (H j).next → ψ.join φ (H (j + 1)).next i = some e := by
      intro h
      rw [Phi.join_lt _ _ (by omega)]
      exact haft.le _ _ (Phi.cut_some.2 ⟨h, he⟩)
    rcases (hI.dom i e he).1 with h | ⟨j', h, rfl⟩
    · exact low (by omega)
    · rcases hfge j' h with h1 | ⟨_, h1⟩
      · exact low h1
      · rw [Phi.join_ge _ _ h1]; exact he
  obtain ⟨f1, f2, f3⟩ := K.frame hI hs hle (hx.mono hψχ)
  have hflt : ∀ j', Flt l H (j + 1) (lst.setIfInBounds s.i true) j' → Flt l H J lst j' ∧ (H (j + 1)).next ≤ (H j').next := by
    rintro j' ⟨h1, ⟨s', h2, h3⟩, h4⟩
    refine ⟨⟨by omega, ⟨s', h2, ?_⟩, h4⟩, K.next_mono h1 (Nat.le_of_lt (lt_of h2))⟩
    rcases (Lst_set hlt s'.i).1 h3 with h | h
    · exact h
    · have := K.plan.once j' j s' s h2 hs h
      omega
  have hflt' : ∀ j', Flt l H J lst j' → j < j' → Flt l H (j + 1) (lst.setIfInBounds s.i true) j' := by
    rintro j' ⟨h1, ⟨s', h2, h3⟩, h4⟩ h
    exact ⟨h, ⟨s', h2, (Lst_set hlt s'.i).2 (.inl h3)⟩, h4⟩
  have hfk : ∀ j' e, Flt l H J lst j' → (H (j + 1)).next ≤ (H j').next → φ (H j').next = some e → ∀ i e', ψ i = some e' → e'.blk ≠ e.blk := by
    intro j' e h1 h2 he i e' he'
    rcases haft.img i e' he' with ⟨k, e0, hk, hb⟩ | hb
    · obtain ⟨k1, k2⟩ := Phi.cut_some.1 hk
      rw [← hb]
      exact hI.fsep j' e h1 he k e0 (by omega) k2
    · have := (hI.dom _ e he).2
      omega
  have hkeep : ∀ j' e, Flt l H J lst j' → (H (j + 1)).next ≤ (H j').next → φ (H j').next = some e → w'.heap[e.blk]? = w.heap[e.blk]? := by
    intro j' e h1 h2 he
    refine haft.keep _ (hI.dom _ e he).2 ?_
    intro i e' he'
    obtain ⟨k1, k2⟩ := Phi.cut_some.1 he'
    exact hI.fsep j' e h1 he i e' (by omega) k2
  refine ⟨by simpa using hI.size, ?_, hjl, .inr ⟨j, s, rfl, hs, hc⟩, ?_, ?_, f1, f2, f3, ?_, ?_, ?_, ?_, ?_, ?_⟩
  · intro i hi b hb
    rcases (Lst_set hlt i).1 hi with h | rfl
    · exact (Lst_set hlt b).2 (.inl (hI.down i h b hb))
    · exact (Lst_set hlt b).2 (.inl (hr b hb))
  · intro j' s' h1 h2
    rcases Nat.lt_or_ge j' j with h | h
    · exact (Lst_set hlt _).2 (.inl (hpre j' s' h h2))
    · obtain rfl : j' = j := by omega
      rw [hs] at h2
      cases h2
      exact (Lst_set hlt _).2 (.inr rfl)
  · intro j' s' h1 h2 h3
    rcases (Lst_set hlt s'.i).1 h3 with h | h
    · exact hI.flt j' s' (by omega) h2 h
    · have := K.plan.once j' j s' s h2 hs h
      omega
  · rintro i o (h | ⟨j', h1, rfl, h3⟩)
    · obtain ⟨e, ob, k1, k2, k3⟩ := hrel.obj i o h
      exact ⟨e, ob, hψχ _ _ k1, k2, k3.mono hψχ⟩
    · obtain ⟨g1, g2⟩ := hflt j' h1
      obtain ⟨e, ob, k1, k2, k3⟩ := hI.obj _ o (.inr ⟨j', g1, rfl, h3⟩)
      exact ⟨e, ob, hle _ _ k1, (hkeep j' e g1 g2 k1).trans k2, k3.mono hle⟩
  · have low : ∀ i o, (H (j + 1)).get i = some o → i < (H (j + 1)).next := fun i o h => hrel.lt h
    rintro i i' o o' e e' hne (h | ⟨j1, h1, rfl, h3⟩) (h' | ⟨j1', h1', rfl, h3'⟩) he he'
    · rw [Phi.join_lt _ _ (low _ _ h)] at he
      rw [Phi.join_lt _ _ (low _ _ h')] at he'
      exact hrel.sep i i' o o' e e' hne h h' he he'
    · rw [Phi.join_lt _ _ (low _ _ h)] at he
      obtain ⟨g1, g2⟩ := hflt j1' h1'
      rw [Phi.join_ge _ _ g2] at he'
      exact hfk j1' e' g1 g2 he' i e he
    · obtain ⟨g1, g2⟩ := hflt j1 h1
      rw [Phi.join_ge _ _ g2] at he
      rw [Phi.join_lt _ _ (low _ _ h')] at he'
      exact Ne.symm (hfk j1 e g1 g2 he i' e' he')
    · obtain ⟨g1, g2⟩ := hflt j1 h1
      obtain ⟨g1', g2'⟩ := hflt j1' h1'
      rw [Phi.join_ge _ _ g2] at he
      rw [Phi.join_ge _ _ g2'] at he'
      exact hI.sep _ _ o o' e e' hne (.inr ⟨j1, g1, rfl, h3⟩) (.inr ⟨j1', g1', rfl, h3'⟩) he he'
  · intro i e he
    rcases Nat.lt_or_ge i (H (j + 1)).next with h | h
    · rw [Phi.join_lt _ _ h] at he
      exact ⟨.inl h, (hrel.dom i e he).2⟩
    · rw [Phi.join_ge _ _ h] at he
      obtain ⟨k1, k2⟩ := hI.dom i e he
      refine ⟨?_, Nat.lt_of_lt_of_le k2 haft.size⟩
      rcases k1 with k1 | ⟨j', k1, rfl⟩
      · omega
      · rcases hfge j' k1 with g | ⟨g, _⟩
        · omega
        · exact .inr ⟨j', hflt' j' k1 g, rfl⟩
  · intro j' e hf he i e' hne he'
    obtain ⟨g1, g2⟩ := hflt j' hf
    rw [Phi.join_ge _ _ g2] at he
    rcases Nat.lt_or_ge i (H (j + 1)).next with h | h
    · rw [Phi.join_lt _ _ h] at he'
      exact hfk j' e g1 g2 he i e' he'
    · rw [Phi.join_ge _ _ h] at he'
      exact hI.fsep j' e g1 he i e' hne he'
  · refine hI.aft.trans ⟨hle, haft.size, ?_, ?_, haft.os, haft.output, haft.tape, haft.drawn⟩
    · intro i e he
      rcases Nat.lt_or_ge i (H (j + 1)).next with h | h
      · rw [Phi.join_lt _ _ h] at he
        rcases haft.img i e he with ⟨k, e0, hk, hb⟩ | hb
        · exact .inl ⟨k, e0, Phi.cut_le _ _ _ _ hk, hb⟩
        · exact .inr hb
      · rw [Phi.join_ge _ _ h] at he
        exact .inl ⟨i, e, he, rfl⟩
    · intro b hb hnb
      exact haft.keep b hb fun i e he => hnb i e (Phi.cut_le _ _ _ _ he)
  · rw [put_defers]; exact hI.defers
end
end Go.Abs

namespace Go.Abs
open Go

section
variable {P : Program} {C : Ctx} {call : CallF} {yld : YldF} {nt : Nat} {ops : Array Oper} {l : List Stp} {F : Nat → T AV} {H : Nat → Hp} {v : Nat → AV} {S : Nat → List (Nat × Hp)} {I : Nat → Hp}
variable (K : Canon P C call yld nt ops l F H v S I)
include K

/-- the objects that the region made, as they were made -/
theorem Canon.madeI {x : Nat} {b : AO} : ∀ {j : Nat}, j ≤ l.length → (I j).get x = some b → ∃ k, k < j ∧ MadeAt H k ∧ x = (H k).next ∧ (H (k + 1)).get x = some b
  | 0, _, h => by
    rw [K.i0] at h
    cases (show (T.lf : T AO).get x = some b from h)
  | j + 1, hj, h => by
    have hs : l[j]? = some l[j] := List.getElem?_eq_getElem (by omega)
    have back : (I j).get x = some b → ∃ k, k < j + 1 ∧ MadeAt H k ∧ x = (H k).next ∧ (H (k + 1)).get x = some b := by
      intro h
      obtain ⟨k, h1, h2⟩ := madeI (j := j) (by omega) h
      exact ⟨k, by omega, h2⟩
    cases hc : l[j].c with
    | e => rw [(K.run.eff j _ hs hc).2.2] at h; exact back h
    | p => rw [K.run.noMade j _ hs (.inl hc)] at h; exact back h
    | r => rw [K.run.noMade j _ hs (.inr hc)] at h; exact back h
    | a =>
      rw [K.run.made j _ hs hc] at h
      split at h
      · rename_i b' hb'
        rw [Hp.get_set'] at h
        by_cases hx : x = (H j).next
        · rw [if_pos hx] at h
          cases h
          subst hx
          refine ⟨j, by omega, ?_, rfl, hb'⟩
          rcases K.heap hs (by rw [hc]; simp) with hh | ⟨_, hh⟩
          · rw [hh] at hb'
            obtain ⟨φg, tg, wg, _, hrg⟩ := K.ghost j (by omega)
            have := hrg.lt hb'
            omega
          · exact hh
        · rw [if_neg hx] at h
          exact back h
      · exact back h

/-- the heap behind the last effect that is done is one of those that a read was tried at -/
theorem Canon.tried {J : Nat} (hb : J = 0 ∨ ∃ (j : Nat) (s : Stp), J = j + 1 ∧ l[j]? = some s ∧ s.c = .e) {G : T AV} {o : Oper} {u : AV} {x : Nat} {Hi : Hp} {m : Nat} : ∀ {j : Nat}, J ≤ j → j ≤ l.length →
    (∀ (k : Nat) s, J ≤ k → k < j → l[k]? = some s → s.c = .e → m.testBit s.i = false) → steadyA C ops.toList G o u x Hi m (S j) = true → sameAt C ops.toList G o u x Hi (H J) = true := by
  have top : ∀ (e : Nat) (Hs : Hp) (L : List (Nat × Hp)), steadyA C ops.toList G o u x Hi m ((e, Hs) :: L) = true → sameAt C ops.toList G o u x Hi Hs = true := by
    intro e Hs L h
    simp only [steadyA] at h
    split at h
    · assumption
    · cases h
  intro j
  induction j with
  | zero =>
    intro h1 h2 h3 h4
    obtain rfl : J = 0 := by omega
    rw [K.s0] at h4
    exact top _ _ _ h4
  | succ j ih =>
    intro h1 h2 h3 h4
    have hs : l[j]? = some l[j] := List.getElem?_eq_getElem (by omega)
    rcases Nat.lt_or_ge j J with hlt | hge
    · obtain rfl : J = j + 1 := by omega
      rcases hb with hb | ⟨j', s', e1, e2, e3⟩
      · omega
      · obtain rfl : j = j' := by omega
        rw [(K.run.eff j s' e2 e3).2.1] at h4
        exact top _ _ _ h4
    · by_cases hc : l[j].c = .e
      · rw [(K.run.eff j _ hs hc).2.1] at h4
        simp only [steadyA] at h4
        split at h4
        · rw [h3 j _ hge (by omega) hs hc] at h4
          exact ih hge (by omega) (fun k s k1 k2 => h3 k s k1 (by omega)) h4
        · cases h4
      · rw [K.run.oth j _ hs hc] at h4
        exact ih hge (by omega) (fun k s k1 k2 => h3 k s k1 (by omega)) h4

variable {φ0 : Phi} {w0 : World} {ds : List Deferred} {lst : Array Bool} {J : Nat} {φ : Phi} {a : Act} {w : World}

theorem Canon.dom_lt (hI : Inv nt ops l F H v φ0 w0 ds lst J φ a w) {i : Nat} {e : Ent} (h : φ i = some e) : i < (H l.length).next := by
  rcases (hI.dom i e h).1 with h | ⟨j, ⟨h1, ⟨s, h2, _⟩, h3⟩, rfl⟩
  · exact Nat.lt_of_lt_of_le h (K.next_mono hI.Jle (Nat.le_refl _))
  · exact K.made_lt h3 (lt_of h2) (Nat.le_refl _)

/-- a heap of one object -/
theorem Canon.single (hI : Inv nt ops l F H v φ0 w0 ds lst J φ a w) {x : Nat} {o : AO} (h : KO l H J lst x o) : Rel φ ⟨T.lf.set x o, (H l.length).next⟩ w := by
  have key : ∀ i o', (⟨T.lf.set x o, (H l.length).next⟩ : Hp).get i = some o' → i = x ∧ o' = o := by
    intro i o' hi
    have hi : (T.lf.set x o).get i = some o' := hi
    rw [get_set] at hi
    split at hi
    · rename_i hx; cases hi; exact ⟨hx, rfl⟩
    · cases hi
  refine ⟨?_, ?_, ?_⟩
  · intro i o' hi
    obtain ⟨rfl, rfl⟩ := key i o' hi
    exact hI.obj _ _ h
  · intro i i' o1 o2 e e' hne h1 h2
    exact absurd ((key _ _ h1).1.trans (key _ _ h2).1.symm) hne
  · intro i e he
    exact ⟨K.dom_lt hI he, (hI.dom i e he).2⟩

theorem Canon.bare (hI : Inv nt ops l F H v φ0 w0 ds lst J φ a w) : Rel φ ⟨T.lf, (H l.length).next⟩ w :=
  ⟨fun i o h => (nomatch (show (T.lf : T AO).get i = some o from h)), fun i i' o1 o2 e e' _ h => (nomatch (show (T.lf : T AO).get i = some o1 from h)), fun i e he => ⟨K.dom_lt hI he, (hI.dom i e he).2⟩⟩

/-- What a read that is ready gives. -/
theorem Canon.reads (hI : Inv nt ops l F H v φ0 w0 ds lst J φ a w) {j : Nat} {s : Stp} (hs : l[j]? = some s) (hc : s.c = .r) (hn : ¬ Lst lst s.i)
    (hr : ∀ b, (maskOf ops s.i).testBit b = true → Lst lst b) (hw : wantedA (F j) ops.toList s.o = some true) : ∃ y, (execOp a.eval s.o).run P w = .ok (.value y) w ∧ V φ (v j) y := by
  have hsm := K.plan.mem s (List.mem_of_getElem? hs)
  have hcl : clsOf C s.o = .r := hsm.2.1.symm.trans hc
  have hJ := J_le' hI hs hn
  have hT : TR φ (restr (F j) (looksA ops.toList s.o)) nt a.tmps := (K.looksTR hI hs hn hr).mono (Phi.cut_le _ _)
  have hag : Agree (opSlots s.o.op) (restr (F j) (looksA ops.toList s.o)) (F j) := restr_agree _ looks_op
  rcases K.run.read j s hs hc with h | ⟨x, hx, hst⟩
  · rw [hw] at h; cases h
  have hxG : readId (restr (F j) (looksA ops.toList s.o)) s.o = some x := (readId_congr hag).trans hx
  have hsame := K.tried hI.Jbd hJ (Nat.le_of_lt (lt_of hs)) (by
    intro k t h1 h2 h3 h4
    rw [hsm.2.2]
    cases hb : (maskOf ops s.i).testBit t.i with
    | false => rfl
    | true => exact absurd h4 (hI.flt k t h1 h3 (hr _ hb))) hst
  -- the operation at that heap
  have atHeap : ∀ L : Hp, (match stepA C (fun _ _ _ => none) (fun _ _ _ => none) ops.toList (F j) L s.o with
      | some (u, _) => avEq u (v j)
      | none => false) = true → ∃ L', opA C (F j) L s.o.op = some (.val (v j) L') := by
    intro L h
    split at h
    case h_2 => cases h
    rename_i u L' hst'
    have := avEq_eq _ _ h
    subst this
    unfold stepA at hst'
    rw [hw] at hst'
    simp only at hst'
    split at hst'
    · rename_i hop
      simp only [Option.some.injEq, Prod.mk.injEq] at hst'
      rw [hst'.1] at hop
      exact ⟨_, hop⟩
    · cases hst'
    · cases hst'
    · cases hst'
  -- ... at a heap of what it reads
  have fin : ∀ L M : Hp, (∃ L', opA C (F j) L s.o.op = some (.val (v j) L')) → L.get x = M.get x → Rel φ M w → ∃ y, (execOp a.eval s.o).run P w = .ok (.value y) w ∧ V φ (v j) y := by
    rintro L M ⟨L', h⟩ hget hrel
    obtain ⟨h1, _⟩ := cls_r hcl hx hget h
    rw [← opA_congr hag] at h1
    exact cls_r_run K.ctx hcl hxG hT hrel h1
  unfold sameAt at hsame
  split at hsame
  · rename_i o ho
    exact fin _ _ (atHeap _ hsame) (by rw [ho]; exact (show some o = (T.set T.lf x o).get x from (get_set_self _ _ _).symm)) (K.single hI (.inl ho))
  · rename_i ho
    have hsame : (match stepA C (fun _ _ _ => none) (fun _ _ _ => none) ops.toList (F j) (I j) s.o with
      | some (u, _) => avEq u (v j)
      | none => false) = true ∧ (H J).next ≤ x := by
      split at hsame
      · rename_i heq
        rw [Bool.and_eq_true] at hsame
        exact ⟨by rw [heq]; exact hsame.1, Nat.le_of_ble_eq_true hsame.2⟩
      · cases hsame
    obtain ⟨hsame, hge⟩ := hsame
    cases hIx : (I j).get x with
    | none => exact fin _ ⟨T.lf, (H l.length).next⟩ (atHeap _ hsame) (by rw [hIx]; rfl) (K.bare hI)
    | some b =>
      refine fin _ _ (atHeap _ hsame) (by rw [hIx]; exact (show some b = (T.set T.lf x b).get x from (get_set_self _ _ _).symm)) (K.single (o := b) hI ?_)
      obtain ⟨k, h1, h2, h3, h4⟩ := K.madeI (Nat.le_of_lt (lt_of hs)) hIx
      obtain ⟨e, he⟩ := readId_known hT hxG
      rcases (hI.dom x e he).1 with h | ⟨k', hk', hx'⟩
      · omega
      · have hkl : k < l.length := Nat.lt_trans h1 (lt_of hs)
        have hkk : k' = k := by
          obtain ⟨q1, ⟨t, q2, q3⟩, q4⟩ := hk'
          rcases Nat.lt_trichotomy k' k with h | h | h
          · have := K.made_lt q4 h (Nat.le_of_lt hkl); omega
          · exact h
          · have := K.made_lt h2 h (Nat.le_of_lt (lt_of q2)); omega
        subst hkk
        exact .inr ⟨k', hk', hx', h4⟩

/-- An operation that is ready. -/
theorem Canon.take {r : Option Nat} {Q : Exit → Act → World → Prop} (hI : Inv nt ops l F H v φ0 w0 ds lst J φ a w) {j : Nat} {s : Stp} (hs : l[j]? = some s) (hn : ¬ Lst lst s.i)
    (hr : ∀ b, (maskOf ops s.i).testBit b = true → Lst lst b) {Kp : Act → World → Prop} (hK : ∀ J' φ' a' w', Inv nt ops l F H v φ0 w0 ds (lst.setIfInBounds s.i true) J' φ' a' w' → Kp a' w') :
    wpOpIn (FR r) 0 P ops Q s.i Kp a w := by
  have hsm := K.plan.mem s (List.mem_of_getElem? hs)
  have hJ := J_le' hI hs hn
  have hT := K.looksTR hI hs hn hr
  have hag : Agree (looksA ops.toList s.o) (restr (F j) (looksA ops.toList s.o)) (F j) := restr_agree _ fun t h => h
  unfold wpOpIn
  rw [hsm.1]
  simp only
  by_cases hc : s.c = .e
  · -- an effect
    have hrel := K.relCut hI (Nat.le_of_lt (lt_of hs)) hJ (fun j' s' h1 h2 => hr _ (K.plan.eff j s hs hc j' s' h1 h2))
    have hst := K.run.step j s hs
    rw [← stepA_congr hag] at hst
    exact stepA_sound K.ctx K.callS K.yldS hT hrel hst fun ψ x w' h1 h2 h3 => hK _ _ _ _ (K.effect hI hs hc hn hr h1 h2 h3)
  · rcases K.calm hs hc with ⟨hw, hv, hH⟩ | ⟨hw, hop⟩
    · -- it is not wanted
      rw [wantedA_sound hT ((wantedA_congr hag).trans hw)]
      simp only [Bool.false_eq_true, if_false]
      exact ⟨fun _ _ => trivial, hK _ _ _ _ (K.stay hI hs hc hJ hr hH (by rw [hv]; exact .tup .nil))⟩
    · rw [wantedA_sound hT ((wantedA_congr hag).trans hw)]
      simp only [if_true]
      refine ⟨fun _ _ => trivial, ?_⟩
      rw [Oper.semAt_eq _ _ _ (opA_noDefer hop)]
      have hopG := hop
      rw [← opA_congr (fun t ht => hag t (looks_op t ht))] at hopG
      cases hcs : s.c with
      | e => exact absurd hcs hc
      | p =>
        obtain ⟨h1, h2⟩ := cls_p K.ctx (hsm.2.1.symm.trans hcs) hT hopG
        obtain ⟨y, h3, h4⟩ := h1 s.o rfl w
        rw [h3]
        exact hK _ _ _ _ (K.stay hI hs hc hJ hr h2 (h4.mono (Phi.cut_le _ _)))
      | r =>
        obtain ⟨y, h3, h4⟩ := K.reads hI hs hcs hn hr hw
        rw [h3]
        refine hK _ _ _ _ (K.stay hI hs hc hJ hr ?_ h4)
        rcases K.heap hs hc with hh | ⟨hh, _⟩
        · exact hh
        · rw [hcs] at hh; cases hh
      | a =>
        obtain ⟨vf, obj, h1, h2, h3⟩ := cls_a K.ctx (hsm.2.1.symm.trans hcs) hT hopG
        obtain ⟨x, ob, lim, n, h4, h5⟩ := h1 s.o rfl w
        rw [h4]
        have hnew : (φ.cut (H j).next).le (φ.put (H j).next ⟨w.heap.size, 0, lim⟩) := by
          intro i e he
          obtain ⟨k1, k2⟩ := Phi.cut_some.1 he
          rw [Phi.put_ne _ _ (by omega)]
          exact k2
        obtain ⟨h6, h7⟩ := h5 _ (H j).next hnew (Phi.put_same _ _ _)
        rw [← h2] at h6
        exact hK _ _ _ _ (K.make hI hs hc hJ hn hr h3 h6 h7).2

/-- The end. -/
theorem Canon.ends (hI : Inv nt ops l F H v φ0 w0 ds lst J φ a w) (hall : ∀ (j : Nat) s, l[j]? = some s → Lst lst s.i) : TR φ (F l.length) nt a.tmps ∧ Rel φ (H l.length) w := by
  constructor
  · refine ⟨hI.len, ?_⟩
    intro t u hu
    rcases K.slot (Nat.le_refl _) hu with ⟨j', s', h1, h2, h3, h4⟩ | ⟨h1, h2⟩
    · rw [← h4]; exact hI.wr j' s' t h2 (hall j' s' h2) h3
    · exact hI.ini t u (fun j' s' hs' hd _ => h1 j' s' (lt_of hs') hs' hd) h2
  · have := K.relCut hI (Nat.le_refl _) hI.Jle (fun j' s' _ h2 => hall j' s' h2)
    have hcut : φ.cut (H l.length).next = φ := by
      funext i
      unfold Phi.cut
      split
      · rfl
      · rename_i h
        cases he : φ i with
        | none => rfl
        | some e => exact absurd (K.dom_lt hI he) h
    rwa [hcut] at this

theorem Canon.go {r : Option Nat} {Q : Exit → Act → World → Prop}
    (hQ : ∀ ψ a' w', TR ψ (F l.length) nt a'.tmps → a'.defers = ds → Rel ψ (H l.length) w' → Aft φ0 w0 ψ w' → Q .normal a' w') : ∀ (fuel : Nat) (lst : Array Bool) (J : Nat) (φ : Phi) (a : Act) (w : World),
    Inv nt ops l F H v φ0 w0 ds lst J φ a w → lst.toList.count false ≤ fuel → wpAnyIn (FR r) 0 P .any ops Q fuel lst a w := by
  have fin : ∀ (lst : Array Bool) (J : Nat) (φ : Phi) (a : Act) (w : World), Inv nt ops l F H v φ0 w0 ds lst J φ a w → Region.ready .any ops lst = [] → Q .normal a w := by
    intro lst J φ a w hI hnil
    obtain ⟨h1, h2⟩ := K.ends hI (ready_nil K.plan hI.size hnil)
    exact hQ φ a w h1 hI.defers h2 hI.aft
  intro fuel
  induction fuel with
  | zero =>
    intro lst J φ a w hI hc
    have hnil : Region.ready .any ops lst = [] := by
      cases hrd : Region.ready .any ops lst with
      | nil => rfl
      | cons i is =>
        exfalso
        obtain ⟨h1, h2, _⟩ := ready_spec hI.size (i := i) (by rw [hrd]; simp) hI.down
        have hlt : i < lst.size := by rw [hI.size]; exact h1
        have hmem : false ∈ lst.toList := by
          have hx : lst[i]? = some lst[i] := by simp [hlt]
          cases hb : lst[i] with
          | true => exact absurd (by unfold Lst; rw [hx, hb]) h2
          | false => rw [← hb]; simp
        have := List.count_pos_iff.2 hmem
        omega
    exact ⟨hnil, fin lst J φ a w hI hnil⟩
  | succ fuel ih =>
    intro lst J φ a w hI hc
    refine ⟨fun hnil => fin lst J φ a w hI hnil, ?_⟩
    intro i hi
    obtain ⟨h1, h2, h3⟩ := ready_spec hI.size hi hI.down
    obtain ⟨j, s, hs, rfl⟩ := K.plan.all i h1
    refine K.take hI hs h2 h3 fun J' φ' a' w' hI' => ih _ J' φ' a' w' hI' ?_
    have hlt : s.i < lst.size := by rw [hI.size]; exact h1
    have hb : lst[s.i] = false := by
      cases hb : lst[s.i] with
      | true => exact absurd (by unfold Lst; simp [hlt, hb]) h2
      | false => rfl
    have hset : (lst.setIfInBounds s.i true).toList.count false + 1 = lst.toList.count false := by
      rw [Array.toList_setIfInBounds, List.count_set (by simpa using hlt)]
      have hb' : lst.toList[s.i]'(by simpa using hlt) = false := by simpa using hb
      have hpos : 0 < lst.toList.count false := List.count_pos_iff.2 (by rw [← hb']; simp)
      rw [hb', if_pos (by rfl), if_neg (by decide)]
      omega
    omega
end

/-- **A region that draws its order.** -/
theorem drawS {P : Program} {C : Ctx} (hC : CtxOK C P) : DrawS P C := by
  intro call yld hcall hyld ops p hp nt φ r F0 H0 F' H' a w hd hT hr Q hQ
  obtain ⟨F, H, v, S, I, hrun, rfl, rfl, hS, hI0, rfl, rfl⟩ := drawA_run p _ _ _ _ hd
  have K : Canon P C call yld nt ops p F H v S I := ⟨hC, hcall, hyld, plan_ok hp, hrun, ghost_run hC hcall hyld hrun ⟨φ, a.tmps, w, hT, hr⟩, hS, hI0⟩
  refine K.go (φ0 := φ) (w0 := w) (ds := a.defers) hQ ops.size _ 0 φ a w ?_ ?_
  · have hno : ∀ i, ¬ Lst (Array.replicate ops.size false) i := by
      intro i h
      unfold Lst at h
      rw [Array.getElem?_replicate] at h
      split at h <;> simp at h
    have hnf : ∀ j, ¬ Flt p H 0 (Array.replicate ops.size false) j := fun j h => hno _ h.2.1.choose_spec.2
    have hKO : ∀ i o, KO p H 0 (Array.replicate ops.size false) i o → (H 0).get i = some o := by
      rintro i o (h | ⟨j, h, _⟩)
      · exact h
      · exact absurd h (hnf j)
    exact ⟨by simp, fun i h => absurd h (hno i), Nat.zero_le _, .inl rfl, fun j s h => absurd h (Nat.not_lt_zero _), fun j s _ _ h => absurd h (hno _), hT.1, fun j s t _ h => absurd h (hno _),
      fun t u _ hu => hT.2 t u hu, fun i o h => hr.obj i o (hKO i o h), fun i i' o o' e e' hne h h' => hr.sep i i' o o' e e' hne (hKO _ _ h) (hKO _ _ h'), fun i e he => ⟨.inl (hr.dom i e he).1, (hr.dom i e he).2⟩,
      fun j e h => absurd h (hnf j), Aft.refl φ w, rfl⟩
  · simp
end Go.Abs
