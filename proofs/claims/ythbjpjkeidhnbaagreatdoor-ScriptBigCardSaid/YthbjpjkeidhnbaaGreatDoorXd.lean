/-
  One operation of a region; a region in the order of the text.
  Control flow, calls.
  Rounds, ranges over functions, all code.
  A range over a function; all code; the executor.
-/
import Derived.Test.YthbjpjkeidhnbaaGreatDoorXc
set_option linter.all false
namespace Go.Abs
open Go

def FR (r : Option Nat) : Fence := { Fence.wide with round := r }

/-- What a call of f at xs does. -/
def CallOK (P : Program) (φ : Phi) (f : FuncId) (xs : Array Value) (w : World) (v : AV) (H' : Hp) : Prop :=
  ∃ nx w1, (callFunc f xs).run P w = .ok nx w1 ∧
    ((∃ y ψ, nx = .value y ∧ V ψ v y ∧ Rel ψ H' w1 ∧ Aft φ w ψ w1) ∨
     (nx = .enter f xs ∧ w1 = w ∧ ∀ R : Ending → World → Prop, (∀ y ψ w', V ψ v y → Rel ψ H' w' → Aft φ w ψ w' → R (.returned y) w') → CallsIn Fence.wide 0 P f xs w R))

abbrev CallF := FuncId → List AV → Hp → Option (AV × Hp)
abbrev YldF := Nat → List AV → Hp → Option (AV × Hp)

def CallS (P : Program) (call : CallF) : Prop :=
  ∀ f args H v H', call f args H = some (v, H') → ∀ φ w (xs : Array Value), Rel φ H w → VL φ args xs.toList → CallOK P φ f xs w v H'

def YldS (P : Program) (yld : YldF) : Prop :=
  ∀ l args H v H', yld l args H = some (v, H') → ∀ φ w (xs : Array Value) e, Rel φ H w → VL φ args xs.toList → φ l = some e →
    ∃ fn tmps asg body, (Instr.yield e.blk xs).run P w = .ok (.round e.blk fn tmps asg body) w ∧
      ∀ R : Ending → World → Prop, (∀ y ψ w', V ψ v y → Rel ψ H' w' → Aft φ w ψ w' → R (.returned y) w') → RoundIn Fence.wide 0 P e.blk fn tmps asg body w R

theorem putA_TR {φ ψ : Phi} {F F' : T AV} {nt : Nat} {a : Act} {dst : Option Tmp} {v : AV} {x : Value} (hle : φ.le ψ) (hT : TR φ F nt a.tmps) (h : putA nt F dst v = some F') (hv : V ψ v x) :
    TR ψ F' nt (a.put dst x).tmps := by
  unfold putA at h
  cases dst with
  | none =>
    simp only [Option.some.injEq] at h
    subst h
    exact hT.mono hle
  | some d =>
    simp only at h
    split at h
    case h_2 => cases h
    rename_i hd
    have hd := Nat.le_of_ble_eq_true hd
    simp only [Option.some.injEq] at h
    subst h
    refine ⟨by simp [Act.put]; exact hT.1, ?_⟩
    intro t u hu
    rw [get_set] at hu
    simp only [Act.put]
    by_cases ht : t = d
    · subst ht
      rw [if_pos rfl] at hu
      cases hu
      have := hT.1
      exact ⟨x, by rw [Array.getElem?_setIfInBounds_self_of_lt (by omega)], hv⟩
    · rw [if_neg ht] at hu
      obtain ⟨y, hy, hvy⟩ := hT.2 t u hu
      exact ⟨y, by rw [Array.getElem?_setIfInBounds_ne (Ne.symm ht)]; exact hy, hvy.mono hle⟩

theorem put_defers (a : Act) (dst : Option Tmp) (x : Value) : (a.put dst x).defers = a.defers := by cases dst <;> rfl

theorem wantedA_sound {φ : Phi} {F : T AV} {nt : Nat} {a : Act} (hT : TR φ F nt a.tmps) {ops : Array Oper} {o : Oper} {b : Bool} (h : wantedA F ops.toList o = some b) :
    Region.wanted o (yielded ops a.tmps) = b := by
  unfold wantedA at h
  unfold Region.wanted
  split at h
  · rename_i hg
    simp only [Option.some.injEq] at h
    subst h
    simp [hg]
  · rename_i j want hg
    simp only [hg]
    split at h
    case h_2 => cases h
    rename_i p hp
    split at h
    case h_2 => cases h
    rename_i d hd
    have hp' : ops[j]? = some p := by simpa using hp
    split at h
    · rename_i c hc
      simp only [Option.some.injEq] at h
      subst h
      obtain ⟨x, hx, hv⟩ := hT.2 d _ hc
      cases hv
      simp [yielded, hp', hd, hx]
    · rename_i vs hc
      simp only [Option.some.injEq] at h
      subst h
      obtain ⟨x, hx, hv⟩ := hT.2 d _ hc
      cases hv
      simp [yielded, hp', hd, hx]
    · cases h

theorem opA_noDefer {C : Ctx} {F : T AV} {H : Hp} {op : Op} {r : OR} (h : opA C F H op = some r) : ∀ c, op ≠ .defer c := by
  intro c hc
  subst hc
  simp [opA, opA2, opA3] at h

section
variable {P : Program} {C : Ctx} (hC : CtxOK C P) {call : CallF} {yld : YldF} (hcall : CallS P call) (hyld : YldS P yld)
include hC hcall hyld

/-- An operation, run. -/
theorem stepA_sound {φ : Phi} {F : T AV} {nt : Nat} {a : Act} (hT : TR φ F nt a.tmps) {ops : Array Oper} {o : Oper} {H H' : Hp} {v : AV} {w : World} (hr : Rel φ H w) {r : Option Nat}
    (h : stepA C call yld ops.toList F H o = some (v, H')) {K : Act → World → Prop} {Q : Exit → Act → World → Prop}
    (hK : ∀ ψ x w', V ψ v x → Rel ψ H' w' → Aft φ w ψ w' → K (a.put o.dst x) w') :
    if Region.wanted o (yielded ops a.tmps) then o.wpIn (FR r) 0 P a w K Q else (∀ f, o.about P w a.eval = some f → (FR r).fn f) ∧ K (a.put o.dst undef) w := by
  unfold stepA at h
  split at h
  · cases h
  · rename_i hw
    rw [wantedA_sound hT hw]
    simp only [Option.some.injEq, Prod.mk.injEq] at h
    obtain ⟨rfl, rfl⟩ := h
    exact ⟨fun _ _ => trivial, hK φ undef w (.tup .nil) hr (Aft.refl φ w)⟩
  · rename_i hw
    rw [wantedA_sound hT hw]
    refine ⟨fun _ _ => trivial, ?_⟩
    split at h
    · rename_i v' H1 hop
      simp only [Option.some.injEq, Prod.mk.injEq] at h
      obtain ⟨rfl, rfl⟩ := h
      rw [Oper.semAt_eq _ _ _ (opA_noDefer hop)]
      obtain ⟨x, w', ψ, hx, h1, h2, h3⟩ := opA_does hC hT hop o rfl w hr
      rcases hx with hx | ⟨hx, rfl⟩
      · rw [hx]; exact hK ψ x w' h1 h2 h3
      · rw [hx]; exact hK ψ undef w' h1 h2 h3
    · rename_i f args hop
      rw [Oper.semAt_eq _ _ _ (opA_noDefer hop)]
      obtain ⟨xs, hx, hv⟩ := opA_calls hT hop o rfl w
      rw [hx]
      obtain ⟨nx, w1, h1, h2⟩ := hcall f args H v H' h φ w xs hr hv
      rw [h1]
      rcases h2 with ⟨y, ψ, rfl, k1, k2, k3⟩ | ⟨rfl, rfl, k⟩
      · exact hK ψ y w1 k1 k2 k3
      · exact ⟨fun hh => by simp [FR, Fence.wide] at hh, k _ fun y ψ w' k1 k2 k3 => hK ψ y w' k1 k2 k3⟩
    · rename_i l args hop
      rw [Oper.semAt_eq _ _ _ (opA_noDefer hop)]
      obtain ⟨xs, e, he, hx, hv⟩ := opA_ylds hT hop o rfl w
      rw [hx]
      obtain ⟨fn, tmps, asg, body, h1, h2⟩ := hyld l args H v H' h φ w xs e hr hv he
      rw [h1]
      exact ⟨fun hh => by simp [FR, Fence.wide] at hh, h2 _ fun y ψ w' k1 k2 k3 => hK ψ y w' k1 k2 k3⟩
    · cases h

theorem seqA_sound {ops : Array Oper} {nt : Nat} {r : Option Nat} {Q : Exit → Act → World → Prop} : ∀ (os : List Oper) (i : Nat) (F : T AV) (H : Hp) (φ : Phi) (a : Act) (w : World) {F' : T AV} {H' : Hp},
    ops.toList.drop i = os → seqA C call yld nt ops.toList os F H = some (F', H') → TR φ F nt a.tmps → Rel φ H w →
    (∀ ψ a' w', TR ψ F' nt a'.tmps → a'.defers = a.defers → Rel ψ H' w' → Aft φ w ψ w' → Q .normal a' w') → wpOpsIn (FR r) 0 P ops Q (List.range' i os.length) a w := by
  intro os
  induction os with
  | nil =>
    intro i F H φ a w F' H' _ h hT hr hQ
    simp only [seqA, Option.some.injEq, Prod.mk.injEq] at h
    obtain ⟨rfl, rfl⟩ := h
    exact hQ φ a w hT rfl hr (Aft.refl φ w)
  | cons o os ih =>
    intro i F H φ a w F' H' hd h hT hr hQ
    have hlt : i < ops.size := by
      have : (ops.toList.drop i).length = (o :: os).length := by rw [hd]
      simp at this; omega
    have hoi : ops[i]? = some o := by
      rw [← Array.getElem?_toList, ← List.head?_drop, hd]; rfl
    have hd' : ops.toList.drop (i + 1) = os := by
      rw [← List.tail_drop, hd]; rfl
    simp only [seqA] at h
    split at h
    case h_2 => cases h
    rename_i v H1 hst
    split at h
    case h_2 => cases h
    rename_i F1 hput
    simp only [List.length_cons, List.range'_succ, wpOpsIn, hoi]
    refine stepA_sound hC hcall hyld hT hr hst fun ψ x w' h1 h2 h3 => ?_
    refine ih (i + 1) F1 H1 ψ (a.put o.dst x) w' hd' h (putA_TR h3.le hT hput h1) h2 fun χ a' w'' k1 k2 k3 k4 => ?_
    exact hQ χ a' w'' k1 (k2.trans (put_defers a o.dst x)) k3 (h3.trans k4)
end
end Go.Abs

namespace Go.Abs
open Go

/-! ### Loops -/
section
variable {F : Fence} {n : Nat} {P : Program} {Q : Exit → Act → World → Prop} {a : Act} {w : World}

def LoopK (F : Fence) (n : Nat) (P : Program) (c : Code) (Q : Exit → Act → World → Prop) (a : Act) (w : World) : Prop :=
  ∀ (b : Frame) (k : List Item) (cs : List Frame), b.roundOf = F.round → F.fn b.fn → F.room (cs.length + 1 + n) →
    ∃ e a' w', Q e a' w' ∧ ArrivesIn (Machine.fenced P F) P (lone (b.atR a (.code c :: .inLoop c :: k)) cs w) b k cs e a' w'

theorem loopK_of {c : Code} (h : c.wpIn F n P (Exit.then (LoopK F n P c Q) Q) a w) : LoopK F n P c Q a w := by
  intro b k cs hro hb hr
  obtain ⟨e, a₁, w₁, hq, harr⟩ := h b (.inLoop c :: k) cs hro hb hr
  cases e with
  | normal =>
    obtain ⟨e₂, a₂, w₂, hq₂, harr₂⟩ := hq b k cs hro hb hr
    exact ⟨e₂, a₂, w₂, hq₂, .of_steps (StepsIn.trans harr (.one (fenced_calm hb hr rfl) stepR_inLoop)) harr₂⟩
  | exit id => exact ⟨_, a₁, w₁, hq, .pass (x := .inLoop c) rfl (fun _ _ => .inl (by simp)) harr⟩
  | goto l => exact ⟨_, a₁, w₁, hq, .pass (x := .inLoop c) rfl (fun _ _ => .inl (by simp)) harr⟩
  | ret => exact ⟨_, a₁, w₁, hq, .pass (x := .inLoop c) rfl (fun _ _ => .inl (by simp)) harr⟩
  | panic ch => exact ⟨_, a₁, w₁, hq, .pass (x := .inLoop c) rfl (fun _ _ => .inl (by simp)) harr⟩
  | outgrown => exact ⟨_, a₁, w₁, hq, .pass (x := .inLoop c) rfl (fun _ _ => .inl (by simp)) harr⟩

theorem wpIn_of_loopK {c : Code} (h : LoopK F n P c Q a w) : (Code.loop c).wpIn F n P Q a w := by
  intro b k cs hro hb hr
  obtain ⟨e, a', w', hq, harr⟩ := h b k cs hro hb hr
  exact ⟨e, a', w', hq, .of_steps (.one (fenced_calm hb hr rfl) stepR_loop) harr⟩
end

/-! ### Frames -/
inductive MkR (φ : Phi) : List Nat → List Deferred → Prop
  | nil : MkR φ [] []
  | cons {r : Nat} {rs : List Nat} {e : Ent} {ds : List Deferred} (h : φ r = some e) (h' : MkR φ rs ds) : MkR φ (r :: rs) ({ target := .collected e.blk, args := #[] } :: ds)

theorem MkR.mono {φ ψ : Phi} (hle : φ.le ψ) : ∀ {M : List Nat} {ds : List Deferred}, MkR φ M ds → MkR ψ M ds
  | _, _, .nil => .nil
  | _, _, .cons h h' => .cons (hle _ _ h) (h'.mono hle)

structure SR (φ : Phi) (nt : Nat) (s : St) (a : Act) (w : World) : Prop where
  tmps : TR φ s.F nt a.tmps
  marks : MkR φ s.M a.defers
  rel : Rel φ s.H w

def RdR (φ : Phi) : Option Nat → Option Nat → Prop
  | none, none => True
  | some l, some b => ∃ e, φ l = some e ∧ e.blk = b
  | _, _ => False
theorem RdR.mono {φ ψ : Phi} (hle : φ.le ψ) {rd r : Option Nat} (h : RdR φ rd r) : RdR ψ rd r := by
  cases rd <;> cases r <;> first | exact h | exact (let ⟨e, h1, h2⟩ := h; ⟨e, hle _ _ h1, h2⟩)

def exOf : Ex → Exit
  | .normal => .normal
  | .exit i => .exit i
  | .goto l => .goto l
  | .ret => .ret

def ExS (P : Program) (ex : ExF) : Prop :=
  ∀ rd nt c s x s', ex rd nt c s = some (x, s') → ∀ φ r a w, RdR φ rd r → SR φ nt s a w → ∀ Q : Exit → Act → World → Prop,
    (∀ ψ a' w', SR ψ nt s' a' w' → Aft φ w ψ w' → Q (exOf x) a' w') → c.wpIn (FR r) 0 P Q a w ∧ ∀ b, c = .loop b → LoopK (FR r) 0 P b Q a w

/-! ### The end of a function -/
section
variable {P : Program} {C : Ctx} (hC : CtxOK C P)

theorem Rel.shut {φ : Phi} {H : Hp} {w : World} (h : Rel φ H w) {b : Nat} {o : AO} {e : Ent} (hb : H.get b = some o) (he : φ b = some e) (ob : Obj) :
    Rel φ (H.kill b) (putB w e.blk ob) ∧ Aft φ w φ (putB w e.blk ob) := by
  refine ⟨⟨?_, (h.kill b).sep, ?_⟩, ⟨Phi.le_refl φ, by rw [putB_size]; exact Nat.le_refl _, fun i e h => .inl ⟨i, e, h, rfl⟩, ?_, rfl, rfl, rfl, Nat.le_refl _⟩⟩
  · intro i o' hi
    rw [Hp.get_kill] at hi
    split at hi
    · cases hi
    · rename_i hib
      obtain ⟨ei, obi, hei, hobi, hri⟩ := h.obj i o' hi
      exact ⟨ei, obi, hei, by rw [putB_ne _ _ (h.sep i b o' o ei e hib hi hb hei he)]; exact hobi, hri⟩
  · intro i e' he'
    rw [putB_size, Hp.next_kill]
    exact h.dom i e' he'
  · intro c hc hn
    exact putB_ne w ob (fun hcb => hn b e he hcb.symm)

theorem setObj_run {w : World} {r : Nat} {ob o : Obj} (h : w.heap[r]? = some o) (hn : ∀ c e f, o ≠ .cells c e f := by simp) : (setObj r ob).run P w = .ok () (putB w r ob) := by
  simp only [setObj, Sem.run, h]
  cases o <;> first | exact absurd rfl (hn _ _ _) | rfl

include hC
theorem resA_sound {φ : Phi} {H : Hp} {w : World} (hr : Rel φ H w) {F : T AV} {nt : Nat} {tmps : Array Value} (hT : TR φ F nt tmps) : ∀ (rs : List ResultVar) (vs : List AV), resA C H F rs = some vs →
    ∃ xs : List Value, (rs.mapM (m := Sem) fun | .tmp t => pure (tmps.getD t undef) | .cell a t => do loadVar t (← asAddr (tmps.getD a undef))).run P w = .ok xs w ∧ VL φ vs xs
  | [], vs, h => by
    simp only [resA, Option.some.injEq] at h
    subst h
    exact ⟨[], rfl, .nil⟩
  | .tmp t :: rs, vs, h => by
    simp only [resA] at h
    split at h
    case h_2 => cases h
    rename_i v hv
    split at h
    case h_2 => cases h
    rename_i us hus
    simp only [Option.some.injEq] at h
    subst h
    obtain ⟨xs, h1, h2⟩ := resA_sound hr hT rs us hus
    refine ⟨tmps.getD t undef :: xs, ?_, .cons (hT.get hv) h2⟩
    rw [List.mapM_cons]
    simp only [Sem.run_bind, Sem.run_pure, Result.andThen_ok]
    rw [h1]
    rfl
  | .cell a t :: rs, vs, h => by
    simp only [resA] at h
    split at h
    case h_2 => cases h
    rename_i b o hb
    split at h
    case h_2 => cases h
    rename_i ti hti
    split at h
    case h_2 => cases h
    rename_i v hv
    split at h
    case h_2 => cases h
    rename_i us hus
    simp only [Option.some.injEq] at h
    subst h
    obtain ⟨xs, h1, h2⟩ := resA_sound hr hT rs us hus
    have vp := hT.get hb
    generalize hu : tmps.getD a undef = u at vp
    cases vp with
    | @ptr _ _ en he =>
    obtain ⟨y, h3, h4⟩ := loadA_sound (P := P) hC hr hti hv he
    refine ⟨y :: xs, ?_, .cons h4 h2⟩
    rw [List.mapM_cons]
    have hA : asAddr (tmps.getD a undef) = pure ⟨en.blk, en.base + o, none⟩ := by rw [hu]; rfl
    simp only [Sem.run_bind, hA, Sem.run_pure, Result.andThen_ok, h3]
    rw [h1]
    rfl

theorem endA_sound {fn : Func} {tmps : Array Value} {F : T AV} {nt : Nat} {R : Ending → World → Prop} : ∀ (M : List Nat) (ds : List Deferred) (H : Hp) (w : World) (φ : Phi) {v : AV} {H' : Hp}, MkR φ M ds → TR φ F nt tmps → Rel φ H w →
    endA C ⟨F, M, H⟩ fn.results.toList = some (v, H') → (∀ y w', V φ v y → Rel φ H' w' → Aft φ w φ w' → R (.returned y) w') → LeavesInM Fence.wide 0 P fn tmps R ds .returning w
  | [], _, H, w, φ, v, H', .nil, hT, hr, h, hR => by
    simp only [endA, takeMarks] at h
    split at h
    case h_2 => cases h
    rename_i vs hvs
    simp only [Option.some.injEq, Prod.mk.injEq] at h
    obtain ⟨rfl, rfl⟩ := h
    obtain ⟨xs, h1, h2⟩ := resA_sound hC hr hT _ _ hvs
    have hm : (results fn tmps).run P w = .ok (if h : xs.toArray.size = 1 then xs.toArray[0] else .tuple xs.toArray) w := by
      simp only [results, Sem.run_bind]
      rw [Array.mapM_eq_mapM_toList, Sem.run_map]
      erw [h1]
      rfl
    refine ⟨_, hm, hR _ w ?_ hr (Aft.refl φ w)⟩
    cases h2 with
    | nil => exact .tup .nil
    | cons k1 k2 =>
      cases k2 with
      | nil => exact k1
      | cons k3 k4 => exact .tup (.cons k1 (.cons k3 k4))
  | r :: M, _, H, w, φ, v, H', .cons (e := e) (ds := ds) he hm, hT, hr, h, hR => by
    simp only [endA, takeMarks] at h
    cases hg : H.get r with
    | none => simp [hg] at h
    | some o =>
    cases o <;> simp only [hg] at h <;> first | (cases h; done) | skip
    obtain ⟨e2, ob, he2, hob, hor⟩ := hr.obj _ _ hg
    rw [he] at he2
    cases he2
    cases hor
    have hlt := (hr.dom _ _ he).2
    obtain ⟨r1, r2⟩ := hr.shut hg he (.deferred none)
    refine ⟨by simp, .inl ⟨e.blk, putB w e.blk (.deferred none), rfl, ?_, ?_⟩⟩
    · simp only [Instr.takeDeferred, Sem.run_bind, run_getObjAt hob, Result.andThen_ok, setObj_run hob, Sem.run_pure]
    · exact endA_sound M ds (H.kill r) _ φ hm hT r1 (by simpa only [endA] using h) fun y w' k1 k2 k3 => hR y w' k1 k2 (r2.trans k3)

omit hC in
theorem argsA_get : ∀ (vs : List AV) (t : T AV) (i j : Nat), (argsA t i vs).get j = if i ≤ j ∧ j < i + vs.length then vs[j - i]? else t.get j := by
  intro vs
  induction vs with
  | nil => intro t i j; simp only [argsA, List.length_nil]; rw [if_neg (by omega)]
  | cons v vs ih =>
    intro t i j
    simp only [argsA, List.length_cons]
    rw [ih, get_set]
    by_cases h1 : i + 1 ≤ j ∧ j < i + 1 + vs.length
    · rw [if_pos h1, if_pos (by omega)]
      rw [show j - i = (j - (i + 1)) + 1 from by omega]
      simp
    · rw [if_neg h1]
      by_cases h2 : j = i
      · subst h2
        rw [if_pos rfl, if_pos (by omega)]
        simp
      · rw [if_neg h2, if_neg (by omega)]

theorem callC_sound {ex : ExF} (hex : ExS P ex) {f : FuncId} {args : List AV} {H H' : Hp} {v : AV} (h : callC C ex f args H = some (v, H')) {φ : Phi} {w : World} {xs : Array Value} (hr : Rel φ H w)
    (hv : VL φ args xs.toList) : (callFunc f xs).run P w = .ok (.enter f xs) w ∧
      ∀ R : Ending → World → Prop, (∀ y ψ w', V ψ v y → Rel ψ H' w' → Aft φ w ψ w' → R (.returned y) w') → CallsIn Fence.wide 0 P f xs w R := by
  unfold callC at h
  split at h
  case h_2 => cases h
  rename_i af haf
  split at h
  case h_2 => cases h
  rename_i hle
  have hle := Nat.le_of_ble_eq_true hle
  obtain ⟨fn, hfn, hb, hnt, hres, hname⟩ := hC.fn f af haf
  refine ⟨?_, ?_⟩
  · have hname' : (fn.name == "runtime.NumGoroutine") = false := by simpa using hname
    simp only [callFunc, Sem.run_bind, run_program, Result.andThen_ok, hfn, hname', hb, Option.isNone_some, Bool.false_eq_true, if_false, Sem.run_pure]
  intro R hR
  have hlen : args.length = xs.size := hv.size
  refine callsIn_of_wp_marks hfn hb trivial ?_
  unfold callR at h
  split at h
  case h_2 => cases h
  rename_i x s' hex'
  have hT0 : TR φ (argsA .lf 0 args) af.ntmps (xs ++ Array.replicate (fn.ntmps - xs.size) undef) := by
    refine ⟨by simp; omega, ?_⟩
    intro t u hu
    rw [argsA_get] at hu
    split at hu
    · rename_i ht
      obtain ⟨y, hy, hvy⟩ := hv.cell (by simpa using hu)
      refine ⟨y, ?_, hvy⟩
      rw [Array.getElem?_append_left (by omega)]
      exact hy
    · exact absurd hu (by show ¬ (T.lf : T AV).get t = some u; intro hh; cases hh)
  have key : ∀ x0, exOf x0 = exOf x → (x0 = .normal ∨ x0 = .ret) → endA C s' af.results = some (v, H') → af.body.wpIn Fence.wide 0 P (bodyPostM Fence.wide 0 P fn R) { tmps := xs ++ Array.replicate (fn.ntmps - xs.size) undef, defers := [] } w := by
    intro x0 hx0 hx1 hend
    refine (hex none af.ntmps af.body _ x s' hex' φ none _ w trivial ⟨hT0, .nil, hr⟩ _ ?_).1
    intro ψ a' w' hs ha
    obtain ⟨k1, k2, k3⟩ := hs
    have : LeavesInM Fence.wide 0 P fn a'.tmps R a'.defers .returning w' := by
      refine endA_sound hC s'.M a'.defers s'.H w' ψ k2 k1 k3 (by rw [hres]; exact hend) ?_
      intro y w2 g1 g2 g3
      exact hR y ψ w2 g1 g2 (ha.trans g3)
    rw [← hx0]
    rcases hx1 with rfl | rfl
    · exact this
    · exact this
  split at h
  · exact key .normal rfl (.inl rfl) h
  · exact key .ret rfl (.inr rfl) h
  · cases h

def SumS (P : Program) (C : Ctx) : Prop := ∀ f g, C.sum.get f = some g → CallS P (fun f' args H => if f' = f then g args H else none)

theorem callA_sound {ex : ExF} (hex : ExS P ex) (hsum : SumS P C) : CallS P (callA C ex) := by
  have hcc : ∀ f args H v H', callC C ex f args H = some (v, H') → ∀ φ w (xs : Array Value), Rel φ H w → VL φ args xs.toList → CallOK P φ f xs w v H' := by
    intro f args H v H' h φ w xs hr hv
    obtain ⟨h1, h2⟩ := callC_sound hC hex h hr hv
    exact ⟨_, _, h1, .inr ⟨rfl, rfl, h2⟩⟩
  intro f args H v H' h φ w xs hr hv
  unfold callA at h
  split at h
  · rename_i g hg
    split at h
    · rename_i r hgr
      simp only [Option.some.injEq] at h
      subst h
      exact hsum f g hg f args H v H' (by simp [hgr]) φ w xs hr hv
    · exact hcc f args H v H' h φ w xs hr hv
  · exact hcc f args H v H' h φ w xs hr hv
end
end Go.Abs

namespace Go.Abs
open Go

section
variable {P : Program} {C : Ctx} (hC : CtxOK C P)

theorem bindPs_TR {φ : Phi} {nt : Nat} : ∀ (ps : List Tmp) (args : List AV) (xs : List Value) (F F1 : T AV) (tmps : Array Value), bindPs nt F ps args = some F1 → VL φ args xs → TR φ F nt tmps →
    TR φ F1 nt ((ps.zip xs).foldl (fun tmps (t, a) => tmps.setIfInBounds t a) tmps) ∧ ps.length = args.length
  | [], [], _, F, F1, tmps, h, .nil, hT => by
    simp only [bindPs, Option.some.injEq] at h
    subst h
    exact ⟨hT, rfl⟩
  | [], _ :: _, _, F, F1, tmps, h, _, hT => by simp [bindPs] at h
  | _ :: _, [], _, F, F1, tmps, h, _, hT => by simp [bindPs] at h
  | p :: ps, v :: vs, _, F, F1, tmps, h, .cons (v := x) (vs := xs) h1 h2, hT => by
    simp only [bindPs] at h
    split at h
    case h_2 => cases h
    rename_i hp
    have hT' : TR φ (F.set p v) nt (tmps.setIfInBounds p x) := by
      have := putA_TR (a := ⟨tmps, []⟩) (dst := some p) (F' := F.set p v) (Phi.le_refl φ) hT (by simp [putA, hp]) h1
      simpa [Act.put] using this
    obtain ⟨k1, k2⟩ := bindPs_TR ps vs xs (F.set p v) F1 (tmps.setIfInBounds p x) h h2 hT'
    exact ⟨k1, by simp [k2]⟩

theorem run_getLoop {w : World} {r : Nat} {L : Loop} (h : w.heap[r]? = some (.loop L)) : (Instr.getLoop r).run P w = .ok L w := by
  simp only [Instr.getLoop, Sem.run_bind, run_getObjAt h, Result.andThen_ok, Sem.run_pure]

theorem setLoop_run {w : World} {r : Nat} {L : Loop} (ob : Obj) (h : w.heap[r]? = some (.loop L)) : (setObj r ob).run P w = .ok () (putB w r ob) := setObj_run h

theorem yldEnd_sound {φ ψ : Phi} {l : Nat} {e : Ent} {x : Ex} {H H' : Hp} {v : AV} {a : Act} {w0 w : World} {R : Ending → World → Prop} (he : ψ l = some e) (hr : Rel ψ H w) (ha : Aft φ w0 ψ w)
    (h : yldEnd l x H = some (v, H')) (hR : ∀ y ψ w', V ψ v y → Rel ψ H' w' → Aft φ w0 ψ w' → R (.returned y) w') : roundPost P e.blk R (exOf x) a w := by
  unfold yldEnd at h
  split at h
  case h_2 => cases h
  rename_i j hj
  split at h
  case h_2 => cases h
  rename_i F0 nt ps asg body st pend hg
  obtain ⟨e2, ob, he2, hob, hor⟩ := hr.obj _ _ hg
  rw [he] at he2
  cases he2
  cases hor with
  | @loop _ _ L ht =>
  have hend : ∀ jump, (Instr.endRound e.blk jump).run P w = .ok (.bool jump.isNone) (putB w e.blk (.loop { L with state := if jump.isNone then .ready else .done, pending := jump })) := by
    intro jump
    simp only [Instr.endRound, Sem.run_bind, run_getLoop hob, Result.andThen_ok, setLoop_run _ hob, Sem.run_pure]
  have fin : ∀ jump, j = jump → ∃ v w', (Instr.endRound e.blk jump).run P w = .ok v w' ∧ R (.returned v) w' := by
    intro jump hjj
    subst hjj
    refine ⟨_, _, hend _, ?_⟩
    cases j with
    | none =>
      simp only [Option.some.injEq, Prod.mk.injEq] at h
      obtain ⟨rfl, rfl⟩ := h
      obtain ⟨r1, r2⟩ := hr.set hg he (ObR.loop (L := { L with state := .ready, pending := none }) ht)
      exact hR _ ψ _ (.bool true) r1 (ha.trans r2)
    | some c =>
      simp only [Option.some.injEq, Prod.mk.injEq] at h
      obtain ⟨rfl, rfl⟩ := h
      obtain ⟨r1, r2⟩ := hr.set hg he (ObR.loop (L := { L with state := .done, pending := some c }) ht)
      exact hR _ ψ _ (.bool false) r1 (ha.trans r2)
  cases x with
  | normal => simp only [jumpOf, Option.some.injEq] at hj; exact fin none hj.symm
  | exit i => simp only [jumpOf, Option.some.injEq] at hj; exact fin _ hj.symm
  | ret => simp only [jumpOf, Option.some.injEq] at hj; exact fin _ hj.symm
  | goto i => simp [jumpOf] at hj

theorem yldA_sound {ex : ExF} (hex : ExS P ex) : YldS P (yldA ex) := by
  intro l args H v H' h φ w xs e hr hv he
  unfold yldA at h
  split at h
  case h_2 => cases h
  rename_i F0 nt ps asg body st pend hg
  obtain ⟨e2, ob, he2, hob, hor⟩ := hr.obj _ _ hg
  rw [he] at he2
  cases he2
  cases hor with
  | @loop _ _ L ht =>
  split at h
  case h_2 => cases h
  rename_i F1 hbind
  split at h
  case h_2 => cases h
  rename_i F2 H2 hasg
  split at h
  case h_2 => cases h
  rename_i F0' nt' ps' asg' body' pend' hg2
  split at h
  case h_2 => cases h
  rename_i x F4 H4 hbody
  obtain ⟨hT1, hlen⟩ := bindPs_TR _ _ _ _ _ L.tmps hbind hv ht
  have hsz : xs.size = L.params.size := by
    rw [← hv.size, ← hlen]; simp
  refine ⟨L.fn, (L.params.zip xs).foldl (fun tmps (t, a) => tmps.setIfInBounds t a) L.tmps, L.assign, L.body, ?_, ?_⟩
  · have : ¬ xs.size ≠ L.params.size := by omega
    simp only [Instr.yield, Sem.run_bind, run_getLoop hob, Result.andThen_ok, if_neg this, Sem.run_pure]
  intro R hR
  refine roundIn_of_wpIn trivial ?_
  refine (hex (some l) nt L.assign _ .normal _ hasg φ (some e.blk) _ w ⟨e, he, rfl⟩ ⟨?_, .nil, hr⟩ _ ?_).1
  · show TR φ F1 nt ((L.params.zip xs).foldl _ L.tmps)
    rw [← Array.foldl_toList, Array.toList_zip]
    exact hT1
  intro ψ a1 w1 hs ha
  obtain ⟨k1, k2, k3⟩ := hs
  have he1 := ha.le _ _ he
  obtain ⟨e3, ob3, he3, hob3, hor3⟩ := k3.obj _ _ hg2
  rw [he1] at he3
  cases he3
  generalize hst : LoopState.ready = st3 at hor3
  cases hor3 with
  | @loop _ _ L2 ht2 =>
  obtain ⟨r1, r2⟩ := k3.set hg2 he1 (ObR.loop (L := { L2 with state := .busy }) ht2)
  refine ⟨putB w1 e.blk (.loop { L2 with state := .busy }), ?_, ?_⟩
  · simp only [Instr.beginRound, Sem.run_bind, run_getLoop hob3, Result.andThen_ok, setLoop_run _ hob3, ← hst, Sem.run_pure]
  · refine (hex (some l) nt L.body _ x _ hbody ψ (some e.blk) _ _ ⟨e, he1, rfl⟩ ⟨k1, k2, r1⟩ _ ?_).1
    intro χ a2 w2 hs2 ha2
    exact yldEnd_sound (ha2.le _ _ he1) hs2.rel ((ha.trans r2).trans ha2) h hR
end
end Go.Abs

namespace Go.Abs
open Go

def DrawS (P : Program) (C : Ctx) : Prop :=
  ∀ call yld, CallS P call → YldS P yld → ∀ (ops : Array Oper) p, plan C ops = some p → ∀ nt φ r F H F' H' a w, drawA C call yld nt ops.toList p [(ops.size, H)] ⟨.lf, 0⟩ F H = some (F', H') →
    TR φ F nt a.tmps → Rel φ H w → ∀ Q : Exit → Act → World → Prop, (∀ ψ a' w', TR ψ F' nt a'.tmps → a'.defers = a.defers → Rel ψ H' w' → Aft φ w ψ w' → Q .normal a' w') →
    wpAnyIn (FR r) 0 P .any ops Q ops.size (Array.replicate ops.size false) a w

section
variable {P : Program} {C : Ctx} (hC : CtxOK C P)

theorem xRangeEnd_sound {ex : ExF} (hex : ExS P ex) {rd r : Option Nat} {nt : Nat} {F : T AV} {M : List Nat} {l : Nat} {H2 : Hp} {x : Ex} {s' : St} (h : xRangeEnd ex rd nt F M l H2 = some (x, s'))
    {φ ψ : Phi} {e : Ent} {a : Act} {w0 w : World} (hrd : RdR ψ rd r) (he : ψ l = some e) (hT : TR ψ F nt a.tmps) (hM : MkR ψ M a.defers) (hr : Rel ψ H2 w) (ha : Aft φ w0 ψ w)
    {Q : Exit → Act → World → Prop} (hQ : ∀ χ a' w', SR χ nt s' a' w' → Aft φ w0 χ w' → Q (exOf x) a' w') :
    ∃ jump w₄, (Instr.endLoop e.blk).run P w = .ok jump w₄ ∧ (match jump with | none => Q .normal a w₄ | some c => c.wpIn (FR r) 0 P Q a w₄) := by
  unfold xRangeEnd at h
  split at h
  case h_2 => cases h
  rename_i F0 nt0 ps0 asg0 body0 st pend hg
  obtain ⟨e2, ob, he2, hob, hor⟩ := hr.obj _ _ hg
  rw [he] at he2
  cases he2
  cases hor with
  | @loop _ _ L ht =>
  split at h
  · cases h
  rename_i hnb
  have hnb' : (L.state == LoopState.busy) = false := by
    cases hs : L.state <;> first | rfl | exact absurd hs hnb
  have hend : (Instr.endLoop e.blk).run P w = .ok L.pending (putB w e.blk (.loop { L with state := .exhausted })) := by
    simp only [Instr.endLoop, Sem.run_bind, run_getLoop hob, Result.andThen_ok, hnb', setLoop_run _ hob, Sem.run_pure, Bool.false_eq_true, if_false]
  obtain ⟨r1, r2⟩ := hr.shut hg he (.loop { L with state := .exhausted })
  refine ⟨_, _, hend, ?_⟩
  split at h
  · rename_i hp
    simp only [Option.some.injEq, Prod.mk.injEq] at h
    obtain ⟨rfl, rfl⟩ := h
    simp only [hp] at r1
    simp only [hp]
    exact hQ ψ a _ ⟨hT, hM, by simpa [hp] using r1⟩ (by simpa [hp] using ha.trans r2)
  · rename_i c hp
    simp only [hp] at r1
    simp only [hp]
    refine (hex rd nt c _ x s' h ψ r a _ hrd ⟨hT, hM, by simpa [hp] using r1⟩ Q ?_).1
    intro χ a' w' hs ha'
    exact hQ χ a' w' hs (ha.trans (Aft.trans (by simpa [hp] using r2) ha'))

include hC
theorem xRange_sound {ex : ExF} (hex : ExS P ex) {rd r : Option Nat} {nt : Nat} {f : Operand} {ps : Array Tmp} {asg body : Code} {s : St} {x : Ex} {s' : St} (h : xRange C ex rd nt f ps asg body s = some (x, s'))
    {φ : Phi} {a : Act} {w : World} (hrd : RdR φ rd r) (hs : SR φ nt s a w) {Q : Exit → Act → World → Prop} (hQ : ∀ ψ a' w', SR ψ nt s' a' w' → Aft φ w ψ w' → Q (exOf x) a' w') :
    (Code.rangeFunc f ps asg body).wpIn (FR r) 0 P Q a w := by
  obtain ⟨hT, hM, hr⟩ := hs
  unfold xRange at h
  split at h
  case h_2 => cases h
  rename_i g first cap hf
  have vf := ev_sound hT hf
  generalize hu : a.eval f = u at vf
  cases vf with
  | @fn _ _ _ xf xc h1 h2 =>
  have hres : ∀ l w, (resolve a.eval (rangeCall f l) 0).run P w = .ok { target := .fn (.func g) xc, args := xf ++ #[.func (.yield l) #[] #[]] } w := by
    intro l w
    have hev : a.eval (.const (.func (.yield l) #[] #[])) = .func (.yield l) #[] #[] := rfl
    simp [resolve, hu, Deferred.ofValue, hev]
  apply wpIn_rangeFunc
  intro fn _
  split at h
  · -- in a round
    rename_i l0
    split at h
    case h_2 => cases h
    rename_i F0 nt0 ps0 asg0 body0 st0 pend0 hg0
    split at h
    case h_2 => cases h
    rename_i v H2 hcall
    cases r with
    | none => exact hrd.elim
    | some b =>
    obtain ⟨e0, he0, rfl⟩ := hrd
    obtain ⟨e2, ob, he2, hob, hor⟩ := hr.obj _ _ hg0
    rw [he0] at he2
    cases he2
    cases hor with
    | @loop _ _ L0 ht0 =>
    let L : Loop := { state := .ready, pending := none, fn := fn, tmps := a.tmps, params := ps, assign := asg, body := body, defers := L0.defers }
    let en : Ent := ⟨w.heap.size, 0, 0⟩
    have hle : φ.le (φ.put s.H.next en) := hr.fresh
    obtain ⟨r1, r2⟩ := hr.new (e := en) (o := .loop s.F nt ps.toList asg body .ready none) (ob := .loop L) rfl (ObR.loop (L := L) (hT.mono hle))
    have hen : φ.put s.H.next en s.H.next = some en := Phi.put_same _ _ _
    have hvs : VL (φ.put s.H.next en) (first ++ [.yld s.H.next] ++ cap) (xf ++ #[Value.func (.yield w.heap.size) #[] #[]] ++ xc).toList := by
      have hy : VL (φ.put s.H.next en) [.yld s.H.next] [Value.func (.yield w.heap.size) #[] #[]] := .cons (.yld hen) .nil
      simpa using ((h1.mono hle).append hy).append (h2.mono hle)
    obtain ⟨k1, k2⟩ := callC_sound hC hex hcall r1 hvs
    refine ⟨w.heap.size, [], newB w (.loop L), _, _, g, _, newB w (.loop L), ?_, hres _ _, fun _ _ => trivial, ?_, fun hh => by simp [FR, Fence.wide] at hh, k2 _ ?_⟩
    · simp only [FR, Instr.enterLoop, Sem.run_bind, run_getLoop hob, Result.andThen_ok, Sem.run_pure]
      rfl
    · simp only [invoke]
      exact k1
    · intro y ψ w' g1 g2 g3
      exact xRangeEnd_sound hex h (φ := φ) (w0 := w) (r := some e0.blk) ⟨e0, g3.le _ _ (hle _ _ he0), rfl⟩ (g3.le _ _ hen) (hT.mono (Phi.le_trans hle g3.le)) (by simpa using hM.mono (Phi.le_trans hle g3.le)) g2 (r2.trans g3) hQ
  · -- in a function
    split at h
    case h_2 => cases h
    rename_i v H2 hcall
    cases r with
    | some b => exact hrd.elim
    | none =>
    let e1 : Ent := ⟨w.heap.size, 0, 0⟩
    have hle1 : φ.le (φ.put s.H.next e1) := hr.fresh
    obtain ⟨q1, q2⟩ := hr.new (e := e1) (o := .dfr) (ob := .deferred (some [])) rfl .dfr
    have hsz : (newB w (.deferred (some []))).heap.size = w.heap.size + 1 := newB_size _ _
    let L : Loop := { state := .ready, pending := none, fn := fn, tmps := a.tmps, params := ps, assign := asg, body := body, defers := w.heap.size }
    let en : Ent := ⟨w.heap.size + 1, 0, 0⟩
    have hle2 := q1.fresh (e := en)
    have hle := Phi.le_trans hle1 hle2
    obtain ⟨r1, r2⟩ := q1.new (e := en) (o := .loop s.F nt ps.toList asg body .ready none) (ob := .loop L) hsz.symm (ObR.loop (L := L) (hT.mono hle))
    have hnx : (s.H.new .dfr).next = s.H.next + 1 := Hp.next_new _ _
    rw [hnx] at r1 r2 hle hle2
    have hen : (φ.put s.H.next e1).put (s.H.next + 1) en (s.H.next + 1) = some en := Phi.put_same _ _ _
    have hvs : VL ((φ.put s.H.next e1).put (s.H.next + 1) en) (first ++ [.yld (s.H.next + 1)] ++ cap) (xf ++ #[Value.func (.yield (w.heap.size + 1)) #[] #[]] ++ xc).toList := by
      have hy : VL ((φ.put s.H.next e1).put (s.H.next + 1) en) [.yld (s.H.next + 1)] [Value.func (.yield (w.heap.size + 1)) #[] #[]] := .cons (.yld hen) .nil
      simpa using ((h1.mono hle).append hy).append (h2.mono hle)
    obtain ⟨k1, k2⟩ := callC_sound hC hex hcall r1 hvs
    refine ⟨w.heap.size + 1, [{ target := .collected w.heap.size, args := #[] }], newB (newB w (.deferred (some []))) (.loop L), _, _, g, _, _, ?_, hres _ _, fun _ _ => trivial, ?_, fun hh => by simp [FR, Fence.wide] at hh, k2 _ ?_⟩
    · simp only [FR, Fence.wide, Instr.enterLoop, Sem.run_bind, newObj, Sem.run, Result.andThen_ok]
      simp [newB, L]
      rfl
    · simp only [invoke]
      exact k1
    · intro y ψ w' g1 g2 g3
      refine xRangeEnd_sound hex h (φ := φ) (a := { a with defers := { target := .collected w.heap.size, args := #[] } :: a.defers }) (w0 := w) (r := none) trivial (g3.le _ _ hen) (hT.mono (Phi.le_trans hle g3.le)) ?_ g2 ((q2.trans r2).trans g3) hQ
      exact .cons (e := e1) (g3.le _ _ (hle2 _ _ (Phi.put_same _ _ _))) (hM.mono (Phi.le_trans hle g3.le))

theorem xSeq_sound {ex : ExF} (hex : ExS P ex) {rd r : Option Nat} {nt : Nat} {c b : Code} {s : St} {x : Ex} {s' : St} (h : xSeq ex rd nt b (ex rd nt c s) = some (x, s'))
    {φ : Phi} {a : Act} {w : World} (hrd : RdR φ rd r) (hs : SR φ nt s a w) {Q : Exit → Act → World → Prop} (hQ : ∀ ψ a' w', SR ψ nt s' a' w' → Aft φ w ψ w' → Q (exOf x) a' w')
    {K : Act → World → Prop} (hK : ∀ ψ s1 a1 w1, RdR ψ rd r → SR ψ nt s1 a1 w1 → Aft φ w ψ w1 → ex rd nt b s1 = some (x, s') → K a1 w1) :
    c.wpIn (FR r) 0 P (Exit.then K Q) a w := by
  unfold xSeq at h
  split at h
  case h_2 => cases h
  rename_i x0 s1 hex1
  split at h
  · refine (hex rd nt c s .normal s1 hex1 φ r a w hrd hs _ ?_).1
    intro ψ a' w' hs' ha
    exact hK ψ s1 a' w' (hrd.mono ha.le) hs' ha h
  · rename_i hne
    simp only [Option.some.injEq, Prod.mk.injEq] at h
    obtain ⟨rfl, rfl⟩ := h
    refine (hex rd nt c s x0 s1 hex1 φ r a w hrd hs _ ?_).1
    intro ψ a' w' hs' ha
    have := hQ ψ a' w' hs' ha
    cases x0 <;> first | exact absurd rfl hne | exact this

theorem execB_sound {ex : ExF} (hex : ExS P ex) (hsum : SumS P C) (hD : DrawS P C) : ExS P (execB C ex) := by
  have hcall := callA_sound hC hex hsum
  have hyld := yldA_sound (P := P) hex
  intro rd nt c s x s' h φ r a w hrd hs Q hQ
  unfold execB at h
  split at h
  · -- skip
    simp only [Option.some.injEq, Prod.mk.injEq] at h
    obtain ⟨rfl, rfl⟩ := h
    exact ⟨wpIn_skip (hQ φ a w hs (Aft.refl φ w)), fun b hb => by cases hb⟩
  · simp only [Option.some.injEq, Prod.mk.injEq] at h
    obtain ⟨rfl, rfl⟩ := h
    exact ⟨wpIn_label (hQ φ a w hs (Aft.refl φ w)), fun b hb => by cases hb⟩
  · -- seq
    refine ⟨wpIn_seq (xSeq_sound hC hex h hrd hs hQ fun ψ s1 a1 w1 k1 k2 k3 k4 => ?_), fun b hb => by cases hb⟩
    exact (hex rd nt _ s1 x s' k4 ψ r a1 w1 k1 k2 Q fun χ a' w' g1 g2 => hQ χ a' w' g1 (k3.trans g2)).1
  · -- cond
    unfold xCond at h
    split at h
    case h_2 => cases h
    rename_i t ht
    have hc := ev_bool hs.tmps ht
    refine ⟨wpIn_cond hc ?_, fun b hb => by cases hb⟩
    split at h
    · exact (hex rd nt _ s x s' h φ r a w hrd hs Q hQ).1
    · exact (hex rd nt _ s x s' h φ r a w hrd hs Q hQ).1
  · -- block
    rename_i id b
    refine ⟨wpIn_block ?_, fun b hb => by cases hb⟩
    unfold xBlock at h
    split at h
    case h_2 => cases h
    rename_i x0 s1 hex1
    refine (hex rd nt b s x0 s1 hex1 φ r a w hrd hs _ ?_).1
    intro ψ a' w' hs' ha
    split at h
    · rename_i i
      split at h
      · rename_i hi
        have hi := Nat.eq_of_beq_eq_true hi
        simp only [Option.some.injEq, Prod.mk.injEq] at h
        obtain ⟨rfl, rfl⟩ := h
        subst hi
        simp only [exOf, Exit.inBlock, if_true]
        exact hQ ψ a' w' hs' ha
      · rename_i hi
        have hi : ¬ i = id := fun hh => by subst hh; simp at hi
        simp only [Option.some.injEq, Prod.mk.injEq] at h
        obtain ⟨rfl, rfl⟩ := h
        simp only [exOf, Exit.inBlock, if_neg hi]
        exact hQ ψ a' w' hs' ha
    · rename_i hne
      simp only [Option.some.injEq, Prod.mk.injEq] at h
      obtain ⟨rfl, rfl⟩ := h
      have := hQ ψ a' w' hs' ha
      cases x0 <;> first | exact absurd rfl (hne _) | exact this
  · -- loop
    rename_i b
    have hk : LoopK (FR r) 0 P b Q a w := by
      refine loopK_of (xSeq_sound hC hex h hrd hs hQ fun ψ s1 a1 w1 k1 k2 k3 k4 => ?_)
      exact (hex rd nt _ s1 x s' k4 ψ r a1 w1 k1 k2 Q fun χ a' w' g1 g2 => hQ χ a' w' g1 (k3.trans g2)).2 b rfl
    exact ⟨wpIn_of_loopK hk, fun b' hb => by cases hb; exact hk⟩
  · simp only [Option.some.injEq, Prod.mk.injEq] at h
    obtain ⟨rfl, rfl⟩ := h
    exact ⟨wpIn_exit (hQ φ a w hs (Aft.refl φ w)), fun b hb => by cases hb⟩
  · simp only [Option.some.injEq, Prod.mk.injEq] at h
    obtain ⟨rfl, rfl⟩ := h
    exact ⟨wpIn_ret (hQ φ a w hs (Aft.refl φ w)), fun b hb => by cases hb⟩
  · -- region
    rename_i id ops d
    refine ⟨?_, fun b hb => by cases hb⟩
    split at h
    · unfold xReg at h
      split at h
      case h_2 => cases h
      rename_i F' H' hseq
      simp only [Option.some.injEq, Prod.mk.injEq] at h
      obtain ⟨rfl, rfl⟩ := h
      refine wpIn_region ?_
      rw [List.range_eq_range', show ops.size = ops.toList.length from Array.length_toList.symm]
      refine seqA_sound hC hcall hyld ops.toList 0 s.F s.H φ a w rfl hseq hs.tmps hs.rel fun ψ a' w' k1 k2 k3 k4 => ?_
      exact hQ ψ a' w' ⟨k1, by rw [k2]; exact hs.marks.mono k4.le, k3⟩ k4
    · unfold xReg at h
      split at h
      case h_2 => cases h
      rename_i F' H' hdr
      simp only [Option.some.injEq, Prod.mk.injEq] at h
      obtain ⟨rfl, rfl⟩ := h
      unfold xDraw at hdr
      split at hdr
      case h_2 => cases hdr
      rename_i p hp
      refine wpIn_region_any hC.mixed ?_
      refine hD _ _ hcall hyld ops p hp nt φ r s.F s.H F' H' a _ hdr hs.tmps (hs.rel.drew _) Q fun ψ a' w' k1 k2 k3 k4 => ?_
      exact hQ ψ a' w' ⟨k1, by rw [k2]; exact hs.marks.mono k4.le, k3⟩ (((Aft.refl φ w).drew (Nat.le_succ _)).trans k4)
  · exact ⟨xRange_sound hC hex h hrd hs hQ, fun b hb => by cases hb⟩
  · cases h

/-- **The executor is sound.** -/
theorem exec_sound (hsum : SumS P C) (hD : DrawS P C) : ∀ n, ExS P (exec C n)
  | 0 => by intro rd nt c s x s' h; cases h
  | n + 1 => execB_sound hC (exec_sound hsum hD n) hsum hD

/-- ... of a call. -/
theorem call_sound (hsum : SumS P C) (hD : DrawS P C) (n : Nat) : CallS P (callA C (exec C n)) := callA_sound hC (exec_sound hC hsum hD n) hsum
end
end Go.Abs
