/-
  Towards regions that draw their order: what an operation looks at.
  Towards regions that draw their order: the classes of the operations; equality; masks.
  Towards regions that draw their order: the classes of the operations.
  Towards regions that draw their order: what reckons, what reads.
  Towards regions that draw their order: what a plan is.
  Towards regions that draw their order: the canonical run.
-/
import Derived.Test.YthbjpjkeidhnbaaGreatDoorXd
set_option linter.all false
namespace Go.Abs
open Go

/-- two frames that agree on slots -/
def Agree (l : List Nat) (F G : T AV) : Prop := ∀ t ∈ l, F.get t = G.get t

theorem Agree.left {l m : List Nat} {F G : T AV} (h : Agree (l ++ m) F G) : Agree l F G := fun t ht => h t (List.mem_append_left _ ht)
theorem Agree.right {l m : List Nat} {F G : T AV} (h : Agree (l ++ m) F G) : Agree m F G := fun t ht => h t (List.mem_append_right _ ht)

theorem slotsO_cons (x : Operand) (l : List Operand) : slotsO (x :: l) = slotsO [x] ++ slotsO l := by
  cases x <;> rfl
theorem slotsO_append : ∀ (l m : List Operand), slotsO (l ++ m) = slotsO l ++ slotsO m
  | [], m => rfl
  | x :: l, m => by rw [List.cons_append, slotsO_cons, slotsO_append l m, slotsO_cons x l, List.append_assoc]

theorem ev_congr {F G : T AV} {x : Operand} (h : Agree (slotsO [x]) F G) : ev F x = ev G x := by
  cases x with
  | tmp t => exact h t (by simp [slotsO])
  | _ => rfl
theorem ev_congr_head {F G : T AV} {x : Operand} {l : List Operand} (h : Agree (slotsO (x :: l)) F G) : ev F x = ev G x := by
  rw [slotsO_cons] at h
  exact ev_congr h.left
theorem agree_tail {F G : T AV} {x : Operand} {l : List Operand} (h : Agree (slotsO (x :: l)) F G) : Agree (slotsO l) F G := by
  rw [slotsO_cons] at h
  exact h.right
theorem evs_congr {F G : T AV} : ∀ {l : List Operand}, Agree (slotsO l) F G → evs F l = evs G l
  | [], _ => rfl
  | x :: l, h => by simp only [evs, ev_congr_head h, evs_congr (agree_tail h)]
theorem evo_congr {F G : T AV} {x : Option Operand} (h : Agree (slotsO (o2l x)) F G) : evo F x = evo G x := by
  cases x with
  | none => rfl
  | some x => simp only [evo, ev_congr h]
theorem parts_congr {F G : T AV} (place : Nat → Option (Nat × Nat)) : ∀ {ps : List (Nat × Operand)} (cs : List AV), Agree (slotsP ps) F G → parts F place cs ps = parts G place cs ps
  | [], cs, _ => rfl
  | (i, x) :: ps, cs, h => by
    have hx : ev F x = ev G x := by
      cases x with
      | tmp t => exact h t (by simp [slotsP])
      | _ => rfl
    have hp : Agree (slotsP ps) F G := by
      intro t ht
      refine h t ?_
      cases x <;> simp [slotsP, ht]
    simp only [parts, hx, parts_congr place _ hp]

section
variable {C : Ctx} {F G : T AV} {H : Hp}

theorem opA_congr {op : Op} (h : Agree (opSlots op) F G) : opA C F H op = opA C G H op := by
  cases op
  case move x =>
    show valO H (ev F x) = valO H (ev G x)
    rw [ev_congr h]
  case assign x =>
    show valO H (ev F x) = valO H (ev G x)
    rw [ev_congr h]
  case pick c a b =>
    show valO H (opPick F c a b) = valO H (opPick G c a b)
    simp only [opPick, ev_congr_head h, ev_congr_head (agree_tail h), ev_congr_head (agree_tail (agree_tail h))]
  case alloc t => rfl
  case box t x =>
    show opBox F H t x = opBox G H t x
    simp only [opBox, ev_congr h]
  case build t ps =>
    show valO H (buildA C F t ps.toList) = valO H (buildA C G t ps.toList)
    simp only [buildA, parts_congr _ _ h]
  case buildSlice t n ps =>
    show opBuildSlice C F H t n ps.toList = opBuildSlice C G H t n ps.toList
    simp only [opBuildSlice, parts_congr _ _ h]
  case load t a =>
    show valO H (opLoad C F H t a) = valO H (opLoad C G H t a)
    simp only [opLoad, ev_congr h]
  case store t a x =>
    show opStore C F H t a x = opStore C G H t a x
    simp only [opStore, ev_congr_head h, ev_congr_head (agree_tail h)]
  case nilCheck x =>
    show valO H (opNilCheck F x) = valO H (opNilCheck G x)
    simp only [opNilCheck, ev_congr h]
  case binOp op t x y yt =>
    show valO H (opBin C F op t x y) = valO H (opBin C G op t x y)
    simp only [opBin, ev_congr_head h, ev_congr_head (agree_tail h)]
  case unOp op t x =>
    show valO H (opUn F op x) = valO H (opUn G op x)
    simp only [opUn, ev_congr h]
  case convert s d x =>
    show valH (opConvert C F H s d x) = valH (opConvert C G H s d x)
    simp only [opConvert, ev_congr h]
  case makeFunc f first cap =>
    show valO H (opMakeFunc F f first.toList cap.toList) = valO H (opMakeFunc G f first.toList cap.toList)
    simp only [opMakeFunc, evs_congr h.left, evs_congr h.right]
  case makeSlice t l c =>
    show opMakeSlice C F H t l c = opMakeSlice C G H t l c
    simp only [opMakeSlice, ev_congr_head h, ev_congr_head (agree_tail h)]
  case slice t x lo hi mx =>
    show valO H (opSlice C F t x lo hi mx) = valO H (opSlice C G t x lo hi mx)
    have h1 : Agree (slotsO (o2l lo ++ (o2l hi ++ o2l mx))) F G := agree_tail h
    rw [slotsO_append, slotsO_append] at h1
    simp only [opSlice, ev_congr_head h, evo_congr h1.left, evo_congr h1.right.left, evo_congr h1.right.right]
  case fieldAddr s x f =>
    show valO H (opFieldAddr C F s x f) = valO H (opFieldAddr C G s x f)
    simp only [opFieldAddr, ev_congr h]
  case field t x f =>
    show valO H (opField C F t x f) = valO H (opField C G t x f)
    simp only [opField, ev_congr h]
  case indexAddr t x i =>
    show valO H (opIndexAddr C F t x i) = valO H (opIndexAddr C G t x i)
    simp only [opIndexAddr, ev_congr_head h, ev_congr_head (agree_tail h)]
  case index t x i =>
    show valO H (opIndex C F t x i) = valO H (opIndex C G t x i)
    simp only [opIndex, ev_congr_head h, ev_congr_head (agree_tail h)]
  case range t x =>
    show opRange C F H t x = opRange C G H t x
    simp only [opRange, ev_congr h]
  case next it s =>
    cases s with
    | true => rfl
    | false =>
      show valO H (opNext F H it) = valO H (opNext G H it)
      simp only [opNext, ev_congr h]
  case extract t ix =>
    show valO H (opExtract F t ix) = valO H (opExtract G t ix)
    simp only [opExtract, ev_congr h]
  case call c =>
    show opCall C F H c = opCall C G H c
    simp only [opCall]
    simp only [opSlots] at h
    split at h
    · rename_i f hf
      simp only [evs_congr (agree_tail h), hf, opValue, ev_congr_head h]
    · rename_i hf
      simp only [evs_congr h]
      split
      · cases hc : c.callee with
        | builtin b => rfl
        | value f => exact absurd hc (hf f)
        | invoke x n => rfl
      · rfl
  case makeMap t r => cases r <;> rfl
  all_goals rfl
end
end Go.Abs

namespace Go.Abs
open Go

mutual
theorem avEq_eq : ∀ (a b : AV), avEq a b = true → a = b
  | .bool a, b, h => by
    cases b <;> simp [avEq] at h
    rw [h]
  | .int k n, b, h => by
    cases b <;> simp [avEq, ikEq_iff, eqI_iff] at h
    rw [h.1, h.2]
  | .str s, b, h => by
    cases b <;> simp [avEq, bytesEq_eq] at h
    rw [h]
  | .rep p c n, b, h => by
    cases b <;> simp [avEq, bytesEq_eq] at h
    obtain ⟨⟨h1, h2⟩, h3⟩ := h
    rw [h1, UInt8.toNat_inj.1 h2, h3]
  | .ptr x y, b, h => by
    cases b <;> simp [avEq] at h
    rw [h.1, h.2]
  | .nilp, b, h => by cases b <;> simp [avEq] at h; rfl
  | .slc x y z u, b, h => by
    cases b <;> simp [avEq] at h
    obtain ⟨⟨⟨h1, h2⟩, h3⟩, h4⟩ := h
    rw [h1, h2, h3, h4]
  | .slo x y z u, b, h => by
    cases b <;> simp [avEq] at h
    obtain ⟨⟨⟨h1, h2⟩, h3⟩, h4⟩ := h
    rw [h1, h2, h3, h4]
  | .emp, b, h => by cases b <;> simp [avEq] at h; rfl
  | .nils, b, h => by cases b <;> simp [avEq] at h; rfl
  | .map r, b, h => by
    cases b <;> simp [avEq] at h
    rw [h]
  | .nilm, b, h => by cases b <;> simp [avEq] at h; rfl
  | .fn f x y, b, h => by
    cases b <;> simp [avEq] at h
    obtain ⟨⟨h1, h2⟩, h3⟩ := h
    rw [h1, avsEq_eq _ _ h2, avsEq_eq _ _ h3]
  | .yld r, b, h => by
    cases b <;> simp [avEq] at h
    rw [h]
  | .nilf, b, h => by cases b <;> simp [avEq] at h; rfl
  | .ifc t v, b, h => by
    cases b <;> simp [avEq] at h
    rw [h.1, avEq_eq _ _ h.2]
  | .nili, b, h => by cases b <;> simp [avEq] at h; rfl
  | .agg cs, b, h => by
    cases b <;> simp [avEq] at h
    rw [avsEq_eq _ _ h]
  | .tup cs, b, h => by
    cases b <;> simp [avEq] at h
    rw [avsEq_eq _ _ h]
  | .any, b, h => by cases b <;> simp [avEq] at h; rfl
theorem avsEq_eq : ∀ (a b : List AV), avsEq a b = true → a = b
  | [], b, h => by cases b <;> simp [avsEq] at h; rfl
  | a :: as, b, h => by
    cases b with
    | nil => simp [avsEq] at h
    | cons b bs =>
      simp only [avsEq, Bool.and_eq_true] at h
      rw [avEq_eq _ _ h.1, avsEq_eq _ _ h.2]
end

/-! ### Masks -/
theorem lor_bit (e : List Edge) (acc : Array Nat) (s j : Nat) :
    (e.foldl (fun s e => if Region.binds .any e then s ||| 2 ^ e.on ||| acc.getD e.on 0 else s) s).testBit j = true →
      s.testBit j = true ∨ ∃ x ∈ e, Region.binds .any x = true ∧ (j = x.on ∨ (acc.getD x.on 0).testBit j = true) := by
  induction e generalizing s with
  | nil => intro h; exact .inl h
  | cons x e ih =>
    intro h
    simp only [List.foldl_cons] at h
    rcases ih _ h with h1 | ⟨y, hy, h1⟩
    · split at h1
      · rename_i hb
        rw [Nat.testBit_or, Nat.testBit_or, Bool.or_eq_true, Bool.or_eq_true] at h1
        rcases h1 with (h1 | h1) | h1
        · exact .inl h1
        · refine .inr ⟨x, by simp, hb, .inl ?_⟩
          rw [Nat.testBit_two_pow] at h1
          simpa using (of_decide_eq_true h1).symm
        · exact .inr ⟨x, by simp, hb, .inr h1⟩
      · exact .inl h1
    · exact .inr ⟨y, by simp [hy], h1⟩

theorem lor_keeps (e : List Edge) (acc : Array Nat) (s j : Nat) (hs : s.testBit j = true) :
    (e.foldl (fun s e => if Region.binds .any e then s ||| 2 ^ e.on ||| acc.getD e.on 0 else s) s).testBit j = true := by
  induction e generalizing s with
  | nil => exact hs
  | cons x e ih =>
    simp only [List.foldl_cons]
    refine ih _ ?_
    split
    · rw [Nat.testBit_or, Nat.testBit_or, hs]; simp
    · exact hs

theorem lor_on (e : List Edge) (acc : Array Nat) (s : Nat) {x : Edge} (hx : x ∈ e) (hb : Region.binds .any x = true) :
    (e.foldl (fun s e => if Region.binds .any e then s ||| 2 ^ e.on ||| acc.getD e.on 0 else s) s).testBit x.on = true := by
  induction e generalizing s with
  | nil => cases hx
  | cons y e ih =>
    simp only [List.foldl_cons]
    rcases List.mem_cons.1 hx with rfl | hx
    · refine lor_keeps e acc _ _ ?_
      rw [if_pos hb, Nat.testBit_or, Nat.testBit_or, Nat.testBit_two_pow_self]
      simp
    · exact ih _ hx

/-- the mask of an operation, out of its edges -/
theorem before_spec (ops : Array Oper) : (Region.before ops).size = ops.size ∧ ∀ i (hi : i < ops.size), ∃ acc : Array Nat, (∀ j m : Nat, acc[j]? = some m → (Region.before ops)[j]? = some m) ∧
    (Region.before ops)[i]? = some (ops[i].after.foldl (fun s e => if Region.binds .any e then s ||| 2 ^ e.on ||| acc.getD e.on 0 else s) 0) := by
  unfold Region.before
  refine Array.foldl_induction (motive := fun k (acc : Array Nat) => acc.size = k ∧ ∀ i (hi : i < ops.size), i < k → ∃ acc' : Array Nat, (∀ j m : Nat, acc'[j]? = some m → acc[j]? = some m) ∧
    acc[i]? = some (ops[i].after.foldl (fun s e => if Region.binds .any e then s ||| 2 ^ e.on ||| acc'.getD e.on 0 else s) 0)) ⟨rfl, fun i hi h => absurd h (Nat.not_lt_zero _)⟩ ?_ |> fun h => ⟨h.1, fun i hi => h.2 i hi hi⟩
  intro k acc ⟨h1, h2⟩
  refine ⟨by simp [h1], ?_⟩
  intro i hi hik
  by_cases hk : i = k.1
  · subst hk
    refine ⟨acc, ?_, ?_⟩
    · intro j m hj
      rw [Array.getElem?_push, if_neg (by have := (Array.getElem?_eq_some_iff.1 hj).1; omega)]
      exact hj
    · rw [Array.getElem?_push, if_pos h1.symm]
      rfl
  · obtain ⟨acc', k1, k2⟩ := h2 i hi (by omega)
    refine ⟨acc', ?_, ?_⟩
    · intro j m hj
      have := k1 j m hj
      rw [Array.getElem?_push, if_neg (by have := (Array.getElem?_eq_some_iff.1 this).1; omega)]
      exact this
    · rw [Array.getElem?_push, if_neg (by omega)]
      exact k2

noncomputable def maskOf (ops : Array Oper) (i : Nat) : Nat := ((Region.before ops).toList[i]?).getD 0

theorem mask_bit {ops : Array Oper} {i j : Nat} {o : Oper} (ho : ops[i]? = some o) (h : (maskOf ops i).testBit j = true) :
    ∃ x ∈ o.after.toList, Region.binds .any x = true ∧ (j = x.on ∨ (maskOf ops x.on).testBit j = true) := by
  obtain ⟨hi, rfl⟩ := Array.getElem?_eq_some_iff.1 ho
  obtain ⟨acc, h1, h2⟩ := (before_spec ops).2 i hi
  have hm : maskOf ops i = ops[i].after.foldl (fun s e => if Region.binds .any e then s ||| 2 ^ e.on ||| acc.getD e.on 0 else s) 0 := by
    simp only [maskOf, Array.getElem?_toList, h2, Option.getD_some]
  rw [hm, ← Array.foldl_toList] at h
  rcases lor_bit _ acc 0 j h with h3 | ⟨x, hx, hb, h3⟩
  · simp at h3
  · refine ⟨x, hx, hb, ?_⟩
    rcases h3 with h3 | h3
    · exact .inl h3
    · refine .inr ?_
      rw [Array.getD_eq_getD_getElem?] at h3
      cases hacc : acc[x.on]? with
      | none => rw [hacc] at h3; simp at h3
      | some m =>
        rw [hacc] at h3
        simp only [maskOf, Array.getElem?_toList, h1 _ _ hacc]
        simpa using h3

theorem mask_on {ops : Array Oper} {i : Nat} {o : Oper} (ho : ops[i]? = some o) {x : Edge} (hx : x ∈ o.after.toList) (hb : Region.binds .any x = true) : (maskOf ops i).testBit x.on = true := by
  obtain ⟨hi, rfl⟩ := Array.getElem?_eq_some_iff.1 ho
  obtain ⟨acc, h1, h2⟩ := (before_spec ops).2 i hi
  have hm : maskOf ops i = ops[i].after.foldl (fun s e => if Region.binds .any e then s ||| 2 ^ e.on ||| acc.getD e.on 0 else s) 0 := by
    simp only [maskOf, Array.getElem?_toList, h2, Option.getD_some]
  rw [hm, ← Array.foldl_toList]
  exact lor_on _ acc 0 hx hb
end Go.Abs

namespace Go.Abs
open Go

section
variable {P : Program} {φ : Phi} {F : T AV} {nt : Nat} {a : Act} {C : Ctx}

theorem cls_noCall {o : Oper} {H : Hp} {r : OR} (hr : (∃ f xs, r = .call f xs) ∨ ∃ l xs, r = .yld l xs) (h : opA C F H o.op = some r) : clsOf C o = .e := by
  obtain ⟨c, f, xs, hop, hc, _, _⟩ := opA_call' hr h
  simp [clsOf, hop, hc]

/-- the operations that make an object -/
theorem cls_a (hC : CtxOK C P) {o : Oper} {H H' : Hp} {v : AV} (hcl : clsOf C o = .a) (hT : TR φ F nt a.tmps) (h : opA C F H o.op = some (.val v H')) :
    ∃ vf obj, Makes P φ a o.op vf obj ∧ v = vf H.next ∧ H' = H.new obj := by
  cases ho : o.op with
  | alloc t =>
    rw [ho] at h
    have h : opAlloc C H t = _ := h
    unfold opAlloc at h
    split at h
    case h_2 => cases h
    rename_i ti hti
    simp only [Option.some.injEq, OR.val.injEq] at h
    obtain ⟨rfl, rfl⟩ := h
    exact ⟨_, _, makes_alloc hC hti, rfl, rfl⟩
  | box t x =>
    rw [ho] at h
    have h : opBox F H t x = _ := h
    unfold opBox at h
    split at h
    case h_2 => cases h
    rename_i y hy
    simp only [Option.some.injEq, OR.val.injEq] at h
    obtain ⟨rfl, rfl⟩ := h
    exact ⟨_, _, makes_box hT hy, rfl, rfl⟩
  | buildSlice t len ps =>
    rw [ho] at h
    have h : opBuildSlice C F H t len ps.toList = _ := h
    unfold opBuildSlice at h
    split at h
    case h_2 => cases h
    rename_i ti hti
    split at h
    case h_2 => cases h
    rename_i e htd
    split at h
    case h_2 => cases h
    rename_i te hte
    split at h
    case h_2 => cases h
    rename_i hle
    split at h
    case h_2 => cases h
    rename_i cs hcs
    simp only [Option.some.injEq, OR.val.injEq] at h
    obtain ⟨rfl, rfl⟩ := h
    exact ⟨_, _, makes_buildSlice hC hT hti htd hte (Nat.le_of_ble_eq_true hle) hcs, rfl, rfl⟩
  | makeMap t r =>
    rw [ho] at h
    cases r with
    | some x => cases h
    | none =>
    have h : some (OR.val (.map H.next) (H.new (.map []))) = _ := h
    simp only [Option.some.injEq, OR.val.injEq] at h
    obtain ⟨rfl, rfl⟩ := h
    exact ⟨_, _, makes_map _, rfl, rfl⟩
  | makeSlice t l c =>
    rw [ho] at h
    have h : opMakeSlice C F H t l c = _ := h
    unfold opMakeSlice at h
    split at h
    case h_2 => cases h
    rename_i ti hti
    split at h
    case h_2 => cases h
    rename_i e htd
    split at h
    case h_2 => cases h
    rename_i te hte
    split at h
    case h_2 => cases h
    rename_i k1 ln hln
    split at h
    case h_2 => cases h
    rename_i k2 cn hcn
    split at h
    case h_2 => cases h
    rename_i hc
    simp only [Option.some.injEq, OR.val.injEq] at h
    obtain ⟨rfl, rfl⟩ := h
    exact ⟨_, _, makes_makeSlice hC hT hti htd hte hln hcn hc, rfl, rfl⟩
  | convert s d x =>
    rw [ho] at h
    have h : valH (opConvert C F H s d x) = _ := h
    have h := valH_val h
    simp only [clsOf, ho] at hcl
    cases hts : C.ty.get s with
    | none => simp [hts] at hcl
    | some ts =>
    cases htd : C.ty.get d with
    | none => simp [hts, htd] at hcl
    | some td =>
    simp only [hts, htd] at hcl
    unfold opConvert at h
    split at h
    case h_2 => cases h
    rename_i y hy
    unfold convertA at h
    simp only [hts, htd] at h
    cases hs : ts.td <;> cases hd : td.td <;> simp only [hs, hd] at hcl <;> first | (cases hcl; done) | skip
    rename_i e
    simp only [hd, hs] at h
    split at h
    · first | (cases h; done) | (rename_i hh; cases hh; done) | (rename_i hh _; cases hh; done)
    · first | (cases h; done) | (rename_i hh; cases hh; done) | (rename_i hh _; cases hh; done)
    · rename_i e' b hh
      cases hh
      split at h
      case h_2 => cases h
      rename_i te hte
      split at h
      case h_2 => cases h
      rename_i ht8 _
      simp only [Option.some.injEq, Prod.mk.injEq] at h
      obtain ⟨rfl, rfl⟩ := h
      exact ⟨_, _, makes_bytes hC hT hts htd hd hte ht8 hy, rfl, rfl⟩
    · first | (cases h; done) | (rename_i hh; cases hh; done) | (rename_i hh _; cases hh; done)
    · rename_i e' b o' len sz hh
      exfalso
      split at h
      case h_2 => cases h
      rename_i hsd
      have hsd := Nat.eq_of_beq_eq_true hsd
      subst hsd
      rw [hts] at htd
      cases htd
      rw [hs] at hd
      cases hd
    · rename_i e' b o' len sz hh
      exfalso
      split at h
      case h_2 => cases h
      rename_i hsd
      have hsd := Nat.eq_of_beq_eq_true hsd
      subst hsd
      rw [hts] at htd
      cases htd
      rw [hs] at hd
      cases hd
    · first | (cases h; done) | (rename_i hh; cases hh; done) | (rename_i hh _; cases hh; done)
    · first | (cases h; done) | (rename_i hh; cases hh; done) | (rename_i hh _; cases hh; done)
    · cases h
  | call c =>
    exfalso
    simp only [clsOf, ho] at hcl
    repeat' split at hcl
    all_goals cases hcl
  | _ => simp [clsOf, ho] at hcl
end
end Go.Abs

namespace Go.Abs
open Go

section
variable {P : Program} {φ : Phi} {F : T AV} {nt : Nat} {a : Act} {C : Ctx}

/-- the operations that reckon -/
theorem cls_p (hC : CtxOK C P) {o : Oper} {H H' : Hp} {v : AV} (hcl : clsOf C o = .p) (hT : TR φ F nt a.tmps) (h : opA C F H o.op = some (.val v H')) : Ylds P φ a o.op v ∧ H' = H := by
  cases ho : o.op with
  | move x =>
    rw [ho] at h
    obtain ⟨h1, rfl⟩ := valO_val (show valO H (ev F x) = _ from h)
    exact ⟨ylds_move hT h1, rfl⟩
  | assign x =>
    rw [ho] at h
    obtain ⟨h1, rfl⟩ := valO_val (show valO H (ev F x) = _ from h)
    exact ⟨ylds_assign hT h1, rfl⟩
  | pick c x y =>
    rw [ho] at h
    obtain ⟨h1, rfl⟩ := valO_val (show valO H (opPick F c x y) = _ from h)
    exact ⟨ylds_pick hT h1, rfl⟩
  | build t ps =>
    rw [ho] at h
    obtain ⟨h1, rfl⟩ := valO_val (show valO H (buildA C F t ps.toList) = _ from h)
    exact ⟨ylds_build hC hT h1, rfl⟩
  | binOp op t x y yt =>
    rw [ho] at h
    obtain ⟨h1, rfl⟩ := valO_val (show valO H (opBin C F op t x y) = _ from h)
    exact ⟨ylds_binOp hC hT h1, rfl⟩
  | unOp op t x =>
    rw [ho] at h
    obtain ⟨h1, rfl⟩ := valO_val (show valO H (opUn F op x) = _ from h)
    exact ⟨ylds_unOp hT h1, rfl⟩
  | nilCheck x =>
    rw [ho] at h
    obtain ⟨h1, rfl⟩ := valO_val (show valO H (opNilCheck F x) = _ from h)
    exact ⟨ylds_nilCheck hT h1, rfl⟩
  | makeFunc f x y =>
    rw [ho] at h
    obtain ⟨h1, rfl⟩ := valO_val (show valO H (opMakeFunc F f x.toList y.toList) = _ from h)
    exact ⟨ylds_makeFunc hT h1, rfl⟩
  | slice t x lo hi mx =>
    rw [ho] at h
    obtain ⟨h1, rfl⟩ := valO_val (show valO H (opSlice C F t x lo hi mx) = _ from h)
    exact ⟨ylds_slice hC hT h1, rfl⟩
  | fieldAddr s x f =>
    rw [ho] at h
    obtain ⟨h1, rfl⟩ := valO_val (show valO H (opFieldAddr C F s x f) = _ from h)
    exact ⟨ylds_fieldAddr hC hT h1, rfl⟩
  | field t x f =>
    rw [ho] at h
    obtain ⟨h1, rfl⟩ := valO_val (show valO H (opField C F t x f) = _ from h)
    exact ⟨ylds_field hC hT h1, rfl⟩
  | indexAddr t x i =>
    rw [ho] at h
    obtain ⟨h1, rfl⟩ := valO_val (show valO H (opIndexAddr C F t x i) = _ from h)
    exact ⟨ylds_indexAddr hC hT h1, rfl⟩
  | index t x i =>
    rw [ho] at h
    obtain ⟨h1, rfl⟩ := valO_val (show valO H (opIndex C F t x i) = _ from h)
    exact ⟨ylds_index hC hT h1, rfl⟩
  | extract t ix =>
    rw [ho] at h
    obtain ⟨h1, rfl⟩ := valO_val (show valO H (opExtract F t ix) = _ from h)
    exact ⟨ylds_extract hT h1, rfl⟩
  | convert s d x =>
    rw [ho] at h
    have h := valH_val (show valH (opConvert C F H s d x) = _ from h)
    simp only [clsOf, ho] at hcl
    cases hts : C.ty.get s with
    | none => simp [hts] at hcl
    | some ts =>
    cases htd : C.ty.get d with
    | none => simp [hts, htd] at hcl
    | some td =>
    simp only [hts, htd] at hcl
    unfold opConvert at h
    split at h
    case h_2 => cases h
    rename_i y hy
    have vx := ev_sound hT hy
    unfold convertA at h
    simp only [hts, htd] at h
    cases hs : ts.td <;> cases hd : td.td <;> simp only [hs, hd] at hcl <;> first | (cases hcl; done) | skip
    · rename_i k' k
      simp only [hd, hs] at h
      cases y <;> simp only at h <;> first | (cases h; done) | skip
      rename_i k2 n
      simp only [Option.some.injEq, Prod.mk.injEq] at h
      obtain ⟨rfl, rfl⟩ := h
      refine ⟨fun o ho w => ?_, rfl⟩
      generalize hu : a.eval x = u at vx
      cases vx
      refine ⟨.int k (k.wrap n), by simp only [execOp, ho, hu, Sem.run_bind, conv_int hC hts htd hd w, Result.andThen_ok, Sem.run_pure], ?_⟩
      rw [wrapA_eq]
      exact .int _ _
    · simp only [hd, hs] at h
      cases y <;> simp only at h <;> first | (cases h; done) | skip
      rename_i b
      simp only [Option.some.injEq, Prod.mk.injEq] at h
      obtain ⟨rfl, rfl⟩ := h
      refine ⟨fun o ho w => ?_, rfl⟩
      generalize hu : a.eval x = u at vx
      cases vx with
      | @str _ sb hb => exact ⟨.string sb, by simp only [execOp, ho, hu, Sem.run_bind, conv_str hC hts htd hd w, Result.andThen_ok, Sem.run_pure], .str hb⟩
  | call c =>
    rw [ho] at h
    have h : opCall C F H c = _ := h
    simp only [clsOf, ho] at hcl
    unfold opCall at h
    split at h
    case h_2 => cases h
    rename_i xs hxs
    have va := evs_sound hT hxs
    obtain ⟨callee, args, tys⟩ := c
    have va' : VL φ xs (args.map a.eval).toList := by simpa using va
    cases callee with
    | value f => simp at hcl
    | invoke x n => simp at hcl
    | builtin b =>
      have h := valH_val h
      cases b
      case len =>
        unfold builtinA at h
        split at h
        all_goals first
          | (rename_i hh _ _; cases hh; done)
          | (rename_i hh _; cases hh; done)
          | (rename_i hh; cases hh; done)
          | skip
        · rename_i t tl x l ht _
          split at h
          case h_2 => cases h
          rename_i ti hti
          split at h
          case h_2 => cases h
          rename_i u hu
          simp only [Option.some.injEq, Prod.mk.injEq] at h
          obtain ⟨rfl, rfl⟩ := h
          refine ⟨(yldsB_len hC va' ht hti hu ?_).ylds, rfl⟩
          intro k e hm
          simp only at hcl
          rw [head_of ht] at hcl
          simp [hti, hm] at hcl
        · cases h
      case cap =>
        unfold builtinA at h
        split at h
        all_goals first
          | (rename_i hh _ _; cases hh; done)
          | (rename_i hh _; cases hh; done)
          | (rename_i hh; cases hh; done)
          | skip
        · rename_i t tl x l ht _
          split at h
          case h_2 => cases h
          rename_i ti hti
          obtain ⟨u, us, he, h1, h2⟩ := va'.head
          obtain ⟨d, hd, hr⟩ := run_under hC hti
          have e1 := head_of ht
          have e2 := head_of he
          split at h
          · rename_i hs _
            obtain rfl := td_slice (hd.symm.trans hs)
            cases h1
            simp only [Option.some.injEq, Prod.mk.injEq] at h
            obtain ⟨rfl, rfl⟩ := h
            exact ⟨YldsB.ylds fun ty consts w => ⟨_, by simp [builtin, Builtin.cap_, e1, e2, hr, goInt], .int _ _⟩, rfl⟩
          · rename_i hs _
            obtain rfl := td_slice (hd.symm.trans hs)
            cases h1
            simp only [Option.some.injEq, Prod.mk.injEq] at h
            obtain ⟨rfl, rfl⟩ := h
            exact ⟨YldsB.ylds fun ty consts w => ⟨_, by simp [builtin, Builtin.cap_, e1, e2, hr, goInt], .int _ _⟩, rfl⟩
          · cases h
        · cases h
      case min =>
        unfold builtinA at h
        split at h
        all_goals first
          | (rename_i hh _ _; cases hh; done)
          | (rename_i hh _; cases hh; done)
          | (rename_i hh; cases hh; done)
          | skip
        · rename_i k n vs _
          split at h
          case h_2 => cases h
          rename_i u hu
          simp only [Option.some.injEq, Prod.mk.injEq] at h
          obtain ⟨rfl, rfl⟩ := h
          exact ⟨(yldsB_min hu va').ylds, rfl⟩
        · cases h
      case max =>
        unfold builtinA at h
        split at h
        all_goals first
          | (rename_i hh _ _; cases hh; done)
          | (rename_i hh _; cases hh; done)
          | (rename_i hh; cases hh; done)
          | skip
        · rename_i k n vs _
          split at h
          case h_2 => cases h
          rename_i u hu
          simp only [Option.some.injEq, Prod.mk.injEq] at h
          obtain ⟨rfl, rfl⟩ := h
          exact ⟨(yldsB_max hu va').ylds, rfl⟩
        · cases h
      all_goals simp at hcl
  | _ => simp [clsOf, ho] at hcl

/-- the operations that read: one object alone -/
theorem cls_r {o : Oper} {H H' K : Hp} {v : AV} {x : Nat} (hcl : clsOf C o = .r) (hx : readId F o = some x) (hK : H.get x = K.get x) (h : opA C F H o.op = some (.val v H')) :
    opA C F K o.op = some (.val v K) ∧ H' = H := by
  cases ho : o.op with
  | load t p =>
    rw [ho] at h
    obtain ⟨h1, rfl⟩ := valO_val (show valO H (opLoad C F H t p) = _ from h)
    refine ⟨?_, rfl⟩
    show valO K (opLoad C F K t p) = _
    have : opLoad C F K t p = opLoad C F H t p := by
      simp only [readId, ho] at hx
      unfold opLoad
      cases hev : ev F p with
      | none => rfl
      | some y =>
      simp only [hev] at hx
      cases y <;> simp only at hx ⊢
      simp only [Option.some.injEq] at hx
      subst hx
      cases C.ty.get t with
      | none => rfl
      | some ti => simp only [loadA, hK]
    rw [this, h1]
    rfl
  | convert s d p =>
    rw [ho] at h
    have h := valH_val (show valH (opConvert C F H s d p) = _ from h)
    show valH (opConvert C F K s d p) = _ ∧ _
    simp only [clsOf, ho] at hcl
    cases hts : C.ty.get s with
    | none => simp [hts] at hcl
    | some ts =>
    cases htd : C.ty.get d with
    | none => simp [hts, htd] at hcl
    | some td =>
    simp only [hts, htd] at hcl
    simp only [readId, ho] at hx
    unfold opConvert at h ⊢
    cases hs : ts.td <;> cases hd : td.td <;> simp only [hs, hd] at hcl <;> first | (cases hcl; done) | skip
    rename_i e
    have key : ∀ y : AV, (∃ b o' l c, y = .slc b o' l c ∧ x = b) ∨ (∃ b o' l c, y = .slo b o' l c ∧ x = b) → convertA C H s d y = some (v, H') → convertA C K s d y = some (v, K) ∧ H' = H := by
      intro y hy hc
      unfold convertA at hc ⊢
      simp only [hts, htd, hd, hs] at hc ⊢
      rcases hy with ⟨b, o', l, c, rfl, rfl⟩ | ⟨b, o', l, c, rfl, rfl⟩
      · simp only [firstA, hK] at hc ⊢
        repeat' split at hc
        all_goals first | (cases hc; done) | skip
        simp only [Option.some.injEq, Prod.mk.injEq] at hc
        obtain ⟨rfl, rfl⟩ := hc
        simp_all
      · simp only [firstA, hK] at hc ⊢
        repeat' split at hc
        all_goals first | (cases hc; done) | skip
        simp only [Option.some.injEq, Prod.mk.injEq] at hc
        obtain ⟨rfl, rfl⟩ := hc
        simp_all
    split at hx
    · rename_i b o' l c hy
      simp only [Option.some.injEq] at hx
      simp only [hy] at h ⊢
      obtain ⟨k1, k2⟩ := key _ (.inl ⟨b, o', l, c, rfl, hx.symm⟩) h
      exact ⟨by rw [k1]; rfl, k2⟩
    · rename_i b o' l c hy
      simp only [Option.some.injEq] at hx
      simp only [hy] at h ⊢
      obtain ⟨k1, k2⟩ := key _ (.inr ⟨b, o', l, c, rfl, hx.symm⟩) h
      exact ⟨by rw [k1]; rfl, k2⟩
    · cases hx
  | call c =>
    exfalso
    simp only [clsOf, ho] at hcl
    repeat' split at hcl
    all_goals cases hcl
  | _ => simp [clsOf, ho] at hcl
end
end Go.Abs

namespace Go.Abs
open Go

theorem chkOrd_spec : ∀ (l : List Stp) (d0 d : Nat), chkOrd l d0 = some d → (∀ i, d.testBit i = true ↔ d0.testBit i = true ∨ ∃ s ∈ l, s.i = i) ∧
    ∀ (j : Nat) s, l[j]? = some s → (d0.testBit s.i = false ∧ ∀ (j' : Nat) s', j' < j → l[j']? = some s' → s'.i ≠ s.i) ∧
      (∀ b, s.m.testBit b = true → d0.testBit b = true ∨ ∃ (j' : Nat) (s' : Stp), j' < j ∧ l[j']? = some s' ∧ s'.i = b) ∧
      (s.c = .e → (∀ b, d0.testBit b = true → s.m.testBit b = true) ∧ ∀ (j' : Nat) s', j' < j → l[j']? = some s' → s.m.testBit s'.i = true)
  | [], d0, d, h => by
    simp only [chkOrd, Option.some.injEq] at h
    subst h
    exact ⟨fun i => by simp, fun j s hs => by simp at hs⟩
  | s0 :: l, d0, d, h => by
    simp only [chkOrd] at h
    split at h
    case h_2 => cases h
    rename_i hc
    simp only [Bool.and_eq_true, Bool.not_eq_true'] at hc
    obtain ⟨c1, c2⟩ := hc
    obtain ⟨k1, k2⟩ := chkOrd_spec l _ d h
    have hbit : ∀ i, (d0.lor (2 ^ s0.i)).testBit i = true ↔ d0.testBit i = true ∨ s0.i = i := by
      intro i
      show (d0 ||| 2 ^ s0.i).testBit i = true ↔ _
      rw [Nat.testBit_or, Bool.or_eq_true, Nat.testBit_two_pow]
      simp
    refine ⟨?_, ?_⟩
    · intro i
      rw [k1 i, hbit i]
      simp only [List.mem_cons, exists_eq_or_imp]
      constructor
      · rintro ((h | h) | h)
        · exact .inl h
        · exact .inr (.inl h)
        · exact .inr (.inr h)
      · rintro (h | h | h)
        · exact .inl (.inl h)
        · exact .inl (.inr h)
        · exact .inr h
    · intro j s hs
      cases j with
      | zero =>
        simp only [List.getElem?_cons_zero, Option.some.injEq] at hs
        subst hs
        refine ⟨⟨c1, fun j' s' hj => absurd hj (Nat.not_lt_zero _)⟩, ?_, ?_⟩
        · intro b hb
          left
          split at c2
          · rw [← Nat.eq_of_beq_eq_true c2]; exact hb
          · have := Nat.eq_of_beq_eq_true c2
            rw [← this] at hb
            have hb : (s0.m &&& d0).testBit b = true := hb
            rw [Nat.testBit_and, Bool.and_eq_true] at hb
            exact hb.2
        · intro hce
          rw [hce] at c2
          have := Nat.eq_of_beq_eq_true c2
          exact ⟨fun b hb => by rw [this]; exact hb, fun j' s' hj => absurd hj (Nat.not_lt_zero _)⟩
      | succ j =>
        simp only [List.getElem?_cons_succ] at hs
        obtain ⟨⟨m1, m2⟩, m3, m4⟩ := k2 j s hs
        have hne : ¬ (d0.testBit s.i = true ∨ s0.i = s.i) := by
          intro hh
          rw [(hbit s.i).2 hh] at m1
          cases m1
        refine ⟨⟨by simpa using fun hh => hne (.inl hh), ?_⟩, ?_, ?_⟩
        · intro j' s' hj hs'
          cases j' with
          | zero =>
            simp only [List.getElem?_cons_zero, Option.some.injEq] at hs'
            subst hs'
            exact fun hh => hne (.inr hh)
          | succ j' => exact m2 j' s' (by omega) (by simpa using hs')
        · intro b hb
          rcases m3 b hb with h1 | ⟨j', s', h1, h2, h3⟩
          · rcases (hbit b).1 h1 with h1 | h1
            · exact .inl h1
            · exact .inr ⟨0, s0, by omega, rfl, h1⟩
          · exact .inr ⟨j' + 1, s', by omega, by simpa using h2, h3⟩
        · intro hce
          obtain ⟨n1, n2⟩ := m4 hce
          refine ⟨fun b hb => n1 b ((hbit b).2 (.inl hb)), ?_⟩
          intro j' s' hj hs'
          cases j' with
          | zero =>
            simp only [List.getElem?_cons_zero, Option.some.injEq] at hs'
            subst hs'
            exact n1 _ ((hbit _).2 (.inr rfl))
          | succ j' => exact n2 j' s' (by omega) (by simpa using hs')

theorem mem_pickBits {m : Nat} : ∀ {l : List Stp} {s : Stp}, (s ∈ (pickBits m l).1 ∨ s ∈ (pickBits m l).2) → s ∈ l
  | [], s, h => by simp [pickBits] at h
  | x :: l, s, h => by
    simp only [pickBits] at h
    split at h
    · rcases h with h | h
      · rcases List.mem_cons.1 h with rfl | h
        · simp
        · exact List.mem_cons_of_mem _ (mem_pickBits (.inl h))
      · exact List.mem_cons_of_mem _ (mem_pickBits (.inr h))
    · rcases h with h | h
      · exact List.mem_cons_of_mem _ (mem_pickBits (.inl h))
      · rcases List.mem_cons.1 h with rfl | h
        · simp
        · exact List.mem_cons_of_mem _ (mem_pickBits (.inr h))

theorem mem_planGo : ∀ {es rest : List Stp} {s : Stp}, s ∈ planGo es rest → s ∈ es ∨ s ∈ rest
  | [], rest, s, h => .inr h
  | e :: es, rest, s, h => by
    simp only [planGo] at h
    rcases List.mem_append.1 h with h | h
    · exact .inr (mem_pickBits (.inl h))
    · rcases List.mem_cons.1 h with rfl | h
      · exact .inl (by simp)
      · rcases mem_planGo h with h | h
        · exact .inl (by simp [h])
        · exact .inr (mem_pickBits (.inr h))

theorem mem_stps {C : Ctx} {bef : List Nat} : ∀ {os : List Oper} {i : Nat} {s : Stp}, s ∈ stps C bef os i → ∃ k, s.i = i + k ∧ os[k]? = some s.o ∧ s.c = clsOf C s.o ∧ s.m = (bef[s.i]?).getD 0
  | [], i, s, h => by simp [stps] at h
  | o :: os, i, s, h => by
    simp only [stps] at h
    rcases List.mem_cons.1 h with rfl | h
    · exact ⟨0, rfl, rfl, rfl, rfl⟩
    · obtain ⟨k, h1, h2, h3, h4⟩ := mem_stps h
      exact ⟨k + 1, by omega, by simpa using h2, h3, h4⟩

/-- What a plan is. -/
structure PlanOK (C : Ctx) (ops : Array Oper) (l : List Stp) : Prop where
  mem : ∀ s ∈ l, ops[s.i]? = some s.o ∧ s.c = clsOf C s.o ∧ s.m = maskOf ops s.i
  all : ∀ i, i < ops.size → ∃ (j : Nat) (s : Stp), l[j]? = some s ∧ s.i = i
  once : ∀ (j j' : Nat) s s', l[j]? = some s → l[j']? = some s' → s.i = s'.i → j = j'
  pred : ∀ (j : Nat) s b, l[j]? = some s → (maskOf ops s.i).testBit b = true → ∃ (j' : Nat) (s' : Stp), j' < j ∧ l[j']? = some s' ∧ s'.i = b
  eff : ∀ (j : Nat) s, l[j]? = some s → s.c = .e → ∀ (j' : Nat) s', j' < j → l[j']? = some s' → (maskOf ops s.i).testBit s'.i = true
  wr : ∀ s ∈ l, ∀ s' ∈ l, ∀ t, s.o.dst = some t → s'.o.dst = some t → s.i = s'.i
  look : ∀ s ∈ l, ∀ s' ∈ l, ∀ t, s'.o.dst = some t → t ∈ looksA ops.toList s.o → s.i = s'.i ∨ (maskOf ops s.i).testBit s'.i = true ∨ (maskOf ops s'.i).testBit s.i = true

theorem memN_iff (t : Nat) : ∀ l, memN t l = true ↔ t ∈ l
  | [] => by simp [memN]
  | u :: l => by
    simp only [memN, List.mem_cons]
    split
    · rename_i h; simp [Nat.eq_of_beq_eq_true h]
    · rename_i h
      have : ¬ t = u := fun hh => by subst hh; simp at h
      rw [memN_iff t l]; simp [this]

theorem plan_ok {C : Ctx} {ops : Array Oper} {l : List Stp} (h : plan C ops = some l) : PlanOK C ops l := by
  unfold plan at h
  simp only at h
  split at h
  case h_2 => cases h
  rename_i hc
  simp only [Option.some.injEq] at h
  rw [h] at hc
  have hmem : ∀ s ∈ l, ops[s.i]? = some s.o ∧ s.c = clsOf C s.o ∧ s.m = maskOf ops s.i := by
    intro s hs
    rw [← h] at hs
    have hs : s ∈ stps C (Region.before ops).toList ops.toList 0 := by
      rcases mem_planGo hs with h1 | h1 <;> exact (List.mem_filter.1 h1).1
    obtain ⟨k, h1, h2, h3, h4⟩ := mem_stps hs
    simp only [Nat.zero_add] at h1
    subst h1
    exact ⟨by simpa using h2, h3, h4⟩
  unfold chkPlan at hc
  split at hc
  case h_2 => cases hc
  rename_i d hd
  simp only [Bool.and_eq_true] at hc
  obtain ⟨hd1, hd2⟩ := hc
  have hd1 := Nat.eq_of_beq_eq_true hd1
  obtain ⟨k1, k2⟩ := chkOrd_spec l 0 d hd
  have two : ∀ s ∈ l, ∀ s' ∈ l, chkTwo ops.toList s s' = true := by
    intro s hs s' hs'
    unfold chkAll at hd2
    rw [List.all_eq_true] at hd2
    have := hd2 s hs
    rw [List.all_eq_true] at this
    exact this s' hs'
  refine ⟨hmem, ?_, ?_, ?_, ?_, ?_, ?_⟩
  · intro i hi
    have : d.testBit i = true := by rw [hd1, Nat.testBit_two_pow_sub_one]; simpa using hi
    rcases (k1 i).1 this with h1 | ⟨s, hs, h1⟩
    · simp at h1
    · obtain ⟨j, hj⟩ := List.mem_iff_getElem?.1 hs
      exact ⟨j, s, hj, h1⟩
  · intro j j' s s' hs hs' hi
    rcases Nat.lt_trichotomy j j' with hlt | rfl | hlt
    · exact absurd hi ((k2 j' s' hs').1.2 j s hlt hs)
    · rfl
    · exact absurd hi.symm ((k2 j s hs).1.2 j' s' hlt hs')
  · intro j s b hs hb
    rw [← (hmem s (List.mem_of_getElem? hs)).2.2] at hb
    rcases (k2 j s hs).2.1 b hb with h1 | h1
    · simp at h1
    · exact h1
  · intro j s hs hce j' s' hj hs'
    rw [← (hmem s (List.mem_of_getElem? hs)).2.2]
    exact ((k2 j s hs).2.2 hce).2 j' s' hj hs'
  · intro s hs s' hs' t ht ht'
    have := two s hs s' hs'
    unfold chkTwo at this
    simp only [ht', ht] at this
    split at this
    · rename_i hh; exact Nat.eq_of_beq_eq_true hh
    · simp at this
  · intro s hs s' hs' t ht' hl
    have := two s hs s' hs'
    unfold chkTwo at this
    simp only [ht', (memN_iff t _).2 hl] at this
    split at this
    · rename_i hh; exact .inl (Nat.eq_of_beq_eq_true hh)
    · simp only [Bool.and_eq_true, Bool.or_eq_true] at this
      rw [(hmem s hs).2.2, (hmem s' hs').2.2] at this
      exact .inr this.2
end Go.Abs

namespace Go.Abs
open Go

structure Run (C : Ctx) (call : CallF) (yld : YldF) (nt : Nat) (ops : List Oper) (l : List Stp) (F : Nat → T AV) (H : Nat → Hp) (v : Nat → AV) (S : Nat → List (Nat × Hp)) (I : Nat → Hp) : Prop where
  step : ∀ (j : Nat) s, l[j]? = some s → stepA C call yld ops (F j) (H j) s.o = some (v j, H (j + 1))
  put : ∀ (j : Nat) s, l[j]? = some s → putA nt (F j) s.o.dst (v j) = some (F (j + 1))
  eff : ∀ (j : Nat) s, l[j]? = some s → s.c = .e → (H j).next ≤ (H (j + 1)).next ∧ S (j + 1) = (s.i, H (j + 1)) :: S j ∧ I (j + 1) = I j
  oth : ∀ (j : Nat) s, l[j]? = some s → s.c ≠ .e → S (j + 1) = S j
  made : ∀ (j : Nat) s, l[j]? = some s → s.c = .a → I (j + 1) = (match (H (j + 1)).get (H j).next with | some b => (I j).set (H j).next b | none => I j)
  noMade : ∀ (j : Nat) s, l[j]? = some s → s.c = .p ∨ s.c = .r → I (j + 1) = I j
  read : ∀ (j : Nat) s, l[j]? = some s → s.c = .r → wantedA (F j) ops s.o = some false ∨ ∃ x, readId (F j) s.o = some x ∧ steadyA C ops (F j) s.o (v j) x (I j) s.m (S j) = true

def shift {α : Type} (a : α) (f : Nat → α) : Nat → α
  | 0 => a
  | j + 1 => f j

theorem drawA_run {C : Ctx} {call : CallF} {yld : YldF} {nt : Nat} {ops : List Oper} : ∀ (l : List Stp) (S0 : List (Nat × Hp)) (I0 : Hp) (F0 : T AV) (H0 : Hp) {F' : T AV} {H' : Hp}, drawA C call yld nt ops l S0 I0 F0 H0 = some (F', H') →
    ∃ F H v S I, Run C call yld nt ops l F H v S I ∧ F 0 = F0 ∧ H 0 = H0 ∧ S 0 = S0 ∧ I 0 = I0 ∧ F l.length = F' ∧ H l.length = H'
  | [], S0, I0, F0, H0, F', H', h => by
    simp only [drawA, Option.some.injEq, Prod.mk.injEq] at h
    obtain ⟨rfl, rfl⟩ := h
    exact ⟨fun _ => F0, fun _ => H0, fun _ => .nili, fun _ => S0, fun _ => I0, ⟨by simp, by simp, by simp, by simp, by simp, by simp, by simp⟩, rfl, rfl, rfl, rfl, rfl, rfl⟩
  | s :: l, S0, I0, F0, H0, F', H', h => by
    simp only [drawA] at h
    split at h
    case h_2 => cases h
    rename_i v0 H1 hst
    split at h
    case h_2 => cases h
    rename_i F1 hput
    -- what is alike in all classes
    suffices hgen : ∀ S1 I1, drawA C call yld nt ops l S1 I1 F1 H1 = some (F', H') →
        (s.c = .e → H0.next ≤ H1.next ∧ S1 = (s.i, H1) :: S0 ∧ I1 = I0) → (s.c ≠ .e → S1 = S0) →
        (s.c = .a → I1 = (match H1.get H0.next with | some b => I0.set H0.next b | none => I0)) → (s.c = .p ∨ s.c = .r → I1 = I0) →
        (s.c = .r → wantedA F0 ops s.o = some false ∨ ∃ x, readId F0 s.o = some x ∧ steadyA C ops F0 s.o v0 x I0 s.m S0 = true) →
        ∃ F H v S I, Run C call yld nt ops (s :: l) F H v S I ∧ F 0 = F0 ∧ H 0 = H0 ∧ S 0 = S0 ∧ I 0 = I0 ∧ F (s :: l).length = F' ∧ H (s :: l).length = H' by
      split at h
      · rename_i hcl
        split at h
        case h_2 => cases h
        rename_i hle
        exact hgen _ _ h (fun _ => ⟨Nat.le_of_ble_eq_true hle, rfl, rfl⟩) (fun hh => absurd hcl hh) (fun hh => by rw [hcl] at hh; cases hh) (fun _ => rfl) (fun hh => by rw [hcl] at hh; cases hh)
      · rename_i hcl
        split at h
        · rename_i hw
          exact hgen _ _ h (fun hh => by rw [hcl] at hh; cases hh) (fun _ => rfl) (fun hh => by rw [hcl] at hh; cases hh) (fun _ => rfl) (fun _ => .inl hw)
        · split at h
          case h_2 => cases h
          rename_i x hx
          split at h
          case h_2 => cases h
          rename_i hsd
          exact hgen _ _ h (fun hh => by rw [hcl] at hh; cases hh) (fun _ => rfl) (fun hh => by rw [hcl] at hh; cases hh) (fun _ => rfl) (fun _ => .inr ⟨x, hx, hsd⟩)
      · rename_i hcl
        split at h
        · rename_i b hb
          exact hgen _ _ h (fun hh => by rw [hcl] at hh; cases hh) (fun _ => rfl) (fun _ => by rw [hb]) (fun hh => by rcases hh with hh | hh <;> simp [hcl] at hh) (fun hh => by rw [hcl] at hh; cases hh)
        · rename_i hb
          exact hgen _ _ h (fun hh => by rw [hcl] at hh; cases hh) (fun _ => rfl) (fun _ => by rw [hb]) (fun hh => by rcases hh with hh | hh <;> simp [hcl] at hh) (fun hh => by rw [hcl] at hh; cases hh)
      · rename_i hcl
        exact hgen _ _ h (fun hh => by rw [hcl] at hh; cases hh) (fun _ => rfl) (fun hh => by rw [hcl] at hh; cases hh) (fun _ => rfl) (fun hh => by rw [hcl] at hh; cases hh)
    intro S1 I1 hd q1 q2 q3 q4 q5
    obtain ⟨F, H, v, S, I, hrun, e1, e2, e3, e4, e5, e6⟩ := drawA_run l S1 I1 F1 H1 hd
    refine ⟨shift F0 F, shift H0 H, shift v0 v, shift S0 S, shift I0 I, ⟨?_, ?_, ?_, ?_, ?_, ?_, ?_⟩, rfl, rfl, rfl, rfl, e5, e6⟩
    all_goals
      intro j t ht
      cases j with
      | zero =>
        simp only [List.getElem?_cons_zero, Option.some.injEq] at ht
        subst ht
        simp only [shift, e1, e2, e3, e4]
        first | exact hst | exact hput | exact q1 | exact q2 | exact q3 | exact q4 | exact q5
      | succ j =>
        simp only [List.getElem?_cons_succ] at ht
        simp only [shift]
        first | exact hrun.step j t ht | exact hrun.put j t ht | exact hrun.eff j t ht | exact hrun.oth j t ht | exact hrun.made j t ht | exact hrun.noMade j t ht | exact hrun.read j t ht
end Go.Abs
