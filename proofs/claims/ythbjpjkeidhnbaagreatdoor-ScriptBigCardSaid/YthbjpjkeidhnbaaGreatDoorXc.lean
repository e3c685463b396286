/-
  The built-in functions.
  The built-in functions: cap, copy, append, unsafe.String, and all of them.
  Conversions.
  Conversions, ranges over maps: the operations. All operations.
  All operations.
-/
import Derived.Test.YthbjpjkeidhnbaaGreatDoorXb
import Derived.Laws.BytesString
import Derived.Lib.UnsafeStr
set_option linter.all false
namespace Go.Abs
open Go

theorem ofBytes_sound {φ : Phi} : ∀ {cs : List AV} {bs : List UInt8} {ys : List Value}, ofBytes cs = some bs → VL φ cs ys →
    ∃ ns : List Int, ys = ns.map (Value.int .u8) ∧ bs = ns.map fun n => UInt8.ofNat n.toNat
  | [], bs, ys, h, hv => by
    cases hv
    simp only [ofBytes, Option.some.injEq] at h
    subst h
    exact ⟨[], rfl, rfl⟩
  | c :: cs, bs, ys, h, hv => by
    unfold ofBytes at h
    split at h
    · rename_i e; cases e
    · rename_i n vs e
      cases e
      split at h
      case h_2 => cases h
      rename_i bs' hb
      simp only [Option.some.injEq] at h
      subst h
      cases hv with
      | cons h1 h2 =>
        cases h1
        obtain ⟨ns, rfl, rfl⟩ := ofBytes_sound hb h2
        exact ⟨n :: ns, rfl, rfl⟩
    · cases h

theorem foldl_push (ns : List Int) : ∀ s : ByteArray, (ns.foldl (fun r n => r.push (UInt8.ofNat n.toNat)) s).data.toList = s.data.toList ++ ns.map fun n => UInt8.ofNat n.toNat := by
  induction ns with
  | nil => intro s; simp
  | cons n ns ih => intro s; rw [List.foldl_cons, ih]; simp [ByteArray.push]

/-- what a call of a built-in function comes to -/
theorem run_builtin_op {P : Program} {a : Act} {o : Oper} {b : Builtin} {tys : Array TypeId} {xs : Array Operand} (ho : o.op = .call { callee := .builtin b, args := xs, argTypes := tys }) (w : World) :
    ∃ consts, (execOp a.eval o).run P w = (builtin b tys o.type consts (xs.map a.eval)).run P w := by
  refine ⟨xs.map fun | .const _ => true | _ => false, ?_⟩
  simp only [execOp, ho, resolve, Sem.run_bind, Sem.run_pure, Result.andThen_ok, invoke]
  rfl

section
variable {P : Program} {φ : Phi} {a : Act}

/-- Of a built-in function: from the heap H to H' it gives v. -/
def DoesB (P : Program) (φ : Phi) (b : Builtin) (tys : Array TypeId) (args : Array Value) (H : Hp) (v : AV) (H' : Hp) : Prop :=
  ∀ ty consts w, Rel φ H w → ∃ x w' ψ, (builtin b tys ty consts args).run P w = .ok (.value x) w' ∧ V ψ v x ∧ Rel ψ H' w' ∧ Aft φ w ψ w'

theorem DoesB.does {b : Builtin} {tys : Array TypeId} {xs : Array Operand} {H H' : Hp} {v : AV} (h : DoesB P φ b tys (xs.map a.eval) H v H') :
    Does P φ a (.call { callee := .builtin b, args := xs, argTypes := tys }) H v H' := by
  intro o ho w hr
  obtain ⟨consts, hrun⟩ := run_builtin_op (P := P) (a := a) ho w
  obtain ⟨x, w', ψ, h1, h2, h3, h4⟩ := h o.type consts w hr
  exact ⟨x, w', ψ, .inl (hrun.trans h1), h2, h3, h4⟩

/-- ... that leaves the heap as it is -/
def YldsB (P : Program) (φ : Phi) (b : Builtin) (tys : Array TypeId) (args : Array Value) (v : AV) : Prop :=
  ∀ ty consts w, ∃ x, (builtin b tys ty consts args).run P w = .ok (.value x) w ∧ V φ v x

theorem YldsB.doesB {b : Builtin} {tys : Array TypeId} {args : Array Value} {v : AV} (h : YldsB P φ b tys args v) (H : Hp) : DoesB P φ b tys args H v H := by
  intro ty consts w hr
  obtain ⟨x, h1, h2⟩ := h ty consts w
  exact ⟨x, w, φ, h1, h2, hr, Aft.refl φ w⟩

theorem YldsB.ylds {b : Builtin} {tys : Array TypeId} {xs : Array Operand} {v : AV} (h : YldsB P φ b tys (xs.map a.eval) v) :
    Ylds P φ a (.call { callee := .builtin b, args := xs, argTypes := tys }) v := by
  intro o ho w
  obtain ⟨consts, hrun⟩ := run_builtin_op (P := P) (a := a) ho w
  obtain ⟨x, h1, h2⟩ := h o.type consts w
  exact ⟨x, hrun.trans h1, h2⟩

variable {C : Ctx} (hC : CtxOK C P)

theorem head_of {α : Type} {xs : Array α} {x : α} {l : List α} (h : xs.toList = x :: l) : xs[0]? = some x := by
  rw [← Array.getElem?_toList, h]; rfl
theorem head_of2 {α : Type} {xs : Array α} {x y : α} {l : List α} (h : xs.toList = x :: y :: l) : xs[1]? = some y := by
  rw [← Array.getElem?_toList, h]; rfl
theorem VL.head {φ : Phi} {a : AV} {as : List AV} {us : List Value} (h : VL φ (a :: as) us) : ∃ u l, us = u :: l ∧ V φ a u ∧ VL φ as l := by
  cases h with | cons h h' => exact ⟨_, _, rfl, h, h'⟩

theorem min_fold (k : IntKind) : ∀ {vs : List AV} {us : List Value} {a : Int} {v : AV}, minA k a vs = some v → VL φ vs us → ∀ w, ∃ x, (us.foldlM Builtin.min2 (.int k a)).run P w = .ok x w ∧ V φ v x
  | [], us, a, v, h, hv, w => by
    cases hv
    simp only [minA, Option.some.injEq] at h
    subst h
    exact ⟨_, rfl, .int _ _⟩
  | b :: vs, us, a, v, h, hv, w => by
    unfold minA at h
    split at h
    · rename_i e; cases e
    · rename_i kk n ws e
      cases e
      obtain ⟨u, l, rfl, h1, h2⟩ := hv.head
      cases h1
      by_cases hlt : n < a
      · rw [show ltI n a = true from (ltI_iff _ _).2 hlt] at h
        obtain ⟨x, hx, hxv⟩ := min_fold k h h2 w
        exact ⟨x, by simp only [List.foldlM_cons, Sem.run_bind, Builtin.min2, Sem.run_pure, Result.andThen_ok, if_pos hlt, hx], hxv⟩
      · rw [show ltI n a = false from by rw [ltI_dec]; exact decide_eq_false hlt] at h
        obtain ⟨x, hx, hxv⟩ := min_fold k h h2 w
        exact ⟨x, by simp only [List.foldlM_cons, Sem.run_bind, Builtin.min2, Sem.run_pure, gt_iff_lt, Result.andThen_ok, if_neg hlt, hx], hxv⟩
    · cases h

theorem max_fold (k : IntKind) : ∀ {vs : List AV} {us : List Value} {a : Int} {v : AV}, maxA k a vs = some v → VL φ vs us → ∀ w, ∃ x, (us.foldlM Builtin.max2 (.int k a)).run P w = .ok x w ∧ V φ v x
  | [], us, a, v, h, hv, w => by
    cases hv
    simp only [maxA, Option.some.injEq] at h
    subst h
    exact ⟨_, rfl, .int _ _⟩
  | b :: vs, us, a, v, h, hv, w => by
    unfold maxA at h
    split at h
    · rename_i e; cases e
    · rename_i kk n ws e
      cases e
      obtain ⟨u, l, rfl, h1, h2⟩ := hv.head
      cases h1
      by_cases hlt : a < n
      · rw [show ltI a n = true from (ltI_iff _ _).2 hlt] at h
        obtain ⟨x, hx, hxv⟩ := max_fold k h h2 w
        exact ⟨x, by simp only [List.foldlM_cons, Sem.run_bind, Builtin.max2, Sem.run_pure, gt_iff_lt, Result.andThen_ok, if_pos hlt, hx], hxv⟩
      · rw [show ltI a n = false from by rw [ltI_dec]; exact decide_eq_false hlt] at h
        obtain ⟨x, hx, hxv⟩ := max_fold k h h2 w
        exact ⟨x, by simp only [List.foldlM_cons, Sem.run_bind, Builtin.max2, Sem.run_pure, gt_iff_lt, Result.andThen_ok, if_neg hlt, hx], hxv⟩
    · cases h

theorem yldsB_min {tys : Array TypeId} {args : Array Value} {k : IntKind} {n : Int} {vs : List AV} {v : AV} (h : minA k n vs = some v) (hv : VL φ (.int k n :: vs) args.toList) : YldsB P φ .min tys args v := by
  intro ty consts w
  obtain ⟨u, l, hl, h1, h2⟩ := hv.head
  cases h1
  obtain ⟨x, hx, hxv⟩ := min_fold (P := P) k h h2 w
  exact ⟨x, by simp only [builtin, Builtin.min_, hl, Sem.run_bind, hx, Result.andThen_ok, Sem.run_pure], hxv⟩
theorem yldsB_max {tys : Array TypeId} {args : Array Value} {k : IntKind} {n : Int} {vs : List AV} {v : AV} (h : maxA k n vs = some v) (hv : VL φ (.int k n :: vs) args.toList) : YldsB P φ .max tys args v := by
  intro ty consts w
  obtain ⟨u, l, hl, h1, h2⟩ := hv.head
  cases h1
  obtain ⟨x, hx, hxv⟩ := max_fold (P := P) k h h2 w
  exact ⟨x, by simp only [builtin, Builtin.max_, hl, Sem.run_bind, hx, Result.andThen_ok, Sem.run_pure], hxv⟩

theorem doesB_sliceData {tys : Array TypeId} {args : Array Value} {x : AV} {H H' : Hp} {v : AV} (hv : VL φ [x] args.toList)
    (h : builtinA C H .unsafeSliceData tys.toList [x] = some (v, H')) : DoesB P φ .unsafeSliceData tys args H v H' := by
  obtain ⟨u, l, he, h1, h2⟩ := hv.head
  cases h2
  obtain rfl : args = #[u] := Array.ext' he
  clear he
  unfold builtinA at h
  simp only at h
  split at h
  · cases h1
    simp only [Option.some.injEq, Prod.mk.injEq] at h
    obtain ⟨rfl, rfl⟩ := h
    exact YldsB.doesB (fun ty consts w => ⟨.pointer none, rfl, .nilp⟩) H
  · cases h1 with
    | slc he hlc =>
    split at h
    case h_2 => cases h
    rename_i hc
    have hc := Nat.le_of_ble_eq_true hc
    simp only [Option.some.injEq, Prod.mk.injEq] at h
    obtain ⟨rfl, rfl⟩ := h
    refine YldsB.doesB (fun ty consts w => ⟨_, ?_, .ptr he⟩) H
    simp only [builtin, Sem.run_bind, Lib.run_unsafeSliceData_row _ _ _ _ _ _ (Nat.ne_of_gt hc), Result.andThen_ok, Sem.run_pure]
  · cases h1 with
    | slo he hlc hcc =>
    split at h
    case h_2 => cases h
    rename_i hc
    have hc := Nat.le_of_ble_eq_true hc
    simp only [Option.some.injEq, Prod.mk.injEq] at h
    obtain ⟨rfl, rfl⟩ := h
    refine YldsB.doesB (fun ty consts w => ⟨_, ?_, .ptr he⟩) H
    simp only [builtin, Sem.run_bind, Lib.run_unsafeSliceData_row _ _ _ _ _ _ (Nat.ne_of_gt (Nat.lt_of_lt_of_le hc hlc)), Result.andThen_ok, Sem.run_pure]
  · cases h

theorem run_loadBytesN {w : World} {g : Nat} {arr : Array Value} {t : TypeId} {fr : Nat × Nat} (hob : w.heap[g]? = some (.cells arr t fr)) (ns : List Int) :
    ∀ (o : Nat) (acc : ByteArray), (∀ j n, ns[j]? = some n → arr[o + j]? = some (.int .u8 n)) →
    (Go.loadBytes ⟨g, o, none⟩ acc ns.length).run P w = .ok (ns.foldl (fun r n => r.push (UInt8.ofNat n.toNat)) acc) w := by
  induction ns with
  | nil => intro o acc _; rfl
  | cons n ns ih =>
    intro o acc h
    have hl : (load ⟨g, o, none⟩).run P w = .ok (.int .u8 n) w := run_loadAt P hob (h 0 n rfl)
    simp only [List.length_cons, Go.loadBytes, Sem.run_bind, hl, Result.andThen_ok, List.foldl_cons, add_mk]
    refine ih (o + 1) _ fun j m hj => ?_
    have := h (j + 1) m (by simpa using hj)
    rw [show o + 1 + j = o + (j + 1) from by omega]
    exact this

section
include hC

theorem yldsB_len {H : Hp} {tys : Array TypeId} {args : Array Value} {t : TypeId} {tl : List TypeId} {ti : TI} {x : AV} {l : List AV} {v : AV} (hv : VL φ (x :: l) args.toList)
    (ht : tys.toList = t :: tl) (hti : C.ty.get t = some ti) (h : lenOpA H ti x = some v) (hm : ∀ k e, ti.td ≠ .map k e) : YldsB P φ .len tys args v := by
  intro ty consts w
  obtain ⟨u, l, he, h1, h2⟩ := hv.head
  obtain ⟨d, hd, hr⟩ := run_under hC hti
  have e1 := head_of ht
  have e2 := head_of he
  unfold lenOpA at h
  split at h
  · rename_i hs
    obtain rfl := td_str (hd.symm.trans hs)
    cases h1 with
    | str hb =>
    simp only [Option.some.injEq] at h; subst h
    refine ⟨_, by simp [builtin, Builtin.len_, e1, e2, hr, goInt]; rfl, ?_⟩
    rw [← hb]
    exact .int _ _
  · rename_i p _ n hs
    obtain rfl := td_str (hd.symm.trans hs)
    cases h1 with
    | @rep _ _ _ s hb =>
    simp only [Option.some.injEq] at h; subst h
    refine ⟨.int .i64 s.size, by simp [builtin, Builtin.len_, e1, e2, hr, goInt], ?_⟩
    have hl : p.length + n = s.size := by
      have := congrArg List.length hb
      simp only [Array.length_toList, List.length_append, List.length_replicate] at this
      exact this.symm
    rw [hl]
    exact .int _ _
  · rename_i hs
    obtain rfl := td_array (hd.symm.trans hs)
    simp only [Option.some.injEq] at h; subst h
    refine ⟨_, by simp [builtin, Builtin.len_, e1, e2, hr, goInt]; rfl, ?_⟩
    exact .int _ _
  · rename_i hs
    obtain rfl := td_slice (hd.symm.trans hs)
    cases h1
    simp only [Option.some.injEq] at h; subst h
    exact ⟨_, by simp [builtin, Builtin.len_, e1, e2, hr, goInt], .int _ _⟩
  · rename_i hs
    obtain rfl := td_slice (hd.symm.trans hs)
    cases h1
    simp only [Option.some.injEq] at h; subst h
    exact ⟨_, by simp [builtin, Builtin.len_, e1, e2, hr, goInt], .int _ _⟩
  · rename_i hs
    obtain rfl := td_slice (hd.symm.trans hs)
    cases h1
    simp only [Option.some.injEq] at h; subst h
    exact ⟨_, by simp [builtin, Builtin.len_, e1, e2, hr, goInt], .int _ _⟩
  · rename_i hs
    obtain rfl := td_slice (hd.symm.trans hs)
    cases h1
    simp only [Option.some.injEq] at h; subst h
    exact ⟨_, by simp [builtin, Builtin.len_, e1, e2, hr, goInt], .int _ _⟩
  · rename_i hs; exact absurd hs (hm _ _)
  · rename_i hs; exact absurd hs (hm _ _)
  · cases h

theorem doesB_lenMap {H : Hp} {tys : Array TypeId} {args : Array Value} {t : TypeId} {tl : List TypeId} {ti : TI} {x : AV} {l : List AV} {v : AV} (hv : VL φ (x :: l) args.toList)
    (ht : tys.toList = t :: tl) (hti : C.ty.get t = some ti) (h : lenOpA H ti x = some v) : DoesB P φ .len tys args H v H := by
  by_cases hm : ∀ k e, ti.td ≠ .map k e
  · exact (yldsB_len hC hv ht hti h hm).doesB H
  obtain ⟨k, e, hm⟩ : ∃ k e, ti.td = .map k e := by
    refine Classical.byContradiction fun hn => hm fun k e hh => hn ⟨k, e, hh⟩
  intro ty consts w hr'
  obtain ⟨u, l, he, h1, h2⟩ := hv.head
  obtain ⟨d, hd, hr⟩ := run_under hC hti
  obtain rfl := td_map (hd.symm.trans hm)
  have e1 := head_of ht
  have e2 := head_of he
  unfold lenOpA at h
  rw [hm] at h
  split at h
  all_goals first
    | (rename_i hs _; cases hs; done)
    | (rename_i hs; cases hs; done)
    | skip
  · cases h1
    simp only [Option.some.injEq] at h; subst h
    exact ⟨_, w, φ, by simp [builtin, Builtin.len_, e1, e2, hr, goInt], .int _ _, hr', Aft.refl φ w⟩
  · cases h1 with
    | map hme =>
    split at h
    case h_2 => cases h
    rename_i es hg
    simp only [Option.some.injEq] at h; subst h
    obtain ⟨en, ob, hen, hob, hor⟩ := hr'.obj _ _ hg
    rw [hme] at hen
    cases hen
    cases hor with
    | @map _ arr clock hk hv' =>
    have hsz : es.length = arr.size := by
      have := hk.length
      simpa using this
    have hgo : ∀ r, w.heap[r]? = some (.map arr clock) → (getObj r).run P w = .ok (.map arr clock) w := fun r hh => by simp only [getObj, Sem.run, hh]
    have hgo := hgo _ hob
    refine ⟨.int .i64 (arr.size : Int), w, φ, by simp [builtin, Builtin.len_, e1, e2, hr, hgo, goInt], ?_, hr', Aft.refl φ w⟩
    rw [hsz]
    exact .int _ _
  · cases h
end
end
end Go.Abs

namespace Go.Abs
open Go

section
variable {P : Program} {φ : Phi} {a : Act} {C : Ctx} (hC : CtxOK C P)

theorem freeze_putB {w : World} {g o n : Nat} {cur : Array Value} {t : TypeId} {fr : Nat × Nat} (h : w.heap[g]? = some (.cells cur t fr)) (h0 : n ≠ 0) :
    w.freeze ⟨g, o, none⟩ n = putB w g (.cells cur t (if fr.1 = fr.2 then (o, o + n) else (min fr.1 o, max fr.2 (o + n)))) := by
  obtain ⟨hlt, he⟩ := Array.getElem?_eq_some_iff.1 h
  obtain ⟨lo, hi⟩ := fr
  unfold World.freeze putB
  rw [if_neg h0]
  congr 1
  apply Array.ext (by simp)
  intro i h1 h2
  by_cases hi' : i = g
  · subst hi'
    simp [Array.getElem_modify, he]
  · have hi'' : ¬ g = i := fun e => hi' e.symm
    rw [Array.getElem_setIfInBounds_ne (by simpa using h1) hi'']
    simp [Array.getElem_modify, hi'']

theorem lies_bytes {t : TypeId} {u : Unit} (hl : C.lay.get t = some u) (hC : CtxOK C P) (hs : P.cellsOf t = 1) (count off n : Nat) (h : off + n ≤ count) :
    liesAt P P.depth t count off t n = true := by
  have hlay := hC.lay t u hl
  obtain ⟨d, hd⟩ : ∃ d, P.depth = d + 1 := by
    cases hd : P.depth with
    | zero => rw [hd] at hlay; cases hlay
    | succ d => exact ⟨d, rfl⟩
  rw [hd] at hlay ⊢
  simp only [liesAt, Bool.or_eq_true]
  left
  rw [hd]
  simp only [rowAt, hs, Nat.div_one, Nat.mod_one]
  simp [h, hlay]

theorem cellsOf_eq (hC : CtxOK C P) {t : TypeId} {ti : TI} (h : C.ty.get t = some ti) : P.cellsOf t = ti.size := by
  obtain ⟨i, d, z, hi, hd, htd, hs, _⟩ := hC.ty t ti h
  simp [Program.cellsOf, hi, hs]

include hC
theorem unsafeStr_sound {H : Hp} {t : TypeId} {tl : List TypeId} {tys : Array TypeId} {p : AV} {k : IntKind} {n : Int} {args : Array Value} {v : AV} {H' : Hp} (hv : VL φ [p, .int k n] args.toList)
    (ht : tys.toList = t :: tl) (h : unsafeStrA C H t p n = some (v, H')) : DoesB P φ .unsafeString tys args H v H' := by
  obtain ⟨u, l, he, h1, h2⟩ := hv.head
  obtain ⟨u2, l2, rfl, h3, h4⟩ := h2.head
  cases h3
  cases h4
  obtain rfl : args = #[u, .int k n] := Array.ext' he
  clear he h2 hv
  have e1 := head_of ht
  unfold unsafeStrA at h
  split at h
  · cases h1
    split at h
    case h_2 => cases h
    rename_i hn
    obtain rfl := (eqI_iff _ _).1 hn
    simp only [Option.some.injEq, Prod.mk.injEq] at h
    obtain ⟨rfl, rfl⟩ := h
    refine YldsB.doesB (fun ty consts w => ⟨.string .empty, ?_, .str rfl⟩) H
    have hdef : Builtin.unsafeString_ tys ty #[.pointer none, .int k 0] =
      (do
        let n ← asInt (.int k 0)
        let some pt := tys[0]? | stuck "unsafe.String: no argument types"
        if n < 0 then runtimePanic (.error "unsafe.String: len out of range")
        if n > IntKind.i64.max then unsupported (.unsafePointer "String: a length above the largest int")
        if n = 0 then pure (.string .empty)
        else runtimePanic (.error "unsafe.String: ptr is nil and len is not zero")) := rfl
    simp only [builtin, hdef]
    simp [asInt, asIntOf, e1]
  · rename_i b o
    cases h1 with
    | @ptr _ _ en hen =>
    split at h
    case h_2 => cases h
    rename_i hn
    simp only [Bool.and_eq_true, leI_iff, ltI_iff] at hn
    split at h
    case h_2 => cases h
    rename_i tp htp
    split at h
    case h_2 => cases h
    rename_i e htd
    split at h
    case h_2 => cases h
    rename_i te _ c m frz z e' hte hlay hb
    split at h
    case h_2 => cases h
    rename_i hte8 hc
    simp only [Bool.and_eq_true] at hc
    obtain ⟨⟨c1, c2⟩, c3⟩ := hc
    have c1 := Nat.eq_of_beq_eq_true c1
    have c2 := Nat.le_of_ble_eq_true c2
    have c3 := Nat.eq_of_beq_eq_true c3
    subst c1
    split at h
    case h_2 => cases h
    rename_i cs hcs
    split at h
    case h_2 => cases h
    rename_i bs hbs
    simp only [Option.some.injEq, Prod.mk.injEq] at h
    obtain ⟨rfl, rfl⟩ := h
    obtain ⟨d, hd, hr⟩ := run_under hC htp
    obtain rfl := td_ptr (hd.symm.trans htd)
    intro ty consts w hrel
    obtain ⟨e2, arr, fr, he2, hob, hs, hn2, hz, hvv, hf⟩ := hrel.cellsOf hb
    rw [hen] at he2
    cases he2
    obtain ⟨arr2, hload, hvl⟩ := getFrom_load (P := P) hrel hb hen hcs c2
    obtain ⟨ns, hns1, hns2⟩ := ofBytes_sound hbs hvl
    have hnl : ns.length = n.toNat := by
      have := (getFrom_spec _ _ _ _ hcs).1
      have h2 := hvl.length
      rw [hns1] at h2
      simp at h2
      omega
    obtain ⟨xs, hx1, hx2, hx3⟩ := raw_load (P := P) (k := n.toNat) hob (o := en.base + o) (by omega)
    rw [hload] at hx1
    cases hx1
    have hlb := run_loadBytesN (P := P) hob ns (en.base + o) .empty (fun j m hj => by
      have hjl : j < n.toNat := by have := (List.getElem?_eq_some_iff.1 hj).1; omega
      rw [← hx3 j hjl, ← Array.getElem?_toList, hns1]
      simp [hj])
    rw [hnl] at hlb
    have hlies := lies_bytes hlay hC ((cellsOf_eq hC hte).trans c3) (arr.size / P.cellsOf e') (en.base + o) n.toNat (by rw [cellsOf_eq hC hte, c3, Nat.div_one]; omega)
    have hva : (variablesAt ⟨en.blk, en.base + o, none⟩ e' n.toNat).run P w = .ok true w := by
      simp only [variablesAt, Sem.run_bind, run_program, Result.andThen_ok, run_shape, shape_of hob, Sem.run_pure, hlies]
    have hfz := freeze_putB (n := n.toNat) (o := en.base + o) hob (by omega)
    have hdef : Builtin.unsafeString_ tys ty #[.pointer (some ⟨en.blk, en.base + o, none⟩), .int k n] =
      (do
        let n ← asInt (.int k n)
        let some pt := tys[0]? | stuck "unsafe.String: no argument types"
        if n < 0 then runtimePanic (.error "unsafe.String: len out of range")
        if n > IntKind.i64.max then unsupported (.unsafePointer "String: a length above the largest int")
        if n = 0 then pure (.string .empty)
        else if ← variablesAt ⟨en.blk, en.base + o, none⟩ (← elemOf pt) n.toNat then do
          let s ← loadBytes ⟨en.blk, en.base + o, none⟩ .empty n.toNat
          freeze ⟨en.blk, en.base + o, none⟩ n.toNat
          pure (.string s)
        else unsupported (.unsafePointer "String: not so many bytes at ptr")) := rfl
    have hn0 : ¬ n < 0 := by omega
    have hn1 : ¬ n > 9223372036854775807 := by omega
    have hn2' : ¬ n = 0 := by omega
    obtain ⟨r1, r2⟩ := hrel.set (o := .cells c m (max frz (o + n.toNat)) false z e') (ob := .cells arr e' (if fr.1 = fr.2 then (en.base + o, en.base + o + n.toNat) else (min fr.1 (en.base + o), max fr.2 (en.base + o + n.toNat))))
      hb hen (.cells hs hn2 hz hvv (by
        refine .inr (.inl ⟨by omega, ?_⟩)
        split
        · show en.base + o + n.toNat ≤ _; omega
        · rename_i hne
          rcases hf with h | ⟨_, h⟩ | ⟨h, _⟩
          · exact absurd h hne
          · show max fr.2 (en.base + o + n.toNat) ≤ _; omega
          · cases h))
    refine ⟨.string (ns.foldl (fun r n => r.push (UInt8.ofNat n.toNat)) ByteArray.empty), _, φ, ?_, .str (by rw [foldl_push, hns2]; rfl), r1, r2⟩
    rw [← hfz]
    simp only [builtin, hdef]
    simp [asInt, asIntOf, e1, hn0, hn1, hn2', elemOf, hr, hva, hlb]
  · cases h

theorem builtin_sound {H : Hp} {b : Builtin} {tys : Array TypeId} {args : Array Value} {as : List AV} {v : AV} {H' : Hp} (hv : VL φ as args.toList)
    (h : builtinA C H b tys.toList as = some (v, H')) : DoesB P φ b tys args H v H' := by
  unfold builtinA at h
  split at h
  · -- len
    rename_i t tl x l ht
    split at h
    case h_2 => cases h
    rename_i ti hti
    split at h
    case h_2 => cases h
    rename_i u hu
    simp only [Option.some.injEq, Prod.mk.injEq] at h
    obtain ⟨rfl, rfl⟩ := h
    exact doesB_lenMap hC hv ht hti hu
  · -- cap
    rename_i t tl x l ht
    split at h
    case h_2 => cases h
    rename_i ti hti
    obtain ⟨u, us, he, h1, h2⟩ := hv.head
    obtain ⟨d, hd, hr⟩ := run_under hC hti
    have e1 := head_of ht
    have e2 := head_of he
    split at h
    · rename_i hs
      obtain rfl := td_slice (hd.symm.trans hs)
      cases h1
      simp only [Option.some.injEq, Prod.mk.injEq] at h
      obtain ⟨rfl, rfl⟩ := h
      exact YldsB.doesB (fun ty consts w => ⟨_, by simp [builtin, Builtin.cap_, e1, e2, hr, goInt], .int _ _⟩) H
    · rename_i hs
      obtain rfl := td_slice (hd.symm.trans hs)
      cases h1
      simp only [Option.some.injEq, Prod.mk.injEq] at h
      obtain ⟨rfl, rfl⟩ := h
      exact YldsB.doesB (fun ty consts w => ⟨_, by simp [builtin, Builtin.cap_, e1, e2, hr, goInt], .int _ _⟩) H
    · cases h
  · -- append
    rename_i t u tl s x l ht
    split at h
    case h_2 => cases h
    rename_i ti tu hti htu
    split at h
    case h_2 => cases h
    rename_i e htd
    split at h
    case h_2 => cases h
    rename_i te hte
    split at h
    case h_2 => cases h
    rename_i hc
    split at h
    case h_2 => cases h
    rename_i n hn
    split at h
    case h_2 => cases h
    rename_i xs hxs
    simp only [Bool.and_eq_true] at hc
    obtain ⟨⟨c1, c2⟩, c3⟩ := hc
    obtain ⟨d, hd, hr⟩ := run_under hC hti
    obtain ⟨du, hdu, hru⟩ := run_under hC htu
    obtain rfl := td_slice (hd.symm.trans htd)
    have hni : du = .string ∨ ∃ e', du = .slice e' := by
      unfold rowTd at c1
      split at c1
      · rename_i hh; exact .inl (td_str (hdu.symm.trans hh))
      · rename_i hh; exact .inr ⟨_, td_slice (hdu.symm.trans hh)⟩
      · cases c1
    obtain ⟨us, l1, he, h1, h2⟩ := hv.head
    obtain ⟨ux, l2, he2, h3, h4⟩ := h2.head
    subst he2
    intro ty consts w hrel
    obtain ⟨y, w', ψ, g1, g2, g3, g4⟩ := appendA_sound (ty := ty) hC hrel (head_of ht) (head_of2 ht) (head_of he) (head_of2 he) hr hru hni hte h1 h3 hn hxs c3 h
    exact ⟨y, w', ψ, by simp only [builtin, Sem.run_bind, g1, Result.andThen_ok, Sem.run_pure], g2, g3, g4⟩
  · -- copy
    rename_i t tl d s l ht
    split at h
    case h_2 => cases h
    rename_i ti hti
    split at h
    case h_2 => cases h
    rename_i e htd
    split at h
    case h_2 => cases h
    rename_i te hte
    obtain ⟨td, hd, hr⟩ := run_under hC hti
    obtain rfl := td_slice (hd.symm.trans htd)
    obtain ⟨ud, l1, he, h1, h2⟩ := hv.head
    obtain ⟨us, l2, he2, h3, h4⟩ := h2.head
    subst he2
    have e0 := head_of ht
    have e1 := head_of he
    have e2 := head_of2 he
    have hsz := fun w => run_size hC hte w
    intro ty consts w hrel
    split at h
    · rename_i ls b o len cap hls
      split at h
      case h_2 => cases h
      rename_i cs hcs
      split at h
      case h_2 => cases h
      rename_i H1 hst
      simp only [Option.some.injEq, Prod.mk.injEq] at h
      obtain ⟨rfl, rfl⟩ := h
      have hlen := lenA_sound (P := P) hls h3 w
      obtain ⟨arr, hf, hvl⟩ := firstA_sound (P := P) hrel hcs h3
      cases h1 with
      | slc hen hlc =>
      obtain ⟨w', hrun, r1, r2⟩ := storeA_sound (P := P) hrel hst hen hvl
      have hmin : Nat.min ls len = min ls len := rfl
      exact ⟨.int .i64 ((min ls len : Nat) : Int), w', φ, by simp [builtin, Builtin.copy_, e0, e1, e2, hr, hlen, hsz, hmin, hf, hrun, goInt], .int _ _, r1, r2⟩
    · rename_i ls b o len sz hls
      split at h
      case h_2 => cases h
      rename_i cs hcs
      split at h
      case h_2 => cases h
      rename_i H1 hst
      simp only [Option.some.injEq, Prod.mk.injEq] at h
      obtain ⟨rfl, rfl⟩ := h
      have hlen := lenA_sound (P := P) hls h3 w
      obtain ⟨arr, hf, hvl⟩ := firstA_sound (P := P) hrel hcs h3
      cases h1 with
      | slo hen hlc hcc =>
      obtain ⟨w', hrun, r1, r2⟩ := storeA_sound (P := P) hrel hst hen hvl
      have hmin : Nat.min ls len = min ls len := rfl
      exact ⟨.int .i64 ((min ls len : Nat) : Int), w', φ, by simp [builtin, Builtin.copy_, e0, e1, e2, hr, hlen, hsz, hmin, hf, hrun, goInt], .int _ _, r1, r2⟩
    · rename_i ls hls
      simp only [Option.some.injEq, Prod.mk.injEq] at h
      obtain ⟨rfl, rfl⟩ := h
      have hlen := lenA_sound (P := P) hls h3 w
      cases h1
      have hmin : Nat.min ls 0 = 0 := Nat.min_zero ls
      have hf : (Builtin.firstCells te.size 0 us).run P w = .ok #[] w := by
        unfold lenA at hls
        split at hls <;> first | (cases hls; done) | (cases h3; simp [Builtin.firstCells, loadCells, loadCellsFrom])
      exact ⟨.int .i64 0, w, φ, by simp [builtin, Builtin.copy_, e0, e1, e2, hr, hlen, hsz, hmin, hf, goInt], .int _ _, hrel, Aft.refl φ w⟩
    · cases h
  · -- min
    rename_i k n vs
    split at h
    case h_2 => cases h
    rename_i u hu
    simp only [Option.some.injEq, Prod.mk.injEq] at h
    obtain ⟨rfl, rfl⟩ := h
    exact (yldsB_min hu hv).doesB H
  · -- max
    rename_i k n vs
    split at h
    case h_2 => cases h
    rename_i u hu
    simp only [Option.some.injEq, Prod.mk.injEq] at h
    obtain ⟨rfl, rfl⟩ := h
    exact (yldsB_max hu hv).doesB H
  · exact doesB_sliceData (C := C) hv h
  · rename_i ht
    exact unsafeStr_sound hC hv ht h
  · cases h
end
end Go.Abs

namespace Go.Abs
open Go

section
variable {P : Program} {φ : Phi} {F : T AV} {nt : Nat} {a : Act} {C : Ctx} (hC : CtxOK C P)
include hC

theorem conv_int {s d : TypeId} {ts td : TI} {k k' : IntKind} {n : Int} (hs : C.ty.get s = some ts) (hd : C.ty.get d = some td) (hk : td.td = .int k) (w : World) :
    (convert s d (.int k' n)).run P w = .ok (.int k (k.wrap n)) w := by
  obtain ⟨us, hus, hrs⟩ := run_under hC hs
  obtain ⟨ud, hud, hrd⟩ := run_under hC hd
  obtain rfl := td_int (hud.symm.trans hk)
  simp [convert, hrs, hrd, Conv.intToInt]

theorem conv_str {s d : TypeId} {ts td : TI} {b : ByteArray} (hs : C.ty.get s = some ts) (hd : C.ty.get d = some td) (hk : td.td = .str) (w : World) :
    (convert s d (.string b)).run P w = .ok (.string b) w := by
  obtain ⟨us, hus, hrs⟩ := run_under hC hs
  obtain ⟨ud, hud, hrd⟩ := run_under hC hd
  obtain rfl := td_str (hud.symm.trans hk)
  simp [convert, hrs, hrd]

theorem conv_bytes {s d : TypeId} {ts td te : TI} {e : TypeId} {x : AV} {u : Value} {n : Nat} {cs : List AV} {bs : List UInt8} {H : Hp} {w : World} (hr : Rel φ H w) (hv : V φ x u)
    (hs : C.ty.get s = some ts) (hd : C.ty.get d = some td) (hts : ts.td = .slice e) (hk : td.td = .str) (he : C.ty.get e = some te) (hte : te.td = .int .u8) (hl : lenA x = some n)
    (hx : ∀ b, x ≠ .str b) (hf : firstA H 1 n x = some cs) (hb : ofBytes cs = some bs) : ∃ y, (convert s d u).run P w = .ok y w ∧ V φ (.str bs) y := by
  obtain ⟨us, hus, hrs⟩ := run_under hC hs
  obtain ⟨ud, hud, hrd⟩ := run_under hC hd
  obtain ⟨ue, hue, hre⟩ := run_under hC he
  obtain rfl := td_slice (hus.symm.trans hts)
  obtain rfl := td_str (hud.symm.trans hk)
  obtain rfl := td_int (hue.symm.trans hte)
  obtain ⟨arr, h1, h2⟩ := firstA_sound (P := P) hr hf hv
  obtain ⟨ns, h3, h4⟩ := ofBytes_sound hb h2
  have key : ∀ (base : Option Addr) (len c : Nat), u = .slice base len c → len = n → ∃ y, (convert s d u).run P w = .ok y w ∧ V φ (.str bs) y := by
    intro base len c hu hn
    subst hu; subst hn
    have hc : (convert s d (.slice base len c)).run P w = (Conv.bytesToString (.slice base len c)).run P w := by simp [convert, hrs, hrd, hre]
    rw [hc]
    cases base with
    | none =>
      simp only [Builtin.firstCells, Sem.run_pure, Result.ok.injEq] at h1
      obtain ⟨rfl, _⟩ := h1
      cases ns with
      | nil => exact ⟨.string .empty, rfl, .str (by rw [h4]; rfl)⟩
      | cons => simp at h3
    | some ad =>
      simp only [Builtin.firstCells, Nat.mul_one] at h1
      have : arr = (ns.map (Value.int .u8)).toArray := by apply Array.ext'; simpa using h3
      rw [this] at h1
      exact ⟨_, run_bytesToString w ad len c ns h1, .str (by rw [foldl_push, h4]; rfl)⟩
  unfold lenA at hl
  split at hl
  all_goals first
    | (cases hl; done)
    | (exact absurd rfl (hx _))
    | (simp only [Option.some.injEq] at hl; cases hv; exact key _ _ _ rfl hl)

theorem conv_mark {s : TypeId} {ts te : TI} {e : TypeId} {b o : Nat} {en : Ent} {len c : Nat} {H H' : Hp} {w : World} (hr : Rel φ H w) (hen : φ b = some en)
    (hs : C.ty.get s = some ts) (hts : ts.td = .slice e) (he : C.ty.get e = some te) (hte : te.td = .int .u8) (hm : markA H b = some H') :
    ∃ w', (convert s s (.slice (some ⟨en.blk, en.base + o, none⟩) len c)).run P w = .ok (.slice (some ⟨en.blk, en.base + o, none⟩) len c) w' ∧ Rel φ H' w' ∧ Aft φ w φ w' := by
  obtain ⟨us, hus, hrs⟩ := run_under hC hs
  obtain ⟨ue, hue, hre⟩ := run_under hC he
  obtain rfl := td_slice (hus.symm.trans hts)
  obtain rfl := td_int (hue.symm.trans hte)
  unfold markA at hm
  split at hm
  case h_2 => cases hm
  rename_i cc m frz mk z e' hb
  split at hm
  case h_2 => cases hm
  simp only [Option.some.injEq] at hm
  subst hm
  obtain ⟨e2, arr, fr, he2, hob, hs1, hn2, hz, hvv, hf⟩ := hr.cellsOf hb
  rw [hen] at he2
  cases he2
  have hfz := freeze_putB (n := 1) (o := arr.size) hob (by omega)
  obtain ⟨r1, r2⟩ := hr.set (o := .cells cc m 0 true z e') (ob := .cells arr e' (if fr.1 = fr.2 then (arr.size, arr.size + 1) else (min fr.1 arr.size, max fr.2 (arr.size + 1))))
    hb hen (.cells hs1 hn2 hz hvv (by
      refine .inr (.inr ⟨rfl, ?_⟩)
      split
      · show en.lim ≤ arr.size; omega
      · rename_i hne
        rcases hf with h | ⟨h, _⟩ | ⟨_, h⟩
        · exact absurd h hne
        · omega
        · show en.lim ≤ min fr.1 arr.size; omega))
  refine ⟨_, ?_, r1, r2⟩
  rw [← hfz]
  simp [convert, hrs, hre, markStringish, shape_of hob]

omit hC in
theorem run_viewAt {w : World} {g : Nat} {arr : Array Value} {t : TypeId} {fr : Nat × Nat} (h : w.heap[g]? = some (.cells arr t fr)) : (viewAt g).run P w = .ok none w := by
  simp [viewAt, shape_of h]

theorem conv_uptr {s d t : TypeId} {ts td tt : TI} {b o : Nat} {en : Ent} {H : Hp} {w : World} {c : T AV} {n frz : Nat} {mk z : Bool} {e : TypeId} (hr : Rel φ H w) (hen : φ b = some en)
    (hs : C.ty.get s = some ts) (hd : C.ty.get d = some td) (hts : ts.td = .ptr t) (hk : td.td = .uptr) (ht : C.ty.get t = some tt) (hb : H.get b = some (.cells c n frz mk z e)) (h1 : o < n) (h2 : 0 < tt.size) :
    (convert s d (.pointer (some ⟨en.blk, en.base + o, none⟩))).run P w = .ok (.pointer (some ⟨en.blk, en.base + o, none⟩)) w := by
  obtain ⟨us, hus, hrs⟩ := run_under hC hs
  obtain ⟨ud, hud, hrd⟩ := run_under hC hd
  obtain rfl := td_ptr (hus.symm.trans hts)
  obtain rfl := td_uptr (hud.symm.trans hk)
  obtain ⟨e2, arr, fr, he2, hob, hs1, hn2, hz, hvv, hf⟩ := hr.cellsOf hb
  rw [hen] at he2
  cases he2
  have hsz := fun w => run_size hC ht w
  have h3 : ¬ (arr.size ≤ en.base + o) := by omega
  have h4 : ¬ tt.size = 0 := by omega
  simp [convert, hrs, hrd, Conv.unsafePointer, Conv.seenAt, run_viewAt hob, cellsIn, shape_of hob, hsz, h3, h4]

theorem conv_ptr {s d u : TypeId} {ts td tu : TI} {uu : Unit} {b : Nat} {en : Ent} {H : Hp} {w : World} {c : T AV} {n frz : Nat} {mk : Bool} (hr : Rel φ H w) (hen : φ b = some en)
    (hs : C.ty.get s = some ts) (hd : C.ty.get d = some td) (hts : ts.td = .uptr) (hk : td.td = .ptr u) (hu : C.ty.get u = some tu) (hlay : C.lay.get u = some uu)
    (hb : H.get b = some (.cells c n frz mk true u)) (h1 : tu.size ≤ n) (h2 : 0 < tu.size) :
    (convert s d (.pointer (some ⟨en.blk, en.base + 0, none⟩))).run P w = .ok (.pointer (some ⟨en.blk, en.base + 0, none⟩)) w := by
  obtain ⟨us, hus, hrs⟩ := run_under hC hs
  obtain ⟨ud, hud, hrd⟩ := run_under hC hd
  obtain rfl := td_uptr (hus.symm.trans hts)
  obtain rfl := td_ptr (hud.symm.trans hk)
  obtain ⟨e2, arr, fr, he2, hob, hs1, hn2, hz, hvv, hf⟩ := hr.cellsOf hb
  rw [hen] at he2
  cases he2
  have hsz := fun w => run_size hC hu w
  have h4 : ¬ tu.size = 0 := by omega
  have hlies : liesAt P P.depth u (arr.size / P.cellsOf u) (en.base + 0) u 1 = true := by
    have hlay' := hC.lay u uu hlay
    obtain ⟨d, hd⟩ : ∃ d, P.depth = d + 1 := by
      cases hd : P.depth with
      | zero => rw [hd] at hlay'; cases hlay'
      | succ d => exact ⟨d, rfl⟩
    rw [hd] at hlay' ⊢
    simp only [liesAt, Bool.or_eq_true]
    left
    have hbase := hz rfl
    rw [hd]
    have hq : 1 ≤ arr.size / tu.size := (Nat.one_le_div_iff h2).2 (by omega)
    simp only [rowAt, cellsOf_eq hC hu, if_neg h4, hbase, Nat.zero_add, Nat.zero_div, Nat.zero_mod]
    simp [hlay', hq]
  have hva : (variablesAt ⟨en.blk, en.base + 0, none⟩ u 1).run P w = .ok true w := by
    simp only [variablesAt, Sem.run_bind, run_program, Result.andThen_ok, run_shape, shape_of hob, Sem.run_pure, hlies]
  simp only [Nat.add_zero] at hva
  simp [convert, hrs, hrd, Conv.unsafePointer, Conv.seenAt, run_viewAt hob, hsz, h4, hva]
end
end Go.Abs

namespace Go.Abs
open Go

theorem run_getObjAt {P : Program} {w : World} {r : Nat} {o : Obj} (h : w.heap[r]? = some o) (hn : ∀ c e f, o ≠ .cells c e f := by simp) : (getObj r).run P w = .ok o w := by
  simp only [getObj, Sem.run, h]

section
variable {P : Program} {φ : Phi} {F : T AV} {nt : Nat} {a : Act} {C : Ctx} (hC : CtxOK C P)
include hC

theorem does_convert (hT : TR φ F nt a.tmps) {s d : TypeId} {x : Operand} {H H' : Hp} {v : AV} (h : opConvert C F H s d x = some (v, H')) : Does P φ a (.convert s d x) H v H' := by
  unfold opConvert at h
  split at h
  case h_2 => cases h
  rename_i av hx
  have vx := ev_sound hT hx
  unfold convertA at h
  split at h
  case h_2 => cases h
  rename_i ts hs
  split at h
  case h_2 => cases h
  rename_i td hd
  have done : ∀ {y : AV}, (∀ w, Rel φ H w → ∃ z, (convert s d (a.eval x)).run P w = .ok z w ∧ V φ y z) → Does P φ a (.convert s d x) H y H := by
    intro y hy o ho w hr
    obtain ⟨z, h1, h2⟩ := hy w hr
    exact ⟨z, w, φ, .inl (by simp only [execOp, ho, Sem.run_bind, h1, Result.andThen_ok, Sem.run_pure]), h2, hr, Aft.refl φ w⟩
  split at h
  · -- int
    rename_i k k' n hk
    simp only [Option.some.injEq, Prod.mk.injEq] at h
    obtain ⟨rfl, rfl⟩ := h
    generalize hu : a.eval x = u at vx
    cases vx
    refine done fun w _ => ⟨_, by rw [hu]; exact conv_int hC hs hd hk w, ?_⟩
    rw [wrapA_eq]
    exact .int _ _
  · -- string
    rename_i b hk
    simp only [Option.some.injEq, Prod.mk.injEq] at h
    obtain ⟨rfl, rfl⟩ := h
    generalize hu : a.eval x = u at vx
    cases vx with
    | str hb => exact done fun w _ => ⟨_, by rw [hu]; exact conv_str hC hs hd hk w, .str hb⟩
  · -- the bytes of a string
    rename_i e b hk
    split at h
    case h_2 => cases h
    rename_i te hte
    split at h
    case h_2 => cases h
    rename_i ht8 _
    simp only [Option.some.injEq, Prod.mk.injEq] at h
    obtain ⟨rfl, rfl⟩ := h
    exact (makes_bytes hC hT hs hd hk hte ht8 hx).does H
  · -- the string of bytes
    rename_i y hk hnot
    split at h
    case h_2 => cases h
    rename_i e hts
    split at h
    case h_2 => cases h
    rename_i te hte
    split at h
    case h_2 => cases h
    rename_i n ht8 hl
    split at h
    · cases h
    · rename_i hns
      split at h
      case h_2 => cases h
      rename_i cs hcs
      split at h
      case h_2 => cases h
      rename_i bs hbs
      simp only [Option.some.injEq, Prod.mk.injEq] at h
      obtain ⟨rfl, rfl⟩ := h
      exact done fun w hr => conv_bytes hC hr vx hs hd hts hk hte ht8 hl (fun b hb => hns b hb) hcs hbs
  · -- a mark
    rename_i e b o len sz hk
    split at h
    case h_2 => cases h
    rename_i hsd
    have hsd := Nat.eq_of_beq_eq_true hsd
    subst hsd
    rw [hs] at hd
    cases hd
    split at h
    case h_2 => cases h
    rename_i te hte
    split at h
    case h_2 => cases h
    rename_i ht8
    split at h
    case h_2 => cases h
    rename_i H1 hm
    simp only [Option.some.injEq, Prod.mk.injEq] at h
    obtain ⟨rfl, rfl⟩ := h
    generalize hu : a.eval x = u at vx
    cases vx with
    | @slo _ _ _ _ cc en hen hlc hcc =>
    intro oo ho w hr
    obtain ⟨w', h1, h2, h3⟩ := conv_mark (P := P) (o := o) (len := len) (c := cc) hC hr hen hs hk hte ht8 hm
    exact ⟨_, w', φ, .inl (by simp only [execOp, ho, hu, Sem.run_bind, h1, Result.andThen_ok, Sem.run_pure]), .slo hen hlc hcc, h2, h3⟩
  · rename_i e b o len sz hk
    split at h
    case h_2 => cases h
    rename_i hsd
    have hsd := Nat.eq_of_beq_eq_true hsd
    subst hsd
    rw [hs] at hd
    cases hd
    split at h
    case h_2 => cases h
    rename_i te hte
    split at h
    case h_2 => cases h
    rename_i ht8
    split at h
    case h_2 => cases h
    rename_i H1 hm
    simp only [Option.some.injEq, Prod.mk.injEq] at h
    obtain ⟨rfl, rfl⟩ := h
    generalize hu : a.eval x = u at vx
    cases vx with
    | @slc _ _ _ _ en hen hlc =>
    intro oo ho w hr
    obtain ⟨w', h1, h2, h3⟩ := conv_mark (P := P) (o := o) (len := len) (c := sz) hC hr hen hs hk hte ht8 hm
    exact ⟨_, w', φ, .inl (by simp only [execOp, ho, hu, Sem.run_bind, h1, Result.andThen_ok, Sem.run_pure]), .slc hen hlc, h2, h3⟩
  · -- to an unsafe pointer
    rename_i b o hk
    split at h
    case h_2 => cases h
    rename_i t hts
    split at h
    case h_2 => cases h
    rename_i tt c n frz mk z e ht hb
    split at h
    case h_2 => cases h
    rename_i hc
    simp only [Bool.and_eq_true] at hc
    simp only [Option.some.injEq, Prod.mk.injEq] at h
    obtain ⟨rfl, rfl⟩ := h
    generalize hu : a.eval x = u at vx
    cases vx with
    | ptr hen => exact done fun w hr => ⟨_, by rw [hu]; exact conv_uptr hC hr hen hs hd hts hk ht hb (Nat.le_of_ble_eq_true hc.1) (Nat.le_of_ble_eq_true hc.2), .ptr hen⟩
  · -- from an unsafe pointer
    rename_i u b o hk
    split at h
    case h_2 => cases h
    rename_i hts
    split at h
    case h_2 => cases h
    rename_i tu c n frz mk e hlay ht hb
    split at h
    case h_2 => cases h
    rename_i hc
    simp only [Bool.and_eq_true] at hc
    simp only [Option.some.injEq, Prod.mk.injEq] at h
    obtain ⟨rfl, rfl⟩ := h
    obtain ⟨⟨⟨c1, c2⟩, c3⟩, c4⟩ := hc
    have c1 := Nat.eq_of_beq_eq_true c1
    have c3 := Nat.eq_of_beq_eq_true c3
    subst c1; subst c3
    generalize hu : a.eval x = u at vx
    cases vx with
    | ptr hen => exact done fun w hr => ⟨_, by rw [hu]; exact conv_ptr hC hr hen hs hd hts hk ht hlay hb (Nat.le_of_ble_eq_true c2) (Nat.le_of_ble_eq_true c4), .ptr hen⟩
  · cases h

theorem makes_range (hT : TR φ F nt a.tmps) {t : TypeId} {x : Operand} {H H' : Hp} {v : AV} (h : opRange C F H t x = some (.val v H')) : Does P φ a (.range t x) H v H' := by
  unfold opRange at h
  split at h
  case h_2 => cases h
  rename_i ti hti
  split at h
  case h_2 => cases h
  rename_i y hx
  have vx := ev_sound hT hx
  obtain ⟨d, hd, hr⟩ := run_under hC hti
  split at h
  · rename_i hm
    obtain rfl := td_map (hd.symm.trans hm)
    generalize hu : a.eval x = u at vx
    cases vx
    simp only [Option.some.injEq, OR.val.injEq] at h
    obtain ⟨rfl, rfl⟩ := h
    intro o ho w hrel
    obtain ⟨r1, r2⟩ := hrel.new (e := ⟨w.heap.size, 0, 0⟩) (o := .miter none) (ob := .mapIter none 0 #[] 0) rfl (.miter0 rfl)
    refine ⟨.pointer (some ⟨w.heap.size, 0, none⟩), _, _, .inl ?_, ?_, r1, r2⟩
    · simp [execOp, ho, hu, Instr.range, hr]; rfl
    · have := V.ptr (φ := φ.put H.next ⟨w.heap.size, 0, 0⟩) (o := 0) (Phi.put_same _ _ _)
      simpa using this
  · rename_i r hm
    obtain rfl := td_map (hd.symm.trans hm)
    generalize hu : a.eval x = u at vx
    cases vx with
    | @map _ en hen =>
    split at h
    case h_2 => cases h
    rename_i es hg
    simp only [Option.some.injEq, OR.val.injEq] at h
    obtain ⟨rfl, rfl⟩ := h
    intro o ho w hrel
    obtain ⟨e2, ob, hen2, hob, hor⟩ := hrel.obj _ _ hg
    obtain rfl : en = e2 := Option.some.inj (hen.symm.trans hen2)
    cases hor with
    | @map _ arr clock hk hv' =>
    obtain ⟨r1, r2⟩ := hrel.new (e := ⟨w.heap.size, 0, 0⟩) (o := .miter (some r)) (ob := .mapIter (some en.blk) clock #[] clock) rfl (.miter1 rfl (hrel.fresh _ _ hen))
    have hgo := run_getObjAt (P := P) hob
    refine ⟨.pointer (some ⟨w.heap.size, 0, none⟩), _, _, .inl ?_, ?_, r1, r2⟩
    · simp [execOp, ho, hu, Instr.range, hr, hgo]; rfl
    · have := V.ptr (φ := φ.put H.next ⟨w.heap.size, 0, 0⟩) (o := 0) (Phi.put_same _ _ _)
      simpa using this
  · cases h

omit hC in
theorem does_next (hT : TR φ F nt a.tmps) {x : Operand} {H : Hp} {v : AV} (h : opNext F H x = some v) : Does P φ a (.next x false) H v H := by
  unfold opNext at h
  split at h
  case h_2 => cases h
  rename_i b hx
  obtain ⟨en, hen, hev⟩ := ev_ptr hT hx
  intro o ho w hrel
  split at h
  · rename_i hb
    simp only [Option.some.injEq] at h
    subst h
    obtain ⟨e2, ob, he2, hob, hor⟩ := hrel.obj _ _ hb
    rw [hen] at he2
    cases he2
    cases hor with
    | miter0 hb0 =>
    have hgo := run_getObjAt (P := P) hob
    refine ⟨.tuple #[.bool false], w, φ, .inl ?_, .tup (.cons (.bool _) .nil), hrel, Aft.refl φ w⟩
    simp [execOp, ho, hev, hb0, Instr.next, hgo]
  · rename_i r hb
    split at h
    case h_2 => cases h
    rename_i hm
    simp only [Option.some.injEq] at h
    subst h
    obtain ⟨e2, ob, he2, hob, hor⟩ := hrel.obj _ _ hb
    rw [hen] at he2
    cases he2
    obtain ⟨e3, ob3, he3, hob3, hor3⟩ := hrel.obj _ _ hm
    cases hor with
    | miter1 hb0 hr =>
    rw [hr] at he3
    cases he3
    cases hor3 with
    | @map _ arr clock hk hv' =>
    have harr : arr = #[] := by
      have := hk.length
      simp at this
      exact Array.eq_empty_of_size_eq_zero (by omega)
    subst harr
    have hgo := run_getObjAt (P := P) hob
    have hgo3 := run_getObjAt (P := P) hob3
    refine ⟨.tuple #[.bool false], w, φ, .inl ?_, .tup (.cons (.bool _) .nil), hrel, Aft.refl φ w⟩
    simp [execOp, ho, hev, hb0, Instr.next, hgo, hgo3, Question.forced]
  · cases h
end
end Go.Abs

namespace Go.Abs
open Go

section
variable {P : Program} {φ : Phi} {F : T AV} {nt : Nat} {a : Act} {C : Ctx} (hC : CtxOK C P)

theorem valO_val {H H' : Hp} {o : Option AV} {v : AV} (h : valO H o = some (.val v H')) : o = some v ∧ H = H' := by
  cases o <;> simp [valO] at h
  exact ⟨by rw [h.1], h.2⟩
theorem valH_val {H' : Hp} {o : Option (AV × Hp)} {v : AV} (h : valH o = some (.val v H')) : o = some (v, H') := by
  cases o with
  | none => simp [valH] at h
  | some p => obtain ⟨x, y⟩ := p; simp [valH] at h; simp [h]
theorem valO_call {H : Hp} {o : Option AV} {f : FuncId} {xs : List AV} (h : valO H o = some (.call f xs)) : False := by cases o <;> simp [valO] at h
theorem valH_call {o : Option (AV × Hp)} {f : FuncId} {xs : List AV} (h : valH o = some (.call f xs)) : False := by
  cases o with
  | none => simp [valH] at h
  | some p => obtain ⟨x, y⟩ := p; simp [valH] at h
theorem valO_yld {H : Hp} {o : Option AV} {f : Nat} {xs : List AV} (h : valO H o = some (.yld f xs)) : False := by cases o <;> simp [valO] at h
theorem valH_yld {o : Option (AV × Hp)} {f : Nat} {xs : List AV} (h : valH o = some (.yld f xs)) : False := by
  cases o with
  | none => simp [valH] at h
  | some p => obtain ⟨x, y⟩ := p; simp [valH] at h

/-- A call of a function. -/
def CallsTo (P : Program) (φ : Phi) (a : Act) (op : Op) (f : FuncId) (args : List AV) : Prop :=
  ∀ o : Oper, o.op = op → ∀ w, ∃ xs : Array Value, (execOp a.eval o).run P w = (callFunc f xs).run P w ∧ VL φ args xs.toList

/-- A round. -/
def YieldsTo (P : Program) (φ : Phi) (a : Act) (op : Op) (l : Nat) (args : List AV) : Prop :=
  ∀ o : Oper, o.op = op → ∀ w, ∃ (xs : Array Value) (e : Ent), φ l = some e ∧ (execOp a.eval o).run P w = (Instr.yield e.blk xs).run P w ∧ VL φ args xs.toList

theorem opValue_not {F : T AV} {f : Operand} {xs : List AV} {v : AV} {H : Hp} (h : opValue F f xs = some (.val v H)) : False := by
  unfold opValue at h
  split at h <;> simp at h

theorem opValue_call (hT : TR φ F nt a.tmps) {c : Call} {f : Operand} {xs args : List AV} {g : FuncId} (hc : c.callee = .value f) (hxs : evs F c.args.toList = some xs) (h : opValue F f xs = some (.call g args)) :
    CallsTo P φ a (.call c) g args := by
  unfold opValue at h
  split at h
  · rename_i g' first cap hf
    simp only [Option.some.injEq, OR.call.injEq] at h
    obtain ⟨rfl, rfl⟩ := h
    have vf := ev_sound hT hf
    have va := evs_sound hT hxs
    intro o ho w
    generalize hu : a.eval f = u at vf
    cases vf with
    | @fn _ _ _ x y h1 h2 =>
    refine ⟨x ++ c.args.map a.eval ++ y, ?_, ?_⟩
    · simp only [execOp, ho, resolve, hc, hu, Deferred.ofValue, Sem.run_bind, Sem.run_pure, Result.andThen_ok, invoke]
    · simpa using (h1.append va).append h2
  · simp at h
  · cases h

theorem opValue_yld (hT : TR φ F nt a.tmps) {c : Call} {f : Operand} {xs args : List AV} {l : Nat} (hc : c.callee = .value f) (hxs : evs F c.args.toList = some xs) (h : opValue F f xs = some (.yld l args)) :
    YieldsTo P φ a (.call c) l args := by
  unfold opValue at h
  split at h
  · simp at h
  · rename_i l' hf
    simp only [Option.some.injEq, OR.yld.injEq] at h
    obtain ⟨rfl, rfl⟩ := h
    have vf := ev_sound hT hf
    have va := evs_sound hT hxs
    intro o ho w
    generalize hu : a.eval f = u at vf
    cases vf with
    | @yld _ e he =>
    refine ⟨c.args.map a.eval, e, he, ?_, by simpa using va⟩
    simp only [execOp, ho, resolve, hc, hu, Deferred.ofValue, Sem.run_bind, Sem.run_pure, Result.andThen_ok, invoke, Array.empty_append]
  · cases h

include hC
theorem opCall_does (hT : TR φ F nt a.tmps) {H H' : Hp} {c : Call} {v : AV} (h : opCall C F H c = some (.val v H')) : Does P φ a (.call c) H v H' := by
  unfold opCall at h
  split at h
  case h_2 => cases h
  rename_i xs hxs
  split at h
  · rename_i b hc
    have h := valH_val h
    have va := evs_sound hT hxs
    obtain ⟨callee, args, tys⟩ := c
    subst hc
    exact (builtin_sound hC (by simpa using va) h).does
  · exact (opValue_not h).elim
  · cases h

theorem opA3_does (hT : TR φ F nt a.tmps) {H H' : Hp} {op : Op} {v : AV} (h : opA3 C F H op = some (.val v H')) : Does P φ a op H v H' := by
  unfold opA3 at h
  split at h
  · unfold opAlloc at h
    split at h
    case h_2 => cases h
    rename_i ti hti
    simp only [Option.some.injEq, OR.val.injEq] at h
    obtain ⟨rfl, rfl⟩ := h
    exact (makes_alloc hC hti).does H
  · unfold opBox at h
    split at h
    case h_2 => cases h
    rename_i y hy
    simp only [Option.some.injEq, OR.val.injEq] at h
    obtain ⟨rfl, rfl⟩ := h
    exact (makes_box hT hy).does H
  · obtain ⟨h1, rfl⟩ := valO_val h
    exact (ylds_build hC hT h1).does H
  · unfold opBuildSlice at h
    split at h
    case h_2 => cases h
    rename_i ti hti
    split at h
    case h_2 => cases h
    rename_i e htd
    split at h
    case h_2 => cases h
    rename_i te hte
    split at h
    case h_2 => cases h
    rename_i hle
    split at h
    case h_2 => cases h
    rename_i cs hcs
    simp only [Option.some.injEq, OR.val.injEq] at h
    obtain ⟨rfl, rfl⟩ := h
    exact (makes_buildSlice hC hT hti htd hte (Nat.le_of_ble_eq_true hle) hcs).does H
  · exact does_convert hC hT (valH_val h)
  · obtain ⟨h1, rfl⟩ := valO_val h
    exact (ylds_makeFunc hT h1).does H
  · simp only [Option.some.injEq, OR.val.injEq] at h
    obtain ⟨rfl, rfl⟩ := h
    exact (makes_map _).does H
  · unfold opMakeSlice at h
    split at h
    case h_2 => cases h
    rename_i ti hti
    split at h
    case h_2 => cases h
    rename_i e htd
    split at h
    case h_2 => cases h
    rename_i te hte
    split at h
    case h_2 => cases h
    rename_i k1 ln hln
    split at h
    case h_2 => cases h
    rename_i k2 cn hcn
    split at h
    case h_2 => cases h
    rename_i hc
    simp only [Option.some.injEq, OR.val.injEq] at h
    obtain ⟨rfl, rfl⟩ := h
    exact (makes_makeSlice hC hT hti htd hte hln hcn hc).does H
  · obtain ⟨h1, rfl⟩ := valO_val h
    exact (ylds_slice hC hT h1).does H
  · obtain ⟨h1, rfl⟩ := valO_val h
    exact (ylds_field hC hT h1).does H
  · exact makes_range hC hT h
  · obtain ⟨h1, rfl⟩ := valO_val h
    exact does_next hT h1
  · cases h

theorem opA2_does (hT : TR φ F nt a.tmps) {H H' : Hp} {op : Op} {v : AV} (h : opA2 C F H op = some (.val v H')) : Does P φ a op H v H' := by
  unfold opA2 at h
  split at h
  · obtain ⟨h1, rfl⟩ := valO_val h
    exact (ylds_pick hT h1).does H
  · obtain ⟨h1, rfl⟩ := valO_val h
    exact (ylds_nilCheck hT h1).does H
  · exact does_store hC hT h
  · obtain ⟨h1, rfl⟩ := valO_val h
    exact (ylds_extract hT h1).does H
  · obtain ⟨h1, rfl⟩ := valO_val h
    exact (ylds_unOp hT h1).does H
  · obtain ⟨h1, rfl⟩ := valO_val h
    exact (ylds_index hC hT h1).does H
  · obtain ⟨h1, rfl⟩ := valO_val h
    exact (ylds_indexAddr hC hT h1).does H
  · exact opA3_does hC hT h

theorem opA_does (hT : TR φ F nt a.tmps) {H H' : Hp} {op : Op} {v : AV} (h : opA C F H op = some (.val v H')) : Does P φ a op H v H' := by
  unfold opA at h
  split at h
  · obtain ⟨h1, rfl⟩ := valO_val h
    exact (ylds_move hT h1).does H
  · obtain ⟨h1, rfl⟩ := valO_val h
    exact (ylds_assign hT h1).does H
  · obtain ⟨h1, rfl⟩ := valO_val h
    exact does_load hC hT h1
  · obtain ⟨h1, rfl⟩ := valO_val h
    exact (ylds_fieldAddr hC hT h1).does H
  · obtain ⟨h1, rfl⟩ := valO_val h
    exact (ylds_binOp hC hT h1).does H
  · exact opCall_does hC hT h
  · exact opA2_does hC hT h

omit hC in
theorem opA_call' {H : Hp} {op : Op} {r : OR} (hr : (∃ f xs, r = .call f xs) ∨ ∃ l xs, r = .yld l xs) (h : opA C F H op = some r) :
    ∃ c f xs, op = .call c ∧ c.callee = .value f ∧ evs F c.args.toList = some xs ∧ opValue F f xs = some r := by
  have no : ∀ {o : Option AV}, valO H o = some r → False := by
    intro o ho
    rcases hr with ⟨f, xs, rfl⟩ | ⟨l, xs, rfl⟩
    · exact valO_call ho
    · exact valO_yld ho
  have noh : ∀ {o : Option (AV × Hp)}, valH o = some r → False := by
    intro o ho
    rcases hr with ⟨f, xs, rfl⟩ | ⟨l, xs, rfl⟩
    · exact valH_call ho
    · exact valH_yld ho
  have nov : ∀ {v : AV} {H' : Hp}, (some (OR.val v H') : Option OR) = some r → False := by
    intro v H' ho
    rcases hr with ⟨f, xs, rfl⟩ | ⟨l, xs, rfl⟩ <;> simp at ho
  unfold opA at h
  split at h
  case h_6 c =>
    unfold opCall at h
    split at h
    case h_2 => cases h
    rename_i xs hxs
    split at h
    · exact (noh h).elim
    · rename_i f hc
      exact ⟨_, f, xs, rfl, hc, hxs, h⟩
    · cases h
  case h_7 =>
    exfalso
    unfold opA2 at h
    split at h <;> first | exact no h | skip
    · unfold opStore at h
      repeat' split at h
      all_goals first | exact nov h | (cases h; done)
    · unfold opA3 at h
      split at h <;> first | exact no h | exact noh h | exact nov h | (cases h; done) | skip
      · unfold opAlloc at h
        split at h
        · exact nov h
        · cases h
      · unfold opBox at h
        split at h
        · exact nov h
        · cases h
      · unfold opBuildSlice at h
        repeat' split at h
        all_goals first | exact nov h | (cases h; done)
      · unfold opMakeSlice at h
        repeat' split at h
        all_goals first | exact nov h | (cases h; done)
      · unfold opRange at h
        repeat' split at h
        all_goals first | exact nov h | (cases h; done)
  all_goals exact (no h).elim

omit hC in
theorem opA_calls (hT : TR φ F nt a.tmps) {H : Hp} {op : Op} {g : FuncId} {args : List AV} (h : opA C F H op = some (.call g args)) : CallsTo P φ a op g args := by
  obtain ⟨c, f, xs, rfl, hc, hxs, ho⟩ := opA_call' (.inl ⟨_, _, rfl⟩) h
  exact opValue_call hT hc hxs ho

omit hC in
theorem opA_ylds (hT : TR φ F nt a.tmps) {H : Hp} {op : Op} {l : Nat} {args : List AV} (h : opA C F H op = some (.yld l args)) : YieldsTo P φ a op l args := by
  obtain ⟨c, f, xs, rfl, hc, hxs, ho⟩ := opA_call' (.inr ⟨_, _, rfl⟩) h
  exact opValue_yld hT hc hxs ho
end
end Go.Abs
