/-
  Functions without a body, told by Lean functions.
  The executor's tables, out of the program; the functions that are told; runs cut into pieces.
  Calls that are told without their objects.
  The executor, stepped by hand: at values that are variables.
  What a function comes to by plain names, reckoned off a table and a mask.
-/
import Derived.Test.YthbjpjkeidhnbaaGreatDoorXf
import Derived.Lib.Bytealg
import Derived.Lib.MakeNoZero
import GoSem.ClaimFn
import GoSem.ClaimGoes
import Derived.Test.YthbjpjkeidhnbaaGreatDoorXa
set_option linter.all false
namespace Go.Abs
open Go

def only (f : FuncId) (g : SF) : CallF := fun f' args H => if f' = f then g args H else none

theorem callS_only {P : Program} {f : FuncId} {g : SF} (h : ∀ args H v H', g args H = some (v, H') → ∀ φ w (xs : Array Value), Rel φ H w → VL φ args xs.toList → CallOK P φ f xs w v H') : CallS P (only f g) := by
  intro f' args H v H' hg φ w xs hr hv
  unfold only at hg
  split at hg
  · rename_i he
    subst he
    exact h args H v H' hg φ w xs hr hv
  · cases hg

/-- a call that gives a value at once -/
theorem callOK_value {P : Program} {φ : Phi} {f : FuncId} {xs : Array Value} {w : World} {v : AV} {H : Hp} {y : Value} (h : (callFunc f xs).run P w = .ok (.value y) w) (hv : V φ v y) (hr : Rel φ H w) : CallOK P φ f xs w v H :=
  ⟨_, w, h, .inl ⟨y, φ, rfl, hv, hr, Aft.refl φ w⟩⟩

theorem VL.toArray_two {φ : Phi} {a b : AV} {xs : Array Value} (h : VL φ [a, b] xs.toList) : ∃ x y, xs = #[x, y] ∧ V φ a x ∧ V φ b y := by
  obtain ⟨l⟩ := xs
  cases h with
  | cons h1 h2 => cases h2 with
    | cons h3 h4 => cases h4; exact ⟨_, _, rfl, h1, h3⟩
theorem VL.toArray_one {φ : Phi} {a : AV} {xs : Array Value} (h : VL φ [a] xs.toList) : ∃ x, xs = #[x] ∧ V φ a x := by
  obtain ⟨l⟩ := xs
  cases h with
  | cons h1 h2 => cases h2; exact ⟨_, rfl, h1⟩

theorem byte_eq {b : UInt8} {c : Int} (h0 : 0 ≤ c) (h1 : c ≤ 255) : eqI (Int.ofNat b.toNat) c = (b == c.toNat.toUInt8) := by
  obtain ⟨n, rfl⟩ := Int.eq_ofNat_of_zero_le h0
  rw [Bool.eq_iff_iff, eqI_iff, beq_iff_eq]
  have hb := UInt8.toNat_lt b
  constructor
  · intro h
    have h : b.toNat = n := Int.ofNat.inj h
    rw [← h]
    simp
  · intro h
    rw [h]
    simp
    omega

theorem idxByte_eq {c : Int} (h0 : 0 ≤ c) (h1 : c ≤ 255) : ∀ (l : List UInt8) (i : Nat), idxByte c l i = if Lib.indexByte l c.toNat.toUInt8 = -1 then -1 else i + Lib.indexByte l c.toNat.toUInt8
  | [], i => by simp [idxByte, Lib.indexByte]
  | b :: l, i => by
    simp only [idxByte, Lib.indexByte]
    rw [byte_eq h0 h1]
    rcases Bool.eq_false_or_eq_true (b == c.toNat.toUInt8) with hb | hb
    · simp [hb]
    · simp only [hb, Bool.false_eq_true, if_false]
      rw [idxByte_eq h0 h1 l (i + 1)]
      have hge := Lib.indexByte_ge l c.toNat.toUInt8
      by_cases h : Lib.indexByte l c.toNat.toUInt8 = -1
      · simp [h]
      · have h' : (Lib.indexByte l c.toNat.toUInt8 == -1) = false := by rw [beq_eq_false_iff_ne]; exact h
        simp only [h, h', if_false, Bool.false_eq_true]
        rw [if_neg (by omega)]
        simp
        omega

theorem idxByte_zero {c : Int} (h0 : 0 ≤ c) (h1 : c ≤ 255) (l : List UInt8) : idxByte c l 0 = Lib.indexByte l c.toNat.toUInt8 := by
  rw [idxByte_eq h0 h1]
  split
  · rename_i h; exact h.symm
  · simp

theorem cntByte_eq {c : Int} (h0 : 0 ≤ c) (h1 : c ≤ 255) : ∀ (l : List UInt8) (n : Nat), cntByte c l n = n + Lib.countByte l c.toNat.toUInt8
  | [], n => by simp [cntByte, Lib.countByte]
  | b :: l, n => by
    simp only [cntByte]
    rw [byte_eq h0 h1]
    unfold Lib.countByte
    rw [List.count_cons]
    rcases Bool.eq_false_or_eq_true (b == c.toNat.toUInt8) with hb | hb
    · simp only [hb]; rw [cntByte_eq h0 h1 l (n + 1)]; simp [Lib.countByte]; omega
    · simp only [hb]; rw [cntByte_eq h0 h1 l n]; simp [Lib.countByte]

theorem indexByte_append (p q : List UInt8) (c : UInt8) : Lib.indexByte (p ++ q) c = if Lib.indexByte p c = -1 then (if Lib.indexByte q c = -1 then -1 else p.length + Lib.indexByte q c) else Lib.indexByte p c := by
  induction p with
  | nil =>
    simp only [List.nil_append, Lib.indexByte, if_true, List.length_nil]
    split
    · assumption
    · simp
  | cons b p ih =>
    simp only [List.cons_append, Lib.indexByte]
    rcases Bool.eq_false_or_eq_true (b == c) with hb | hb
    · simp [hb]
    · simp only [hb, Bool.false_eq_true, if_false]
      have g1 := Lib.indexByte_ge p c
      have g2 := Lib.indexByte_ge q c
      by_cases h1 : Lib.indexByte p c = -1
      · rw [if_pos h1] at ih
        by_cases h2 : Lib.indexByte q c = -1
        · rw [if_pos h2] at ih
          simp [ih, h1, h2]
        · rw [if_neg h2] at ih
          have e1 : (Lib.indexByte (p ++ q) c == -1) = false := by rw [beq_eq_false_iff_ne, ih]; omega
          rw [e1, ih]
          simp only [h1, beq_self_eq_true, if_true, Bool.false_eq_true, if_false, h2, List.length_cons]
          omega
      · rw [if_neg h1] at ih
        have e1 : (Lib.indexByte (p ++ q) c == -1) = false := by rw [beq_eq_false_iff_ne, ih]; omega
        have e2 : (Lib.indexByte p c == -1) = false := by rw [beq_eq_false_iff_ne]; omega
        simp only [e1, e2, Bool.false_eq_true, if_false, ih]
        rw [if_neg (by omega)]

theorem indexByte_rep (n : Nat) (b c : UInt8) : Lib.indexByte (List.replicate n b) c = match n with | 0 => -1 | _ + 1 => if b == c then 0 else -1 := by
  induction n with
  | zero => rfl
  | succ n ih =>
    simp only [List.replicate_succ, Lib.indexByte]
    rcases Bool.eq_false_or_eq_true (b == c) with hb | hb
    · simp [hb]
    · simp only [hb, Bool.false_eq_true, if_false]
      rw [ih, hb]
      cases n <;> simp

theorem idxRep_eq {t : Int} (h0 : 0 ≤ t) (h1 : t ≤ 255) (p : List UInt8) (c : UInt8) (n : Nat) : idxRep t p c n = Lib.indexByte (p ++ List.replicate n c) t.toNat.toUInt8 := by
  rw [indexByte_append, indexByte_rep]
  unfold idxRep
  rw [idxByte_zero h0 h1]
  have hge := Lib.indexByte_ge p t.toNat.toUInt8
  rcases hi : Lib.indexByte p t.toNat.toUInt8 with i | i
  · simp only
    rw [if_neg (by simp)]
  · have hi' : i = 0 := by rw [hi] at hge; omega
    subst hi'
    simp only
    rw [if_pos (by rfl)]
    cases n with
    | zero => simp
    | succ n =>
      simp only
      rw [byte_eq h0 h1]
      rcases Bool.eq_false_or_eq_true (c == t.toNat.toUInt8) with hb | hb <;> simp [hb]

section
variable {P : Program} {f : FuncId} {fn : Func}

theorem sum_index (hf : P.funcs[f]? = some fn) (hname : (fn.name == "runtime.NumGoroutine") = false) (hb : fn.body.isNone = true) (hn : Extern.findNext fn = none) (he : Extern.find fn = some Extern.BytealgIndexByte.indexByte) :
    CallS P (only f indexByteF) := by
  refine callS_only fun args H v H' h φ w xs hr hv => ?_
  have run : ∀ (s : ByteArray) (c : Int), (callFunc f #[.string s, .int .u8 c]).run P w = .ok (.value (.int .i64 (Lib.indexByte s.data.toList c.toNat.toUInt8))) w := fun s c => by
    rw [run_callFunc_extern hf hname hb hn he, Lib.run_indexByteString]; rfl
  unfold indexByteF at h
  split at h
  · split at h
    case h_2 => cases h
    rename_i hc
    obtain ⟨c0, c1⟩ := (inI_iff _ _).1 hc
    simp only [Option.some.injEq, Prod.mk.injEq] at h
    obtain ⟨rfl, rfl⟩ := h
    obtain ⟨x, y, rfl, h1, h2⟩ := hv.toArray_two
    cases h1 with
    | str hs =>
    cases h2
    refine callOK_value (run _ _) ?_ hr
    rw [idxByte_zero c0 c1, ← hs]
    exact .int _ _
  · split at h
    case h_2 => cases h
    rename_i hc
    obtain ⟨c0, c1⟩ := (inI_iff _ _).1 hc
    simp only [Option.some.injEq, Prod.mk.injEq] at h
    obtain ⟨rfl, rfl⟩ := h
    obtain ⟨x, y, rfl, h1, h2⟩ := hv.toArray_two
    cases h1 with
    | rep hs =>
    cases h2
    refine callOK_value (run _ _) ?_ hr
    rw [idxRep_eq c0 c1, ← hs]
    exact .int _ _
  · cases h

theorem sum_count (hf : P.funcs[f]? = some fn) (hname : (fn.name == "runtime.NumGoroutine") = false) (hb : fn.body.isNone = true) (hn : Extern.findNext fn = none) (he : Extern.find fn = some Extern.BytealgCount.count) :
    CallS P (only f countByteF) := by
  refine callS_only fun args H v H' h φ w xs hr hv => ?_
  have run : ∀ (s : ByteArray) (c : Int), (callFunc f #[.string s, .int .u8 c]).run P w = .ok (.value (.int .i64 (Lib.countByte s.data.toList c.toNat.toUInt8))) w := fun s c => by
    rw [run_callFunc_extern hf hname hb hn he, Lib.run_countString]; rfl
  unfold countByteF at h
  split at h
  · split at h
    case h_2 => cases h
    rename_i hc
    obtain ⟨c0, c1⟩ := (inI_iff _ _).1 hc
    simp only [Option.some.injEq, Prod.mk.injEq] at h
    obtain ⟨rfl, rfl⟩ := h
    obtain ⟨x, y, rfl, h1, h2⟩ := hv.toArray_two
    cases h1 with
    | str hs =>
    cases h2
    refine callOK_value (run _ _) ?_ hr
    rw [cntByte_eq c0 c1, ← hs, Nat.zero_add]
    exact .int _ _
  · rename_i p b n c
    split at h
    case h_2 => cases h
    rename_i hc
    obtain ⟨c0, c1⟩ := (inI_iff _ _).1 hc
    obtain ⟨x, y, rfl, h1, h2⟩ := hv.toArray_two
    cases h1 with
    | rep hs =>
    cases h2
    have hcnt := run ‹ByteArray› c
    rw [hs] at hcnt
    have hcc : Lib.countByte (p ++ List.replicate n b) c.toNat.toUInt8 = cntByte c p 0 + if eqI (Int.ofNat b.toNat) c then n else 0 := by
      unfold Lib.countByte
      rw [List.count_append, List.count_replicate, cntByte_eq c0 c1, byte_eq c0 c1, Nat.zero_add]
      rfl
    rw [hcc] at hcnt
    split at h
    · rename_i hb
      simp only [Option.some.injEq, Prod.mk.injEq] at h
      obtain ⟨rfl, rfl⟩ := h
      rw [hb] at hcnt
      exact callOK_value hcnt (.int _ _) hr
    · rename_i hb
      simp only [Option.some.injEq, Prod.mk.injEq] at h
      obtain ⟨rfl, rfl⟩ := h
      rw [hb] at hcnt
      exact callOK_value hcnt (.int _ _) hr
  · cases h

theorem sum_same (hf : P.funcs[f]? = some fn) (hname : (fn.name == "runtime.NumGoroutine") = false) (hb : fn.body.isNone = true) (hn : Extern.findNext fn = none) (he : Extern.find fn = some Extern.AbiNoEscape.same) :
    CallS P (only f sameF) := by
  refine callS_only fun args H v H' h φ w xs hr hv => ?_
  unfold sameF at h
  split at h
  · simp only [Option.some.injEq, Prod.mk.injEq] at h
    obtain ⟨rfl, rfl⟩ := h
    obtain ⟨x, rfl, h1⟩ := hv.toArray_one
    refine callOK_value ?_ h1 hr
    rw [run_callFunc_extern hf hname hb hn he]
    rfl
  · cases h

theorem sum_noZero {ps : Array TypeId} {t e : TypeId} (hf : P.funcs[f]? = some fn) (hname : (fn.name == "runtime.NumGoroutine") = false) (hb : fn.body.isNone = true) (hn : Extern.findNext fn = none)
    (he : Extern.find fn = some (Extern.BytealgMakeNoZero.makeNoZero ps #[t])) (ht : P.underlying t = some (.slice e)) : CallS P (only f (makeNoZeroF e)) := by
  refine callS_only fun args H v H' h φ w xs hr hv => ?_
  unfold makeNoZeroF at h
  split at h
  · rename_i n
    split at h
    case h_2 => cases h
    rename_i hb
    simp only [Bool.and_eq_true, ltI_iff, leI_iff] at hb
    obtain ⟨b1, b2⟩ := hb
    simp only [Option.some.injEq, Prod.mk.injEq] at h
    obtain ⟨rfl, rfl⟩ := h
    obtain ⟨x, rfl, h1⟩ := hv.toArray_one
    cases h1
    obtain ⟨m, rfl⟩ := Int.eq_ofNat_of_zero_le (Int.le_of_lt b1)
    obtain ⟨cs, k1, k2, _⟩ := Lib.run_makeNoZero (P := P) w ps t e ht m (by omega)
    let en : Ent := ⟨w.heap.size, 0, cs.size⟩
    obtain ⟨r1, r2⟩ := hr.new (e := en) (o := .cells .lf 0 0 false false e) (ob := .cells cs e) rfl
      (.cells (fr := (0, 0)) rfl (Nat.zero_le _) (by simp) (fun i v hi => absurd hi (Nat.not_lt_zero _)) (.inl rfl))
    refine ⟨.value (.slice (some ⟨w.heap.size, 0, none⟩) m cs.size), { newB w (.cells cs e) with drawn := w.drawn + 2 }, ?_, .inl ⟨_, φ.put H.next en, rfl, ?_, r1.drew _, r2.drew (Nat.le_add_right _ _)⟩⟩
    · rw [run_callFunc_extern hf hname hb hn he, k1]
      rfl
    · exact .slo (o := 0) (Phi.put_same _ _ _) k2 (by show 0 + 0 + cs.size * 1 ≤ cs.size; omega)
  · cases h
end
end Go.Abs

namespace Go.Abs
open Go

noncomputable def fldsP (P : Program) : List Field → Bool
  | [] => true
  | f :: fs => match P.info? f.type with
    | some _ => fldsP P fs
    | none => false
noncomputable def fldP (P : Program) (d : TypeDesc) : Bool :=
  match d with
  | .struct fa => fldsP P fa.toList
  | _ => true
noncomputable def tyP (P : Program) (t : Nat) : Option TI :=
  match P.info? t with
  | some i => match P.underlying t with
    | some d => match i.zero with
      | some z => match ofVals z.cells.toList with
        | some l => match Nat.beq z.cells.size i.size && fldP P d with
          | true => some ⟨tdOf d, i.size, i.bytes, l⟩
          | false => none
        | none => none
      | none => none
    | none => none
  | none => none
noncomputable def fnP (P : Program) (f : Nat) : Option AF :=
  match P.funcs[f]? with
  | some fn => match fn.body with
    | some b => match fn.name == "runtime.NumGoroutine" with
      | false => some ⟨fn.ntmps, fn.results.toList, b⟩
      | true => none
    | none => none
  | none => none
noncomputable def sumL : List (Nat × SF) → Nat → Option SF
  | [], _ => none
  | p :: l, f => match Nat.beq f p.1 with
    | true => some p.2
    | false => sumL l f
noncomputable def ctxP (P : Program) (l : List (Nat × SF)) : Ctx := ⟨⟨tyP P⟩, ⟨fnP P⟩, ⟨sumL l⟩, ⟨fun _ => some ()⟩⟩

theorem fldsP_ok {P : Program} : ∀ {l : List Field}, fldsP P l = true → ∀ f ∈ l, ∃ i, P.info? f.type = some i
  | [], _, f, hf => by cases hf
  | g :: l, h, f, hf => by
    simp only [fldsP] at h
    split at h
    · rename_i i hi
      rcases List.mem_cons.1 hf with rfl | hf
      · exact ⟨i, hi⟩
      · exact fldsP_ok h f hf
    · cases h

theorem tyP_ok {P : Program} {t : Nat} {ti : TI} (h : tyP P t = some ti) : ∃ i d z, P.info? t = some i ∧ P.underlying t = some d ∧ ti.td = tdOf d ∧ i.size = ti.size ∧ i.bytes = ti.bytes ∧ i.zero = some z ∧
    ofVals z.cells.toList = some ti.zero ∧ z.cells.size = ti.size ∧ fldP P d = true := by
  unfold tyP at h
  split at h
  case h_2 => cases h
  rename_i i hi
  split at h
  case h_2 => cases h
  rename_i d hd
  split at h
  case h_2 => cases h
  rename_i z hz
  split at h
  case h_2 => cases h
  rename_i l hl
  split at h
  case h_2 => cases h
  rename_i hb
  rw [Bool.and_eq_true] at hb
  simp only [Option.some.injEq] at h
  subst h
  exact ⟨i, d, z, hi, hd, rfl, rfl, rfl, hz, hl, Nat.eq_of_beq_eq_true hb.1, hb.2⟩

theorem sameLayout_self (P : Program) (t : TypeId) : sameLayout P P.depth t t = true := by
  unfold Program.depth
  simp [sameLayout]

theorem ctxP_ok {P : Program} (hm : P.follows .mixedOrders = true) (l : List (Nat × SF)) : CtxOK (ctxP P l) P where
  ty := fun t ti h => by
    obtain ⟨i, d, z, h1, h2, h3, h4, h5, h6, h7, h8, _⟩ := tyP_ok (show tyP P t = some ti from h)
    exact ⟨i, d, z, h1, h2, h3, h4, h5, h6, h7, h8⟩
  fields := fun t ti h fa hfa f hf => by
    obtain ⟨i, d, z, h1, h2, h3, h4, h5, h6, h7, h8, h9⟩ := tyP_ok (show tyP P t = some ti from h)
    obtain ⟨fb, rfl, hfb⟩ := td_struct (h3.symm.trans hfa)
    -- the types of the fields are those of the described struct
    have hmem : (f.offset, f.type) ∈ fb.toList.map fun f => (f.offset, f.type) := by
      rw [← hfb]; exact List.mem_map.2 ⟨f, hf, rfl⟩
    obtain ⟨g, hg, hge⟩ := List.mem_map.1 hmem
    obtain ⟨i', hi'⟩ := fldsP_ok (show fldsP P fb.toList = true from h9) g hg
    simp only [Prod.mk.injEq] at hge
    exact ⟨i', by rw [← hge.2]; exact hi'⟩
  fn := fun f af h => by
    have h : fnP P f = some af := h
    unfold fnP at h
    split at h
    case h_2 => cases h
    rename_i fn hfn
    split at h
    case h_2 => cases h
    rename_i b hb
    split at h
    case h_2 => cases h
    rename_i hn
    simp only [Option.some.injEq] at h
    subst h
    exact ⟨fn, hfn, hb, rfl, rfl, by simpa using hn⟩
  lay := fun t _ _ => sameLayout_self P t
  mixed := hm

theorem sumS_of {P : Program} {l : List (Nat × SF)} (h : ∀ p ∈ l, CallS P (only p.1 p.2)) : SumS P (ctxP P l) := by
  intro f g hg
  have hg : sumL l f = some g := hg
  have key : ∀ l : List (Nat × SF), sumL l f = some g → (f, g) ∈ l := by
    intro l
    induction l with
    | nil => intro h; cases h
    | cons p l ih =>
      intro h
      simp only [sumL] at h
      split at h
      · rename_i hb
        simp only [Option.some.injEq] at h
        have := Nat.eq_of_beq_eq_true hb
        subst this; subst h
        exact List.mem_cons_self ..
      · exact List.mem_cons_of_mem _ (ih h)
  exact h _ (key l hg)

/-! ### Runs cut into pieces -/
/-- An object, written out. -/
inductive OD where
  | cells (l : List AV) (frz : Nat) (mk z : Bool) (e : TypeId)
  | map (es : List (AV × AV))
  | miter (m : Option Nat)
  | dfr

noncomputable def OD.ao : OD → AO
  | .cells l frz mk z e => .cells (setFrom .lf 0 l) l.length frz mk z e
  | .map es => .map es
  | .miter m => .miter m
  | .dfr => .dfr

noncomputable def hpOf (nx : Nat) : List (Nat × OD) → Hp
  | [] => ⟨.lf, nx⟩
  | p :: l => (hpOf nx l).set p.1 p.2.ao

noncomputable def bEq : Bool → Bool → Bool
  | true, true => true
  | false, false => true
  | _, _ => false

noncomputable def isOD (H : Hp) (i : Nat) (d : OD) : Bool :=
  match H.get i with
  | some (.cells c n frz mk z e) => match d with
    | .cells l frz' mk' z' e' => match Nat.beq n l.length && Nat.beq frz frz' && bEq mk mk' && bEq z z' && Nat.beq e e' with
      | true => match getFrom c 0 n with
        | some l' => avsEq l' l
        | none => false
      | false => false
    | _ => false
  | some (.map es) => match d with
    | .map es' => avsEq (es.map (·.1)) (es'.map (·.1)) && avsEq (es.map (·.2)) (es'.map (·.2))
    | _ => false
  | some (.miter m) => match d with
    | .miter m' => match m, m' with
      | none, none => true
      | some a, some b => Nat.beq a b
      | _, _ => false
    | _ => false
  | some .dfr => match d with
    | .dfr => true
    | _ => false
  | _ => false

noncomputable def hasAll (H : Hp) : List (Nat × OD) → Bool
  | [] => true
  | p :: l => match isOD H p.1 p.2 with
    | true => hasAll H l
    | false => false

/-- a piece of a run, told: at these arguments and this heap this result and this heap. -/
noncomputable def chunk (args0 : List AV) (nx : Nat) (l0 : List (Nat × OD)) (v : AV) (nx1 : Nat) (l1 : List (Nat × OD)) : SF := fun args H =>
  match avsEq args args0 && Nat.ble H.next nx with
  | true => match hasAll H l0 with
    | true => some (v, hpOf nx1 l1)
    | false => none
  | false => none

/-- what came out is this -/
noncomputable def ran (r : Option (AV × Hp)) (v : AV) (nx1 : Nat) (l1 : List (Nat × OD)) : Bool :=
  match r with
  | some (u, H) => match avEq u v && Nat.ble H.next nx1 with
    | true => hasAll H l1
    | false => false
  | none => false

theorem bEq_iff (a b : Bool) : bEq a b = true ↔ a = b := by cases a <;> cases b <;> simp [bEq]

theorem hpOf_next (nx : Nat) : ∀ l, (hpOf nx l).next = nx
  | [] => rfl
  | p :: l => by simp only [hpOf, Hp.next_set]; exact hpOf_next nx l

theorem hpOf_get {nx i : Nat} {o : AO} : ∀ {l : List (Nat × OD)}, (hpOf nx l).get i = some o → ∃ d, (i, d) ∈ l ∧ o = d.ao
  | [], h => by cases (show (T.lf : T AO).get i = some o from h)
  | p :: l, h => by
    simp only [hpOf, Hp.get_set'] at h
    by_cases hi : i = p.1
    · rw [if_pos hi] at h
      simp only [Option.some.injEq] at h
      exact ⟨p.2, by rw [hi]; exact List.mem_cons_self .., h.symm⟩
    · rw [if_neg hi] at h
      obtain ⟨d, h1, h2⟩ := hpOf_get h
      exact ⟨d, List.mem_cons_of_mem _ h1, h2⟩

theorem hasAll_mem {H : Hp} {i : Nat} {d : OD} : ∀ {l : List (Nat × OD)}, hasAll H l = true → (i, d) ∈ l → isOD H i d = true
  | [], _, hm => by cases hm
  | p :: l, h, hm => by
    simp only [hasAll] at h
    split at h
    case h_2 => cases h
    rename_i hp
    rcases List.mem_cons.1 hm with rfl | hm
    · exact hp
    · exact hasAll_mem h hm

theorem isOD_obj {H : Hp} {i : Nat} {d : OD} (h : isOD H i d = true) : ∃ o, H.get i = some o ∧ ∀ φ e ob, ObR φ e o ob → ObR φ e d.ao ob := by
  unfold isOD at h
  split at h
  · rename_i c n frz mk z e hg
    split at h
    case h_2 => cases h
    rename_i l frz' mk' z' e'
    split at h
    case h_2 => cases h
    rename_i hb
    simp only [Bool.and_eq_true, bEq_iff] at hb
    obtain ⟨⟨⟨⟨b1, b2⟩, b3⟩, b4⟩, b5⟩ := hb
    have b1 := Nat.eq_of_beq_eq_true b1
    have b2 := Nat.eq_of_beq_eq_true b2
    have b5 := Nat.eq_of_beq_eq_true b5
    subst b1; subst b2; subst b3; subst b4; subst b5
    split at h
    case h_2 => cases h
    rename_i l' hl'
    have := avsEq_eq _ _ h
    subst this
    refine ⟨_, hg, ?_⟩
    intro φ en ob hr
    cases hr with
    | cells hs hn hz hv hf =>
      refine .cells hs hn hz ?_ hf
      intro k v hk hv'
      obtain ⟨_, hget⟩ := getFrom_spec _ _ _ _ hl'
      refine hv k v hk ?_
      rw [setFrom_get, if_pos (by omega)] at hv'
      rw [← hv', Nat.sub_zero, ← hget k hk, Nat.zero_add]
  · rename_i es hg
    split at h
    case h_2 => cases h
    rename_i es'
    rw [Bool.and_eq_true] at h
    have h1 := avsEq_eq _ _ h.1
    have h2 := avsEq_eq _ _ h.2
    refine ⟨_, hg, ?_⟩
    intro φ en ob hr
    cases hr with
    | map hk hv =>
      rw [h1] at hk
      rw [h2] at hv
      exact .map hk hv
  · rename_i m hg
    split at h
    case h_2 => cases h
    rename_i m'
    refine ⟨_, hg, ?_⟩
    split at h
    · exact fun φ e ob hr => hr
    · have := Nat.eq_of_beq_eq_true h
      subst this
      exact fun φ e ob hr => hr
    · cases h
  · rename_i hg
    split at h
    case h_2 => cases h
    exact ⟨_, hg, fun φ e ob hr => hr⟩
  · cases h

/-- a heap that is told stands where the run's heap stands -/
theorem Rel.told {φ : Phi} {H : Hp} {w : World} (hr : Rel φ H w) {nx : Nat} (hnx : H.next ≤ nx) {l : List (Nat × OD)} (hl : hasAll H l = true) : Rel φ (hpOf nx l) w := by
  have key : ∀ i o, (hpOf nx l).get i = some o → ∃ d o', (i, d) ∈ l ∧ o = d.ao ∧ H.get i = some o' ∧ ∀ φ e ob, ObR φ e o' ob → ObR φ e d.ao ob := by
    intro i o h
    obtain ⟨d, h1, h2⟩ := hpOf_get h
    obtain ⟨o', h3, h4⟩ := isOD_obj (hasAll_mem hl h1)
    exact ⟨d, o', h1, h2, h3, h4⟩
  refine ⟨?_, ?_, ?_⟩
  · intro i o h
    obtain ⟨d, o', _, rfl, h3, h4⟩ := key i o h
    obtain ⟨e, ob, k1, k2, k3⟩ := hr.obj i o' h3
    exact ⟨e, ob, k1, k2, h4 _ _ _ k3⟩
  · intro i j oi oj ei ej hne hi hj hei hej
    obtain ⟨_, oi', _, _, h3, _⟩ := key i oi hi
    obtain ⟨_, oj', _, _, h3', _⟩ := key j oj hj
    exact hr.sep i j oi' oj' ei ej hne h3 h3' hei hej
  · intro i e he
    rw [hpOf_next]
    have := hr.dom i e he
    omega

theorem CallOK.told {P : Program} {φ : Phi} {f : FuncId} {xs : Array Value} {w : World} {v : AV} {H : Hp} (h : CallOK P φ f xs w v H) {nx : Nat} (hnx : H.next ≤ nx) {l : List (Nat × OD)} (hl : hasAll H l = true) : CallOK P φ f xs w v (hpOf nx l) := by
  obtain ⟨nx, w1, h1, h2⟩ := h
  refine ⟨nx, w1, h1, ?_⟩
  rcases h2 with ⟨y, ψ, k1, k2, k3, k4⟩ | ⟨k1, k2, k3⟩
  · exact .inl ⟨y, ψ, k1, k2, k3.told hnx hl, k4⟩
  · exact .inr ⟨k1, k2, fun R hR => k3 R fun y ψ w' q1 q2 q3 => hR y ψ w' q1 (q2.told hnx hl) q3⟩

/-- **A piece of a run, told.** -/
theorem sum_chunk {P : Program} {call : CallF} (hcall : CallS P call) {f : FuncId} {args0 : List AV} {nx : Nat} {l0 : List (Nat × OD)} {v : AV} {nx1 : Nat} {l1 : List (Nat × OD)}
    (h : ran (call f args0 (hpOf nx l0)) v nx1 l1 = true) : CallS P (only f (chunk args0 nx l0 v nx1 l1)) := by
  refine callS_only fun args H v' H' hg φ w xs hr hv => ?_
  unfold chunk at hg
  split at hg
  case h_2 => cases hg
  rename_i hb
  rw [Bool.and_eq_true] at hb
  have hb1 := avsEq_eq _ _ hb.1
  have hb2 := Nat.le_of_ble_eq_true hb.2
  subst hb1
  split at hg
  case h_2 => cases hg
  rename_i hl
  simp only [Option.some.injEq, Prod.mk.injEq] at hg
  obtain ⟨rfl, rfl⟩ := hg
  unfold ran at h
  split at h
  case h_2 => cases h
  rename_i u H1 hrun
  split at h
  case h_2 => cases h
  rename_i hc
  rw [Bool.and_eq_true] at hc
  have hc1 := avEq_eq _ _ hc.1
  have hc2 := Nat.le_of_ble_eq_true hc.2
  subst hc1
  exact (hcall f args _ _ _ hrun φ w xs (hr.told hb2 hl) hv).told hc2 h
end Go.Abs

namespace Go.Abs
open Go

mutual
/-- what is known of a value without the objects -/
noncomputable def blur : AV → AV
  | .bool b => .bool b
  | .int k n => .int k n
  | .str s => .str s
  | .rep p c n => .rep p c n
  | .nilp => .nilp
  | .emp => .emp
  | .nils => .nils
  | .nilm => .nilm
  | .nilf => .nilf
  | .nili => .nili
  | .agg cs => .agg (blurs cs)
  | .tup cs => .tup (blurs cs)
  | .ptr _ _ => .any
  | .slc _ _ _ _ => .any
  | .slo _ _ _ _ => .any
  | .map _ => .any
  | .fn _ _ _ => .any
  | .yld _ => .any
  | .ifc _ _ => .any
  | .any => .any
noncomputable def blurs : List AV → List AV
  | [] => []
  | v :: vs => blur v :: blurs vs
end

mutual
theorem blur_sound {φ ψ : Phi} : ∀ {v : AV} {x : Value}, V φ v x → V ψ (blur v) x
  | _, _, .bool b => .bool b
  | _, _, .int k n => .int k n
  | _, _, .str h => .str h
  | _, _, .rep h => .rep h
  | _, _, .ptr h => .any rfl
  | _, _, .nilp => .nilp
  | _, _, .slc h hl => .any rfl
  | _, _, .slo h hl hc => .any rfl
  | _, _, .emp => .emp
  | _, _, .nils => .nils
  | _, _, .map h => .any rfl
  | _, _, .nilm => .nilm
  | _, _, .fn h h' => .any rfl
  | _, _, .yld h => .any rfl
  | _, _, .nilf => .nilf
  | _, _, .ifc h => .any rfl
  | _, _, .nili => .nili
  | _, _, .agg h => .agg (blurs_sound h)
  | _, _, .tup h => .tup (blurs_sound h)
  | _, _, .any h => .any h
theorem blurs_sound {φ ψ : Phi} : ∀ {v : List AV} {x : List Value}, VL φ v x → VL ψ (blurs v) x
  | _, _, .nil => .nil
  | _, _, .cons h h' => .cons (blur_sound h) (blurs_sound h')
end

def Phi.zero : Phi := fun _ => none
theorem Rel.zero (w : World) : Rel Phi.zero ⟨.lf, 0⟩ w :=
  ⟨fun i o h => (nomatch (show (T.lf : T AO).get i = some o from h)), fun i _ o _ _ _ _ h => (nomatch (show (T.lf : T AO).get i = some o from h)), fun i e h => (nomatch (show (none : Option Ent) = some e from h))⟩

/-- what happens beyond a heap leaves it -/
theorem Rel.far {φ ψ : Phi} {H : Hp} {w w' : World} (hr : Rel φ H w) (ha : Aft Phi.zero w ψ w') : Rel φ H w' ∧ Aft φ w φ w' := by
  have hk : ∀ b, b < w.heap.size → w'.heap[b]? = w.heap[b]? := fun b hb => ha.keep b hb (fun i e he => (nomatch (show (none : Option Ent) = some e from he)))
  refine ⟨⟨?_, hr.sep, fun i e he => ⟨(hr.dom i e he).1, Nat.lt_of_lt_of_le (hr.dom i e he).2 ha.size⟩⟩, ⟨Phi.le_refl _, ha.size, fun i e h => .inl ⟨i, e, h, rfl⟩, fun b hb _ => hk b hb, ha.os, ha.output, ha.tape, ha.drawn⟩⟩
  intro i o hi
  obtain ⟨e, ob, h1, h2, h3⟩ := hr.obj i o hi
  exact ⟨e, ob, h1, (hk _ (hr.dom i e h1).2).trans h2, h3⟩

/-- a call at arguments of a kind, told without its objects -/
noncomputable def told (A : List AV → Prop) (v : AV) : SF := fun args H => open Classical in if A args then some (v, H) else none

theorem CallOK.far {P : Program} {f : FuncId} {xs : Array Value} {w : World} {v : AV} {H1 : Hp} (h : CallOK P Phi.zero f xs w v H1) {φ : Phi} {H : Hp} (hr : Rel φ H w) : CallOK P φ f xs w (blur v) H := by
  obtain ⟨nx, w1, h1, h2⟩ := h
  refine ⟨nx, w1, h1, ?_⟩
  rcases h2 with ⟨y, ψ, k1, k2, k3, k4⟩ | ⟨k1, k2, k3⟩
  · obtain ⟨q1, q2⟩ := hr.far k4
    exact .inl ⟨y, φ, k1, blur_sound k2, q1, q2⟩
  · refine .inr ⟨k1, k2, fun R hR => k3 R fun y ψ w' q1 q2 q3 => ?_⟩
    obtain ⟨p1, p2⟩ := hr.far q3
    exact hR y φ w' (blur_sound q1) p1 p2

theorem sum_told {P : Program} {call : CallF} (hcall : CallS P call) {f : FuncId} {args0 : List AV} {v : AV} {nx1 : Nat} {l1 : List (Nat × OD)} (h : ran (call f args0 ⟨.lf, 0⟩) v nx1 l1 = true)
    {A : List AV → Prop} (hA : ∀ args, A args → ∀ φ (xs : List Value), VL φ args xs → VL Phi.zero args0 xs) : CallS P (only f (told A (blur v))) := by
  refine callS_only fun args H v' H' hg φ w xs hr hv => ?_
  unfold told at hg
  split at hg
  case isFalse => cases hg
  rename_i ha
  simp only [Option.some.injEq, Prod.mk.injEq] at hg
  obtain ⟨rfl, rfl⟩ := hg
  unfold ran at h
  split at h
  case h_2 => cases h
  rename_i u H1 hrun
  split at h
  case h_2 => cases h
  rename_i hc
  rw [Bool.and_eq_true] at hc
  have hc1 := avEq_eq _ _ hc.1
  subst hc1
  exact (hcall f args0 _ _ _ hrun Phi.zero w xs (Rel.zero w) (hA args ha φ _ hv)).far hr

/-- the arguments of a told call: these themselves -/
theorem args_self {args0 : List AV} (h : blurs args0 = args0) : ∀ args, args = args0 → ∀ (φ : Phi) (xs : List Value), VL φ args xs → VL Phi.zero args0 xs := by
  intro args ha φ xs hv
  subst ha
  have := blurs_sound (ψ := Phi.zero) hv
  rwa [h] at this

/-- ... a long text, told as such -/
theorem args_rep {p : List UInt8} {c : UInt8} {n : Nat} : ∀ args, args = [.str (p ++ List.replicate n c)] → ∀ (φ : Phi) (xs : List Value), VL φ args xs → VL Phi.zero [.rep p c n] xs := by
  intro args ha φ xs hv
  subst ha
  cases hv with
  | cons h1 h2 =>
    cases h2
    cases h1 with
    | str hs => exact .cons (.rep hs) .nil
end Go.Abs

namespace Go.Abs
open Go

def Code.c1 : Code → Code
  | .seq a _ => a
  | .block _ b => b
  | .loop b => b
  | c => c
def Code.c2 : Code → Code
  | .seq _ b => b
  | c => c
def Code.os : Code → Array Oper
  | .region _ o _ => o
  | _ => #[]

section
variable {C : Ctx} {n nt : Nat} {rd : Option Nat} {s s' : St}

theorem exec_seq {a b : Code} (h : exec C n rd nt a s = some (.normal, s')) : exec C (n + 1) rd nt (.seq a b) s = exec C n rd nt b s' := by
  show xSeq (exec C n) rd nt b (exec C n rd nt a s) = _
  rw [h]; rfl
theorem exec_seq_x {a b : Code} {x : Ex} (hx : x ≠ .normal) (h : exec C n rd nt a s = some (x, s')) : exec C (n + 1) rd nt (.seq a b) s = some (x, s') := by
  show xSeq (exec C n) rd nt b (exec C n rd nt a s) = _
  rw [h]
  cases x <;> first | exact absurd rfl hx | rfl
theorem exec_loop {a : Code} (h : exec C n rd nt a s = some (.normal, s')) : exec C (n + 1) rd nt (.loop a) s = exec C n rd nt (.loop a) s' := by
  show xSeq (exec C n) rd nt (.loop a) (exec C n rd nt a s) = _
  rw [h]; rfl
theorem exec_loop_x {a : Code} {x : Ex} (hx : x ≠ .normal) (h : exec C n rd nt a s = some (x, s')) : exec C (n + 1) rd nt (.loop a) s = some (x, s') := by
  show xSeq (exec C n) rd nt (.loop a) (exec C n rd nt a s) = _
  rw [h]
  cases x <;> first | exact absurd rfl hx | rfl
theorem exec_block {i : Nat} {a : Code} (h : exec C n rd nt a s = some (.normal, s')) : exec C (n + 1) rd nt (.block i a) s = some (.normal, s') := by
  show xBlock i (exec C n rd nt a s) = _
  rw [h]; rfl
theorem exec_block_x {i : Nat} {a : Code} (h : exec C n rd nt a s = some (.exit i, s')) : exec C (n + 1) rd nt (.block i a) s = some (.normal, s') := by
  show xBlock i (exec C n rd nt a s) = _
  rw [h]
  simp only [xBlock]
  rw [Nat.beq_refl]
theorem exec_region {i : Nat} {ops : Array Oper} {F' : T AV} {H' : Hp} (h : seqA C (callA C (exec C n)) (yldA (exec C n)) nt ops.toList ops.toList s.F s.H = some (F', H')) :
    exec C (n + 1) rd nt (.region i ops false) s = some (.normal, ⟨F', s.M, H'⟩) := by
  show xReg s (seqA C (callA C (exec C n)) (yldA (exec C n)) nt ops.toList ops.toList s.F s.H) = _
  rw [h]; rfl

variable {call : CallF} {yld : YldF} {ops : List Oper}
theorem seqA_app : ∀ (l m : List Oper) {F F' : T AV} {H H' : Hp}, seqA C call yld nt ops l F H = some (F', H') → seqA C call yld nt ops (l ++ m) F H = seqA C call yld nt ops m F' H'
  | [], m, F, F', H, H', h => by
    simp only [seqA, Option.some.injEq, Prod.mk.injEq] at h
    obtain ⟨rfl, rfl⟩ := h
    rfl
  | o :: l, m, F, F', H, H', h => by
    simp only [seqA] at h
    split at h
    case h_2 => cases h
    rename_i v H1 hst
    split at h
    case h_2 => cases h
    rename_i F1 hput
    rw [List.cons_append]
    simp only [seqA, hst, hput]
    exact seqA_app l m h
/-- first i operations, then the rest -/
theorem seqA_cut (i : Nat) {l : List Oper} {F F' : T AV} {H H' : Hp} {r : Option (T AV × Hp)} (h : seqA C call yld nt ops (l.take i) F H = some (F', H')) (hr : seqA C call yld nt ops (l.drop i) F' H' = r) : seqA C call yld nt ops l F H = r := by
  rw [← hr, ← seqA_app _ (l.drop i) h, List.take_append_drop]
theorem seqA_one {o : Oper} {l : List Oper} {F F' : T AV} {H H' : Hp} {v : AV} {r : Option (T AV × Hp)} (h : stepA C call yld ops F H o = some (v, H')) (hp : putA nt F o.dst v = some F') (hr : seqA C call yld nt ops l F' H' = r) :
    seqA C call yld nt ops (o :: l) F H = r := by
  simp only [seqA, h, hp]
  exact hr
/-- an operation that is wanted and gives a value -/
theorem stepA_val {o : Oper} {F : T AV} {H H' : Hp} {v : AV} (hg : o.guard = none) (h : opA C F H o.op = some (.val v H')) : stepA C call yld ops F H o = some (v, H') := by
  unfold stepA wantedA
  simp only [hg, h]
theorem stepA_call {o : Oper} {F : T AV} {H H' : Hp} {v : AV} {f : FuncId} {args : List AV} (hg : o.guard = none) (h : opA C F H o.op = some (.call f args)) (hc : call f args H = some (v, H')) :
    stepA C call yld ops F H o = some (v, H') := by
  unfold stepA wantedA
  simp only [hg, h, hc]
theorem callA_told {ex : ExF} {f : FuncId} {A : List AV → Prop} {v : AV} {args : List AV} {H : Hp} (h : C.sum.get f = some (told A v)) (ha : A args) : callA C ex f args H = some (v, H) := by
  unfold callA
  rw [h]
  simp only [told, if_pos ha]
end

/-! ### The bytes of a slice -/
theorem getFrom_bytes {c : T AV} : ∀ (l : List UInt8) (o : Nat), (∀ i b, l[i]? = some b → c.get (o + i) = some (.int .u8 (Int.ofNat b.toNat))) → getFrom c o l.length = some (byteVals l)
  | [], o, _ => rfl
  | b :: l, o, h => by
    simp only [List.length_cons, getFrom]
    have h0 := h 0 b rfl
    rw [Nat.add_zero] at h0
    rw [h0]
    simp only
    rw [getFrom_bytes l (o + 1) (fun i b' hi => by have := h (i + 1) b' (by simpa using hi); rwa [show o + 1 + i = o + (i + 1) from by omega])]
    rfl
theorem ofBytes_byteVals : ∀ l : List UInt8, ofBytes (byteVals l) = some l
  | [] => rfl
  | b :: l => by
    simp only [byteVals, ofBytes, ofBytes_byteVals l]
    simp

section
variable {C : Ctx} {H : Hp}
theorem convert_bytes {s d e : TypeId} {ts td te : TI} (hs : C.ty.get s = some ts) (hts : ts.td = .slice e) (hd : C.ty.get d = some td) (htd : td.td = .str) (he : C.ty.get e = some te) (hte : te.td = .int .u8)
    {b n f : Nat} {c : T AV} {m z : Bool} {e' : TypeId} (hb : H.get b = some (.cells c n f m z e')) {l : List UInt8} (hl : l.length = n) (hc : ∀ i x, l[i]? = some x → c.get i = some (.int .u8 (Int.ofNat x.toNat))) :
    convertA C H s d (.slo b 0 n 1) = some (.str l, H) := by
  have hg : getFrom c 0 n = some (byteVals l) := by
    rw [← hl]
    exact getFrom_bytes l 0 (fun i x hi => by rw [Nat.zero_add]; exact hc i x hi)
  have h1 : Nat.ble n n = true := Nat.ble_eq_true_of_le (Nat.le_refl _)
  have h2 : Nat.ble (0 + n) n = true := Nat.ble_eq_true_of_le (by omega)
  unfold convertA
  simp only [hs, hd, htd, hts, he, hte, lenA, firstA, hb, h1, h2, Nat.mul_one, hg, ofBytes_byteVals, Bool.and_true, Nat.beq_refl]

theorem append_one {t e : TypeId} {ti te : TI} (ht : C.ty.get t = some ti) (htd : ti.td = .slice e) (he : C.ty.get e = some te) (hsz : te.size = 1) (hby : te.bytes = 1) {b j i fx : Nat} {c cx : T AV} {z mx zx : Bool} {ex : TypeId} {v : AV}
    (hb : H.get b = some (.cells c j 0 false z e)) (hx : H.get i = some (.cells cx 1 fx mx zx ex)) (hv : cx.get 0 = some v) (hf : flat [v] = true) (hj : j + 1 ≤ room) :
    builtinA C H .append [t, t] [.slo b 0 j 1, .slc i 0 1 1] = some (.slo H.next 0 (j + 1) 1, (H.kill b).new (.cells (setFrom c j [v]) (j + 1) 0 false false e)) := by
  have h1 : Nat.ble (j + 1) room = true := Nat.ble_eq_true_of_le hj
  have h3 : Nat.ble 0 j = true := Nat.ble_eq_true_of_le (Nat.zero_le _)
  have h4 : getFrom cx 0 1 = some [v] := by simp [getFrom, hv]
  have h6 : Nat.ble 1 10000 = true := rfl
  have h7 : Nat.ble 1 1 = true := rfl
  have h8 : Nat.blt 0 1 = true := rfl
  unfold builtinA
  simp only [ht, htd, he, rowTd, hsz, unitA, lenA, firstA, hx, h7, h4, h8, Bool.and_true, Bool.true_and, appendA, hb, hby, h1, h3, h6, hf, Nat.beq_refl, Bool.not_false, List.length_cons, List.length_nil, Nat.zero_add, Nat.mul_one]

theorem store_new {e : TypeId} {cs0 cs : List AV} (hl : cs.length ≤ cs0.length) (hf : flat cs = true) :
    storeA (H.row e cs0) H.next 0 cs = some ((H.row e cs0).set H.next (.cells (setFrom (setFrom .lf 0 cs0) 0 cs) cs0.length 0 false true e)) := by
  have hg : (H.row e cs0).get H.next = some (.cells (setFrom .lf 0 cs0) cs0.length 0 false true e) := by
    unfold Hp.row
    rw [Hp.get_new, if_pos rfl]
  have h1 : Nat.ble (0 + cs.length) cs0.length = true := Nat.ble_eq_true_of_le (by omega)
  have h2 : Nat.ble 0 0 = true := rfl
  unfold storeA
  simp only [hg, h1, h2, hf, Bool.and_true]
end
end Go.Abs

namespace Go.Abs
open Go

def leadsOf (P : Program) (f : FuncId) : List FuncId := (P.funcs[f]?).elim [] P.leadsTo
noncomputable def tabOf (E : T (List Nat)) (N f : Nat) : List Nat :=
  match Nat.blt f N with
  | true => match E.get f with
    | some l => l
    | none => []
  | false => []

noncomputable def natsEq : List Nat → List Nat → Bool
  | [], [] => true
  | a :: l, b :: m => match Nat.beq a b with
    | true => natsEq l m
    | false => false
  | _, _ => false
theorem natsEq_eq : ∀ {l m : List Nat}, natsEq l m = true → l = m
  | [], [], _ => rfl
  | [], _ :: _, h => by simp [natsEq] at h
  | _ :: _, [], h => by simp [natsEq] at h
  | a :: l, b :: m, h => by
    simp only [natsEq] at h
    split at h
    · rename_i hb
      rw [Nat.eq_of_beq_eq_true hb, natsEq_eq h]
    · cases h

/-- n functions from lo on name what the table says -/
noncomputable def chkLeads (P : Program) (E : T (List Nat)) (N lo : Nat) : Nat → Bool
  | 0 => true
  | n + 1 => match natsEq (leadsOf P lo) (tabOf E N lo) with
    | true => chkLeads P E N (lo + 1) n
    | false => false
theorem chkLeads_ok {P : Program} {E : T (List Nat)} {N : Nat} : ∀ {n lo : Nat}, chkLeads P E N lo n = true → ∀ f, lo ≤ f → f < lo + n → leadsOf P f = tabOf E N f
  | 0, lo, _, f, h1, h2 => by omega
  | n + 1, lo, h, f, h1, h2 => by
    simp only [chkLeads] at h
    split at h
    case h_2 => cases h
    rename_i hb
    rcases Nat.lt_or_ge lo f with hlt | hge
    · exact chkLeads_ok h f hlt (by omega)
    · obtain rfl : f = lo := by omega
      exact natsEq_eq hb

theorem leads_beyond {P : Program} {E : T (List Nat)} {N f : Nat} (hN : P.funcs.size = N) (h : N ≤ f) : leadsOf P f = tabOf E N f := by
  have h1 : P.funcs[f]? = none := by rw [Array.getElem?_eq_none_iff, hN]; exact h
  have h2 : Nat.blt f N = false := by
    rw [← Bool.not_eq_true, Nat.blt_eq]; omega
  simp only [leadsOf, tabOf, h1, h2, Option.elim_none]

noncomputable def fast (E : Nat → List Nat) (n : Nat) : List Nat → Nat → List Nat → List Nat :=
  Nat.rec (motive := fun _ => List Nat → Nat → List Nat → List Nat) (fun _ _ seen => seen.reverse)
    (fun _ ih todo m seen => match todo with
      | [] => seen.reverse
      | f :: todo => match Nat.testBit m f with
        | true => ih todo m seen
        | false => ih (E f ++ todo) (Nat.lor m (2 ^ f)) (f :: seen)) n

theorem fast_eq {P : Program} {E : Nat → List Nat} (hE : ∀ f, leadsOf P f = E f) : ∀ (n : Nat) (todo : List Nat) (m : Nat) (seen : List Nat), (∀ f, m.testBit f = seen.contains f) →
    P.closureVia n todo seen = fast E n todo m seen
  | 0, todo, m, seen, _ => by
    unfold Program.closureVia
    rfl
  | n + 1, [], m, seen, _ => by
    unfold Program.closureVia
    rfl
  | n + 1, f :: todo, m, seen, hm => by
    unfold Program.closureVia
    show (if seen.contains f = true then P.closureVia n todo seen else P.closureVia n (leadsOf P f ++ todo) (f :: seen)) =
      (match Nat.testBit m f with | true => fast E n todo m seen | false => fast E n (E f ++ todo) (Nat.lor m (2 ^ f)) (f :: seen))
    rw [← hm f, hE f]
    cases hb : m.testBit f with
    | true => simp only [if_true]; exact fast_eq hE n todo m seen hm
    | false =>
      simp only [Bool.false_eq_true, if_false]
      refine fast_eq hE n _ _ _ ?_
      intro g
      show (m ||| 2 ^ f).testBit g = _
      rw [Nat.testBit_or, hm g, Nat.testBit_two_pow, List.contains_cons]
      by_cases hg : g = f
      · subst hg; simp
      · have h1 : decide (f = g) = false := by simp; exact fun h => hg h.symm
        have h2 : (g == f) = false := by simpa using hg
        rw [h1, h2]; simp

theorem closure_of {P : Program} {E : T (List Nat)} {N S : Nat} (hN : P.funcs.size = N) (hE : ∀ f : Nat, f < N → leadsOf P f = tabOf E N f)
    (hs : ((List.range N).map fun f => (tabOf E N f).length + 1).sum = S) (f : FuncId) : P.closure f = fast (tabOf E N) (1 + S) [f] 0 [] := by
  have hall : ∀ f, leadsOf P f = tabOf E N f := by
    intro f
    rcases Nat.lt_or_ge f N with h | h
    · exact hE f h
    · exact leads_beyond hN h
  unfold Program.closure
  have hm : (P.funcs.toList.map fun g => (P.leadsTo g).length + 1) = (List.range N).map fun f => (tabOf E N f).length + 1 := by
    apply List.ext_getElem
    · simp [hN]
    · intro i h1 h2
      simp only [List.getElem_map, List.getElem_range]
      have hi : i < P.funcs.size := by simpa using h1
      rw [← hall i]
      simp [leadsOf, hi]
  rw [hm, hs]
  exact fast_eq hall _ _ _ _ (fun f => by simp)
end Go.Abs
