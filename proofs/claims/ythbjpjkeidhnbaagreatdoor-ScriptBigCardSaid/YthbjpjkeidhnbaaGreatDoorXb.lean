/-
  Fields, indexes, slices: what looks at no heap.
  Slice expressions.
  Structs and arrays that are built out of parts; lengths; the least and the greatest.
  The operations that make an object.
  More operations that make an object: make, the bytes of a string.
  What reads and writes objects.
  append.
  append: the abstract one.
-/
import Derived.Test.YthbjpjkeidhnbaaGreatDoorXa
import Derived.Laws.Slices
import Derived.Laws.Append
set_option linter.all false
namespace Go.Abs
open Go

theorem getElem?_map_struct {fa : Array Field} {f : Nat} {off : Nat} {ft : TypeId} (h : (fa.toList.map fun f => (f.offset, f.type))[f]? = some (off, ft)) :
    ∃ fd, fa[f]? = some fd ∧ fd.offset = off ∧ fd.type = ft := by
  simp only [List.getElem?_map, Option.map_eq_some_iff, Array.getElem?_toList] at h
  obtain ⟨fd, h1, h2⟩ := h
  cases h2
  exact ⟨fd, h1, rfl, rfl⟩

theorem ba_get (s : ByteArray) (i : Nat) : s[i]? = s.data.toList[i]? := by
  have hl : s.data.toList.length = s.size := Array.length_toList
  by_cases hi : i < s.size
  · rw [getElem?_pos s i hi, getElem?_pos s.data.toList i (hl ▸ hi)]; rfl
  · rw [getElem?_neg s i hi, getElem?_neg s.data.toList i (hl ▸ hi)]

section
variable {C : Ctx} {P : Program} {φ : Phi} {F : T AV} {nt : Nat} {a : Act} (hC : CtxOK C P)
include hC

theorem ylds_fieldAddr (hT : TR φ F nt a.tmps) {s : TypeId} {x : Operand} {f : Nat} {v : AV} (h : opFieldAddr C F s x f = some v) : Ylds P φ a (.fieldAddr s x f) v := by
  intro o ho w
  unfold opFieldAddr at h
  split at h
  case h_2 => cases h
  rename_i ti hti
  split at h
  case h_2 => cases h
  rename_i b off hx
  split at h
  case h_2 => cases h
  rename_i fs hfs
  split at h
  case h_2 => cases h
  rename_i foff ft hf
  split at h
  case h_2 => cases h
  rename_i tf htf
  split at h
  case h_2 => cases h
  rename_i hsz
  simp only [Option.some.injEq] at h
  subst h
  obtain ⟨d, hd, hr⟩ := run_under hC hti
  obtain ⟨fa, rfl, rfl⟩ := td_struct (hd.symm.trans hfs)
  obtain ⟨fd, h1, h2, h3⟩ := getElem?_map_struct hf
  obtain ⟨e, he, hev⟩ := ev_ptr hT hx
  have hne : tf.size ≠ 0 := by have := Nat.le_of_ble_eq_true hsz; omega
  refine ⟨.pointer (some ⟨e.blk, e.base + (off + foff), none⟩), ?_, .ptr he⟩
  have hs : (sizeOf fd.type).run P w = .ok tf.size w := by rw [h3]; exact run_size hC htf w
  simp [execOp, ho, hev, Instr.fieldAt, hr, h1, Instr.sureAddr, fieldPlace, hs, hne, add_mk, h2, Nat.add_assoc]

theorem part_sound {ft : TypeId} {tf : TI} (htf : C.ty.get ft = some tf) {cs : List AV} {off : Nat} {v : AV} (h : partA tf cs off = some v) {y : Array Value} (hy : VL φ cs y.toList) (w : World) :
    ∃ x, (part ft y off).run P w = .ok x w ∧ V φ v x := by
  unfold partA at h
  unfold part
  simp only [Sem.run_bind, run_agg hC htf, Result.andThen_ok]
  split at h
  · rename_i hag
    split at h
    · simp only [Option.some.injEq] at h
      subst h
      refine ⟨.agg (y.extract off (off + tf.size)), ?_, .agg ?_⟩
      · simp [hag, run_size hC htf]
      · rw [Array.toList_extract]
        have : (y.toList.extract off (off + tf.size)) = (y.toList.drop off).take tf.size := by
          rw [List.extract_eq_take_drop]; congr 1; omega
        rw [this]
        exact (hy.drop off).take tf.size
    · cases h
  · rename_i hag
    obtain ⟨u, hu, hv⟩ := hy.get h
    have hu' : y[off]? = some u := by simpa using hu
    exact ⟨u, by simp [hag, hu'], hv⟩

theorem ylds_field (hT : TR φ F nt a.tmps) {t : TypeId} {x : Operand} {f : Nat} {v : AV} (h : opField C F t x f = some v) : Ylds P φ a (.field t x f) v := by
  intro o ho w
  unfold opField at h
  split at h
  case h_2 => cases h
  rename_i ti hti
  split at h
  case h_2 => cases h
  rename_i cs hx
  split at h
  case h_2 => cases h
  rename_i fs hfs
  split at h
  case h_2 => cases h
  rename_i foff ft hf
  split at h
  case h_2 => cases h
  rename_i tf htf
  obtain ⟨d, hd, hr⟩ := run_under hC hti
  obtain ⟨fa, rfl, rfl⟩ := td_struct (hd.symm.trans hfs)
  obtain ⟨fd, h1, h2, h3⟩ := getElem?_map_struct hf
  obtain ⟨y, hy, hev⟩ := ev_agg hT hx
  obtain ⟨u, hu, hv⟩ := part_sound hC (h3 ▸ htf) h hy w
  exact ⟨u, by simp [execOp, ho, hev, Instr.field, hr, h1, asAgg, h2, hu], hv⟩

theorem ylds_indexAddr (hT : TR φ F nt a.tmps) {t : TypeId} {x i : Operand} {v : AV} (h : opIndexAddr C F t x i = some v) : Ylds P φ a (.indexAddr t x i) v := by
  intro o ho w
  unfold opIndexAddr at h
  split at h
  case h_2 => cases h
  rename_i ti hti
  split at h
  case h_2 => cases h
  rename_i p hx
  split at h
  case h_2 => cases h
  rename_i k n hi
  have hin := ev_int hT hi
  obtain ⟨d, hd, hr⟩ := run_under hC hti
  have vx := ev_sound hT hx
  generalize hu : a.eval x = u at vx
  split at h
  case h_4 => cases h
  all_goals
    split at h
    case h_2 => cases h
    rename_i htd _ te hte
    split at h
    case h_2 => cases h
    rename_i hb
    simp only [Bool.and_eq_true, leI_iff, ltI_iff] at hb
    simp only [Option.some.injEq] at h
    subst h
  · obtain rfl := td_array (hd.symm.trans htd)
    cases vx with
    | @ptr _ _ e he =>
      refine ⟨.pointer (some ⟨e.blk, e.base + (_ + n.toNat * te.size), none⟩), ?_, .ptr he⟩
      have hlt : n < _ := hb.2
      simp only [Int.ofNat_eq_natCast] at hlt
      simp [execOp, ho, hu, hin, Instr.indexAt, asIntOf, hr, Instr.sureAddr, hb.1, hlt, run_size hC hte, add_mk, Nat.add_assoc]
  · obtain rfl := td_slice (hd.symm.trans htd)
    cases vx with
    | @slc _ _ _ _ e he hl =>
      refine ⟨.pointer (some ⟨e.blk, e.base + (_ + n.toNat * te.size), none⟩), ?_, .ptr he⟩
      have hlt : n < _ := hb.2
      simp only [Int.ofNat_eq_natCast] at hlt
      simp [execOp, ho, hu, hin, Instr.indexAt, asIntOf, hr, hb.1, hlt, run_size hC hte, add_mk, Nat.add_assoc]
  · obtain rfl := td_slice (hd.symm.trans htd)
    cases vx with
    | @slo _ _ _ _ c e he hl hc =>
      refine ⟨.pointer (some ⟨e.blk, e.base + (_ + n.toNat * te.size), none⟩), ?_, .ptr he⟩
      have hlt : n < _ := hb.2
      simp only [Int.ofNat_eq_natCast] at hlt
      simp [execOp, ho, hu, hin, Instr.indexAt, asIntOf, hr, hb.1, hlt, run_size hC hte, add_mk, Nat.add_assoc]

theorem ylds_index (hT : TR φ F nt a.tmps) {t : TypeId} {x i : Operand} {v : AV} (h : opIndex C F t x i = some v) : Ylds P φ a (.index t x i) v := by
  intro o ho w
  unfold opIndex at h
  split at h
  case h_2 => cases h
  rename_i ti hti
  split at h
  case h_2 => cases h
  rename_i p hx
  split at h
  case h_2 => cases h
  rename_i k n hi
  have hin := ev_int hT hi
  obtain ⟨d, hd, hr⟩ := run_under hC hti
  have vx := ev_sound hT hx
  generalize hu : a.eval x = u at vx
  split at h
  case h_3 => cases h
  · split at h
    case h_2 => cases h
    rename_i htd _ te hte
    split at h
    case h_2 => cases h
    rename_i hb
    simp only [Bool.and_eq_true, leI_iff, ltI_iff] at hb
    obtain rfl := td_array (hd.symm.trans htd)
    cases vx with
    | @agg _ y hy =>
      obtain ⟨r, hr1, hr2⟩ := part_sound hC hte h hy w
      have hlt : n < _ := hb.2
      simp only [Int.ofNat_eq_natCast] at hlt
      exact ⟨r, by simp [execOp, ho, hu, hin, Instr.index, asIntOf, hr, hb.1, hlt, run_size hC hte, hr1], hr2⟩
  · rename_i sl htd
    split at h
    case h_2 => cases h
    rename_i hb
    simp only [leI_iff] at hb
    split at h
    case h_2 => cases h
    rename_i b hbb
    simp only [Option.some.injEq] at h
    subst h
    obtain rfl := td_str (hd.symm.trans htd)
    cases vx with
    | @str _ s hs =>
      have h1 : s[n.toNat]? = some b := by
        rw [ba_get, hs]; exact hbb
      exact ⟨.int .u8 b.toNat, by simp [execOp, ho, hu, hin, Instr.index, asIntOf, hr, hb, h1], .int _ _⟩
end
end Go.Abs

namespace Go.Abs
open Go

/-- optional operands -/
inductive VO (φ : Phi) : Option AV → Option Value → Prop
  | none : VO φ none none
  | some {a : AV} {v : Value} (h : V φ a v) : VO φ (some a) (some v)

section
variable {C : Ctx} {P : Program} {φ : Phi} {F : T AV} {nt : Nat} {a : Act}

theorem evo_sound (hT : TR φ F nt a.tmps) {x : Option Operand} {v : Option AV} (h : evo F x = some v) : VO φ v (x.map a.eval) := by
  cases x with
  | none => simp only [evo, Option.some.injEq] at h; subst h; exact .none
  | some x =>
    simp only [evo] at h
    split at h
    · rename_i u hu
      simp only [Option.some.injEq] at h
      subst h
      exact .some (ev_sound hT hu)
    · cases h

theorem boundA_sound {x : AV} {v : Value} {y n y' : Nat} (h : boundA x y = some n) (hv : V φ x v) (hy : y ≤ y') (c : BoundsCode) (w : World) :
    (Instr.sliceBound v y' c).run P w = .ok n w ∧ n ≤ y := by
  unfold boundA at h
  split at h
  · split at h
    · rename_i hi
      rw [inI_iff] at hi
      simp only [Option.some.injEq] at h
      subst h
      cases hv
      refine ⟨?_, by omega⟩
      have : ((‹Int› : Int) ≤ (y' : Int)) := by omega
      simp [Instr.sliceBound, asIntOf, hi.1, this]
    · cases h
  · cases h

theorem bounds_sound {len cap cap' l hh m : Nat} {lo hi mx : Option AV} {lo' hi' mx' : Option Value} (hcap : cap ≤ cap') (hlen : len ≤ cap)
    (h : boundsA len cap lo hi mx = some (l, hh, m)) (v1 : VO φ lo lo') (v2 : VO φ hi hi') (v3 : VO φ mx mx') (s : Bool) (w : World) :
    ∃ m', (Instr.sliceBounds s len cap' lo' hi' mx').run P w = .ok (l, hh, m') w ∧ (mx = none → m' = cap' ∧ m = cap) ∧ (mx ≠ none → m' = m) ∧ l ≤ hh ∧ hh ≤ m ∧ m ≤ cap := by
  unfold boundsA at h
  split at h
  case h_2 => cases h
  rename_i m0 hm
  split at h
  · cases h
  rename_i hno
  split at h
  case h_2 => cases h
  rename_i h0 hh0
  split at h
  case h_2 => cases h
  rename_i l0 hl0
  simp only [Option.some.injEq, Prod.mk.injEq] at h
  obtain ⟨rfl, rfl, rfl⟩ := h
  have hle : l0 ≤ h0 := by
    cases v1 with
    | none => simp only [boundO, Option.some.injEq] at hl0; omega
    | some hv => exact (boundA_sound (P := P) hl0 hv (Nat.le_refl _) .sliceB w).2
  have lows : ∀ (c : BoundsCode) (k : Nat → Sem (Nat × Nat × Nat)),
      Sem.run P (match (generalizing := false) lo' with | some v => (Instr.sliceBound v h0 c >>= k) | none => ((pure 0 : Sem Nat) >>= k)) w = Sem.run P (k l0) w := by
    intro c k
    cases v1 with
    | none => simp only [boundO, Option.some.injEq] at hl0; subst hl0; simp
    | some hv => simp [(boundA_sound (P := P) hl0 hv (Nat.le_refl _) c w).1]
  cases v3 with
  | none =>
    simp only [boundO, Option.some.injEq] at hm
    subst hm
    have hh : h0 ≤ cap := by
      cases v2 with
      | none => simp only [boundO, Option.some.injEq] at hh0; omega
      | some hv => exact (boundA_sound (P := P) hh0 hv (Nat.le_refl _) .sliceB w).2
    refine ⟨cap', ?_, fun _ => ⟨rfl, rfl⟩, fun h => absurd rfl h, hle, hh, Nat.le_refl _⟩
    cases v2 with
    | none =>
      simp only [boundO, Option.some.injEq] at hh0
      subst hh0
      simp only [Instr.sliceBounds, Sem.run_bind, Sem.run_pure, Result.andThen_ok, Option.isSome_none, Bool.false_eq_true, if_false]
      exact lows .sliceB fun l => pure (l, len, cap')
    | some hv =>
      have hb := boundA_sound (P := P) hh0 hv hcap (if s = true then BoundsCode.sliceAcap else BoundsCode.sliceAlen) w
      simp only [Instr.sliceBounds, Sem.run_bind, Sem.run_pure, Result.andThen_ok, Option.isSome_none, Bool.false_eq_true, if_false, hb.1]
      exact lows .sliceB fun l => pure (l, h0, cap')
  | some hv3 =>
    have hb3 := boundA_sound (P := P) hm hv3 hcap (if s = true then BoundsCode.slice3Acap else BoundsCode.slice3Alen) w
    cases v2 with
    | none => exact absurd rfl (hno _ rfl)
    | some hv =>
      have hb := boundA_sound (P := P) hh0 hv (Nat.le_refl _) BoundsCode.slice3B w
      refine ⟨m0, ?_, fun h => (by cases h), fun _ => rfl, hle, hb.2, hb3.2⟩
      simp only [Instr.sliceBounds, Sem.run_bind, Result.andThen_ok, Option.isSome_some, if_true, hb3.1, hb.1]
      exact lows .slice3C fun l => pure (l, h0, m0)

theorem extract_list (s : ByteArray) (l h : Nat) : (s.extract l h).data.toList = (s.data.toList.drop l).take (h - l) := by
  rw [ByteArray.data_extract, Array.toList_extract, List.extract_eq_take_drop]

theorem subRep_sound (φ : Phi) {p : List UInt8} {c : UInt8} {n l h : Nat} {s : ByteArray} (hh : h ≤ p.length + n) (hs : s.data.toList = p ++ List.replicate n c) : V φ (subRep p c l h) (.string (s.extract l h)) := by
  have he : (s.extract l h).data.toList = ((p ++ List.replicate n c).drop l).take (h - l) := by rw [extract_list, hs]
  unfold subRep
  split
  · rename_i h1
    have h1 := Nat.le_of_ble_eq_true h1
    refine .str ?_
    rw [he, show h - l = 0 from by omega]
    rfl
  · rename_i h1
    have h1 : l < h := by
      rcases Nat.lt_or_ge l h with k | k
      · exact k
      · rw [Nat.ble_eq_true_of_le k] at h1; cases h1
    split
    · rename_i h2
      have h2 := Nat.le_of_ble_eq_true h2
      refine .str ?_
      rw [he, List.drop_append, List.take_append_of_le_length (by simp; omega)]
    · rename_i h2
      have h2 : p.length < h := by
        rcases Nat.lt_or_ge p.length h with k | k
        · exact k
        · rw [Nat.ble_eq_true_of_le k] at h2; cases h2
      split
      · rename_i h3
        have h3 := Nat.le_of_ble_eq_true h3
        refine .rep ?_
        rw [he, List.drop_append, List.take_append, List.take_of_length_le (by simp; omega), show l - p.length = 0 from by omega, List.drop_zero, List.take_replicate]
        congr 2
        simp
        omega
      · rename_i h3
        have h3 : p.length < l := by
          rcases Nat.lt_or_ge p.length l with k | k
          · exact k
          · rw [Nat.ble_eq_true_of_le k] at h3; cases h3
        refine .rep ?_
        rw [he, List.drop_append, List.drop_of_length_le (by omega), List.drop_replicate, List.nil_append, List.nil_append, List.take_replicate]
        congr 1
        omega

variable (hC : CtxOK C P)
include hC

theorem ylds_slice (hT : TR φ F nt a.tmps) {t : TypeId} {x : Operand} {lo hi mx : Option Operand} {v : AV} (h : opSlice C F t x lo hi mx = some v) : Ylds P φ a (.slice t x lo hi mx) v := by
  intro o ho w
  unfold opSlice at h
  split at h
  case h_2 => cases h
  rename_i p hx
  split at h
  case h_2 => cases h
  rename_i lo1 hlo
  split at h
  case h_2 => cases h
  rename_i hi1 hhi
  split at h
  case h_2 => cases h
  rename_i mx1 hmx
  have vx := ev_sound hT hx
  have v1 := evo_sound hT hlo
  have v2 := evo_sound hT hhi
  have v3 := evo_sound hT hmx
  generalize hu : a.eval x = u at vx
  generalize hl' : lo.map a.eval = lo' at v1
  generalize hh' : hi.map a.eval = hi' at v2
  generalize hm' : mx.map a.eval = mx' at v3
  suffices hs : ∃ r, (Instr.sliceAt t u lo' hi' mx').run P w = .ok r w ∧ V φ v r by
    obtain ⟨r, hr, hv⟩ := hs
    exact ⟨r, by simp [execOp, ho, hu, hl', hh', hm', hr], hv⟩
  unfold sliceA at h
  split at h
  case h_2 => cases h
  rename_i ti hti
  obtain ⟨d, hd, hr⟩ := run_under hC hti
  split at h
  case h_7 => cases h
  · -- a string
    rename_i s htd
    obtain rfl := td_str (hd.symm.trans htd)
    split at h
    case h_2 => cases h
    split at h
    case h_2 => cases h
    rename_i l hh m hb
    simp only [Option.some.injEq] at h
    subst h
    cases v3
    cases vx with
    | @str _ bs hbs =>
      have hlen : s.length = bs.size := by rw [← hbs]; exact Array.length_toList
      obtain ⟨m', hrun, _⟩ := bounds_sound (P := P) (Nat.le_refl _) (Nat.le_refl _) hb v1 v2 .none false w
      rw [hlen] at hrun
      refine ⟨.string (bs.extract l hh), ?_, .str (by rw [extract_list, hbs])⟩
      simp [Instr.sliceAt, hr, Instr.slice, hrun]
  · -- a long string
    rename_i p c n htd
    obtain rfl := td_str (hd.symm.trans htd)
    split at h
    case h_2 => cases h
    split at h
    case h_2 => cases h
    rename_i l hh m hb
    simp only [Option.some.injEq] at h
    subst h
    cases v3
    cases vx with
    | @rep _ _ _ bs hbs =>
      have hlen : p.length + n = bs.size := by
        have := congrArg List.length hbs
        simp only [Array.length_toList, List.length_append, List.length_replicate] at this
        exact this.symm
      obtain ⟨m', hrun, _, _, hle1, hle2, hle3⟩ := bounds_sound (P := P) (Nat.le_refl _) (Nat.le_refl _) hb v1 v2 .none false w
      rw [hlen] at hrun
      refine ⟨.string (bs.extract l hh), ?_, subRep_sound φ (by omega) hbs⟩
      simp [Instr.sliceAt, hr, Instr.slice, hrun]
  · -- of a known capacity
    rename_i e b off len cap htd
    obtain rfl := td_slice (hd.symm.trans htd)
    split at h
    case h_2 => cases h
    rename_i te hte
    split at h
    case h_2 => cases h
    rename_i l hh m hb
    cases vx with
    | @slc _ _ _ _ ent he hl =>
      obtain ⟨m', hrun, hm1, hm2, hle1, hle2, hle3⟩ := bounds_sound (P := P) (Nat.le_refl _) hl hb v1 v2 v3 true w
      have hmm : m' = m := by
        by_cases hn : mx1 = none
        · have := hm1 hn; omega
        · exact hm2 hn
      subst hmm
      by_cases hml : m' = l
      · rw [show Nat.beq m' l = true from by rw [hml]; exact Nat.beq_refl l] at h
        simp only [Option.some.injEq] at h
        subst h
        refine ⟨.slice (some ⟨ent.blk, ent.base + off, none⟩) (hh - l) (m' - l), ?_, .slc he (by omega)⟩
        simp [Instr.sliceAt, hr, Instr.slice, hrun, run_size hC hte, hml]
      · rw [show Nat.beq m' l = false from by rw [← Bool.not_eq_true, Nat.beq_eq]; exact hml] at h
        simp only [Option.some.injEq] at h
        subst h
        refine ⟨.slice (some ⟨ent.blk, ent.base + (off + l * te.size), none⟩) (hh - l) (m' - l), ?_, .slc he (by omega)⟩
        simp [Instr.sliceAt, hr, Instr.slice, hrun, run_size hC hte, hml, add_mk, Nat.add_assoc]
  · -- open
    rename_i e b off len sz htd
    obtain rfl := td_slice (hd.symm.trans htd)
    split at h
    case h_2 => cases h
    rename_i te hte
    split at h
    case h_2 => cases h
    rename_i hsz
    obtain rfl := Nat.eq_of_beq_eq_true hsz
    cases vx with
    | @slo _ _ _ _ c ent he hl hc =>
      split at h
      · split at h
        case h_2 => cases h
        rename_i l hh m hb
        cases v3
        obtain ⟨m', hrun, hm1, hm2, hle1, hle2, hle3⟩ := bounds_sound (P := P) hl (Nat.le_refl _) hb v1 v2 .none true w
        obtain ⟨rfl, rfl⟩ := hm1 rfl
        by_cases hll : l = m
        · rw [show Nat.beq l m = true from by rw [hll]; exact Nat.beq_refl _] at h
          simp only [Option.some.injEq] at h
          subst h
          have h0 : hh - l = 0 := by omega
          by_cases hml : m' = l
          · refine ⟨.slice (some ⟨ent.blk, ent.base + off, none⟩) (hh - l) (m' - l), ?_, by rw [h0]; exact .emp⟩
            simp only [Instr.sliceAt, Sem.run_bind, hr, Result.andThen_ok, Instr.slice, hrun, run_size hC hte, Sem.run_pure, if_pos hml]
          · refine ⟨.slice (some ⟨ent.blk, ent.base + (off + l * te.size), none⟩) (hh - l) (m' - l), ?_, by rw [h0]; exact .emp⟩
            simp [Instr.sliceAt, hr, Instr.slice, hrun, run_size hC hte, hml, add_mk, Nat.add_assoc]
        · rw [show Nat.beq l m = false from by rw [← Bool.not_eq_true, Nat.beq_eq]; exact hll] at h
          simp only [Option.some.injEq] at h
          subst h
          have hml : ¬ m' = l := by omega
          refine ⟨.slice (some ⟨ent.blk, ent.base + (off + l * te.size), none⟩) (hh - l) (m' - l), ?_, .slo he (by omega) ?_⟩
          · simp [Instr.sliceAt, hr, Instr.slice, hrun, run_size hC hte, hml, add_mk, Nat.add_assoc]
          · have : l * te.size + (m' - l) * te.size = m' * te.size := by rw [← Nat.add_mul]; congr 1; omega
            omega
      · split at h
        case h_2 => cases h
        rename_i l hh m hb
        cases v3 with
        | some hv3 =>
        obtain ⟨m', hrun, hm1, hm2, hle1, hle2, hle3⟩ := bounds_sound (P := P) hl (Nat.le_refl _) hb v1 v2 (.some hv3) true w
        obtain rfl := hm2 (by simp)
        by_cases hml : m' = l
        · rw [show Nat.beq m' l = true from by rw [hml]; exact Nat.beq_refl l] at h
          simp only [Option.some.injEq] at h
          subst h
          have h0 : hh - l = 0 := by omega
          refine ⟨.slice (some ⟨ent.blk, ent.base + off, none⟩) (hh - l) (m' - l), ?_, by rw [h0]; exact .emp⟩
          simp [Instr.sliceAt, hr, Instr.slice, hrun, run_size hC hte, hml]
        · rw [show Nat.beq m' l = false from by rw [← Bool.not_eq_true, Nat.beq_eq]; exact hml] at h
          simp only [Option.some.injEq] at h
          subst h
          refine ⟨.slice (some ⟨ent.blk, ent.base + (off + l * te.size), none⟩) (hh - l) (m' - l), ?_, .slc he (by omega)⟩
          simp [Instr.sliceAt, hr, Instr.slice, hrun, run_size hC hte, hml, add_mk, Nat.add_assoc]
  · -- nil
    rename_i e htd
    obtain rfl := td_slice (hd.symm.trans htd)
    split at h
    case h_2 => cases h
    rename_i te hte
    split at h
    case h_2 => cases h
    rename_i q hb
    obtain ⟨l, hh, m⟩ := q
    simp only [Option.some.injEq] at h
    subst h
    cases vx
    obtain ⟨m', hrun, hm1, hm2, hle1, hle2, hle3⟩ := bounds_sound (P := P) (Nat.le_refl _) (Nat.le_refl _) hb v1 v2 v3 true w
    have hm0 : m' = 0 := by
      by_cases hn : mx1 = none
      · exact (hm1 hn).1
      · have := hm2 hn; omega
    have hl0 : l = 0 := by omega
    have hh0 : hh = 0 := by omega
    subst hm0; subst hl0; subst hh0
    refine ⟨.slice none 0 0, ?_, .nils⟩
    simp [Instr.sliceAt, hr, Instr.slice, hrun, run_size hC hte]
  · -- an array
    rename_i n e b off htd
    obtain rfl := td_array (hd.symm.trans htd)
    split at h
    case h_2 => cases h
    rename_i te hte
    split at h
    case h_2 => cases h
    rename_i l hh m hb
    cases vx with
    | @ptr _ _ ent he =>
      obtain ⟨m', hrun, hm1, hm2, hle1, hle2, hle3⟩ := bounds_sound (P := P) (Nat.le_refl _) (Nat.le_refl _) hb v1 v2 v3 false w
      have hmm : m' = m := by
        by_cases hn : mx1 = none
        · have := hm1 hn; omega
        · exact hm2 hn
      subst hmm
      by_cases hml : m' = l
      · rw [show Nat.beq m' l = true from by rw [hml]; exact Nat.beq_refl l] at h
        simp only [Option.some.injEq] at h
        subst h
        refine ⟨.slice (some ⟨ent.blk, ent.base + off, none⟩) (hh - l) (m' - l), ?_, .slc he (by omega)⟩
        simp [Instr.sliceAt, hr, Instr.sureAddr, hrun, run_size hC hte, hml]
      · rw [show Nat.beq m' l = false from by rw [← Bool.not_eq_true, Nat.beq_eq]; exact hml] at h
        simp only [Option.some.injEq] at h
        subst h
        refine ⟨.slice (some ⟨ent.blk, ent.base + (off + l * te.size), none⟩) (hh - l) (m' - l), ?_, .slc he (by omega)⟩
        simp [Instr.sliceAt, hr, Instr.sureAddr, hrun, run_size hC hte, hml, add_mk, Nat.add_assoc]
end
end Go.Abs

namespace Go.Abs
open Go

theorem VL.of_get {φ : Phi} : ∀ {as : List AV} {vs : List Value}, as.length = vs.length → (∀ (i : Nat) (a : AV), as[i]? = some a → ∃ v, vs[i]? = some v ∧ V φ a v) → VL φ as vs
  | [], [], _, _ => .nil
  | a :: as, v :: vs, hl, h => by
    obtain ⟨v', h1, h2⟩ := h 0 a rfl
    simp at h1
    subst h1
    exact .cons h2 (VL.of_get (by simpa using hl) fun i b hb => h (i + 1) b (by simpa using hb))
  | [], _ :: _, hl, _ => by simp at hl
  | _ :: _, [], hl, _ => by simp at hl

theorem putAt_spec : ∀ (cs : List AV) (off : Nat) (vs r : List AV), putAt cs off vs = some r →
    r.length = cs.length ∧ off + vs.length ≤ cs.length ∧ (∀ i, i < off ∨ off + vs.length ≤ i → r[i]? = cs[i]?) ∧ (∀ j, j < vs.length → r[off + j]? = vs[j]?) := by
  intro cs
  induction cs with
  | nil =>
    intro off vs r h
    cases off with
    | zero =>
      cases vs with
      | nil => simp only [putAt, Option.some.injEq] at h; subst h; simp
      | cons v vs => simp [putAt] at h
    | succ off => simp [putAt] at h
  | cons c cs ih =>
    intro off vs r h
    cases off with
    | zero =>
      cases vs with
      | nil => simp only [putAt, Option.some.injEq] at h; subst h; simp
      | cons v vs =>
        simp only [putAt] at h
        split at h
        · rename_i r0 hr0
          simp only [Option.some.injEq] at h
          subst h
          obtain ⟨h1, h2, h3, h4⟩ := ih 0 vs r0 hr0
          refine ⟨by simp [h1], by simp at h2 ⊢; omega, ?_, ?_⟩
          · intro i hi
            cases i with
            | zero => simp at hi
            | succ i => simp at hi ⊢; exact h3 i (by omega)
          · intro j hj
            cases j with
            | zero => simp
            | succ j =>
              have := h4 j (by simpa using hj)
              simpa [Nat.zero_add] using this
        · cases h
    | succ off =>
      simp only [putAt] at h
      split at h
      · rename_i r0 hr0
        simp only [Option.some.injEq] at h
        subst h
        obtain ⟨h1, h2, h3, h4⟩ := ih off vs r0 hr0
        refine ⟨by simp [h1], by simp; omega, ?_, ?_⟩
        · intro i hi
          cases i with
          | zero => simp
          | succ i => simp; exact h3 i (by omega)
        · intro j hj
          rw [show off + 1 + j = (off + j) + 1 from by omega]
          simpa using h4 j hj
      · cases h

theorem foldSet_spec (off : Nat) : ∀ (ys : List Value) (k : Nat) (arr : Array Value),
    ((ys.zipIdx k).foldl (fun (cs : Array Value) (p : Value × Nat) => cs.setIfInBounds (off + p.2) p.1) arr).size = arr.size ∧
    (off + k + ys.length ≤ arr.size → (∀ i, i < off + k ∨ off + k + ys.length ≤ i → ((ys.zipIdx k).foldl (fun (cs : Array Value) (p : Value × Nat) => cs.setIfInBounds (off + p.2) p.1) arr)[i]? = arr[i]?) ∧
      (∀ j, j < ys.length → ((ys.zipIdx k).foldl (fun (cs : Array Value) (p : Value × Nat) => cs.setIfInBounds (off + p.2) p.1) arr)[off + k + j]? = ys[j]?)) := by
  intro ys
  induction ys with
  | nil => intro k arr; exact ⟨rfl, fun _ => ⟨fun _ _ => rfl, fun j hj => absurd hj (by simp)⟩⟩
  | cons y ys ih =>
    intro k arr
    obtain ⟨h1, h2⟩ := ih (k + 1) (arr.setIfInBounds (off + k) y)
    simp only [List.zipIdx_cons, List.foldl_cons]
    refine ⟨by rw [h1]; simp, fun hle => ?_⟩
    simp only [List.length_cons] at hle
    obtain ⟨h3, h4⟩ := h2 (by simp; omega)
    refine ⟨?_, ?_⟩
    · intro i hi
      simp only [List.length_cons] at hi
      rw [h3 i (by omega), Array.getElem?_setIfInBounds_ne (by omega)]
    · intro j hj
      simp only [List.length_cons] at hj
      cases j with
      | zero =>
        rw [show off + k + 0 = off + k from rfl, h3 (off + k) (by omega), Array.getElem?_setIfInBounds_self_of_lt (by omega)]
        rfl
      | succ j =>
        rw [show off + k + (j + 1) = off + (k + 1) + j from by omega, h4 j (by omega)]
        simp

section
variable {C : Ctx} {P : Program} {φ : Phi} {F : T AV} {nt : Nat} {a : Act}

theorem fill_sound (hT : TR φ F nt a.tmps) {place place' : Nat → Option (Nat × Nat)} (hp : ∀ i p, place i = some p → place' i = some p) :
    ∀ (ps : List (Nat × Operand)) (cs r : List AV) (arr : Array Value), parts F place cs ps = some r → VL φ cs arr.toList →
    ∃ arr', Instr.fill place' arr (ps.map fun q => (q.1, a.eval q.2)) = some arr' ∧ VL φ r arr'.toList ∧ arr'.size = arr.size := by
  intro ps
  induction ps with
  | nil =>
    intro cs r arr h hv
    simp only [parts, Option.some.injEq] at h
    subst h
    exact ⟨arr, rfl, hv, rfl⟩
  | cons q ps ih =>
    intro cs r arr h hv
    obtain ⟨i, x⟩ := q
    simp only [parts] at h
    split at h
    case h_2 => cases h
    rename_i off sz hpl
    split at h
    case h_2 => cases h
    rename_i v hx
    split at h
    case h_2 => cases h
    rename_i hsz
    split at h
    case h_2 => cases h
    rename_i cs' hput
    obtain ⟨p1, p2, p3, p4⟩ := putAt_spec _ _ _ _ hput
    have hcell := cellsOf_sound (ev_sound hT hx)
    have hlen := hcell.length
    have hsz' := Nat.eq_of_beq_eq_true hsz
    have hvl := hv.length
    simp only [Array.length_toList] at hlen hvl
    have hfs := foldSet_spec off (a.eval x).cells.toList 0 arr
    obtain ⟨f1, f2⟩ := hfs
    simp only [Array.length_toList, Nat.add_zero] at f2
    obtain ⟨f3, f4⟩ := f2 (by omega)
    have hVL : VL φ cs' (((a.eval x).cells.toList.zipIdx 0).foldl (fun (cs : Array Value) (p : Value × Nat) => cs.setIfInBounds (off + p.2) p.1) arr).toList := by
      refine VL.of_get ((p1.trans hvl).trans (f1.symm.trans Array.length_toList.symm)) ?_
      intro j b hb
      rw [Array.getElem?_toList]
      by_cases hj : j < off ∨ off + (cellsOf v).length ≤ j
      · rw [p3 j hj] at hb
        obtain ⟨u, hu, hru⟩ := hv.get hb
        rw [f3 j (by omega)]
        exact ⟨u, by simpa using hu, hru⟩
      · obtain ⟨k, rfl⟩ : ∃ k, j = off + k := ⟨j - off, by omega⟩
        rw [p4 k (by omega)] at hb
        obtain ⟨u, hu, hru⟩ := hcell.get hb
        have := f4 k (by omega)
        rw [this]
        exact ⟨u, hu, hru⟩
    obtain ⟨arr', g1, g2, g3⟩ := ih cs' r _ h hVL
    refine ⟨arr', ?_, g2, by rw [g3, f1]⟩
    simp only [List.map_cons, Instr.fill, hp i _ hpl]
    have hc : ¬ (((a.eval x).cells.size ≠ sz || off + (a.eval x).cells.size > arr.size) = true) := by
      simp only [ne_eq, Bool.or_eq_true, decide_eq_true_eq, not_or, Decidable.not_not]
      exact ⟨by omega, by omega⟩
    rw [if_neg hc]
    have hconv : (a.eval x).cells.zipIdx.foldl (fun cs (c, j) => cs.setIfInBounds (off + j) c) arr =
        ((a.eval x).cells.toList.zipIdx 0).foldl (fun (cs : Array Value) (p : Value × Nat) => cs.setIfInBounds (off + p.2) p.1) arr := by
      rw [← Array.foldl_toList, Array.toList_zipIdx]
    rw [hconv]
    exact g1

variable (hC : CtxOK C P)
include hC

theorem fields_run (w : World) : ∀ (fs : List Field), (∀ f ∈ fs, ∃ i, P.info? f.type = some i) →
    ∃ l : List (Nat × Nat), (fs.mapM (m := Sem) fun f => do pure (f.offset, ← sizeOf f.type)).run P w = .ok l w ∧ l.length = fs.length ∧
      ∀ (j : Nat) (f : Field) (tf : TI), fs[j]? = some f → C.ty.get f.type = some tf → l[j]? = some (f.offset, tf.size) := by
  intro fs
  induction fs with
  | nil => intro _; exact ⟨[], by simp, rfl, by simp⟩
  | cons f fs ih =>
    intro h
    obtain ⟨l, h1, h2, h3⟩ := ih fun g hg => h g (by simp [hg])
    obtain ⟨i, hi⟩ := h f (by simp)
    refine ⟨(f.offset, i.size) :: l, ?_, by simp [h2], ?_⟩
    · have hs : (sizeOf f.type).run P w = .ok i.size w := by simp [sizeOf, typeInfo, hi]
      rw [List.mapM_cons]
      simp only [Sem.run_bind, hs, Result.andThen_ok, Sem.run_pure, h1]
    · intro j g tf hj htf
      cases j with
      | zero =>
        simp at hj
        subst hj
        obtain ⟨i', d, z, hi', hd, htd, hs, _⟩ := hC.ty _ _ htf
        rw [hi] at hi'
        cases hi'
        simp [hs]
      | succ j =>
        simp at hj ⊢
        exact h3 j g tf hj htf

theorem ylds_build (hT : TR φ F nt a.tmps) {t : TypeId} {ps : Array (Nat × Operand)} {v : AV} (h : buildA C F t ps.toList = some v) : Ylds P φ a (.build t ps) v := by
  intro o ho w
  unfold buildA at h
  split at h
  case h_2 => cases h
  rename_i ti hti
  obtain ⟨d, hd, hr⟩ := run_under hC hti
  obtain ⟨z, hz1, hz2, hz3⟩ := run_zero hC hti
  have hmap : (ps.map fun (i, x) => (i, a.eval x)).toList = ps.toList.map fun q => (q.1, a.eval q.2) := by simp
  split at h
  · rename_i fs hfs
    simp only [Option.map_eq_some_iff] at h
    obtain ⟨r, hr1, rfl⟩ := h
    obtain ⟨fa, rfl, rfl⟩ := td_struct (hd.symm.trans hfs)
    obtain ⟨l, hl1, hl2, hl3⟩ := fields_run hC w fa.toList (hC.fields _ _ hti _ (hfs))
    obtain ⟨arr', g1, g2, g3⟩ := fill_sound hT (place' := fun i => l[i]?) (by
      intro i p hp
      unfold fieldPlaces at hp
      split at hp
      · rename_i off ft hf
        split at hp
        · rename_i tf htf
          simp only [Option.some.injEq] at hp
          subst hp
          obtain ⟨fd, k1, rfl, rfl⟩ := getElem?_map_struct hf
          exact hl3 i fd tf (by simpa using k1) htf
        · cases hp
      · cases hp) ps.toList _ r z.cells hr1 (hz1 φ)
    refine ⟨.agg arr', ?_, .agg g2⟩
    have hM : (fa.mapM (m := Sem) fun f => do pure (f.offset, ← sizeOf f.type)).run P w = .ok l.toArray w := by
      rw [Array.mapM_eq_mapM_toList, Sem.run_map, hl1]
      rfl
    simp only [execOp, ho, Instr.build, Sem.run_bind, hz3, Result.andThen_ok, hr, hM, hmap]
    simp only [List.getElem?_toArray, g1, Sem.run_pure]
    rfl
  · rename_i n e hfs
    obtain rfl := td_array (hd.symm.trans hfs)
    split at h
    case h_2 => cases h
    rename_i te hte
    simp only [Option.map_eq_some_iff] at h
    obtain ⟨r, hr1, rfl⟩ := h
    obtain ⟨arr', g1, g2, g3⟩ := fill_sound hT (place' := fun i => some (i * te.size, te.size)) (fun i p hp => hp) ps.toList _ r z.cells hr1 (hz1 φ)
    refine ⟨.agg arr', ?_, .agg g2⟩
    simp only [execOp, ho, Instr.build, Sem.run_bind, hz3, Result.andThen_ok, hr, run_size hC hte, hmap, g1, Sem.run_pure]
  · cases h
end
end Go.Abs

namespace Go.Abs
open Go

theorem setFrom_get : ∀ (vs : List AV) (t : T AV) (o i : Nat), (setFrom t o vs).get i = if o ≤ i ∧ i < o + vs.length then vs[i - o]? else t.get i := by
  intro vs
  induction vs with
  | nil => intro t o i; simp only [setFrom, List.length_nil]; rw [if_neg (by omega)]
  | cons v vs ih =>
    intro t o i
    simp only [setFrom, List.length_cons]
    rw [ih, get_set]
    by_cases h1 : o + 1 ≤ i ∧ i < o + 1 + vs.length
    · rw [if_pos h1, if_pos (by omega)]
      rw [show i - o = (i - (o + 1)) + 1 from by omega]
      simp
    · rw [if_neg h1]
      by_cases h2 : i = o
      · subst h2
        rw [if_pos rfl, if_pos (by omega)]
        simp
      · rw [if_neg h2, if_neg (by omega)]

theorem getFrom_spec : ∀ (n : Nat) (t : T AV) (o : Nat) (vs : List AV), getFrom t o n = some vs → vs.length = n ∧ ∀ j, j < n → t.get (o + j) = vs[j]? := by
  intro n
  induction n with
  | zero => intro t o vs h; simp only [getFrom, Option.some.injEq] at h; subst h; exact ⟨rfl, fun j hj => absurd hj (by omega)⟩
  | succ n ih =>
    intro t o vs h
    simp only [getFrom] at h
    split at h
    case h_2 => cases h
    rename_i v hv
    split at h
    case h_2 => cases h
    rename_i us hus
    simp only [Option.some.injEq] at h
    subst h
    obtain ⟨h1, h2⟩ := ih t (o + 1) us hus
    refine ⟨by simp [h1], ?_⟩
    intro j hj
    cases j with
    | zero => simpa using hv
    | succ j =>
      rw [show o + (j + 1) = o + 1 + j from by omega, h2 j (by omega)]
      simp

/-- An operation that makes the object obj (id: its number) and gives vf id. -/
def Makes (P : Program) (φ : Phi) (a : Act) (op : Op) (vf : Nat → AV) (obj : AO) : Prop :=
  ∀ o : Oper, o.op = op → ∀ w, ∃ x ob lim n, (execOp a.eval o).run P w = .ok (.value x) { newB w ob with drawn := w.drawn + n } ∧
    ∀ ψ id, φ.le ψ → ψ id = some ⟨w.heap.size, 0, lim⟩ → V ψ (vf id) x ∧ ObR ψ ⟨w.heap.size, 0, lim⟩ obj ob

theorem row_obj {ψ : Phi} {cs : List AV} {arr : Array Value} {g : Nat} {el : TypeId} (h : VL ψ cs arr.toList) :
    ObR ψ ⟨g, 0, arr.size⟩ (.cells (setFrom .lf 0 cs) cs.length 0 false true el) (.cells arr el) := by
  have hl : cs.length = arr.size := h.length.trans Array.length_toList
  refine .cells rfl (by simp; omega) (fun _ => rfl) ?_ ?_
  · intro i v hi hv
    rw [setFrom_get, if_pos (by omega)] at hv
    obtain ⟨x, hx, hr⟩ := h.get hv
    exact ⟨x, by simpa using hx, hr⟩
  · exact .inl rfl

theorem VL.rep {φ : Phi} {z : List AV} {zs : List Value} (h : VL φ z zs) : ∀ n, VL φ (rep z n) ((List.replicate n zs).flatten)
  | 0 => .nil
  | n + 1 => by
    simp only [Abs.rep, List.replicate_succ, List.flatten_cons]
    exact h.append (VL.rep h n)

theorem mod_cells (z : Array Value) (n : Nat) : ((Array.range (n * z.size)).map (z[· % z.size]!)).toList = (List.replicate n z.toList).flatten := by
  induction n with
  | zero => simp
  | succ n ih =>
    rw [show (n + 1) * z.size = n * z.size + z.size from by rw [Nat.add_mul]; omega]
    rw [List.replicate_succ', List.flatten_append, ← ih]
    simp only [Array.toList_map, Array.toList_range, List.range_add, List.map_append, List.map_map]
    congr 1
    simp only [List.flatten_cons, List.flatten_nil, List.append_nil]
    apply List.ext_getElem (by simp)
    intro i h1 h2
    simp only [List.length_map, List.length_range] at h1
    simp only [List.getElem_map, List.getElem_range, Function.comp_apply]
    rw [show (n * z.size + i) % z.size = i from by rw [Nat.mul_comm, Nat.mul_add_mod]; exact Nat.mod_eq_of_lt h1]
    simp [getElem!_pos z i h1]

section
variable {C : Ctx} {P : Program} {φ : Phi} {F : T AV} {nt : Nat} {a : Act}

theorem newRow_run (w : World) (e : TypeId) (c : Array Value) : (newRow e c).run P w = .ok ⟨w.heap.size, 0, none⟩ (newB w (.cells c e)) := by
  simp [newRow]; rfl

theorem makes_box (hT : TR φ F nt a.tmps) {t : TypeId} {x : Operand} {v : AV} (h : ev F x = some v) :
    Makes P φ a (.box t x) (fun id => .ptr id 0) (.cells (setFrom .lf 0 (cellsOf v)) (cellsOf v).length 0 false true t) := by
  intro o ho w
  refine ⟨.pointer (some ⟨w.heap.size, 0, none⟩), .cells (a.eval x).cells t, (a.eval x).cells.size, 0, ?_, ?_⟩
  · simp only [execOp, ho, Instr.box, newVar, Sem.run_bind, newRow_run, Result.andThen_ok, Sem.run_pure]; rfl
  · intro ψ id hle he
    refine ⟨?_, row_obj ((cellsOf_sound (ev_sound hT h)).mono hle)⟩
    have := V.ptr (φ := ψ) (o := 0) he
    simpa using this

theorem makes_map (t : TypeId) : Makes P φ a (.makeMap t none) (fun id => .map id) (.map []) := by
  intro o ho w
  refine ⟨.map (some w.heap.size), .map #[] 0, 0, 0, ?_, ?_⟩
  · simp [execOp, ho, Instr.makeMap]; rfl
  · intro ψ id hle he
    exact ⟨V.map (φ := ψ) he, .map .nil .nil⟩

variable (hC : CtxOK C P)
include hC

theorem makes_alloc {t : TypeId} {ti : TI} (h : C.ty.get t = some ti) :
    Makes P φ a (.alloc t) (fun id => .ptr id 0) (.cells (setFrom .lf 0 ti.zero) ti.zero.length 0 false true t) := by
  intro o ho w
  obtain ⟨z, hz1, hz2, hz3⟩ := run_zero hC h
  refine ⟨.pointer (some ⟨w.heap.size, 0, none⟩), .cells z.cells t, z.cells.size, 0, ?_, ?_⟩
  · simp only [execOp, ho, Instr.alloc, Sem.run_bind, hz3, Result.andThen_ok, newVar, newRow_run, Sem.run_pure]; rfl
  · intro ψ id hle he
    refine ⟨?_, row_obj (hz1 ψ)⟩
    have := V.ptr (φ := ψ) (o := 0) he
    simpa using this

theorem makes_buildSlice (hT : TR φ F nt a.tmps) {t e : TypeId} {ti te : TI} {len : Nat} {ps : Array (Nat × Operand)} {cs : List AV} (h : C.ty.get t = some ti) (htd : ti.td = .slice e)
    (he : C.ty.get e = some te) (hle : len * te.size ≤ 1000000) (hp : parts F (fun i => some (i * te.size, te.size)) (rep te.zero len) ps.toList = some cs) :
    Makes P φ a (.buildSlice t len ps) (fun id => .slc id 0 len len) (.cells (setFrom .lf 0 cs) cs.length 0 false true e) := by
  intro o ho w
  obtain ⟨d, hd, hr⟩ := run_under hC h
  obtain rfl := td_slice (hd.symm.trans htd)
  obtain ⟨z, hz1, hz2, hz3⟩ := run_zero hC he
  have hmap : (ps.map fun (i, x) => (i, a.eval x)).toList = ps.toList.map fun q => (q.1, a.eval q.2) := by simp
  have hlim : ¬ (len * te.size > 2 ^ 24) := by omega
  have hsz0 : te.size = 0 → te.zero = [] := fun hs => by
    have := (hz1 φ).length.trans Array.length_toList
    rw [hz2, hs] at this
    exact List.length_eq_zero_iff.1 this
  have hnil : ∀ n, rep [] n = [] := by intro n; induction n with | zero => rfl | succ n ih => simp [Abs.rep, ih]
  have main : ∃ arr', (∀ w, (execOp a.eval o).run P w = .ok (.value (.slice (some ⟨w.heap.size, 0, none⟩) len len)) (newB w (.cells arr' e))) ∧ VL φ cs arr'.toList := by
    by_cases h0 : len * te.size = 0
    · have hrow : VL φ (rep te.zero len) (#[] : Array Value).toList := by
        rcases Nat.mul_eq_zero.1 h0 with hl | hs
        · subst hl; exact .nil
        · rw [hsz0 hs, hnil]; exact .nil
      obtain ⟨arr', g1, g2, g3⟩ := fill_sound hT (place' := fun i => some (i * te.size, te.size)) (fun i p hp => hp) ps.toList _ cs #[] hp hrow
      have hr0 : (Array.range (len * te.size)).map (fun x => (#[] : Array Value)[x % (#[] : Array Value).size]!) = #[] := by rw [h0]; simp
      refine ⟨arr', fun w => ?_, g2⟩
      simp only [execOp, ho, Instr.buildSlice, Sem.run_bind, hr, Result.andThen_ok, run_size hC he, if_neg hlim, if_pos h0, Sem.run_pure, hr0, hmap, g1, newRow_run]
    · have hrow : VL φ (rep te.zero len) ((Array.range (len * te.size)).map (z.cells[· % z.cells.size]!)).toList := by
        rw [← hz2, mod_cells]
        exact (hz1 φ).rep len
      obtain ⟨arr', g1, g2, g3⟩ := fill_sound hT (place' := fun i => some (i * te.size, te.size)) (fun i p hp => hp) ps.toList _ cs _ hp hrow
      refine ⟨arr', fun w => ?_, g2⟩
      simp only [execOp, ho, Instr.buildSlice, Sem.run_bind, hr, Result.andThen_ok, run_size hC he, if_neg hlim, if_neg h0, hz3, Sem.run_pure, hmap, g1, newRow_run]
  obtain ⟨arr', hrun, g2⟩ := main
  refine ⟨.slice (some ⟨w.heap.size, 0, none⟩) len len, .cells arr' e, arr'.size, 0, hrun w, ?_⟩
  · intro ψ id hle' hid
    refine ⟨?_, row_obj (g2.mono hle')⟩
    have := V.slc (φ := ψ) (o := 0) (len := len) (cap := len) hid (Nat.le_refl _)
    simpa using this
end
end Go.Abs

namespace Go.Abs
open Go

theorem freeze_newB (w : World) (c : Array Value) (t : TypeId) (n : Nat) :
    (newB w (.cells c t)).freeze ⟨w.heap.size, n, none⟩ 1 = newB w (.cells c t (n, n + 1)) := by
  unfold World.freeze newB
  rw [if_neg (by omega)]
  congr 1
  apply Array.ext (by simp)
  intro i h1 h2
  simp only [Array.getElem_modify, Array.getElem_push]
  by_cases hi : i < w.heap.size
  · have : ¬ (w.heap.size = i) := by omega
    simp [hi, this]
  · have : w.heap.size = i := by simp at h2; omega
    simp [this]

theorem byteVals_sound (φ : Phi) : ∀ (l : List UInt8), VL φ (byteVals l) (l.map fun b => Value.int .u8 b.toNat)
  | [] => .nil
  | _ :: l => .cons (.int _ _) (byteVals_sound φ l)
theorem byteVals_length : ∀ (l : List UInt8), (byteVals l).length = l.length
  | [] => rfl
  | _ :: l => by simp [byteVals, byteVals_length l]

theorem mark_new {P : Program} (w : World) (arr : Array Value) (e : TypeId) :
    (markStringish ⟨w.heap.size, 0, none⟩).run P (newB w (.cells arr e)) = .ok () (newB w (.cells arr e (arr.size, arr.size + 1))) := by
  have hsh := shape_of (newB_same w (.cells arr e))
  simp only [markStringish, Sem.run_bind, run_shape, hsh, Result.andThen_ok, run_freeze]
  exact congrArg (Result.ok ()) (freeze_newB w arr e arr.size)

section
variable {C : Ctx} {P : Program} {φ : Phi} {F : T AV} {nt : Nat} {a : Act}
variable (hC : CtxOK C P)
include hC

theorem makes_makeSlice (hT : TR φ F nt a.tmps) {t e : TypeId} {ti te : TI} {l c : Operand} {kl kc : IntKind} {ln cn : Int} (h : C.ty.get t = some ti) (htd : ti.td = .slice e)
    (he : C.ty.get e = some te) (hl : ev F l = some (.int kl ln)) (hc : ev F c = some (.int kc cn))
    (hb : (leI 0 ln && leI ln cn && leI (cn * Int.ofNat te.bytes) 1000000 && leI cn 1000000) = true) :
    Makes P φ a (.makeSlice t l c) (fun id => .slc id 0 ln.toNat cn.toNat) (.cells (setFrom .lf 0 (rep te.zero cn.toNat)) (rep te.zero cn.toNat).length 0 false true e) := by
  intro o ho w
  obtain ⟨d, hd, hr⟩ := run_under hC h
  obtain rfl := td_slice (hd.symm.trans htd)
  obtain ⟨z, hz1, hz2, hz3⟩ := run_zero hC he
  obtain ⟨i, hib, hi⟩ := run_bytes hC he
  simp only [Bool.and_eq_true, leI_iff] at hb
  obtain ⟨⟨⟨h1, h2⟩, h3⟩, h4⟩ := hb
  have el := ev_int hT hl
  have ec := ev_int hT hc
  have w1 : IntKind.i64.wrap ln = ln := wrap_i64 _ (by omega) (by omega)
  have w2 : IntKind.i64.wrap cn = cn := wrap_i64 _ (by omega) (by omega)
  have h3' : (te.bytes : Int) * cn ≤ 1000000 := by rw [Int.mul_comm]; exact h3
  have hno : ¬ ((cn < 0 || (i.bytes : Int) * cn > 2 ^ 48) || ln < 0 || ln > cn) = true := by
    simp only [Bool.or_eq_true, decide_eq_true_eq, not_or, hib]
    omega
  have hsz0 : te.size = 0 → te.zero = [] := fun hs => by
    have := (hz1 φ).length.trans Array.length_toList
    rw [hz2, hs] at this
    exact List.length_eq_zero_iff.1 this
  have hnil : ∀ n, rep [] n = [] := by intro n; induction n with | zero => rfl | succ n ih => simp [Abs.rep, ih]
  have main : ∃ arr' : Array Value, (∀ w, (execOp a.eval o).run P w = .ok (.value (.slice (some ⟨w.heap.size, 0, none⟩) ln.toNat cn.toNat)) (newB w (.cells arr' e))) ∧ VL φ (rep te.zero cn.toNat) arr'.toList := by
    by_cases h0 : cn.toNat * te.size = 0
    · refine ⟨#[], fun w => ?_, ?_⟩
      · have hr0 : (Array.range (cn.toNat * te.size)).map (fun x => (#[] : Array Value)[x % (#[] : Array Value).size]!) = #[] := by rw [h0]; simp
        simp only [execOp, ho, Instr.makeSlice, Sem.run_bind, hr, Result.andThen_ok, el, ec, asInt, asIntOf, Sem.run_pure, hi, w1, w2, hno, if_false, run_askRoom, run_size hC he, if_pos h0, hr0, newRow_run, Bool.false_eq_true]
      · rcases Nat.mul_eq_zero.1 h0 with hl | hs
        · rw [hl]; exact .nil
        · rw [hsz0 hs, hnil]; exact .nil
    · refine ⟨(Array.range (cn.toNat * te.size)).map (z.cells[· % z.cells.size]!), fun w => ?_, ?_⟩
      · simp only [execOp, ho, Instr.makeSlice, Sem.run_bind, hr, Result.andThen_ok, el, ec, asInt, asIntOf, Sem.run_pure, hi, w1, w2, hno, if_false, run_askRoom, run_size hC he, if_neg h0, hz3, newRow_run, Bool.false_eq_true]
      · rw [← hz2, mod_cells]
        exact (hz1 φ).rep _
  obtain ⟨arr', hrun, g2⟩ := main
  refine ⟨.slice (some ⟨w.heap.size, 0, none⟩) ln.toNat cn.toNat, .cells arr' e, arr'.size, 0, hrun w, ?_⟩
  intro ψ id hle hid
  refine ⟨?_, row_obj (g2.mono hle)⟩
  have := V.slc (φ := ψ) (o := 0) (len := ln.toNat) (cap := cn.toNat) hid (by omega)
  simpa using this

theorem makes_bytes (hT : TR φ F nt a.tmps) {s d e : TypeId} {ts td te : TI} {x : Operand} {b : List UInt8} (hs : C.ty.get s = some ts) (hd : C.ty.get d = some td) (htd : td.td = .slice e)
    (he : C.ty.get e = some te) (hte : te.td = .int .u8) (hx : ev F x = some (.str b)) :
    Makes P φ a (.convert s d x) (fun id => .slo id 0 b.length 1) (.cells (setFrom .lf 0 (byteVals b)) b.length 0 true false e) := by
  intro o ho w
  obtain ⟨ds, hds, hrs⟩ := run_under hC hs
  obtain ⟨dd, hdd, hrd⟩ := run_under hC hd
  obtain rfl := td_slice (hdd.symm.trans htd)
  obtain ⟨de, hde, hre⟩ := run_under hC he
  obtain rfl := td_int (hde.symm.trans hte)
  have vx := ev_sound hT hx
  generalize hu : a.eval x = u at vx
  cases vx with
  | @str _ sb hsb =>
  have hlen : sb.size = b.length := by rw [← hsb]; exact (Array.length_toList (xs := sb.data)).symm
  -- the capacity that is drawn
  obtain ⟨cap, hcap1, hcap2⟩ : ∃ cap, sb.size ≤ cap ∧ (choose (.appendCap sb.size 0 e)).run P w = .ok cap { w with drawn := w.drawn + 1 } :=
    ⟨_, Nat.le_add_right _ _, by rw [run_choose]; rfl⟩
  have hconv : (convert s d (.string sb)).run P w = (Conv.stringToBytes e sb).run P w := by
    simp only [convert, Sem.run_bind, hrs, hrd, Result.andThen_ok]
    cases ds <;> simp only [hre, Result.andThen_ok]
  let arr : Array Value := (sb.data.map fun b => Value.int .u8 b.toNat) ++ Array.replicate (cap - sb.size) (.int .u8 0)
  have harr : arr.size = cap := by
    simp only [arr, Array.size_append, Array.size_map, Array.size_replicate]
    have : sb.data.size = sb.size := rfl
    omega
  refine ⟨.slice (some ⟨w.heap.size, 0, none⟩) sb.size cap, .cells arr e (cap, cap + 1), cap, 1, ?_, ?_⟩
  · simp only [execOp, ho, hu, Sem.run_bind, hconv, Conv.stringToBytes, hcap2, Result.andThen_ok, newRow_run]
    rw [mark_new { w with drawn := w.drawn + 1 } arr e, harr]
    rfl
  · intro ψ id hle' hid
    refine ⟨?_, .cells harr (by simp; omega) (by simp) ?_ ?_⟩
    · have := V.slo (φ := ψ) (o := 0) (len := b.length) (sz := 1) (c := cap) hid (by omega) (by simp)
      rw [hlen]
      simpa using this
    · intro i v hi hv
      rw [setFrom_get, byteVals_length, if_pos (by omega)] at hv
      obtain ⟨y, hy, hr⟩ := (byteVals_sound ψ b).get hv
      refine ⟨y, ?_, hr⟩
      simp only [Nat.zero_add, arr]
      rw [Array.getElem?_append_left (by simp; show i < sb.size; omega)]
      simp only [Nat.sub_zero] at hy
      rw [← hsb] at hy
      simpa using hy
    · exact .inr (.inr ⟨rfl, Nat.le_refl _⟩)
end
end Go.Abs

namespace Go.Abs
open Go

/-- An operation that goes from the heap H to H' and gives v. -/
def Does (P : Program) (φ : Phi) (a : Act) (op : Op) (H : Hp) (v : AV) (H' : Hp) : Prop :=
  ∀ o : Oper, o.op = op → ∀ w, Rel φ H w → ∃ x w' ψ, ((execOp a.eval o).run P w = .ok (.value x) w' ∨ ((execOp a.eval o).run P w = .ok .skip w' ∧ x = undef)) ∧
    V ψ v x ∧ Rel ψ H' w' ∧ Aft φ w ψ w'

theorem Ylds.does {P : Program} {φ : Phi} {a : Act} {op : Op} {v : AV} (h : Ylds P φ a op v) (H : Hp) : Does P φ a op H v H := by
  intro o ho w hr
  obtain ⟨x, hx, hv⟩ := h o ho w
  exact ⟨x, w, φ, .inl hx, hv, hr, Aft.refl φ w⟩

theorem Makes.does {P : Program} {φ : Phi} {a : Act} {op : Op} {vf : Nat → AV} {obj : AO} (h : Makes P φ a op vf obj) (H : Hp) : Does P φ a op H (vf H.next) (H.new obj) := by
  intro o ho w hr
  obtain ⟨x, ob, lim, n, hx, hv⟩ := h o ho w
  obtain ⟨k1, k2⟩ := hv (φ.put H.next ⟨w.heap.size, 0, lim⟩) H.next hr.fresh (Phi.put_same _ _ _)
  obtain ⟨r1, r2⟩ := hr.new (e := ⟨w.heap.size, 0, lim⟩) rfl k2
  exact ⟨x, _, _, .inl hx, k1, r1.drew _, r2.drew (Nat.le_add_right _ _)⟩

theorem flat_one {φ : Phi} : ∀ {cs : List AV} {ys : List Value}, VL φ cs ys → flat cs = true → ∀ y ∈ ys, y.oneCell' = true
  | _, _, .nil, _, y, hy => by simp at hy
  | _, _, .cons h h', hf, y, hy => by
    rcases List.mem_cons.1 hy with rfl | hy
    · cases h <;> first | rfl | assumption | (simp [flat] at hf; done)
    · refine flat_one h' ?_ y hy
      cases h <;> first | (simpa [flat] using hf) | (simp [flat] at hf)

section
variable {P : Program} {φ : Phi}

theorem getFrom_load {H : Hp} {w : World} (hr : Rel φ H w) {b : Nat} {c : T AV} {n frz : Nat} {mk z : Bool} {el : TypeId} (hb : H.get b = some (.cells c n frz mk z el)) {e : Ent} (he : φ b = some e)
    {o k : Nat} {vs : List AV} (hg : getFrom c o k = some vs) (hle : o + k ≤ n) : ∃ arr : Array Value, (loadCells ⟨e.blk, e.base + o, none⟩ k).run P w = .ok arr w ∧ VL φ vs arr.toList := by
  obtain ⟨e', arr, fr, he', hob, hs, hn, hz, hv, hf⟩ := hr.cellsOf hb
  rw [he] at he'
  cases he'
  obtain ⟨hl, hget⟩ := getFrom_spec _ _ _ _ hg
  have hx : ∀ j, j < k → ∃ v x, vs[j]? = some v ∧ arr[e.base + (o + j)]? = some x ∧ V φ v x := by
    intro j hj
    have h1 : vs[j]? = some vs[j] := List.getElem?_eq_getElem (by omega)
    have h2 := hget j hj
    rw [h1] at h2
    obtain ⟨x, hx, hvx⟩ := hv (o + j) _ (by omega) h2
    exact ⟨_, x, h1, hx, hvx⟩
  have hsz : e.base + o + k ≤ arr.size := by omega
  let xs : List Value := (arr.toList.drop (e.base + o)).take k
  have hxs : xs.length = k := by simp [xs]; omega
  refine ⟨xs.toArray, ?_, VL.of_get (by simp [hxs, hl]) ?_⟩
  · have := run_loadCellsAt P (o := e.base + o) hob xs (by
      intro j v hj
      simp only [xs, List.getElem?_take, List.getElem?_drop] at hj
      split at hj
      · simpa using hj
      · cases hj)
    rwa [hxs] at this
  · intro i a hi
    have hik : i < k := by
      have := (List.getElem?_eq_some_iff.1 hi).1
      omega
    obtain ⟨v, x, h1, h2, h3⟩ := hx i hik
    rw [h1] at hi
    cases hi
    refine ⟨x, ?_, h3⟩
    simp only [xs, List.getElem?_take, List.getElem?_drop, if_pos hik]
    rw [Array.getElem?_toList, ← h2]
    congr 1; omega

theorem storeA_sound {H H' : Hp} {w : World} (hr : Rel φ H w) {b o : Nat} {cs : List AV} (h : storeA H b o cs = some H') {e : Ent} (he : φ b = some e) {ys : List Value} (hy : VL φ cs ys) :
    ∃ w', (storeCells ⟨e.blk, e.base + o, none⟩ ys).run P w = .ok () w' ∧ Rel φ H' w' ∧ Aft φ w φ w' := by
  unfold storeA at h
  split at h
  case h_2 => cases h
  rename_i c n frz mk z el hb
  split at h
  case h_2 => cases h
  rename_i hc
  simp only [Bool.and_eq_true] at hc
  obtain ⟨⟨h1, h2⟩, h3⟩ := hc
  have h1 := Nat.le_of_ble_eq_true h1
  have h2 := Nat.le_of_ble_eq_true h2
  simp only [Option.some.injEq] at h
  subst h
  obtain ⟨e', arr, fr, he', hob, hs, hn, hz, hv, hf⟩ := hr.cellsOf hb
  rw [he] at he'
  cases he'
  have hlen := hy.length
  obtain ⟨cur', hrun, hsz, hout, hin⟩ := run_storeCellsAt P (e.base + o) ys 0 arr w hob (by omega) (flat_one hy h3) (by
    intro j hj hj' hfr
    rcases hf with h | ⟨_, h⟩ | ⟨_, h⟩ <;> omega)
  obtain ⟨r1, r2⟩ := hr.set (o := .cells (setFrom c o cs) n frz mk z el) hb he (.cells (fr := fr) (hsz.trans hs) hn hz (by
    intro i v hi hv'
    rw [setFrom_get] at hv'
    by_cases hio : o ≤ i ∧ i < o + cs.length
    · rw [if_pos hio] at hv'
      obtain ⟨x, hx, hvx⟩ := hy.get hv'
      refine ⟨x, ?_, hvx⟩
      rw [show e.base + i = e.base + o + 0 + (i - o) from by omega, hin _ (by omega)]
      exact hx
    · rw [if_neg hio] at hv'
      obtain ⟨x, hx, hvx⟩ := hv i v hi hv'
      exact ⟨x, by rw [hout _ (by omega)]; exact hx, hvx⟩) hf)
  exact ⟨_, hrun, r1, r2⟩

theorem firstA_sound {H : Hp} {w : World} (hr : Rel φ H w) {sz n : Nat} {x : AV} {u : Value} {cs : List AV} (h : firstA H sz n x = some cs) (hv : V φ x u) :
    ∃ arr : Array Value, (Builtin.firstCells sz n u).run P w = .ok arr w ∧ VL φ cs arr.toList := by
  unfold firstA at h
  split at h
  · split at h
    case h_2 => cases h
    split at h
    case h_2 => cases h
    rename_i c m _ _ _ _ hb
    split at h
    case h_2 => cases h
    rename_i hle
    cases hv with
    | slc he hl => exact getFrom_load (P := P) hr hb he h (Nat.le_of_ble_eq_true hle)
  · split at h
    case h_2 => cases h
    split at h
    case h_2 => cases h
    rename_i c m _ _ _ _ hb
    split at h
    case h_2 => cases h
    rename_i hle
    cases hv with
    | slo he hl hc => exact getFrom_load (P := P) hr hb he h (Nat.le_of_ble_eq_true hle)
  · split at h
    · simp only [Option.some.injEq] at h; subst h; cases hv; exact ⟨#[], rfl, .nil⟩
    · cases h
  · split at h
    · simp only [Option.some.injEq] at h; subst h; cases hv; exact ⟨#[], by simp [Builtin.firstCells, loadCells, loadCellsFrom], .nil⟩
    · cases h
  · rename_i s
    simp only [Option.some.injEq] at h
    subst h
    cases hv with
    | @str _ bs hbs =>
      refine ⟨(bs.extract 0 n).data.map fun b => .int .u8 b.toNat, rfl, ?_⟩
      rw [Array.toList_map, extract_list, hbs]
      simpa using byteVals_sound φ (s.take n)
  · cases h

theorem lenA_sound {x : AV} {u : Value} {n : Nat} (h : lenA x = some n) (hv : V φ x u) (w : World) : (Builtin.lenOf u).run P w = .ok n w := by
  unfold lenA at h
  split at h <;> first | (cases h; done) | skip
  all_goals (simp only [Option.some.injEq] at h; subst h; cases hv)
  all_goals first
    | rfl
    | (rename_i bs hbs; subst hbs; show Result.ok _ w = _; rw [show bs.size = bs.data.toList.length from (Array.length_toList (xs := bs.data)).symm])

variable {C : Ctx} {F : T AV} {nt : Nat} {a : Act} (hC : CtxOK C P)
include hC

theorem loadA_sound {H : Hp} {w : World} (hr : Rel φ H w) {t : TypeId} {ti : TI} (ht : C.ty.get t = some ti) {b o : Nat} {v : AV} (h : loadA H ti b o = some v) {e : Ent} (he : φ b = some e) :
    ∃ x, (loadVar t ⟨e.blk, e.base + o, none⟩).run P w = .ok x w ∧ V φ v x := by
  unfold loadA at h
  split at h
  case h_2 => cases h
  rename_i c n _ _ _ _ hb
  split at h
  · rename_i hag
    split at h
    case h_2 => cases h
    rename_i hle
    simp only [Option.map_eq_some_iff] at h
    obtain ⟨vs, hg, rfl⟩ := h
    obtain ⟨arr, h1, h2⟩ := getFrom_load (P := P) hr hb he hg (Nat.le_of_ble_eq_true hle)
    exact ⟨.agg arr, by simp [loadVar, run_agg hC ht, hag, run_size hC ht, h1], .agg h2⟩
  · rename_i hag
    split at h
    case h_2 => cases h
    rename_i hlt
    obtain ⟨e', arr, fr, he', hob, hs, hn, hz, hv, hf⟩ := hr.cellsOf hb
    rw [he] at he'
    cases he'
    obtain ⟨x, hx, hvx⟩ := hv o v (Nat.le_of_ble_eq_true hlt) h
    exact ⟨x, by simp only [loadVar, Sem.run_bind, run_agg hC ht, hag, Result.andThen_ok, Bool.false_eq_true, if_false]; exact run_loadAt P hob hx, hvx⟩

theorem does_load (hT : TR φ F nt a.tmps) {H : Hp} {t : TypeId} {x : Operand} {v : AV} (h : opLoad C F H t x = some v) : Does P φ a (.load t x) H v H := by
  intro o ho w hr
  unfold opLoad at h
  split at h
  case h_2 => cases h
  rename_i b off hx
  split at h
  case h_2 => cases h
  rename_i ti ht
  obtain ⟨e, he, hev⟩ := ev_ptr hT hx
  obtain ⟨u, hu, hvu⟩ := loadA_sound hC hr ht h he
  exact ⟨u, w, φ, .inl (by simp [execOp, ho, hev, Instr.loadAt, Instr.sureAddr, hu]), hvu, hr, Aft.refl φ w⟩

theorem does_store (hT : TR φ F nt a.tmps) {H : Hp} {t : TypeId} {x y : Operand} {v : AV} {H' : Hp} (h : opStore C F H t x y = some (.val v H')) : Does P φ a (.store t x y) H v H' := by
  intro o ho w hr
  unfold opStore at h
  split at h
  case h_2 => cases h
  rename_i b off hx
  split at h
  case h_2 => cases h
  rename_i ti ht
  split at h
  case h_2 => cases h
  rename_i u hy
  split at h
  case h_2 => cases h
  rename_i hsz
  split at h
  case h_2 => cases h
  rename_i H1 hst
  simp only [Option.some.injEq, OR.val.injEq] at h
  obtain ⟨rfl, rfl⟩ := h
  obtain ⟨e, he, hev⟩ := ev_ptr hT hx
  have hcell := cellsOf_sound (ev_sound hT hy)
  have hlen : (a.eval y).cells.size = ti.size := by
    have h1 := hcell.length.trans Array.length_toList
    rw [← h1]; exact Nat.eq_of_beq_eq_true hsz
  obtain ⟨w', hrun, r1, r2⟩ := storeA_sound (P := P) hr hst he hcell
  refine ⟨undef, w', φ, .inr ⟨?_, rfl⟩, .tup .nil, r1, r2⟩
  simp [execOp, ho, hev, Instr.storeAt, Instr.sureAddr, storeVar, run_size hC ht, hlen, hrun]
end
end Go.Abs

namespace Go.Abs
open Go

section
variable {P : Program}

theorem append_in {t u e ty : TypeId} {tys : Array TypeId} {args : Array Value} {base : Option Addr} {sLen sCap size n : Nat} {x : Value} {du : TypeDesc} {new : Array Value} {w : World}
    (ht : tys[0]? = some t) (hu : tys[1]? = some u) (h0 : args[0]? = some (.slice base sLen sCap)) (h1 : args[1]? = some x)
    (ut : ∀ w, (underlying t).run P w = .ok (.slice e) w) (uu : ∀ w, (underlying u).run P w = .ok du w) (hni : du = .string ∨ ∃ e', du = .slice e')
    (hs : ∀ w, (sizeOf e).run P w = .ok size w) (hl : ∀ w, (Builtin.lenOf x).run P w = .ok n w) (hfit : sLen + n ≤ sCap)
    (hf : (Builtin.firstCells size n x).run P w = .ok new w) :
    (Builtin.append_ tys ty args).run P w = ((match base with
      | some a => storeCells (a.add (sLen * size)) new.toList
      | none => pure ()).run P w).andThen fun _ w => .ok (.slice base (sLen + n) sCap) w := by
  rcases hni with rfl | ⟨e', rfl⟩ <;> cases base <;> simp [Builtin.append_, ht, hu, h0, h1, ut, uu, hs, hl, hfit, hf]

theorem append_more {t u e ty : TypeId} {tys : Array TypeId} {args : Array Value} {base : Option Addr} {sLen sCap size n : Nat} {x : Value} {du : TypeDesc} {old new : Array Value} {w : World}
    {i : TypeInfo} {z : Value}
    (ht : tys[0]? = some t) (hu : tys[1]? = some u) (h0 : args[0]? = some (.slice base sLen sCap)) (h1 : args[1]? = some x)
    (ut : ∀ w, (underlying t).run P w = .ok (.slice e) w) (uu : ∀ w, (underlying u).run P w = .ok du w) (hni : du = .string ∨ ∃ e', du = .slice e')
    (hs : ∀ w, (sizeOf e).run P w = .ok size w) (hl : ∀ w, (Builtin.lenOf x).run P w = .ok n w) (hgt : ¬ sLen + n ≤ sCap)
    (hi : ∀ w, (typeInfo e).run P w = .ok i w) (hz : ∀ w, (zeroValue e).run P w = .ok z w) (h63 : sLen + n ≤ 100000000) (hb : i.bytes ≤ 10000)
    (ho : (Builtin.firstCells size sLen (.slice base sLen sCap)).run P w.drew = .ok old w.drew)
    (hf : (Builtin.firstCells size n x).run P w.drew = .ok new w.drew) :
    ∃ cap, sLen + n ≤ cap ∧ (Builtin.append_ tys ty args).run P w = .ok (.slice (some ⟨w.heap.size, 0, none⟩) (sLen + n) cap)
      { newB w (.cells (old ++ (new ++ Builtin.zeroCells z.cells (cap - (sLen + n)))) e) with drawn := w.drawn + 1 } := by
  have hp : (sLen + n) * i.bytes ≤ 140737488355328 := by
    have := Nat.mul_le_mul h63 hb
    omega
  have hfits := growslice_fits (need := sLen + n) (old := sCap) (by omega) hp
  have h63' : ¬ (9223372036854775807 < ((sLen : Int) + (n : Int))) := by omega
  have h48' : ¬ (281474976710656 < Builtin.nextslicecap (sLen + n) sCap * i.bytes) := by omega
  refine ⟨grownCap w (sLen + n) sCap e, Nat.le_add_right _ _, ?_⟩
  rcases hni with rfl | ⟨e', rfl⟩
  · simp [Builtin.append_, ht, hu, h0, h1, ut, uu, hs, hl, hgt, hi, hz, h63', h48', Question.forced, ho, hf, newRow, grownCap]; rfl
  · simp [Builtin.append_, ht, hu, h0, h1, ut, uu, hs, hl, hgt, hi, hz, h63', h48', Question.forced, ho, hf, newRow, grownCap]; rfl
end
end Go.Abs

namespace Go.Abs
open Go

theorem zeroCells_size (z : Array Value) (n : Nat) : (Builtin.zeroCells z n).size = n * z.size := by simp [Builtin.zeroCells]

theorem firstA_len {H : Hp} {sz n : Nat} {x : AV} {cs : List AV} (h : firstA H sz n x = some cs) (hl : lenA x = some n) (hu : unitA sz x = true) : cs.length = n * sz := by
  unfold firstA at h
  split at h
  · split at h
    case h_2 => cases h
    split at h
    case h_2 => cases h
    split at h
    case h_2 => cases h
    exact (getFrom_spec _ _ _ _ h).1
  · split at h
    case h_2 => cases h
    split at h
    case h_2 => cases h
    split at h
    case h_2 => cases h
    exact (getFrom_spec _ _ _ _ h).1
  · split at h
    · simp only [Option.some.injEq] at h; subst h; simp
    · cases h
  · split at h
    · simp only [Option.some.injEq] at h; subst h; simp
    · cases h
  · rename_i s
    simp only [lenA, Option.some.injEq] at hl
    have hu := Nat.eq_of_beq_eq_true hu
    simp only [Option.some.injEq] at h
    subst h; subst hl; subst hu
    simp [byteVals_length]
  · cases h

section
variable {P : Program} {φ : Phi}

/-- What lies in a row that has grown. -/
theorem grown {H : Hp} {w : World} (hr : Rel φ H w) {c : T AV} {k len cap sz frz : Nat} {arr z : Array Value} {e : TypeId} (hk : k ≤ arr.size) (hsz : arr.size = len * sz) (hz : z.size = sz) (hcap : len ≤ cap)
    (hv : ∀ i v, i < k → c.get i = some v → ∃ x, arr[i]? = some x ∧ V φ v x) :
    ∃ ψ, V ψ (.slo H.next 0 len sz) (.slice (some ⟨w.heap.size, 0, none⟩) len cap) ∧
      Rel ψ (H.new (.cells c k frz false false e)) { newB w (.cells (arr ++ Builtin.zeroCells z (cap - len)) e) with drawn := w.drawn + 1 } ∧
      Aft φ w ψ { newB w (.cells (arr ++ Builtin.zeroCells z (cap - len)) e) with drawn := w.drawn + 1 } := by
  have hfull : (arr ++ Builtin.zeroCells z (cap - len)).size = cap * sz := by
    rw [Array.size_append, zeroCells_size, hz, hsz, ← Nat.add_mul]
    congr 1; omega
  let en : Ent := ⟨w.heap.size, 0, cap * sz⟩
  have hle : φ.le (φ.put H.next en) := hr.fresh
  obtain ⟨r1, r2⟩ := hr.new (e := en) (o := .cells c k frz false false e) (ob := .cells (arr ++ Builtin.zeroCells z (cap - len)) e) rfl
    (.cells (arr := arr ++ Builtin.zeroCells z (cap - len)) (fr := (0, 0)) hfull (by show 0 + k ≤ cap * sz; rw [← hfull, Array.size_append]; omega) (by simp) (by
      intro i v hi hc
      obtain ⟨x, hx, hvx⟩ := hv i v hi hc
      refine ⟨x, ?_, hvx.mono hle⟩
      show (arr ++ Builtin.zeroCells z (cap - len))[0 + i]? = some x
      rw [Nat.zero_add, Array.getElem?_append_left (by omega)]
      exact hx) (.inl rfl))
  refine ⟨φ.put H.next en, ?_, r1.drew _, r2.drew (Nat.le_succ _)⟩
  have := V.slo (φ := φ.put H.next en) (b := H.next) (o := 0) (len := len) (sz := sz) (c := cap) (e := en) (Phi.put_same _ _ _) hcap (by show 0 + 0 + cap * sz ≤ cap * sz; omega)
  simpa [en] using this

theorem VL.cell {cs : List AV} {arr : Array Value} (h : VL φ cs arr.toList) {i : Nat} {v : AV} (hi : cs[i]? = some v) : ∃ x, arr[i]? = some x ∧ V φ v x := by
  obtain ⟨x, hx, hv⟩ := h.get hi
  exact ⟨x, by simpa using hx, hv⟩
theorem VL.size {cs : List AV} {arr : Array Value} (h : VL φ cs arr.toList) : cs.length = arr.size := h.length.trans Array.length_toList

/-- the cells of a row that is written whole -/
theorem whole {cs : List AV} {arr : Array Value} (h : VL φ cs arr.toList) : ∀ i v, i < cs.length → (setFrom .lf 0 cs).get i = some v → ∃ x, arr[i]? = some x ∧ V φ v x := by
  intro i v hi hv
  rw [setFrom_get, if_pos (by omega)] at hv
  exact h.cell (by simpa using hv)

theorem raw_load {w : World} {g o k : Nat} {arr : Array Value} {t : TypeId} {fr : Nat × Nat} (h : w.heap[g]? = some (.cells arr t fr)) (hle : o + k ≤ arr.size) :
    ∃ xs : Array Value, (loadCells ⟨g, o, none⟩ k).run P w = .ok xs w ∧ xs.size = k ∧ ∀ j, j < k → xs[j]? = arr[o + j]? := by
  let xs : List Value := (arr.toList.drop o).take k
  have hxs : xs.length = k := by simp [xs]; omega
  refine ⟨xs.toArray, ?_, by simp [hxs], ?_⟩
  · have := run_loadCellsAt P (o := o) h xs (by
      intro j v hj
      have hjk : j < k := by
        have := (List.getElem?_eq_some_iff.1 hj).1
        omega
      simp only [xs, List.getElem?_take, if_pos hjk, List.getElem?_drop] at hj
      simpa using hj)
    rw [hxs] at this
    exact this
  · intro j hj
    simp only [xs, List.getElem?_toArray, List.getElem?_take, if_pos hj, List.getElem?_drop]
    simp

variable {C : Ctx} (hC : CtxOK C P)
include hC

theorem appendA_sound {H : Hp} {w : World} (hr : Rel φ H w) {t u e ty : TypeId} {te : TI} {tys : Array TypeId} {args : Array Value} {du : TypeDesc} {s x v : AV} {us ux : Value} {n : Nat} {xs : List AV} {H' : Hp}
    (ht : tys[0]? = some t) (hu : tys[1]? = some u) (h0 : args[0]? = some us) (h1 : args[1]? = some ux)
    (ut : ∀ w, (underlying t).run P w = .ok (.slice e) w) (uu : ∀ w, (underlying u).run P w = .ok du w) (hni : du = .string ∨ ∃ e', du = .slice e')
    (hte : C.ty.get e = some te) (vs : V φ s us) (vx : V φ x ux) (hl : lenA x = some n) (hx : firstA H te.size n x = some xs) (hun : unitA te.size x = true)
    (h : appendA H e te s n xs = some (v, H')) :
    ∃ y w' ψ, (Builtin.append_ tys ty args).run P w = .ok y w' ∧ V ψ v y ∧ Rel ψ H' w' ∧ Aft φ w ψ w' := by
  have hlx : xs.length = n * te.size := firstA_len hx hl hun
  have hs := fun w => run_size hC hte w
  have hlen := fun w => lenA_sound (P := P) hl vx w
  obtain ⟨i, hib, hi⟩ := run_bytes hC hte
  obtain ⟨z, hz1, hz2, hz3⟩ := run_zero hC hte
  obtain ⟨new, hf, hnew⟩ := firstA_sound (P := P) hr hx vx
  obtain ⟨new', hf', hnew'⟩ := firstA_sound (P := P) (hr.drew (w.drawn + 1)) hx vx
  have hnsz : new'.size = n * te.size := hnew'.size.symm.trans hlx
  unfold appendA at h
  split at h
  · -- nil
    cases vs
    split at h
    · simp only [Option.some.injEq, Prod.mk.injEq] at h
      obtain ⟨rfl, rfl⟩ := h
      exact ⟨_, w, φ, by rw [append_in ht hu h0 h1 ut uu hni hs hlen (by omega) hf]; rfl, .nils, hr, Aft.refl φ w⟩
    · rename_i k
      split at h
      case h_2 => cases h
      rename_i hb
      simp only [Bool.and_eq_true] at hb
      have hb1 := Nat.le_of_ble_eq_true hb.1
      have hb2 := Nat.le_of_ble_eq_true hb.2
      simp only [Option.some.injEq, Prod.mk.injEq] at h
      obtain ⟨rfl, rfl⟩ := h
      obtain ⟨cap, hc1, hc2⟩ := append_more (ty := ty) ht hu h0 h1 ut uu hni hs hlen (by omega) hi hz3 (by simpa [room] using hb1) (by omega) (run_firstCells_none _ _ _ _ _) hf'
      obtain ⟨ψ, g1, g2, g3⟩ := grown (φ := φ) (e := e) (frz := 0) (len := k + 1) hr (k := xs.length) (arr := #[] ++ new') (z := z.cells) (cap := cap) (c := setFrom .lf 0 xs) (by simp; omega) (by simpa using hnsz) hz2 (by omega) (by simpa using whole hnew')
      refine ⟨_, _, ψ, hc2, ?_, ?_, ?_⟩
      · simpa using g1
      · simpa [Array.append_assoc] using g2
      · simpa [Array.append_assoc] using g3
  · -- an empty row that is not nil
    cases vs
    split at h
    · simp only [Option.some.injEq, Prod.mk.injEq] at h
      obtain ⟨rfl, rfl⟩ := h
      have hn0 : new.size = 0 := by rw [← hnew.size, hlx]; omega
      have hn0 : new = #[] := Array.eq_empty_of_size_eq_zero hn0
      subst hn0
      exact ⟨_, w, φ, by rw [append_in ht hu h0 h1 ut uu hni hs hlen (by omega) hf]; rfl, .emp, hr, Aft.refl φ w⟩
    · cases h
  · -- a row of known capacity
    rename_i b o len cap
    cases vs with
    | @slc _ _ _ _ en he hlc =>
    split at h
    · rename_i hfit
      have hfit := Nat.le_of_ble_eq_true hfit
      split at h
      case h_2 => cases h
      rename_i H1 hst
      simp only [Option.some.injEq, Prod.mk.injEq] at h
      obtain ⟨rfl, rfl⟩ := h
      obtain ⟨w', hrun, r1, r2⟩ := storeA_sound (P := P) hr hst he hnew
      refine ⟨_, w', φ, ?_, .slc he (by omega), r1, r2⟩
      rw [append_in ht hu h0 h1 ut uu hni hs hlen hfit hf]
      simp only [add_mk]
      rw [show en.base + o + len * te.size = en.base + (o + len * te.size) from by omega, hrun]
      rfl
    · rename_i hfit
      have hfit : ¬ len + n ≤ cap := fun hh => by simp [Nat.ble_eq_true_of_le hh] at hfit
      split at h
      case h_2 => cases h
      rename_i hb
      simp only [Bool.and_eq_true] at hb
      have hb1 := Nat.le_of_ble_eq_true hb.1
      have hb2 := Nat.le_of_ble_eq_true hb.2
      split at h
      case h_2 => cases h
      rename_i old hold
      simp only [Option.some.injEq, Prod.mk.injEq] at h
      obtain ⟨rfl, rfl⟩ := h
      obtain ⟨olds, ho, hoa⟩ := firstA_sound (P := P) (hr.drew (w.drawn + 1)) hold (.slc he hlc)
      have holen : old.length = len * te.size := firstA_len hold rfl rfl
      obtain ⟨cp, hc1, hc2⟩ := append_more (ty := ty) ht hu h0 h1 ut uu hni hs hlen hfit hi hz3 (by simpa [room] using hb1) (by omega) ho hf'
      have hall : VL φ (old ++ xs) (olds ++ new').toList := by simpa using hoa.append hnew'
      obtain ⟨ψ, g1, g2, g3⟩ := grown (φ := φ) (e := e) (frz := 0) (len := len + n) (sz := te.size) hr (k := old.length + xs.length) (arr := olds ++ new') (z := z.cells) (cap := cp) (c := setFrom .lf 0 (old ++ xs))
        (by have := hall.size; simp at this ⊢; omega) (by have := hall.size; simp at this ⊢; rw [Nat.add_mul]; omega) hz2 hc1 (by simpa using whole hall)
      exact ⟨_, _, ψ, hc2, g1, by simpa [Array.append_assoc] using g2, by simpa [Array.append_assoc] using g3⟩
  · -- a row of open capacity
    rename_i b o len sz
    split at h
    case h_2 => cases h
    rename_i c m frz mk _ e' hb
    split at h
    case h_2 => cases h
    rename_i hc
    simp only [Bool.and_eq_true, Bool.not_eq_true'] at hc
    obtain ⟨⟨⟨⟨⟨⟨⟨c1, c2⟩, c3⟩, c4⟩, c5⟩, c6⟩, c7⟩, c8⟩ := hc
    have c1 := Nat.eq_of_beq_eq_true c1
    have c2 := Nat.eq_of_beq_eq_true c2
    have c3 := Nat.le_of_ble_eq_true c3
    have c4 := Nat.eq_of_beq_eq_true c4
    have c6 := Nat.le_of_ble_eq_true c6
    have c7 := Nat.le_of_ble_eq_true c7
    subst c1; subst c2; subst c8
    obtain ⟨en, arr, fr, he, hob, hs1, hn, hz, hv, hfz⟩ := hr.cellsOf hb
    cases vs with
    | @slo _ _ _ _ cap en' he' hlc hcc =>
    rw [he] at he'
    cases he'
    have hlm : len * te.size ≤ cap * te.size := Nat.mul_le_mul_right _ hlc
    -- what the new object holds: the tree c' of k cells, seen from the offset d of the old one
    suffices hgen : ∀ (c' : T AV) (d frz' : Nat), d = o → (frz' = 0 → frz = 0) → (frz ≤ d + frz') → (∀ i v, i < len * te.size + xs.length → c'.get i = some v →
        (i < len * te.size ∧ c.get (o + i) = some v) ∨ (len * te.size ≤ i ∧ xs[i - len * te.size]? = some v)) →
        ∃ y w' ψ, (Builtin.append_ tys ty args).run P w = .ok y w' ∧ V ψ (.slo H.next 0 (len + n) te.size) y ∧
          Rel ψ ((H.kill b).new (.cells c' (len * te.size + xs.length) frz' false false e')) w' ∧ Aft φ w ψ w' by
      split at h
      · simp only [Option.some.injEq, Prod.mk.injEq] at h
        obtain ⟨rfl, rfl⟩ := h
        rw [show m = len * te.size from by omega]
        refine hgen _ 0 frz rfl (fun h => h) (by omega) ?_
        intro i v hi hv'
        rw [setFrom_get] at hv'
        by_cases hi2 : len * te.size ≤ i
        · rw [if_pos (by omega)] at hv'; exact .inr ⟨hi2, hv'⟩
        · rw [if_neg (by omega)] at hv'; exact .inl ⟨by omega, by rw [Nat.zero_add]; exact hv'⟩
      · rename_i o
        split at h
        case h_2 => cases h
        rename_i old hold
        obtain ⟨l1, l2⟩ := getFrom_spec _ _ _ _ hold
        simp only [Option.some.injEq, Prod.mk.injEq] at h
        obtain ⟨rfl, rfl⟩ := h
        rw [l1]
        refine hgen _ _ _ rfl ?_ ?_ ?_
        · split <;> omega
        · split <;> omega
        · intro i v hi hv'
          rw [setFrom_get, if_pos (by simp; omega)] at hv'
          simp only [Nat.sub_zero] at hv'
          by_cases hi2 : len * te.size ≤ i
          · rw [List.getElem?_append_right (by omega), l1] at hv'; exact .inr ⟨hi2, hv'⟩
          · rw [List.getElem?_append_left (by omega)] at hv'; exact .inl ⟨by omega, by rw [l2 i (by omega)]; exact hv'⟩
    intro c' d frz' hd hfz1 hfz2 hc'
    subst hd
    by_cases hfit : len + n ≤ cap
    · -- in place
      have hfm : len * te.size + n * te.size ≤ cap * te.size := by rw [← Nat.add_mul]; exact Nat.mul_le_mul_right _ hfit
      have hnl : new.toList.length = n * te.size := by rw [Array.length_toList, ← hnew.size, hlx]
      obtain ⟨cur', hrun, hsz, hout, hin⟩ := run_storeCellsAt P (en.base + d + len * te.size) new.toList 0 arr w hob (by omega) (flat_one hnew c5) (by
        intro j hj hj' hfr
        rcases hfz with h | ⟨_, h⟩ | ⟨h, _⟩
        · omega
        · omega
        · cases h)
      let e2 : Ent := ⟨en.blk, en.base + d, en.lim⟩
      have hle : φ.le (φ.put H.next e2) := hr.fresh
      obtain ⟨r1, r2⟩ := hr.over (e := e2) (o := .cells c' (len * te.size + xs.length) frz' false false e') (ob := .cells cur' e' fr) hb he rfl
        (.cells (hsz.trans hs1) (by show en.base + d + _ ≤ en.lim; omega) (by simp) (by
          intro i v hi hg
          rcases hc' i v hi hg with ⟨h1, h2⟩ | ⟨h1, h2⟩
          · obtain ⟨x, hx, hvx⟩ := hv (d + i) v (by omega) h2
            refine ⟨x, ?_, hvx.mono hle⟩
            show cur'[en.base + d + i]? = some x
            rw [hout _ (by omega), Nat.add_assoc]; exact hx
          · obtain ⟨x, hx, hvx⟩ := hnew.get h2
            refine ⟨x, ?_, hvx.mono hle⟩
            show cur'[en.base + d + i]? = some x
            rw [show en.base + d + i = en.base + d + len * te.size + 0 + (i - len * te.size) from by omega, hin _ (by omega)]
            exact hx) (by
          rcases hfz with h | ⟨h0, h⟩ | ⟨h, _⟩
          · exact .inl h
          · exact .inr (.inl ⟨by omega, by show fr.2 ≤ en.base + d + frz'; omega⟩)
          · cases h))
      refine ⟨.slice (some ⟨en.blk, en.base + d, none⟩) (len + n) cap, _, φ.put H.next e2, ?_, ?_, r1, r2⟩
      · rw [append_in ht hu h0 h1 ut uu hni hs hlen hfit hf]
        simp only [add_mk, hrun]
        rfl
      · have := V.slo (φ := φ.put H.next e2) (b := H.next) (o := 0) (len := len + n) (sz := te.size) (c := cap) (e := e2) (Phi.put_same _ _ _) hfit (by show en.base + d + 0 + _ ≤ en.lim; omega)
        simpa [e2] using this
    · -- moved
      have hob' : w.drew.heap[en.blk]? = some (.cells arr e' fr) := hob
      obtain ⟨olds, ho, ho1, ho2⟩ := raw_load (P := P) (o := en.base + d) (k := len * te.size) hob' (by omega)
      obtain ⟨cp, hc1, hc2⟩ := append_more (ty := ty) (old := olds) ht hu h0 h1 ut uu hni hs hlen hfit hi hz3 (by simpa [room] using c6) (by omega) ho hf'
      obtain ⟨ψ, g1, g2, g3⟩ := grown (φ := φ) (c := c') (e := e') (frz := frz') (len := len + n) (sz := te.size) (hr.kill b) (k := len * te.size + xs.length) (arr := olds ++ new') (z := z.cells) (cap := cp)
        (by simp; omega) (by simp; rw [Nat.add_mul]; omega) hz2 hc1 (by
          intro i v hi hg
          rcases hc' i v hi hg with ⟨h1, h2⟩ | ⟨h1, h2⟩
          · obtain ⟨x, hx, hvx⟩ := hv (d + i) v (by omega) h2
            refine ⟨x, ?_, hvx⟩
            rw [Array.getElem?_append_left (by omega), ho2 i h1, Nat.add_assoc]
            exact hx
          · obtain ⟨x, hx, hvx⟩ := hnew'.cell h2
            refine ⟨x, ?_, hvx⟩
            rw [Array.getElem?_append_right (by omega), ho1]
            exact hx)
      exact ⟨_, _, ψ, hc2, g1, by simpa [Array.append_assoc] using g2, by simpa [Array.append_assoc] using g3⟩
  · cases h
end
end Go.Abs
