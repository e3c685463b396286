/-
  The law ScriptBig, run by the executor: for every number, at every size.
-/
import Derived.Test.YthbjpjkeidhnbaaGreatDoorBd
import Derived.Test.YthbjpjkeidhnbaaGreatDoorXg
set_option linter.all false
namespace Go.Proofs
open Go Go.Abs
set_option maxRecDepth 100000

noncomputable def withinF : SF := fun args H => match args with
  | [.int .i64 a, .int .i64 b] => match eqI b 7 with
    | true => some (.int .i64 (a % 7), H)
    | false => none
  | _ => none

def bigText (size : Nat) : List UInt8 := bigHead ++ List.replicate (size - 48) 120

noncomputable def bigB : Code := match fnP Tryz.prog 3 with
  | some f => f.body
  | none => .skip
noncomputable def b1 : Code := Code.c2 bigB
noncomputable def b2 : Code := Code.c2 b1
noncomputable def b3 : Code := Code.c2 b2
noncomputable def b4 : Code := Code.c2 b3
noncomputable def b5 : Code := Code.c2 b4
noncomputable def b6 : Code := Code.c2 b5
noncomputable def lb : Code := Code.c1 (Code.c1 (Code.c1 b3))
noncomputable def o0 : Array Oper := Code.os (Code.c1 bigB)
noncomputable def o1 : Array Oper := Code.os (Code.c1 b1)
noncomputable def o2 : Array Oper := Code.os (Code.c1 b2)
noncomputable def o3 : Array Oper := Code.os (Code.c1 (Code.c1 lb))
noncomputable def o4 : Array Oper := Code.os (Code.c1 (Code.c2 lb))
noncomputable def o5 : Array Oper := Code.os (Code.c1 b4)
noncomputable def o6 : Array Oper := Code.os (Code.c1 b5)
noncomputable def o7 : Array Oper := Code.os (Code.c1 b6)
theorem shape0 : bigB = .seq (.region 0 o0 false) b1 := by kernel_rfl
theorem shape1 : b1 = .seq (.region 1 o1 false) b2 := by kernel_rfl
theorem shape2 : b2 = .seq (.region 2 o2 false) b3 := by kernel_rfl
theorem shape3 : b3 = .seq (.block 0 (.loop lb)) b4 := by kernel_rfl
theorem shapeL : lb = .seq (.seq (.region 3 o3 false) (.cond (.tmp 19) .skip (.exit 0))) (.block 1 (.region 4 o4 false)) := by kernel_rfl
theorem shape4 : b4 = .seq (.region 5 o5 false) b5 := by kernel_rfl
theorem shape5 : b5 = .seq (.region 6 o6 false) b6 := by kernel_rfl
theorem shape6 : b6 = .seq (.region 7 o7 false) .ret := by kernel_rfl

section
variable (n : Int) (size : Nat) (cs : List AV) (e : Int) (t : List UInt8)

noncomputable def v5 : AV := .tup [.agg cs, .int .i64 e, .int .i64 0]
noncomputable def v6 : AV := .tup [.str t, .int .i64 e, .int .i64 0]
noncomputable def sumsL : List (Nat × SF) :=
  (4, withinF) :: (5, told (· = [.str (bigText size)]) (v5 cs e)) :: (6, told (· = [.str (bigText size)]) (v6 e t)) :: (7, told (· = []) (.bool true)) :: bigExts
noncomputable def cxL : Ctx := ctxP Tryz.prog (sumsL size cs e t)

noncomputable def f0 : T AV := argsA .lf 0 [.int .i64 n]
noncomputable def f1 : T AV := (f0 n).set 2 (.bool false)
noncomputable def f2 (z : Int) : T AV := ((((f1 n).set 11 (.int .i64 n)).set 12 (.int .i64 (n % 7))).set 13 (.int .i64 z)).set 3 (.int .i64 z)
noncomputable def f3 : T AV := (((f2 n (Int.ofNat size)).set 14 (.slc 0 0 48 48)).set 15 (.slc 0 0 48 48)).set 4 (.slc 0 0 48 48)
noncomputable def h3 : Hp := ⟨T.lf.set 0 (.cells (setFrom .lf 0 (byteVals bigHead)) 48 0 true true 5), 1⟩

theorem run0 (m : Nat) : exec (cxL size cs e t) (m + 2) none 61 bigB ⟨f0 n, [], ⟨.lf, 0⟩⟩ = exec (cxL size cs e t) (m + 1) none 61 b1 ⟨f1 n, [], ⟨.lf, 0⟩⟩ := by
  rw [shape0]
  exact exec_seq (exec_region (by kernel_rfl))
theorem run1 (m : Nat) : exec (cxL size cs e t) (m + 2) none 61 b1 ⟨f1 n, [], ⟨.lf, 0⟩⟩ = exec (cxL size cs e t) (m + 1) none 61 b2 ⟨f2 n (wrapA .i64 (19997 + n % 7)), [], ⟨.lf, 0⟩⟩ := by
  rw [shape1]
  exact exec_seq (exec_region (by kernel_rfl))
theorem run2 (m : Nat) : exec (cxL size cs e t) (m + 2) none 61 b2 ⟨f2 n (Int.ofNat size), [], ⟨.lf, 0⟩⟩ = exec (cxL size cs e t) (m + 1) none 61 b3 ⟨f3 n size, [], h3⟩ := by
  rw [shape2]
  exact exec_seq (exec_region (by kernel_rfl))

noncomputable def fg (v4 v16 v17 v18 v19 v20 v21 v22 : AV) : T AV :=
  ((((((((f3 n size).set 16 v16).set 17 v17).set 18 v18).set 19 v19).set 20 v20).set 21 v21).set 22 v22).set 4 v4

/-! ### The first round -/
noncomputable def h4 : Hp := (h3.row 5 [.int .u8 120]).new (.cells (setFrom .lf 0 (byteVals bigHead ++ [.int .u8 120])) 49 0 false false 5)

theorem first (m : Nat) (hlt : ltI 48 (Int.ofNat size) = true) : exec (cxL size cs e t) (m + 4) none 61 lb ⟨f3 n size, [], h3⟩ =
    some (.normal, ⟨fg n size (.slo 2 0 49 1) (.slc 0 0 48 48) (.int .i64 48) (.int .i64 (Int.ofNat size)) (.bool true) (.slc 0 0 48 48) (.slc 1 0 1 1) (.slo 2 0 49 1), [], h4⟩) := by
  rw [shapeL]
  have e1 : exec (cxL size cs e t) (m + 2) none 61 (.region 3 o3 false) ⟨f3 n size, [], h3⟩ =
      some (.normal, ⟨((((f3 n size).set 16 (.slc 0 0 48 48)).set 17 (.int .i64 48)).set 18 (.int .i64 (Int.ofNat size))).set 19 (.bool (ltI 48 (Int.ofNat size))), [], h3⟩) := exec_region (by kernel_rfl)
  rw [hlt] at e1
  have e2 : exec (cxL size cs e t) (m + 3) none 61 (.seq (.region 3 o3 false) (.cond (.tmp 19) .skip (.exit 0))) ⟨f3 n size, [], h3⟩ =
      some (.normal, ⟨((((f3 n size).set 16 (.slc 0 0 48 48)).set 17 (.int .i64 48)).set 18 (.int .i64 (Int.ofNat size))).set 19 (.bool true), [], h3⟩) := (exec_seq e1).trans (by kernel_rfl)
  refine (exec_seq e2).trans (exec_block (exec_region ?_))
  kernel_rfl

/-! ### A round -/
theorem ty23 : (cxL size cs e t).ty.get 23 = some ⟨.slice 5, 1, 24, [.nils]⟩ := by kernel_rfl
theorem ty5 : (cxL size cs e t).ty.get 5 = some ⟨.int .u8, 1, 1, [.int .u8 0]⟩ := by kernel_rfl
theorem ty9 : (cxL size cs e t).ty.get 9 = some ⟨.str, 1, 16, [.str []]⟩ := by kernel_rfl

/-- what holds when j bytes are there -/
structure Fill (j : Nat) (s : St) : Prop where
  ex : ∃ b c v16 v17 v18 v19 v20 v21 v22, s.F = fg n size (.slo b 0 j 1) v16 v17 v18 v19 v20 v21 v22 ∧ s.H.get b = some (.cells c j 0 false false 5) ∧ b < s.H.next ∧
    ∀ i x, (bigText j)[i]? = some x → c.get i = some (.int .u8 (Int.ofNat x.toNat))
  M : s.M = []

variable {n size cs e t}
theorem bigText_len {j : Nat} (hj : 48 ≤ j) : (bigText j).length = j := by
  unfold bigText
  rw [List.length_append, List.length_replicate]
  show 48 + (j - 48) = j
  omega
theorem bigText_succ {j : Nat} (hj : 48 ≤ j) : bigText (j + 1) = bigText j ++ [120] := by
  unfold bigText
  rw [show j + 1 - 48 = (j - 48) + 1 from by omega, List.replicate_succ', List.append_assoc]

theorem round {j : Nat} {s : St} (h : Fill n size j s) (hj : 48 ≤ j) (hlt : j < size) (hr : j + 1 ≤ room) (m : Nat) : ∃ s', exec (cxL size cs e t) (m + 4) none 61 lb s = some (.normal, s') ∧ Fill n size (j + 1) s' := by
  obtain ⟨⟨b, c, v16, v17, v18, v19, v20, v21, v22, hF, hb, hbn, hc⟩, hM⟩ := h
  obtain ⟨F, M, H⟩ := s
  simp only at hF hM hb hbn
  subst hF; subst hM
  have hlt' : ltI (Int.ofNat j) (Int.ofNat size) = true := by rw [ltI_iff]; simp; omega
  have e1 : exec (cxL size cs e t) (m + 2) none 61 (.region 3 o3 false) ⟨fg n size (.slo b 0 j 1) v16 v17 v18 v19 v20 v21 v22, [], H⟩ =
      some (.normal, ⟨fg n size (.slo b 0 j 1) (.slo b 0 j 1) (.int .i64 (Int.ofNat j)) (.int .i64 (Int.ofNat size)) (.bool (ltI (Int.ofNat j) (Int.ofNat size))) v20 v21 v22, [], H⟩) := exec_region (by kernel_rfl)
  rw [hlt'] at e1
  have e2 : exec (cxL size cs e t) (m + 3) none 61 (.seq (.region 3 o3 false) (.cond (.tmp 19) .skip (.exit 0))) ⟨fg n size (.slo b 0 j 1) v16 v17 v18 v19 v20 v21 v22, [], H⟩ =
      some (.normal, ⟨fg n size (.slo b 0 j 1) (.slo b 0 j 1) (.int .i64 (Int.ofNat j)) (.int .i64 (Int.ofNat size)) (.bool true) v20 v21 v22, [], H⟩) := (exec_seq e1).trans (by kernel_rfl)
  -- the append
  have hx : (H.row 5 [.int .u8 120]).get H.next = some (.cells (setFrom .lf 0 [.int .u8 120]) 1 0 false true 5) := by
    unfold Hp.row
    rw [Hp.get_new, if_pos rfl]
    rfl
  have hb' : (H.row 5 [.int .u8 120]).get b = some (.cells c j 0 false false 5) := by
    unfold Hp.row
    rw [Hp.get_new, if_neg (by omega)]
    exact hb
  have happ := append_one (C := cxL size cs e t) (ty23 size cs e t) rfl (ty5 size cs e t) rfl rfl hb' hx (v := .int .u8 120) (by rfl) rfl hr
  have e3 : seqA (cxL size cs e t) (callA (cxL size cs e t) (exec (cxL size cs e t) (m + 1))) (yldA (exec (cxL size cs e t) (m + 1))) 61 o4.toList o4.toList
      (fg n size (.slo b 0 j 1) (.slo b 0 j 1) (.int .i64 (Int.ofNat j)) (.int .i64 (Int.ofNat size)) (.bool true) v20 v21 v22) H =
      some (fg n size (.slo (H.next + 1) 0 (j + 1) 1) (.slo b 0 j 1) (.int .i64 (Int.ofNat j)) (.int .i64 (Int.ofNat size)) (.bool true) (.slo b 0 j 1) (.slc H.next 0 1 1) (.slo (H.next + 1) 0 (j + 1) 1),
        ((H.row 5 [.int .u8 120]).kill b).new (.cells (setFrom c j [.int .u8 120]) (j + 1) 0 false false 5)) := by
    refine seqA_cut 2 (F' := fg n size (.slo b 0 j 1) (.slo b 0 j 1) (.int .i64 (Int.ofNat j)) (.int .i64 (Int.ofNat size)) (.bool true) (.slo b 0 j 1) (.slc H.next 0 1 1) v22) (H' := H.row 5 [.int .u8 120]) (by kernel_rfl) ?_
    show seqA _ _ _ _ _ ((o4.toList[2]'(by decide +kernel)) :: o4.toList.drop 3) _ _ = _
    refine seqA_one (v := .slo (H.next + 1) 0 (j + 1) 1) (stepA_val (by kernel_rfl) (H' := ((H.row 5 [.int .u8 120]).kill b).new (.cells (setFrom c j [.int .u8 120]) (j + 1) 0 false false 5)) ?_) (F' := fg n size (.slo b 0 j 1) (.slo b 0 j 1) (.int .i64 (Int.ofNat j)) (.int .i64 (Int.ofNat size)) (.bool true) (.slo b 0 j 1) (.slc H.next 0 1 1) (.slo (H.next + 1) 0 (j + 1) 1)) (by kernel_rfl) (by kernel_rfl)
    show valH (builtinA (cxL size cs e t) (H.row 5 [.int .u8 120]) .append [23, 23] [.slo b 0 j 1, .slc H.next 0 1 1]) = _
    rw [happ]
    rfl
  refine ⟨_, by rw [shapeL]; exact (exec_seq e2).trans (exec_block (exec_region e3)), ⟨⟨H.next + 1, setFrom c j [.int .u8 120], _, _, _, _, _, _, _, rfl, ?_, ?_, ?_⟩, rfl⟩⟩
  · rw [Hp.get_new]; exact if_pos rfl
  · show H.next + 1 < H.next + 1 + 1
    omega
  · intro i x hi
    rw [bigText_succ hj, List.getElem?_append, bigText_len hj] at hi
    rw [setFrom_get]
    split at hi
    · rename_i h
      rw [if_neg (by simp; omega)]
      exact hc i x hi
    · rename_i h
      have hij : i = j := by
        rcases Nat.lt_or_ge (i - j) 1 with h' | h'
        · omega
        · rw [List.getElem?_eq_none (by simpa using h')] at hi; cases hi
      subst hij
      rw [if_pos (by simp)]
      simp at hi ⊢
      subst hi
      rfl

theorem fill4 : Fill n size 49 ⟨fg n size (.slo 2 0 49 1) (.slc 0 0 48 48) (.int .i64 48) (.int .i64 (Int.ofNat size)) (.bool true) (.slc 0 0 48 48) (.slc 1 0 1 1) (.slo 2 0 49 1), [], h4⟩ := by
  refine ⟨⟨2, setFrom .lf 0 (byteVals bigHead ++ [.int .u8 120]), _, _, _, _, _, _, _, rfl, by rfl, by show 2 < 3; omega, ?_⟩, rfl⟩
  intro i x hi
  have hlen : i < 49 := by
    have := (List.getElem?_eq_some_iff.1 hi).1
    rwa [bigText_len (by omega)] at this
  have key : (List.range 49).all (fun i => match (setFrom (.lf : T AV) 0 (byteVals bigHead ++ [.int .u8 120])).get i, (bigText 49)[i]? with
    | some u, some x => avEq u (.int .u8 (Int.ofNat x.toNat))
    | _, _ => false) = true := by kernel_rfl
  rw [List.all_eq_true] at key
  have := key i (List.mem_range.2 hlen)
  rw [hi] at this
  split at this
  · rename_i u y hu hy
    cases hy
    rw [hu, avEq_eq _ _ this]
  · cases this

/-- all rounds -/
theorem rounds : ∀ (d j : Nat) (s : St), Fill n size j s → 48 ≤ j → j + d = size → size ≤ room → ∀ m, ∃ s', exec (cxL size cs e t) (m + d + 5) none 61 (.loop lb) s = some (.exit 0, s') ∧ Fill n size size s'
  | 0, j, s, h, hj, hd, hr, m => by
    obtain rfl : j = size := by omega
    obtain ⟨⟨b, c, v16, v17, v18, v19, v20, v21, v22, hF, hb, hbn, hc⟩, hM⟩ := h
    obtain ⟨F, M, H⟩ := s
    simp only at hF hM hb hbn
    subst hF; subst hM
    have hge : ltI (Int.ofNat j) (Int.ofNat j) = false := by rw [← Bool.not_eq_true, ltI_iff]; omega
    have e1 : exec (cxL j cs e t) (m + 2) none 61 (.region 3 o3 false) ⟨fg n j (.slo b 0 j 1) v16 v17 v18 v19 v20 v21 v22, [], H⟩ =
        some (.normal, ⟨fg n j (.slo b 0 j 1) (.slo b 0 j 1) (.int .i64 (Int.ofNat j)) (.int .i64 (Int.ofNat j)) (.bool (ltI (Int.ofNat j) (Int.ofNat j))) v20 v21 v22, [], H⟩) := exec_region (by kernel_rfl)
    rw [hge] at e1
    have e2 : exec (cxL j cs e t) (m + 3) none 61 (.seq (.region 3 o3 false) (.cond (.tmp 19) .skip (.exit 0))) ⟨fg n j (.slo b 0 j 1) v16 v17 v18 v19 v20 v21 v22, [], H⟩ =
        some (.exit 0, ⟨fg n j (.slo b 0 j 1) (.slo b 0 j 1) (.int .i64 (Int.ofNat j)) (.int .i64 (Int.ofNat j)) (.bool false) v20 v21 v22, [], H⟩) := (exec_seq e1).trans (by kernel_rfl)
    refine ⟨_, exec_loop_x (by simp) (by rw [shapeL]; exact exec_seq_x (by simp) e2), ⟨⟨b, c, _, _, _, _, _, _, _, rfl, hb, hbn, hc⟩, rfl⟩⟩
  | d + 1, j, s, h, hj, hd, hr, m => by
    obtain ⟨s1, k1, k2⟩ := round (cs := cs) (e := e) (t := t) h hj (by omega) (by omega) (m + d + 1)
    obtain ⟨s2, k3, k4⟩ := rounds d (j + 1) s1 k2 (by omega) (by omega) hr m
    exact ⟨s2, by rw [← k3]; exact exec_loop k1, k4⟩

theorem run3 (h1 : 49 ≤ size) (h2 : size ≤ room) (m : Nat) : ∃ s', exec (cxL size cs e t) (m + (size - 49) + 8) none 61 b3 ⟨f3 n size, [], h3⟩ = exec (cxL size cs e t) (m + (size - 49) + 7) none 61 b4 s' ∧ Fill n size size s' := by
  have hlt : ltI 48 (Int.ofNat size) = true := by rw [ltI_iff]; simp; omega
  obtain ⟨s2, k3, k4⟩ := rounds (n := n) (cs := cs) (e := e) (t := t) (size - 49) 49 _ fill4 (by omega) (by omega) h2 m
  refine ⟨s2, ?_, k4⟩
  rw [shape3]
  refine exec_seq (exec_block_x ?_)
  refine (exec_loop (first n size cs e t (m + (size - 49) + 1) hlt)).trans ?_
  exact k3

/-! ### Behind the loop -/
noncomputable def z39 : List AV := match tyP Tryz.prog 39 with
  | some ti => ti.zero
  | none => []
theorem z39_len : z39.length = 18 := by kernel_rfl

noncomputable def hs (cs : List AV) (H : Hp) : Hp := (H.row 39 z39).set H.next (.cells (setFrom (setFrom .lf 0 z39) 0 cs) z39.length 0 false true 39)
noncomputable def f5 (size : Nat) (cs : List AV) (e : Int) (b hn : Nat) (F : T AV) : T AV :=
  ((((((((((F.set 24 (.slo b 0 size 1)).set 25 (.str (bigText size))).set 26 (v5 cs e)).set 23 (v5 cs e)).set 27 (.agg cs)).set 28 (.int .i64 e)).set 29 (.int .i64 0)).set 5 (.ptr hn 0)).set 6 (.int .i64 e)).set 7 (.int .i64 0))
noncomputable def f6 (size : Nat) (e : Int) (t : List UInt8) (b : Nat) (F : T AV) : T AV :=
  ((((((((((F.set 31 (.slo b 0 size 1)).set 32 (.str (bigText size))).set 33 (v6 e t)).set 30 (v6 e t)).set 34 (.str t)).set 35 (.int .i64 e)).set 36 (.int .i64 0)).set 8 (.str t)).set 9 (.int .i64 e)).set 10 (.int .i64 0))

section
variable {b : Nat} {c : T AV} {H : Hp} {v16 v17 v18 v19 v20 v21 v22 : AV}

theorem run4 (h48 : 48 ≤ size) (hcs : cs.length = 18) (hfl : flat cs = true) (hb : H.get b = some (.cells c size 0 false false 5))
    (hc : ∀ i x, (bigText size)[i]? = some x → c.get i = some (.int .u8 (Int.ofNat x.toNat))) (m : Nat) :
    exec (cxL size cs e t) (m + 2) none 61 b4 ⟨fg n size (.slo b 0 size 1) v16 v17 v18 v19 v20 v21 v22, [], H⟩ =
      exec (cxL size cs e t) (m + 1) none 61 b5 ⟨f5 size cs e b H.next (fg n size (.slo b 0 size 1) v16 v17 v18 v19 v20 v21 v22), [], hs cs H⟩ := by
  rw [shape4]
  refine exec_seq (exec_region ?_)
  generalize hF : fg n size (.slo b 0 size 1) v16 v17 v18 v19 v20 v21 v22 = F
  have hcv := convert_bytes (C := cxL size cs e t) (ty23 size cs e t) rfl (ty9 size cs e t) rfl (ty5 size cs e t) rfl hb (bigText_len h48) hc
  subst hF
  refine seqA_cut 1 (F' := (fg n size (.slo b 0 size 1) v16 v17 v18 v19 v20 v21 v22).set 24 (.slo b 0 size 1)) (H' := H) (by kernel_rfl) ?_
  show seqA _ _ _ _ _ ((o5.toList[1]'(by decide +kernel)) :: ((o5.toList[2]'(by decide +kernel)) :: o5.toList.drop 3)) _ _ = _
  refine seqA_one (v := .str (bigText size)) (H' := H) (F' := ((fg n size (.slo b 0 size 1) v16 v17 v18 v19 v20 v21 v22).set 24 (.slo b 0 size 1)).set 25 (.str (bigText size)))
    (stepA_val (by kernel_rfl) ((by kernel_rfl : opA (cxL size cs e t) ((fg n size (.slo b 0 size 1) v16 v17 v18 v19 v20 v21 v22).set 24 (.slo b 0 size 1)) H (o5.toList[1]'(by decide +kernel)).op = valH (convertA (cxL size cs e t) H 23 9 (.slo b 0 size 1))).trans (by rw [hcv]; rfl))) (by kernel_rfl) ?_
  refine seqA_one (v := v5 cs e) (H' := H) (F' := (((fg n size (.slo b 0 size 1) v16 v17 v18 v19 v20 v21 v22).set 24 (.slo b 0 size 1)).set 25 (.str (bigText size))).set 26 (v5 cs e))
    (stepA_call (f := 5) (args := [.str (bigText size)]) (by kernel_rfl) (by kernel_rfl) (callA_told (A := (· = [.str (bigText size)])) (by kernel_rfl) rfl)) (by kernel_rfl) ?_
  refine seqA_cut 5 (F' := ((((((((fg n size (.slo b 0 size 1) v16 v17 v18 v19 v20 v21 v22).set 24 (.slo b 0 size 1)).set 25 (.str (bigText size))).set 26 (v5 cs e)).set 23 (v5 cs e)).set 27 (.agg cs)).set 28 (.int .i64 e)).set 29 (.int .i64 0)).set 5 (.ptr H.next 0)) (H' := H.row 39 z39) (by kernel_rfl) ?_
  show seqA _ _ _ _ _ ((o5.toList[8]'(by decide +kernel)) :: o5.toList.drop 9) _ _ = _
  refine seqA_one (v := .tup []) (H' := hs cs H) (F' := ((((((((fg n size (.slo b 0 size 1) v16 v17 v18 v19 v20 v21 v22).set 24 (.slo b 0 size 1)).set 25 (.str (bigText size))).set 26 (v5 cs e)).set 23 (v5 cs e)).set 27 (.agg cs)).set 28 (.int .i64 e)).set 29 (.int .i64 0)).set 5 (.ptr H.next 0))
    (stepA_val (by kernel_rfl) ((by kernel_rfl : opA (cxL size cs e t) (((((((((fg n size (.slo b 0 size 1) v16 v17 v18 v19 v20 v21 v22).set 24 (.slo b 0 size 1)).set 25 (.str (bigText size))).set 26 (v5 cs e)).set 23 (v5 cs e)).set 27 (.agg cs)).set 28 (.int .i64 e)).set 29 (.int .i64 0)).set 5 (.ptr H.next 0)) (H.row 39 z39) (o5.toList[8]'(by decide +kernel)).op =
      (match Nat.beq cs.length 18 with
        | true => match storeA (H.row 39 z39) H.next 0 cs with
          | some H' => some (.val (.tup []) H')
          | none => none
        | false => none)).trans ?_)) (by kernel_rfl) (by kernel_rfl)
  rw [hcs, store_new (by rw [hcs, z39_len]; exact Nat.le_refl _) hfl]
  rfl

theorem run5 (h48 : 48 ≤ size) (hb : H.get b = some (.cells c size 0 false false 5)) (hbn : b < H.next)
    (hc : ∀ i x, (bigText size)[i]? = some x → c.get i = some (.int .u8 (Int.ofNat x.toNat))) (m : Nat) :
    exec (cxL size cs e t) (m + 2) none 61 b5 ⟨f5 size cs e b H.next (fg n size (.slo b 0 size 1) v16 v17 v18 v19 v20 v21 v22), [], hs cs H⟩ =
      exec (cxL size cs e t) (m + 1) none 61 b6 ⟨f6 size e t b (f5 size cs e b H.next (fg n size (.slo b 0 size 1) v16 v17 v18 v19 v20 v21 v22)), [], hs cs H⟩ := by
  rw [shape5]
  refine exec_seq (exec_region ?_)
  have hb' : (hs cs H).get b = some (.cells c size 0 false false 5) := by
    unfold hs Hp.row
    rw [Hp.get_set', if_neg (by omega), Hp.get_new, if_neg (by omega)]
    exact hb
  have hcv := convert_bytes (C := cxL size cs e t) (ty23 size cs e t) rfl (ty9 size cs e t) rfl (ty5 size cs e t) rfl hb' (bigText_len h48) hc
  generalize hs cs H = H2 at hcv
  refine seqA_cut 1 (F' := (f5 size cs e b H.next (fg n size (.slo b 0 size 1) v16 v17 v18 v19 v20 v21 v22)).set 31 (.slo b 0 size 1)) (H' := H2) (by kernel_rfl) ?_
  show seqA _ _ _ _ _ ((o6.toList[1]'(by decide +kernel)) :: ((o6.toList[2]'(by decide +kernel)) :: o6.toList.drop 3)) _ _ = _
  refine seqA_one (v := .str (bigText size)) (H' := H2) (F' := ((f5 size cs e b H.next (fg n size (.slo b 0 size 1) v16 v17 v18 v19 v20 v21 v22)).set 31 (.slo b 0 size 1)).set 32 (.str (bigText size)))
    (stepA_val (by kernel_rfl) ((by kernel_rfl : opA (cxL size cs e t) ((f5 size cs e b H.next (fg n size (.slo b 0 size 1) v16 v17 v18 v19 v20 v21 v22)).set 31 (.slo b 0 size 1)) H2 (o6.toList[1]'(by decide +kernel)).op = valH (convertA (cxL size cs e t) H2 23 9 (.slo b 0 size 1))).trans (by rw [hcv]; rfl))) (by kernel_rfl) ?_
  refine seqA_one (v := v6 e t) (H' := H2) (F' := (((f5 size cs e b H.next (fg n size (.slo b 0 size 1) v16 v17 v18 v19 v20 v21 v22)).set 31 (.slo b 0 size 1)).set 32 (.str (bigText size))).set 33 (v6 e t))
    (stepA_call (f := 6) (args := [.str (bigText size)]) (by kernel_rfl) (by kernel_rfl) (callA_told (A := (· = [.str (bigText size)])) (by kernel_rfl) rfl)) (by kernel_rfl) ?_
  kernel_rfl

/-- the last region, from the call of awake on -/
noncomputable def chk7 (C : Ctx) (call : CallF) (yld : YldF) (F : T AV) (H : Hp) : Bool :=
  match seqA C call yld 61 o7.toList (o7.toList.drop 1) (F.set 37 (.bool true)) H with
  | some (F', _) => match F'.get 2 with
    | some (.bool r) => r
    | _ => false
  | none => false

theorem chk_ok {k : Nat} (hk : k ≤ 6) (hsz : size = 19997 + k) (he : e = if k ≤ 3 then 0 else 2) (call : CallF) (yld : YldF) {hn : Nat} {H2 : Hp} :
    chk7 (cxL size cs e t) call yld (f6 size e t b (f5 size cs e b hn (fg n size (.slo b 0 size 1) v16 v17 v18 v19 v20 v21 v22))) H2 = true := by
  have hk : k = 0 ∨ k = 1 ∨ k = 2 ∨ k = 3 ∨ k = 4 ∨ k = 5 ∨ k = 6 := by omega
  rcases hk with rfl | rfl | rfl | rfl | rfl | rfl | rfl <;> subst hsz <;> subst he
  · exact (by kernel_rfl : chk7 (cxL 19997 cs 0 t) call yld (f6 19997 0 t b (f5 19997 cs 0 b hn (fg n 19997 (.slo b 0 19997 1) v16 v17 v18 v19 v20 v21 v22))) H2 = true)
  · exact (by kernel_rfl : chk7 (cxL 19998 cs 0 t) call yld (f6 19998 0 t b (f5 19998 cs 0 b hn (fg n 19998 (.slo b 0 19998 1) v16 v17 v18 v19 v20 v21 v22))) H2 = true)
  · exact (by kernel_rfl : chk7 (cxL 19999 cs 0 t) call yld (f6 19999 0 t b (f5 19999 cs 0 b hn (fg n 19999 (.slo b 0 19999 1) v16 v17 v18 v19 v20 v21 v22))) H2 = true)
  · exact (by kernel_rfl : chk7 (cxL 20000 cs 0 t) call yld (f6 20000 0 t b (f5 20000 cs 0 b hn (fg n 20000 (.slo b 0 20000 1) v16 v17 v18 v19 v20 v21 v22))) H2 = true)
  · exact (by kernel_rfl : chk7 (cxL 20001 cs 2 t) call yld (f6 20001 2 t b (f5 20001 cs 2 b hn (fg n 20001 (.slo b 0 20001 1) v16 v17 v18 v19 v20 v21 v22))) H2 = true)
  · exact (by kernel_rfl : chk7 (cxL 20002 cs 2 t) call yld (f6 20002 2 t b (f5 20002 cs 2 b hn (fg n 20002 (.slo b 0 20002 1) v16 v17 v18 v19 v20 v21 v22))) H2 = true)
  · exact (by kernel_rfl : chk7 (cxL 20003 cs 2 t) call yld (f6 20003 2 t b (f5 20003 cs 2 b hn (fg n 20003 (.slo b 0 20003 1) v16 v17 v18 v19 v20 v21 v22))) H2 = true)

theorem run6 {k : Nat} (hk : k ≤ 6) (hsz : size = 19997 + k) (he : e = if k ≤ 3 then 0 else 2) {hn : Nat} {H2 : Hp} (m : Nat) :
    ∃ F' : T AV × Hp, exec (cxL size cs e t) (m + 2) none 61 b6 ⟨f6 size e t b (f5 size cs e b hn (fg n size (.slo b 0 size 1) v16 v17 v18 v19 v20 v21 v22)), [], H2⟩ = some (.ret, ⟨F'.1, [], F'.2⟩) ∧ F'.1.get 2 = some (.bool true) := by
  have h := chk_ok (cs := cs) (t := t) (n := n) (b := b) (v16 := v16) (v17 := v17) (v18 := v18) (v19 := v19) (v20 := v20) (v21 := v21) (v22 := v22) hk hsz he (callA (cxL size cs e t) (exec (cxL size cs e t) m)) (yldA (exec (cxL size cs e t) m)) (hn := hn) (H2 := H2)
  unfold chk7 at h
  split at h
  case h_2 => cases h
  rename_i F' H' hrun
  split at h
  case h_2 => cases h
  rename_i r hr
  subst h
  refine ⟨(F', H'), ?_, hr⟩
  rw [shape6]
  refine (exec_seq (s' := ⟨F', [], H'⟩) (exec_region ?_)).trans rfl
  show seqA _ _ _ _ _ ((o7.toList[0]'(by decide +kernel)) :: o7.toList.drop 1) _ _ = _
  exact seqA_one (v := .bool true) (H' := H2) (F' := (f6 size e t b (f5 size cs e b hn (fg n size (.slo b 0 size 1) v16 v17 v18 v19 v20 v21 v22))).set 37 (.bool true))
    (stepA_call (f := 7) (args := []) (by kernel_rfl) (by kernel_rfl) (callA_told (A := (· = [])) (by kernel_rfl) rfl)) (by kernel_rfl) hrun
end

/-- **The law, run.** -/
theorem law_run {k : Nat} (hk : k ≤ 6) (hsz : size = 19997 + k) (he : e = if k ≤ 3 then 0 else 2) (hn : n % 7 = (k : Int)) (hcs : cs.length = 18) (hfl : flat cs = true) :
    ∃ H', callC (cxL size cs e t) (exec (cxL size cs e t) 30000) 3 [.int .i64 n] ⟨.lf, 0⟩ = some (.bool true, H') := by
  have hz : wrapA .i64 (19997 + n % 7) = Int.ofNat size := by
    rw [wrapA_eq, wrap_i64 _ (by omega) (by omega), hn, hsz]
    simp
  have hroom : size ≤ room := by unfold room; omega
  obtain ⟨s', k1, ⟨⟨b, c, v16, v17, v18, v19, v20, v21, v22, hF, hb, hbn, hc⟩, hM⟩⟩ := run3 (n := n) (cs := cs) (e := e) (t := t) (show 49 ≤ size by omega) hroom (30000 - 3 - 8 - (size - 49))
  obtain ⟨F, M, H⟩ := s'
  simp only at hF hM hb hbn
  subst hF; subst hM
  obtain ⟨F', k2, k3⟩ := run6 (cs := cs) (t := t) (n := n) (b := b) (v16 := v16) (v17 := v17) (v18 := v18) (v19 := v19) (v20 := v20) (v21 := v21) (v22 := v22) hk hsz he (hn := H.next) (H2 := hs cs H) 29992
  have hbody : exec (cxL size cs e t) 30000 none 61 bigB ⟨f0 n, [], ⟨.lf, 0⟩⟩ = some (.ret, ⟨F'.1, [], F'.2⟩) := by
    rw [run0 n size cs e t 29998, run1 n size cs e t 29997, hz, run2 n size cs e t 29996]
    have e1 : 30000 - 3 - 8 - (size - 49) + (size - 49) + 8 = 29997 := by omega
    have e2 : 30000 - 3 - 8 - (size - 49) + (size - 49) + 7 = 29996 := by omega
    rw [e1, e2] at k1
    rw [k1, run4 (by omega) hcs hfl hb hc 29994, run5 (by omega) hb hbn hc 29993]
    exact k2
  refine ⟨F'.2, ?_⟩
  have hcall : callC (cxL size cs e t) (exec (cxL size cs e t) 30000) 3 [.int .i64 n] ⟨.lf, 0⟩ = callR (cxL size cs e t) (exec (cxL size cs e t) 30000 none 61 bigB ⟨f0 n, [], ⟨.lf, 0⟩⟩) [.tmp 2] := by kernel_rfl
  rw [hcall, hbody]
  simp only [callR, endA, takeMarks, resA, k3, oneA]
end
end Go.Proofs
