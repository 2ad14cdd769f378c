/-
  JOINED TEXTS (Q0 Q1 S3 Q2 Q3 S4 Q4): a pure machine for the model's code, its soundness, and what the program's functions come to.
-/
import Derived.Test.YtcbngkmmmfaaoaaGreatDoorM10
import Derived.Test.YtcbngkmmmfaaoaaGreatDoorM7
set_option linter.unusedVariables false
set_option linter.unusedSimpArgs false
/-
  SCHEMAS THAT MAY BE, Q0: names.
-/
namespace Go.Proofs.YtcbngkmmmfaaoaaGreatDoor
open Go.RowKit Go.Lib Go.Ac
set_option linter.unusedSimpArgs false
set_option maxRecDepth 100000
variable {mx : Int}

theorem strs_flat (L : List (List UInt8)) : flat strV L = L.map PV.str := by
  induction L with
  | nil => rfl
  | cons x L ih => rw [flat, ih]; rfl
/-! ### Is a text one of these? -/
def invIdxS (L : List (List UInt8)) (y : List UInt8) (k : Nat) (F : Fr) (_ : AH) : Prop := ∃ i : Nat, i + k = L.length ∧ F.at 0 = rowV strV L ∧ F.at 1 = .str y ∧ F.at 7 = .int .i64 L.length ∧ F.at 8 = .int .i64 i ∧ idx (fun x => decide (y = x)) (L.drop i) i = idx (fun x => decide (y = x)) L 0
theorem indexS_c (L : List (List UInt8)) (hl : L.length ≤ 9223372036854775807) (y : List UInt8) (h : AH) (fr : Nat) : CR Tryz.prog (globM mx) md (.fn 127) [rowV strV L, .str y] h fr (.val (.int .i64 (idx (fun x => decide (y = x)) L 0))) := by
  refine CR.plain (rs := [.tmp 4]) Tryz.func127 rfl rfl rfl rfl rfl rfl rfl ?_ h fr
  simp -implicitDefEqProofs only [wpC_seq, rowsA, if_true, if_false, opnd, ofVal, ofVal1, layArgs, Nat.reduceAdd, reduceIte, Nat.reduceEqDiff, reduceCtorEq, rowsB, cellsG, Nat.reduceMul, rowV, len_ro u43]
  refine wpC_loop (invIdxS L y) (k := L.length) ⟨0, by omega, ?_, ?_, ?_, ?_, rfl⟩ ?_
  · simp only [Fr.at_set, Nat.reduceEqDiff, reduceIte, reduceCtorEq]; rfl
  · simp only [Fr.at_set, Nat.reduceEqDiff, reduceIte, reduceCtorEq]
  · simp only [Fr.at_set, Nat.reduceEqDiff, reduceIte, reduceCtorEq]
  · simp only [Fr.at_set, Nat.reduceEqDiff, reduceIte, reduceCtorEq]; rfl
  rintro k F h' ⟨i, hi, f0, f1, f7, f8, hx⟩
  cases k with
  | zero =>
    have c1 : decide ((i : Int) < (L.length : Int)) = false := decide_eq_false (by omega)
    rw [idx_end _ L i (by omega)] at hx
    simp -implicitDefEqProofs only [wpC_seq, rowsA, if_true, if_false, opnd, ofVal, ofVal1, layArgs, Nat.reduceAdd, reduceIte, Nat.reduceEqDiff, reduceCtorEq, rowsB, cellsG, Nat.reduceMul, f0, f1, f7, f8, c1, ← hx]
  | succ k =>
    have c1 : decide ((i : Int) < (L.length : Int)) = true := decide_eq_true (by omega)
    obtain ⟨o, ho⟩ : ∃ o, L[i]? = some o := ⟨L[i], List.getElem?_eq_getElem (by omega)⟩
    obtain ⟨r, hr⟩ := flat_drop (f := strV) (z := 1) (fun _ => rfl) L i o ho
    rw [idx_drop _ L i o ho] at hx
    have w := IntWalk.i64_in ((i : Int) + 1) (by omega)
    have hld : loadO Tryz.prog 9 (some (strV o ++ r)) = some (.q (.str o)) := loadO_one ag9 sz9
    by_cases hpo : y = o
    · rw [if_pos (by simpa using hpo)] at hx
      simp -implicitDefEqProofs only [wpC_seq, rowsA, if_true, if_false, opnd, ofVal, ofVal1, layArgs, Nat.reduceAdd, reduceIte, Nat.reduceEqDiff, reduceCtorEq, rowsB, cellsG, Nat.reduceMul, f0, f1, f7, f8, c1, rowV, ida_roN (n := L.length) (i := (i : Int)) u43 sz9 (by omega) (by omega), Int.toNat_natCast, hr, hld, decide_eq_true hpo, ← hx]
    · rw [if_neg (by simpa using hpo)] at hx
      simp -implicitDefEqProofs only [wpC_seq, rowsA, if_true, if_false, opnd, ofVal, ofVal1, layArgs, Nat.reduceAdd, reduceIte, Nat.reduceEqDiff, reduceCtorEq, rowsB, cellsG, Nat.reduceMul, f0, f1, f7, f8, c1, rowV, ida_roN (n := L.length) (i := (i : Int)) u43 sz9 (by omega) (by omega), Int.toNat_natCast, hr, hld, hpo, w]
      refine ⟨k, by omega, i + 1, by omega, ?_, ?_, ?_, ?_, hx⟩
      · simp only [Fr.at_set, Nat.reduceEqDiff, reduceIte, reduceCtorEq, f0]
      · simp only [Fr.at_set, Nat.reduceEqDiff, reduceIte, reduceCtorEq, f1]
      · simp only [Fr.at_set, Nat.reduceEqDiff, reduceIte, reduceCtorEq, f7]
      · simp only [Fr.at_set, Nat.reduceEqDiff, reduceIte, reduceCtorEq]; rfl
def memB (y : List UInt8) (L : List (List UInt8)) : Bool := decide (0 ≤ idx (fun x => decide (y = x)) L 0)
theorem contains_c (L : List (List UInt8)) (hl : L.length ≤ 9223372036854775807) (y : List UInt8) (h : AH) (fr : Nat) : CR Tryz.prog (globM mx) md (.fn 118) [rowV strV L, .str y] h fr (.val (.bool (memB y L))) := by
  refine CR.plain (rs := [.tmp 4]) Tryz.func118 rfl rfl rfl rfl rfl rfl rfl ?_ h fr
  simp -implicitDefEqProofs only [wpC_seq, rowsA, if_true, if_false, opnd, ofVal, ofVal1, layArgs, Nat.reduceAdd, reduceIte, Nat.reduceEqDiff, reduceCtorEq, rowsB, cellsG, Nat.reduceMul, goO_known (indexS_c L hl y), memB, ge_iff_le]

/-! ### Ends -/
def endsB (s p : List UInt8) : Bool := decide (p.length ≤ s.length) && decide (s.drop (s.length - p.length) = p)
theorem ends1_c (s p : List UInt8) (hs : s.length ≤ 9223372036854775807) (h : AH) (fr : Nat) : CR Tryz.prog (globM mx) md (.fn 125) [.str s, .str p] h fr (.val (.bool (endsB s p))) := by
  refine CR.plain (rs := [.tmp 4]) Tryz.func125 rfl rfl rfl rfl rfl rfl rfl ?_ h fr
  by_cases c1 : (s.length : Int) ≥ (p.length : Int)
  · have c2 : p.length ≤ s.length := by omega
    have w := IntWalk.i64_in ((s.length : Int) - (p.length : Int)) (by omega)
    have e : ((s.length : Int) - (p.length : Int)).toNat = s.length - p.length := by omega
    simp -implicitDefEqProofs only [wpC_seq, rowsA, if_true, if_false, opnd, ofVal, ofVal1, layArgs, Nat.reduceAdd, reduceIte, Nat.reduceEqDiff, reduceCtorEq, rowsB, cellsG, Nat.reduceMul, len_str u9, c1, w, slice_from (k := .i64) (l := s) (i := (s.length : Int) - (p.length : Int)) u9 (by omega) (by omega), e, endsB, c2, Bool.true_and]
  · have c2 : ¬ (p.length ≤ s.length) := by omega
    simp -implicitDefEqProofs only [wpC_seq, rowsA, if_true, if_false, opnd, ofVal, ofVal1, layArgs, Nat.reduceAdd, reduceIte, Nat.reduceEqDiff, reduceCtorEq, rowsB, cellsG, Nat.reduceMul, len_str u9, c1, endsB, c2, Bool.false_and]
theorem ends_c (s p : List UInt8) (hs : s.length ≤ 9223372036854775807) (h : AH) (fr : Nat) : CR Tryz.prog (globM mx) md (.fn 116) [.str s, .str p] h fr (.val (.bool (endsB s p))) := by
  refine CR.plain (rs := [.tmp 4]) Tryz.func116 rfl rfl rfl rfl rfl rfl rfl ?_ h fr
  simp -implicitDefEqProofs only [wpC_seq, rowsA, if_true, if_false, opnd, ofVal, ofVal1, layArgs, Nat.reduceAdd, reduceIte, Nat.reduceEqDiff, reduceCtorEq, rowsB, cellsG, Nat.reduceMul, goO_known (ends1_c s p hs)]

/-! ### A name, and none of these -/
noncomputable def nmB (mx : Int) (s : List UInt8) (L : List (List UInt8)) : Bool := nameB mx s && decide (s.length ≤ 24) && !(hasP s [95, 95]) && !(memB s L)
theorem nm_c (s : List UInt8) (hs : s.length ≤ 9223372036854775807) (L : List (List UInt8)) (hl : L.length ≤ 9223372036854775807) (h : AH) (fr : Nat) : CR Tryz.prog (globM mx) md (.fn 85) [.str s, rowV strV L] h fr (.val (.bool (nmB mx s L))) := by
  refine CR.plain (rs := [.tmp 4]) Tryz.func85 rfl rfl rfl rfl rfl rfl rfl ?_ h fr
  unfold nmB
  cases c1 : nameB mx s with
  | false => simp -implicitDefEqProofs only [wpC_seq, rowsA, if_true, if_false, opnd, ofVal, ofVal1, layArgs, Nat.reduceAdd, reduceIte, Nat.reduceEqDiff, reduceCtorEq, rowsB, cellsG, Nat.reduceMul, goO_known (name_c s hs), c1, Bool.false_and]
  | true =>
    by_cases c2 : (s.length : Int) ≤ 24
    · have c2' : s.length ≤ 24 := by omega
      cases c3 : hasP s [95, 95] with
      | true => simp -implicitDefEqProofs only [wpC_seq, rowsA, if_true, if_false, opnd, ofVal, ofVal1, layArgs, Nat.reduceAdd, reduceIte, Nat.reduceEqDiff, reduceCtorEq, rowsB, cellsG, Nat.reduceMul, goO_known (name_c s hs), c1, len_str u9, c2, c2', goO_known (hasP_c s [95, 95]), c3, Bool.true_and, Bool.and_false, Bool.false_and]
      | false => simp -implicitDefEqProofs only [wpC_seq, rowsA, if_true, if_false, opnd, ofVal, ofVal1, layArgs, Nat.reduceAdd, reduceIte, Nat.reduceEqDiff, reduceCtorEq, rowsB, cellsG, Nat.reduceMul, goO_known (name_c s hs), c1, len_str u9, c2, c2', goO_known (hasP_c s [95, 95]), c3, goO_known (contains_c L hl s), Bool.true_and]
    · have c2' : ¬ s.length ≤ 24 := by omega
      simp -implicitDefEqProofs only [wpC_seq, rowsA, if_true, if_false, opnd, ofVal, ofVal1, layArgs, Nat.reduceAdd, reduceIte, Nat.reduceEqDiff, reduceCtorEq, rowsB, cellsG, Nat.reduceMul, goO_known (name_c s hs), c1, len_str u9, c2, c2', Bool.true_and, Bool.false_and, Bool.and_false]
/-- So, with a row of the caller's. -/
theorem nm_sh (s : List UInt8) (hs : s.length ≤ 9223372036854775807) (L : List (List UInt8)) (hl : L.length ≤ 9223372036854775807) {id : Nat} {h : AH} (hg : h.get id = some (.cells 9 1 false (L.map PV.str))) (fr : Nat) :
    CR Tryz.prog (globM mx) md (.fn 85) [.str s, .ow id L.length 0 L.length] h fr (.sh (.bool (nmB mx s L)) (h.set id (.cells 9 1 true (L.map PV.str)))) := by
  refine CR.viaFrz (args' := [.str s, rowV strV L]) Tryz.func85 rfl rfl rfl rfl ?_ rfl (fun h fr => nm_c s hs L hl h fr) fr
  have e : frz 100 (.ow id L.length 0 L.length) h = some (.ro (L.map PV.str) L.length, h.set id (.cells 9 1 true (L.map PV.str))) := frz_ow (dd := 99) hg (by rw [List.length_map]) (cleans_strs L)
  simp only [frzL, frz_clean h (show (PV.str s).clean = true from rfl), e, rowV, strs_flat]
/-! ### A type's own name -/
def frontL : List (List UInt8) := [[65, 100, 100], [80, 97, 116, 99, 104]]
def tailL : List (List UInt8) := [[70, 105, 108, 116, 101, 114], [79, 114, 100, 101, 114], [79, 114, 100, 101, 114, 97, 98, 108, 101]]
def notL : List (List UInt8) := [[81, 117, 101, 114, 121], [77, 117, 116, 97, 116, 105, 111, 110], [83, 117, 98, 115, 99, 114, 105, 112, 116, 105, 111, 110], [73, 68]]
noncomputable def ownB (mx : Int) (s : List UInt8) : Bool := frontL.all (fun p => !(hasP s p)) && tailL.all (fun p => !(endsB s p)) && nmB mx s notL && !(scalar s)
theorem bd43_2 (fr : Nat) (a b : List UInt8) : buildO Tryz.prog fr 43 2 [(0, .str a), (1, .str b)] = some (.w (.ow fr 2 0 2) fr (.cells 9 1 false [.str a, .str b])) := by kernel_rfl
theorem bd43_3 (fr : Nat) (a b c : List UInt8) : buildO Tryz.prog fr 43 3 [(0, .str a), (1, .str b), (2, .str c)] = some (.w (.ow fr 3 0 3) fr (.cells 9 1 false [.str a, .str b, .str c])) := by kernel_rfl
theorem bd43_4 (fr : Nat) (a b c d : List UInt8) : buildO Tryz.prog fr 43 4 [(0, .str a), (1, .str b), (2, .str c), (3, .str d)] = some (.w (.ow fr 4 0 4) fr (.cells 9 1 false [.str a, .str b, .str c, .str d])) := by kernel_rfl
def OwnA (s : List UInt8) (F : Fr) (_ : AH) : Prop := F.at 0 = .str s ∧ frontL.all (fun p => !(hasP s p)) = true
def OwnB (s : List UInt8) (F : Fr) (_ : AH) : Prop := F.at 0 = .str s ∧ frontL.all (fun p => !(hasP s p)) = true ∧ tailL.all (fun p => !(endsB s p)) = true
def invOwn (s : List UInt8) (L : List (List UInt8)) (q : List UInt8 → Bool) (tr tn ti : Nat) (k : Nat) (F : Fr) (h : AH) : Prop := ∃ (i B : Nat), i + k = L.length ∧ F.at 0 = .str s ∧ F.at tr = .ow B L.length 0 L.length ∧ F.at tn = .int .i64 L.length ∧ F.at ti = .int .i64 i ∧ h.get B = some (.cells 9 1 false (L.map PV.str)) ∧ (L.take i).all q = true
theorem take_all {α : Type} {q : α → Bool} {L : List α} {i : Nat} {o : α} (ho : L[i]? = some o) (h : (L.take i).all q = true) (hq : q o = true) : (L.take (i + 1)).all q = true := by
  rw [List.take_add_one, ho, List.all_append, h]
  simp [hq]
theorem all_false {α : Type} {q : α → Bool} {L : List α} {i : Nat} {o : α} (ho : L[i]? = some o) (hq : q o = false) : L.all q = false := by
  rw [List.all_eq_false]
  exact ⟨o, List.mem_of_getElem? ho, by simp [hq]⟩
theorem own_c (s : List UInt8) (hs : s.length ≤ 9223372036854775807) (h : AH) (fr : Nat) : CR Tryz.prog (globM mx) md (.fn 83) [.str s] h fr (.val (.bool (ownB mx s))) := by
  refine CR.plain (rs := [.tmp 2]) Tryz.func83 rfl rfl rfl rfl rfl rfl rfl ?_ h fr
  rw [wpC_seq]; simp -implicitDefEqProofs only [rowsA, if_true, if_false, opnd, ofVal, ofVal1, layArgs, Nat.reduceAdd, reduceIte, Nat.reduceEqDiff, reduceCtorEq, rowsB, cellsG, Nat.reduceMul]
  refine wpC_then (OwnA s) ?_ ?_
  · simp -implicitDefEqProofs only [wpC_seq, rowsA, if_true, if_false, opnd, ofVal, ofVal1, layArgs, Nat.reduceAdd, reduceIte, Nat.reduceEqDiff, reduceCtorEq, rowsB, cellsG, Nat.reduceMul, bd43_2, len_ow u43]
    refine wpC_loop (invOwn s frontL (fun p => !(hasP s p)) 7 8 9) (k := frontL.length) ⟨0, 1, by omega, ?_, ?_, ?_, ?_, ?_, rfl⟩ ?_
    · simp only [Fr.at_set, Nat.reduceEqDiff, reduceIte, reduceCtorEq]
    · simp only [Fr.at_set, Nat.reduceEqDiff, reduceIte, reduceCtorEq]; rfl
    · simp only [Fr.at_set, Nat.reduceEqDiff, reduceIte, reduceCtorEq]; rfl
    · simp only [Fr.at_set, Nat.reduceEqDiff, reduceIte, reduceCtorEq]; rfl
    · simp only [AH.get_set, if_true]; rfl
    rintro k F h' ⟨i, B, ik, f0, f7, f8, f9, g, hq⟩
    cases k with
    | zero =>
      have c1 : decide ((i : Int) < (frontL.length : Int)) = false := decide_eq_false (by omega)
      rw [List.take_of_length_le (by omega)] at hq
      simp -implicitDefEqProofs only [wpC_seq, rowsA, if_true, if_false, opnd, ofVal, ofVal1, layArgs, Nat.reduceAdd, reduceIte, Nat.reduceEqDiff, reduceCtorEq, rowsB, cellsG, Nat.reduceMul, lt14, lt24, lt34, stR1, stR2, stR3, aop_mki, mki148, aop_panic, panO_if, goO_pan, up_up, up_set, nilO_ptr, fda_ptr o152_0, fda_ptr o152_1, fda_ptr o152_2, fda_ptr o152_3, loadO_one ag3 sz3, loadO_one ag9 sz9, loadO_one ag5 sz5, len_str u9, sz3, EndX_normal, EndX_ret, EndX_panic, KS_panic, KB_panic, KI_panic, outX_panic, KE_normal, KE_ret, KE_exit, KE_panic, f8, f9, c1]
      exact ⟨by simp only [Fr.at_set, Nat.reduceEqDiff, reduceIte, reduceCtorEq, f0], hq⟩
    | succ k =>
      have c1 : decide ((i : Int) < (frontL.length : Int)) = true := decide_eq_true (by omega)
      have d2 : i < frontL.length := by omega
      obtain ⟨o, ho⟩ : ∃ o, frontL[i]? = some o := ⟨frontL[i], List.getElem?_eq_getElem d2⟩
      have hgd : frontL.getD i [] = o := by rw [List.getD_eq_getElem?_getD, ho]; rfl
      have w := IntWalk.i64_in ((i : Int) + 1) (by have : frontL.length ≤ 3 := by decide
                                                   omega)
      cases hp : hasP s o with
      | true =>
        have hall : frontL.all (fun p => !(hasP s p)) = false := all_false ho (by simp [hp])
        simp -implicitDefEqProofs only [wpC_seq, rowsA, if_true, if_false, opnd, ofVal, ofVal1, layArgs, Nat.reduceAdd, reduceIte, Nat.reduceEqDiff, reduceCtorEq, rowsB, cellsG, Nat.reduceMul, lt14, lt24, lt34, stR1, stR2, stR3, aop_mki, mki148, aop_panic, panO_if, goO_pan, up_up, up_set, nilO_ptr, fda_ptr o152_0, fda_ptr o152_1, fda_ptr o152_2, fda_ptr o152_3, loadO_one ag3 sz3, loadO_one ag9 sz9, loadO_one ag5 sz5, len_str u9, sz3, EndX_normal, EndX_ret, EndX_panic, KS_panic, KB_panic, KI_panic, outX_panic, KE_normal, KE_ret, KE_exit, KE_panic, f0, f7, f8, f9, c1, ida43 d2, g, List.length_map, ld9L d2, hgd, goO_known (hasP_c s o), hp]
        rw [ownB, hall]
        simp only [Bool.false_and, Bool.and_false]
      | false =>
        simp -implicitDefEqProofs only [wpC_seq, rowsA, if_true, if_false, opnd, ofVal, ofVal1, layArgs, Nat.reduceAdd, reduceIte, Nat.reduceEqDiff, reduceCtorEq, rowsB, cellsG, Nat.reduceMul, lt14, lt24, lt34, stR1, stR2, stR3, aop_mki, mki148, aop_panic, panO_if, goO_pan, up_up, up_set, nilO_ptr, fda_ptr o152_0, fda_ptr o152_1, fda_ptr o152_2, fda_ptr o152_3, loadO_one ag3 sz3, loadO_one ag9 sz9, loadO_one ag5 sz5, len_str u9, sz3, EndX_normal, EndX_ret, EndX_panic, KS_panic, KB_panic, KI_panic, outX_panic, KE_normal, KE_ret, KE_exit, KE_panic, f0, f7, f8, f9, c1, ida43 d2, g, List.length_map, ld9L d2, hgd, goO_known (hasP_c s o), hp, w]
        refine ⟨k, by omega, i + 1, B, by omega, ?_, ?_, ?_, ?_, ?_, take_all ho hq (by simp [hp])⟩
        · simp only [Fr.at_set, Nat.reduceEqDiff, reduceIte, reduceCtorEq, f0]
        · simp only [Fr.at_set, Nat.reduceEqDiff, reduceIte, reduceCtorEq, f7]
        · simp only [Fr.at_set, Nat.reduceEqDiff, reduceIte, reduceCtorEq, f8]
        · simp only [Fr.at_set, Nat.reduceEqDiff, reduceIte, reduceCtorEq]; rfl
        · simp only [AH.get_up]; exact g
  rintro F h1 ⟨f0, q1⟩
  refine wpC_then (OwnB s) ?_ ?_
  · simp -implicitDefEqProofs only [wpC_seq, rowsA, if_true, if_false, opnd, ofVal, ofVal1, layArgs, Nat.reduceAdd, reduceIte, Nat.reduceEqDiff, reduceCtorEq, rowsB, cellsG, Nat.reduceMul, bd43_3, len_ow u43]
    refine wpC_loop (invOwn s tailL (fun p => !(endsB s p)) 17 18 19) (k := tailL.length) ⟨0, h1.next, by omega, ?_, ?_, ?_, ?_, ?_, rfl⟩ ?_
    · simp only [Fr.at_set, Nat.reduceEqDiff, reduceIte, reduceCtorEq, f0]
    · simp only [Fr.at_set, Nat.reduceEqDiff, reduceIte, reduceCtorEq]; rfl
    · simp only [Fr.at_set, Nat.reduceEqDiff, reduceIte, reduceCtorEq]; rfl
    · simp only [Fr.at_set, Nat.reduceEqDiff, reduceIte, reduceCtorEq]; rfl
    · simp only [AH.get_set, if_true]; rfl
    rintro k F h' ⟨i, B, ik, f0, f7, f8, f9, g, hq⟩
    cases k with
    | zero =>
      have c1 : decide ((i : Int) < (tailL.length : Int)) = false := decide_eq_false (by omega)
      rw [List.take_of_length_le (by omega)] at hq
      simp -implicitDefEqProofs only [wpC_seq, rowsA, if_true, if_false, opnd, ofVal, ofVal1, layArgs, Nat.reduceAdd, reduceIte, Nat.reduceEqDiff, reduceCtorEq, rowsB, cellsG, Nat.reduceMul, lt14, lt24, lt34, stR1, stR2, stR3, aop_mki, mki148, aop_panic, panO_if, goO_pan, up_up, up_set, nilO_ptr, fda_ptr o152_0, fda_ptr o152_1, fda_ptr o152_2, fda_ptr o152_3, loadO_one ag3 sz3, loadO_one ag9 sz9, loadO_one ag5 sz5, len_str u9, sz3, EndX_normal, EndX_ret, EndX_panic, KS_panic, KB_panic, KI_panic, outX_panic, KE_normal, KE_ret, KE_exit, KE_panic, f8, f9, c1]
      exact ⟨by simp only [Fr.at_set, Nat.reduceEqDiff, reduceIte, reduceCtorEq, f0], q1, hq⟩
    | succ k =>
      have c1 : decide ((i : Int) < (tailL.length : Int)) = true := decide_eq_true (by omega)
      have d2 : i < tailL.length := by omega
      obtain ⟨o, ho⟩ : ∃ o, tailL[i]? = some o := ⟨tailL[i], List.getElem?_eq_getElem d2⟩
      have hgd : tailL.getD i [] = o := by rw [List.getD_eq_getElem?_getD, ho]; rfl
      have w := IntWalk.i64_in ((i : Int) + 1) (by have : tailL.length ≤ 3 := by decide
                                                   omega)
      cases hp : endsB s o with
      | true =>
        have hall : tailL.all (fun p => !(endsB s p)) = false := all_false ho (by simp [hp])
        simp -implicitDefEqProofs only [wpC_seq, rowsA, if_true, if_false, opnd, ofVal, ofVal1, layArgs, Nat.reduceAdd, reduceIte, Nat.reduceEqDiff, reduceCtorEq, rowsB, cellsG, Nat.reduceMul, lt14, lt24, lt34, stR1, stR2, stR3, aop_mki, mki148, aop_panic, panO_if, goO_pan, up_up, up_set, nilO_ptr, fda_ptr o152_0, fda_ptr o152_1, fda_ptr o152_2, fda_ptr o152_3, loadO_one ag3 sz3, loadO_one ag9 sz9, loadO_one ag5 sz5, len_str u9, sz3, EndX_normal, EndX_ret, EndX_panic, KS_panic, KB_panic, KI_panic, outX_panic, KE_normal, KE_ret, KE_exit, KE_panic, f0, f7, f8, f9, c1, ida43 d2, g, List.length_map, ld9L d2, hgd, goO_known (ends_c s o hs), hp]
        rw [ownB, hall]
        simp only [Bool.false_and, Bool.and_false]
      | false =>
        simp -implicitDefEqProofs only [wpC_seq, rowsA, if_true, if_false, opnd, ofVal, ofVal1, layArgs, Nat.reduceAdd, reduceIte, Nat.reduceEqDiff, reduceCtorEq, rowsB, cellsG, Nat.reduceMul, lt14, lt24, lt34, stR1, stR2, stR3, aop_mki, mki148, aop_panic, panO_if, goO_pan, up_up, up_set, nilO_ptr, fda_ptr o152_0, fda_ptr o152_1, fda_ptr o152_2, fda_ptr o152_3, loadO_one ag3 sz3, loadO_one ag9 sz9, loadO_one ag5 sz5, len_str u9, sz3, EndX_normal, EndX_ret, EndX_panic, KS_panic, KB_panic, KI_panic, outX_panic, KE_normal, KE_ret, KE_exit, KE_panic, f0, f7, f8, f9, c1, ida43 d2, g, List.length_map, ld9L d2, hgd, goO_known (ends_c s o hs), hp, w]
        refine ⟨k, by omega, i + 1, B, by omega, ?_, ?_, ?_, ?_, ?_, take_all ho hq (by simp [hp])⟩
        · simp only [Fr.at_set, Nat.reduceEqDiff, reduceIte, reduceCtorEq, f0]
        · simp only [Fr.at_set, Nat.reduceEqDiff, reduceIte, reduceCtorEq, f7]
        · simp only [Fr.at_set, Nat.reduceEqDiff, reduceIte, reduceCtorEq, f8]
        · simp only [Fr.at_set, Nat.reduceEqDiff, reduceIte, reduceCtorEq]; rfl
        · simp only [AH.get_up]; exact g
  rintro F h2 ⟨f0, q1, q2⟩
  have hnm := fun (h : AH) => nm_sh (mx := mx) s hs notL (by decide) (id := h2.next + 1) (h := h)
  cases c1 : nmB mx s notL with
  | false =>
    simp -implicitDefEqProofs only [wpC_seq, rowsA, if_true, if_false, opnd, ofVal, ofVal1, layArgs, Nat.reduceAdd, reduceIte, Nat.reduceEqDiff, reduceCtorEq, rowsB, cellsG, Nat.reduceMul, lt14, lt24, lt34, stR1, stR2, stR3, aop_mki, mki148, aop_panic, panO_if, goO_pan, up_up, up_set, nilO_ptr, fda_ptr o152_0, fda_ptr o152_1, fda_ptr o152_2, fda_ptr o152_3, loadO_one ag3 sz3, loadO_one ag9 sz9, loadO_one ag5 sz5, len_str u9, sz3, EndX_normal, EndX_ret, EndX_panic, KS_panic, KB_panic, KI_panic, outX_panic, KE_normal, KE_ret, KE_exit, KE_panic, f0, bd43_4]
    refine goO_shv (hnm _ (by simp only [AH.get_set, if_true]; rfl)) ?_
    simp -implicitDefEqProofs only [wpC_seq, rowsA, if_true, if_false, opnd, ofVal, ofVal1, layArgs, Nat.reduceAdd, reduceIte, Nat.reduceEqDiff, reduceCtorEq, rowsB, cellsG, Nat.reduceMul, lt14, lt24, lt34, stR1, stR2, stR3, aop_mki, mki148, aop_panic, panO_if, goO_pan, up_up, up_set, nilO_ptr, fda_ptr o152_0, fda_ptr o152_1, fda_ptr o152_2, fda_ptr o152_3, loadO_one ag3 sz3, loadO_one ag9 sz9, loadO_one ag5 sz5, len_str u9, sz3, EndX_normal, EndX_ret, EndX_panic, KS_panic, KB_panic, KI_panic, outX_panic, KE_normal, KE_ret, KE_exit, KE_panic, f0, c1]
    rw [ownB, c1]
    simp only [Bool.false_and, Bool.and_false]
  | true =>
    simp -implicitDefEqProofs only [wpC_seq, rowsA, if_true, if_false, opnd, ofVal, ofVal1, layArgs, Nat.reduceAdd, reduceIte, Nat.reduceEqDiff, reduceCtorEq, rowsB, cellsG, Nat.reduceMul, lt14, lt24, lt34, stR1, stR2, stR3, aop_mki, mki148, aop_panic, panO_if, goO_pan, up_up, up_set, nilO_ptr, fda_ptr o152_0, fda_ptr o152_1, fda_ptr o152_2, fda_ptr o152_3, loadO_one ag3 sz3, loadO_one ag9 sz9, loadO_one ag5 sz5, len_str u9, sz3, EndX_normal, EndX_ret, EndX_panic, KS_panic, KB_panic, KI_panic, outX_panic, KE_normal, KE_ret, KE_exit, KE_panic, f0, bd43_4]
    refine goO_shv (hnm _ (by simp only [AH.get_set, if_true]; rfl)) ?_
    simp -implicitDefEqProofs only [wpC_seq, rowsA, if_true, if_false, opnd, ofVal, ofVal1, layArgs, Nat.reduceAdd, reduceIte, Nat.reduceEqDiff, reduceCtorEq, rowsB, cellsG, Nat.reduceMul, lt14, lt24, lt34, stR1, stR2, stR3, aop_mki, mki148, aop_panic, panO_if, goO_pan, up_up, up_set, nilO_ptr, fda_ptr o152_0, fda_ptr o152_1, fda_ptr o152_2, fda_ptr o152_3, loadO_one ag3 sz3, loadO_one ag9 sz9, loadO_one ag5 sz5, len_str u9, sz3, EndX_normal, EndX_ret, EndX_panic, KS_panic, KB_panic, KI_panic, outX_panic, KE_normal, KE_ret, KE_exit, KE_panic, f0, c1, goO_known (scalar_c s)]
    rw [ownB, c1, q1, q2]
    simp only [Bool.true_and]
end Go.Proofs.YtcbngkmmmfaaoaaGreatDoor
/-
  SCHEMAS THAT MAY BE, Q1: of all of them.
-/
namespace Go.Proofs.YtcbngkmmmfaaoaaGreatDoor
open Go.RowKit Go.Lib Go.Ac
set_option linter.unusedSimpArgs false
set_option maxRecDepth 100000
variable {mx : Int}

/-- A row of things; a row of none may be none. -/
def RowR {α : Type} (f : α → List PV) (v : PV) (l : List α) : Prop := v = rowV f l ∨ (l = [] ∧ (v = .nls ∨ v = .els))
theorem RowR.clean {α : Type} {f : α → List PV} {v : PV} {l : List α} (h : RowR f v l) : v.clean = true := by
  rcases h with rfl | ⟨_, rfl | rfl⟩ <;> rfl
theorem len_els {t e : TypeId} (hu : Tryz.prog.underlying t = some (.slice e)) : lenO Tryz.prog [.els] [t] = some (.q (.int .i64 0)) := by simp [lenO, lenV, hu]
theorem lss00 : decide ((0 : Int) < 0) = false := rfl
theorem z41q : tyZero Tryz.prog 41 = some [.str [], .nls] := by kernel_rfl
theorem z45q : tyZero Tryz.prog 45 = some [.str [], .nls] := by kernel_rfl
theorem z33q : tyZero Tryz.prog 33 = some [.str [], .str [], .str [], .bool false, .str []] := by kernel_rfl
section
variable {ρ : Operand → PV} {h : AH} {fr : Nat} {d : Option Tmp} {ty : TypeId} {ps : String} {af : Array Edge} {gu : Option (Nat × Bool)}
theorem al41q : aop Tryz.prog ρ h fr ⟨d, .alloc 41, ty, ps, af, gu⟩ = some (.w (.ptr fr 2 0) fr (.cells 41 0 false [.str [], .nls])) := by
  rw [aop_alloc, z41q]; rfl
theorem al45q : aop Tryz.prog ρ h fr ⟨d, .alloc 45, ty, ps, af, gu⟩ = some (.w (.ptr fr 2 0) fr (.cells 45 0 false [.str [], .nls])) := by
  rw [aop_alloc, z45q]; rfl
theorem al33q : aop Tryz.prog ρ h fr ⟨d, .alloc 33, ty, ps, af, gu⟩ = some (.w (.ptr fr 5 0) fr (.cells 33 0 false [.str [], .str [], .str [], .bool false, .str []])) := by
  rw [aop_alloc, z33q]; rfl
end
def invAllF {α : Type} (f : α → List PV) (p : α → Bool) (l : List α) (g : PV) (k : Nat) (F : Fr) (_ : AH) : Prop := ∃ i : Nat, i + k = l.length ∧ F.at 1 = g ∧ F.at 7 = rowV f l ∧ F.at 8 = .int .i64 l.length ∧ F.at 9 = .int .i64 i ∧ (l.take i).all p = true
theorem all_take {α : Type} {p : α → Bool} {l : List α} {i : Nat} (hi : l.length ≤ i) (h : (l.take i).all p = true) : l.all p = true := by rwa [List.take_of_length_le hi] at h
theorem allS_c (p : List UInt8 → Bool) (l : List (List UInt8)) (hl : l.length ≤ 9223372036854775807) {v : PV} (hv : RowR strV v l) (kf : FuncId) (cap : List PV) (hcap : PV.cleans cap = true) (hp : ∀ o ∈ l, ∀ h fr, CR Tryz.prog (globM mx) md (.fn kf) (.str o :: cap) h fr (.val (.bool (p o)))) (h : AH) (fr : Nat) :
    CR Tryz.prog (globM mx) md (.fn 87) [v, .fn (.func kf) [] cap] h fr (.val (.bool (l.all p))) := by
  refine CR.plain (rs := [.tmp 4]) Tryz.func87 rfl rfl rfl rfl rfl (by simp [PV.cleans, PV.clean, hcap, hv.clean]) rfl ?_ h fr
  rcases hv with rfl | ⟨rfl, hv⟩
  rotate_left
  · have hlen : lenO Tryz.prog [v] [43] = some (.q (.int .i64 0)) := by
      rcases hv with rfl | rfl
      · exact len_nls u43
      · exact len_els u43
    simp -implicitDefEqProofs only [wpC_seq, rowsA, if_true, if_false, opnd, ofVal, ofVal1, layArgs, Nat.reduceAdd, reduceIte, Nat.reduceEqDiff, reduceCtorEq, rowsB, cellsG, Nat.reduceMul, hlen]
    refine wpC_loop (fun _ F _ => F.at 8 = .int .i64 0 ∧ F.at 9 = .int .i64 0) (k := 0) ⟨?_, ?_⟩ ?_
    · simp only [Fr.at_set, Nat.reduceEqDiff, reduceIte, reduceCtorEq]
    · simp only [Fr.at_set, Nat.reduceEqDiff, reduceIte, reduceCtorEq]
    rintro k F h' ⟨f8, f9⟩
    simp -implicitDefEqProofs only [wpC_seq, rowsA, if_true, if_false, opnd, ofVal, ofVal1, layArgs, Nat.reduceAdd, reduceIte, Nat.reduceEqDiff, reduceCtorEq, rowsB, cellsG, Nat.reduceMul, f8, f9, lss00]
  simp -implicitDefEqProofs only [wpC_seq, rowsA, if_true, if_false, opnd, ofVal, ofVal1, layArgs, Nat.reduceAdd, reduceIte, Nat.reduceEqDiff, reduceCtorEq, rowsB, cellsG, Nat.reduceMul, rowV, len_ro u43]
  refine wpC_loop (invAllF strV p l (.fn (.func kf) [] cap)) (k := l.length) ⟨0, by omega, ?_, ?_, ?_, ?_, rfl⟩ ?_
  · simp only [Fr.at_set, Nat.reduceEqDiff, reduceIte, reduceCtorEq]
  · simp only [Fr.at_set, Nat.reduceEqDiff, reduceIte, reduceCtorEq]; rfl
  · simp only [Fr.at_set, Nat.reduceEqDiff, reduceIte, reduceCtorEq]
  · simp only [Fr.at_set, Nat.reduceEqDiff, reduceIte, reduceCtorEq]; rfl
  rintro k F h' ⟨i, hi, f1, f7, f8, f9, hx⟩
  cases k with
  | zero =>
    have c1 : decide ((i : Int) < (l.length : Int)) = false := decide_eq_false (by omega)
    simp -implicitDefEqProofs only [wpC_seq, rowsA, if_true, if_false, opnd, ofVal, ofVal1, layArgs, Nat.reduceAdd, reduceIte, Nat.reduceEqDiff, reduceCtorEq, rowsB, cellsG, Nat.reduceMul, f1, f7, f8, f9, c1, all_take (by omega) hx]
  | succ k =>
    have c1 : decide ((i : Int) < (l.length : Int)) = true := decide_eq_true (by omega)
    obtain ⟨o, ho⟩ : ∃ o, l[i]? = some o := ⟨l[i], List.getElem?_eq_getElem (by omega)⟩
    obtain ⟨r, hr⟩ := flat_drop (f := strV) (z := 1) (fun _ => rfl) l i o ho
    have w := IntWalk.i64_in ((i : Int) + 1) (by omega)
    have hld : loadO Tryz.prog 9 (some (strV o ++ r)) = some (.q (.str o)) := loadO_one ag9 sz9
    have hpo' := hp o (List.mem_of_getElem? ho)
    cases hpo : p o with
    | true =>
      simp -implicitDefEqProofs only [wpC_seq, rowsA, if_true, if_false, opnd, ofVal, ofVal1, layArgs, Nat.reduceAdd, reduceIte, Nat.reduceEqDiff, reduceCtorEq, rowsB, cellsG, Nat.reduceMul, f1, f7, f8, f9, c1, rowV, ida_roN (n := l.length) (i := (i : Int)) u43 sz9 (by omega) (by omega), Int.toNat_natCast, hr, hld, goO_known hpo', hpo, w]
      refine ⟨k, by omega, i + 1, by omega, ?_, ?_, ?_, ?_, take_all ho hx hpo⟩
      · simp only [Fr.at_set, Nat.reduceEqDiff, reduceIte, reduceCtorEq, f1]
      · simp only [Fr.at_set, Nat.reduceEqDiff, reduceIte, reduceCtorEq, f7]
      · simp only [Fr.at_set, Nat.reduceEqDiff, reduceIte, reduceCtorEq, f8]
      · simp only [Fr.at_set, Nat.reduceEqDiff, reduceIte, reduceCtorEq]; rfl
    | false =>
      simp -implicitDefEqProofs only [wpC_seq, rowsA, if_true, if_false, opnd, ofVal, ofVal1, layArgs, Nat.reduceAdd, reduceIte, Nat.reduceEqDiff, reduceCtorEq, rowsB, cellsG, Nat.reduceMul, f1, f7, f8, f9, c1, rowV, ida_roN (n := l.length) (i := (i : Int)) u43 sz9 (by omega) (by omega), Int.toNat_natCast, hr, hld, goO_known hpo', hpo, all_false ho hpo]
theorem allO_c {α : Type} (f : α → List PV) (hf : ∀ x, (f x).length = 2) (hgo : ∀ x, (PV.agg (f x)).goes = true) (p : α → Bool) (l : List α) (hl : l.length ≤ 9223372036854775807) {v : PV} (hv : RowR f v l) (kf : FuncId) (cap : List PV) (hcap : PV.cleans cap = true) (hp : ∀ o ∈ l, ∀ h fr, CR Tryz.prog (globM mx) md (.fn kf) (.agg (f o) :: cap) h fr (.val (.bool (p o)))) (h : AH) (fr : Nat) :
    CR Tryz.prog (globM mx) md (.fn 78) [v, .fn (.func kf) [] cap] h fr (.val (.bool (l.all p))) := by
  refine CR.plain (rs := [.tmp 4]) Tryz.func78 rfl rfl rfl rfl rfl (by simp [PV.cleans, PV.clean, hcap, hv.clean]) rfl ?_ h fr
  rcases hv with rfl | ⟨rfl, hv⟩
  rotate_left
  · have hlen : lenO Tryz.prog [v] [22] = some (.q (.int .i64 0)) := by
      rcases hv with rfl | rfl
      · exact len_nls u22
      · exact len_els u22
    simp -implicitDefEqProofs only [wpC_seq, rowsA, if_true, if_false, opnd, ofVal, ofVal1, layArgs, Nat.reduceAdd, reduceIte, Nat.reduceEqDiff, reduceCtorEq, rowsB, cellsG, Nat.reduceMul, hlen]
    refine wpC_loop (fun _ F _ => F.at 8 = .int .i64 0 ∧ F.at 9 = .int .i64 0) (k := 0) ⟨?_, ?_⟩ ?_
    · simp only [Fr.at_set, Nat.reduceEqDiff, reduceIte, reduceCtorEq]
    · simp only [Fr.at_set, Nat.reduceEqDiff, reduceIte, reduceCtorEq]
    rintro k F h' ⟨f8, f9⟩
    simp -implicitDefEqProofs only [wpC_seq, rowsA, if_true, if_false, opnd, ofVal, ofVal1, layArgs, Nat.reduceAdd, reduceIte, Nat.reduceEqDiff, reduceCtorEq, rowsB, cellsG, Nat.reduceMul, f8, f9, lss00]
  simp -implicitDefEqProofs only [wpC_seq, rowsA, if_true, if_false, opnd, ofVal, ofVal1, layArgs, Nat.reduceAdd, reduceIte, Nat.reduceEqDiff, reduceCtorEq, rowsB, cellsG, Nat.reduceMul, rowV, len_ro u22]
  refine wpC_loop (invAllF f p l (.fn (.func kf) [] cap)) (k := l.length) ⟨0, by omega, ?_, ?_, ?_, ?_, rfl⟩ ?_
  · simp only [Fr.at_set, Nat.reduceEqDiff, reduceIte, reduceCtorEq]
  · simp only [Fr.at_set, Nat.reduceEqDiff, reduceIte, reduceCtorEq]; rfl
  · simp only [Fr.at_set, Nat.reduceEqDiff, reduceIte, reduceCtorEq]
  · simp only [Fr.at_set, Nat.reduceEqDiff, reduceIte, reduceCtorEq]; rfl
  rintro k F h' ⟨i, hi, f1, f7, f8, f9, hx⟩
  cases k with
  | zero =>
    have c1 : decide ((i : Int) < (l.length : Int)) = false := decide_eq_false (by omega)
    simp -implicitDefEqProofs only [wpC_seq, rowsA, if_true, if_false, opnd, ofVal, ofVal1, layArgs, Nat.reduceAdd, reduceIte, Nat.reduceEqDiff, reduceCtorEq, rowsB, cellsG, Nat.reduceMul, f1, f7, f8, f9, c1, all_take (by omega) hx]
  | succ k =>
    have c1 : decide ((i : Int) < (l.length : Int)) = true := decide_eq_true (by omega)
    obtain ⟨o, ho⟩ : ∃ o, l[i]? = some o := ⟨l[i], List.getElem?_eq_getElem (by omega)⟩
    obtain ⟨r, hr⟩ := flat_drop (f := f) (z := 2) (fun x => hf x) l i o ho
    have w := IntWalk.i64_in ((i : Int) + 1) (by omega)
    have hld : loadO Tryz.prog 41 (some (f o ++ r)) = some (.q (.agg (f o))) := by
      rw [load_agg ag41 sz41 (by rw [List.length_append, hf]; omega), List.take_left' (hf o)]
    have hld2 : loadO Tryz.prog 41 (some (f o)) = some (.q (.agg (f o))) := by
      rw [load_agg ag41 sz41 (by rw [hf]; omega), List.take_of_length_le (by rw [hf]; omega)]
    have hst : ∀ (id : Nat), stoG id 2 0 (.agg (f o)) 2 (some (.cells 41 0 false [.str [], .nls])) = some (.w .undef id (.cells 41 0 false (f o))) := fun id => stoG_all id 2 0 41 (.agg (f o)) [.str [], .nls] rfl (hf o) (hgo o)
    have hpo' := hp o (List.mem_of_getElem? ho)
    cases hpo : p o with
    | true =>
      simp -implicitDefEqProofs only [wpC_seq, rowsA, if_true, if_false, opnd, ofVal, ofVal1, layArgs, Nat.reduceAdd, reduceIte, Nat.reduceEqDiff, reduceCtorEq, rowsB, cellsG, Nat.reduceMul, f1, f7, f8, f9, c1, rowV, ida_roN (n := l.length) (i := (i : Int)) u22 sz41 (by omega) (by omega), Int.toNat_natCast, hr, hld, goO_known hpo', hpo, w, al41q, sz41, hst, hld2, hf]
      refine ⟨k, by omega, i + 1, by omega, ?_, ?_, ?_, ?_, take_all ho hx hpo⟩
      · simp only [Fr.at_set, Nat.reduceEqDiff, reduceIte, reduceCtorEq, f1]
      · simp only [Fr.at_set, Nat.reduceEqDiff, reduceIte, reduceCtorEq, f7]
      · simp only [Fr.at_set, Nat.reduceEqDiff, reduceIte, reduceCtorEq, f8]
      · simp only [Fr.at_set, Nat.reduceEqDiff, reduceIte, reduceCtorEq]; rfl
    | false =>
      simp -implicitDefEqProofs only [wpC_seq, rowsA, if_true, if_false, opnd, ofVal, ofVal1, layArgs, Nat.reduceAdd, reduceIte, Nat.reduceEqDiff, reduceCtorEq, rowsB, cellsG, Nat.reduceMul, f1, f7, f8, f9, c1, rowV, ida_roN (n := l.length) (i := (i : Int)) u22 sz41 (by omega) (by omega), Int.toNat_natCast, hr, hld, goO_known hpo', hpo, all_false ho hpo, al41q, sz41, hst, hld2, hf]
theorem allE_c {α : Type} (f : α → List PV) (hf : ∀ x, (f x).length = 2) (hgo : ∀ x, (PV.agg (f x)).goes = true) (p : α → Bool) (l : List α) (hl : l.length ≤ 9223372036854775807) {v : PV} (hv : RowR f v l) (kf : FuncId) (cap : List PV) (hcap : PV.cleans cap = true) (hp : ∀ o ∈ l, ∀ h fr, CR Tryz.prog (globM mx) md (.fn kf) (.agg (f o) :: cap) h fr (.val (.bool (p o)))) (h : AH) (fr : Nat) :
    CR Tryz.prog (globM mx) md (.fn 80) [v, .fn (.func kf) [] cap] h fr (.val (.bool (l.all p))) := by
  refine CR.plain (rs := [.tmp 4]) Tryz.func80 rfl rfl rfl rfl rfl (by simp [PV.cleans, PV.clean, hcap, hv.clean]) rfl ?_ h fr
  rcases hv with rfl | ⟨rfl, hv⟩
  rotate_left
  · have hlen : lenO Tryz.prog [v] [23] = some (.q (.int .i64 0)) := by
      rcases hv with rfl | rfl
      · exact len_nls u23
      · exact len_els u23
    simp -implicitDefEqProofs only [wpC_seq, rowsA, if_true, if_false, opnd, ofVal, ofVal1, layArgs, Nat.reduceAdd, reduceIte, Nat.reduceEqDiff, reduceCtorEq, rowsB, cellsG, Nat.reduceMul, hlen]
    refine wpC_loop (fun _ F _ => F.at 8 = .int .i64 0 ∧ F.at 9 = .int .i64 0) (k := 0) ⟨?_, ?_⟩ ?_
    · simp only [Fr.at_set, Nat.reduceEqDiff, reduceIte, reduceCtorEq]
    · simp only [Fr.at_set, Nat.reduceEqDiff, reduceIte, reduceCtorEq]
    rintro k F h' ⟨f8, f9⟩
    simp -implicitDefEqProofs only [wpC_seq, rowsA, if_true, if_false, opnd, ofVal, ofVal1, layArgs, Nat.reduceAdd, reduceIte, Nat.reduceEqDiff, reduceCtorEq, rowsB, cellsG, Nat.reduceMul, f8, f9, lss00]
  simp -implicitDefEqProofs only [wpC_seq, rowsA, if_true, if_false, opnd, ofVal, ofVal1, layArgs, Nat.reduceAdd, reduceIte, Nat.reduceEqDiff, reduceCtorEq, rowsB, cellsG, Nat.reduceMul, rowV, len_ro u23]
  refine wpC_loop (invAllF f p l (.fn (.func kf) [] cap)) (k := l.length) ⟨0, by omega, ?_, ?_, ?_, ?_, rfl⟩ ?_
  · simp only [Fr.at_set, Nat.reduceEqDiff, reduceIte, reduceCtorEq]
  · simp only [Fr.at_set, Nat.reduceEqDiff, reduceIte, reduceCtorEq]; rfl
  · simp only [Fr.at_set, Nat.reduceEqDiff, reduceIte, reduceCtorEq]
  · simp only [Fr.at_set, Nat.reduceEqDiff, reduceIte, reduceCtorEq]; rfl
  rintro k F h' ⟨i, hi, f1, f7, f8, f9, hx⟩
  cases k with
  | zero =>
    have c1 : decide ((i : Int) < (l.length : Int)) = false := decide_eq_false (by omega)
    simp -implicitDefEqProofs only [wpC_seq, rowsA, if_true, if_false, opnd, ofVal, ofVal1, layArgs, Nat.reduceAdd, reduceIte, Nat.reduceEqDiff, reduceCtorEq, rowsB, cellsG, Nat.reduceMul, f1, f7, f8, f9, c1, all_take (by omega) hx]
  | succ k =>
    have c1 : decide ((i : Int) < (l.length : Int)) = true := decide_eq_true (by omega)
    obtain ⟨o, ho⟩ : ∃ o, l[i]? = some o := ⟨l[i], List.getElem?_eq_getElem (by omega)⟩
    obtain ⟨r, hr⟩ := flat_drop (f := f) (z := 2) (fun x => hf x) l i o ho
    have w := IntWalk.i64_in ((i : Int) + 1) (by omega)
    have hld : loadO Tryz.prog 45 (some (f o ++ r)) = some (.q (.agg (f o))) := by
      rw [load_agg ag45 sz45 (by rw [List.length_append, hf]; omega), List.take_left' (hf o)]
    have hld2 : loadO Tryz.prog 45 (some (f o)) = some (.q (.agg (f o))) := by
      rw [load_agg ag45 sz45 (by rw [hf]; omega), List.take_of_length_le (by rw [hf]; omega)]
    have hst : ∀ (id : Nat), stoG id 2 0 (.agg (f o)) 2 (some (.cells 45 0 false [.str [], .nls])) = some (.w .undef id (.cells 45 0 false (f o))) := fun id => stoG_all id 2 0 45 (.agg (f o)) [.str [], .nls] rfl (hf o) (hgo o)
    have hpo' := hp o (List.mem_of_getElem? ho)
    cases hpo : p o with
    | true =>
      simp -implicitDefEqProofs only [wpC_seq, rowsA, if_true, if_false, opnd, ofVal, ofVal1, layArgs, Nat.reduceAdd, reduceIte, Nat.reduceEqDiff, reduceCtorEq, rowsB, cellsG, Nat.reduceMul, f1, f7, f8, f9, c1, rowV, ida_roN (n := l.length) (i := (i : Int)) u23 sz45 (by omega) (by omega), Int.toNat_natCast, hr, hld, goO_known hpo', hpo, w, al45q, sz45, hst, hld2, hf]
      refine ⟨k, by omega, i + 1, by omega, ?_, ?_, ?_, ?_, take_all ho hx hpo⟩
      · simp only [Fr.at_set, Nat.reduceEqDiff, reduceIte, reduceCtorEq, f1]
      · simp only [Fr.at_set, Nat.reduceEqDiff, reduceIte, reduceCtorEq, f7]
      · simp only [Fr.at_set, Nat.reduceEqDiff, reduceIte, reduceCtorEq, f8]
      · simp only [Fr.at_set, Nat.reduceEqDiff, reduceIte, reduceCtorEq]; rfl
    | false =>
      simp -implicitDefEqProofs only [wpC_seq, rowsA, if_true, if_false, opnd, ofVal, ofVal1, layArgs, Nat.reduceAdd, reduceIte, Nat.reduceEqDiff, reduceCtorEq, rowsB, cellsG, Nat.reduceMul, f1, f7, f8, f9, c1, rowV, ida_roN (n := l.length) (i := (i : Int)) u23 sz45 (by omega) (by omega), Int.toNat_natCast, hr, hld, goO_known hpo', hpo, all_false ho hpo, al45q, sz45, hst, hld2, hf]
theorem allF_c {α : Type} (f : α → List PV) (hf : ∀ x, (f x).length = 5) (hgo : ∀ x, (PV.agg (f x)).goes = true) (p : α → Bool) (l : List α) (hl : l.length ≤ 9223372036854775807) {v : PV} (hv : RowR f v l) (kf : FuncId) (cap : List PV) (hcap : PV.cleans cap = true) (hp : ∀ o ∈ l, ∀ h fr, CR Tryz.prog (globM mx) md (.fn kf) (.agg (f o) :: cap) h fr (.val (.bool (p o)))) (h : AH) (fr : Nat) :
    CR Tryz.prog (globM mx) md (.fn 99) [v, .fn (.func kf) [] cap] h fr (.val (.bool (l.all p))) := by
  refine CR.plain (rs := [.tmp 4]) Tryz.func99 rfl rfl rfl rfl rfl (by simp [PV.cleans, PV.clean, hcap, hv.clean]) rfl ?_ h fr
  rcases hv with rfl | ⟨rfl, hv⟩
  rotate_left
  · have hlen : lenO Tryz.prog [v] [39] = some (.q (.int .i64 0)) := by
      rcases hv with rfl | rfl
      · exact len_nls u39
      · exact len_els u39
    simp -implicitDefEqProofs only [wpC_seq, rowsA, if_true, if_false, opnd, ofVal, ofVal1, layArgs, Nat.reduceAdd, reduceIte, Nat.reduceEqDiff, reduceCtorEq, rowsB, cellsG, Nat.reduceMul, hlen]
    refine wpC_loop (fun _ F _ => F.at 8 = .int .i64 0 ∧ F.at 9 = .int .i64 0) (k := 0) ⟨?_, ?_⟩ ?_
    · simp only [Fr.at_set, Nat.reduceEqDiff, reduceIte, reduceCtorEq]
    · simp only [Fr.at_set, Nat.reduceEqDiff, reduceIte, reduceCtorEq]
    rintro k F h' ⟨f8, f9⟩
    simp -implicitDefEqProofs only [wpC_seq, rowsA, if_true, if_false, opnd, ofVal, ofVal1, layArgs, Nat.reduceAdd, reduceIte, Nat.reduceEqDiff, reduceCtorEq, rowsB, cellsG, Nat.reduceMul, f8, f9, lss00]
  simp -implicitDefEqProofs only [wpC_seq, rowsA, if_true, if_false, opnd, ofVal, ofVal1, layArgs, Nat.reduceAdd, reduceIte, Nat.reduceEqDiff, reduceCtorEq, rowsB, cellsG, Nat.reduceMul, rowV, len_ro u39]
  refine wpC_loop (invAllF f p l (.fn (.func kf) [] cap)) (k := l.length) ⟨0, by omega, ?_, ?_, ?_, ?_, rfl⟩ ?_
  · simp only [Fr.at_set, Nat.reduceEqDiff, reduceIte, reduceCtorEq]
  · simp only [Fr.at_set, Nat.reduceEqDiff, reduceIte, reduceCtorEq]; rfl
  · simp only [Fr.at_set, Nat.reduceEqDiff, reduceIte, reduceCtorEq]
  · simp only [Fr.at_set, Nat.reduceEqDiff, reduceIte, reduceCtorEq]; rfl
  rintro k F h' ⟨i, hi, f1, f7, f8, f9, hx⟩
  cases k with
  | zero =>
    have c1 : decide ((i : Int) < (l.length : Int)) = false := decide_eq_false (by omega)
    simp -implicitDefEqProofs only [wpC_seq, rowsA, if_true, if_false, opnd, ofVal, ofVal1, layArgs, Nat.reduceAdd, reduceIte, Nat.reduceEqDiff, reduceCtorEq, rowsB, cellsG, Nat.reduceMul, f1, f7, f8, f9, c1, all_take (by omega) hx]
  | succ k =>
    have c1 : decide ((i : Int) < (l.length : Int)) = true := decide_eq_true (by omega)
    obtain ⟨o, ho⟩ : ∃ o, l[i]? = some o := ⟨l[i], List.getElem?_eq_getElem (by omega)⟩
    obtain ⟨r, hr⟩ := flat_drop (f := f) (z := 5) (fun x => hf x) l i o ho
    have w := IntWalk.i64_in ((i : Int) + 1) (by omega)
    have hld : loadO Tryz.prog 33 (some (f o ++ r)) = some (.q (.agg (f o))) := by
      rw [load_agg ag33 sz33 (by rw [List.length_append, hf]; omega), List.take_left' (hf o)]
    have hld2 : loadO Tryz.prog 33 (some (f o)) = some (.q (.agg (f o))) := by
      rw [load_agg ag33 sz33 (by rw [hf]; omega), List.take_of_length_le (by rw [hf]; omega)]
    have hst : ∀ (id : Nat), stoG id 5 0 (.agg (f o)) 5 (some (.cells 33 0 false [.str [], .str [], .str [], .bool false, .str []])) = some (.w .undef id (.cells 33 0 false (f o))) := fun id => stoG_all id 5 0 33 (.agg (f o)) [.str [], .str [], .str [], .bool false, .str []] rfl (hf o) (hgo o)
    have hpo' := hp o (List.mem_of_getElem? ho)
    cases hpo : p o with
    | true =>
      simp -implicitDefEqProofs only [wpC_seq, rowsA, if_true, if_false, opnd, ofVal, ofVal1, layArgs, Nat.reduceAdd, reduceIte, Nat.reduceEqDiff, reduceCtorEq, rowsB, cellsG, Nat.reduceMul, f1, f7, f8, f9, c1, rowV, ida_roN (n := l.length) (i := (i : Int)) u39 sz33 (by omega) (by omega), Int.toNat_natCast, hr, hld, goO_known hpo', hpo, w, al33q, sz33, hst, hld2, hf]
      refine ⟨k, by omega, i + 1, by omega, ?_, ?_, ?_, ?_, take_all ho hx hpo⟩
      · simp only [Fr.at_set, Nat.reduceEqDiff, reduceIte, reduceCtorEq, f1]
      · simp only [Fr.at_set, Nat.reduceEqDiff, reduceIte, reduceCtorEq, f7]
      · simp only [Fr.at_set, Nat.reduceEqDiff, reduceIte, reduceCtorEq, f8]
      · simp only [Fr.at_set, Nat.reduceEqDiff, reduceIte, reduceCtorEq]; rfl
    | false =>
      simp -implicitDefEqProofs only [wpC_seq, rowsA, if_true, if_false, opnd, ofVal, ofVal1, layArgs, Nat.reduceAdd, reduceIte, Nat.reduceEqDiff, reduceCtorEq, rowsB, cellsG, Nat.reduceMul, f1, f7, f8, f9, c1, rowV, ida_roN (n := l.length) (i := (i : Int)) u39 sz33 (by omega) (by omega), Int.toNat_natCast, hr, hld, goO_known hpo', hpo, all_false ho hpo, al33q, sz33, hst, hld2, hf]
end Go.Proofs.YtcbngkmmmfaaoaaGreatDoor
/-
  SCHEMA AND GEN, S3: where fields lead, and what leads back.
-/
namespace Go.Proofs.YtcbngkmmmfaaoaaGreatDoor
open Go.RowKit Go.Lib Go.Ac
set_option linter.unusedSimpArgs false
set_option maxRecDepth 100000
variable {mx : Int}

def objAt (s : Sc) (x : List UInt8) : Int := idx (fun o => decide (o.n = x)) s.os 0
def enmAt (s : Sc) (x : List UInt8) : Int := idx (fun o => decide (o.n = x)) s.es 0
def placeAt (o : Ob) (x : List UInt8) : Int := idx (fun o => decide (o.n = x)) o.fs 0
def propB (s : Sc) (f : Fld) : Bool := scalar f.t || decide (0 ≤ enmAt s f.t)
def edgeOf (s : Sc) (f : Fld) : Int := if propB s f then -1 else objAt s f.t
/-- As many as a program has room for. -/
def Sc.fits (s : Sc) : Prop := s.os.length ≤ 9223372036854775807 ∧ s.es.length ≤ 9223372036854775807 ∧ ∀ o ∈ s.os, o.fs.length ≤ 9223372036854775807
theorem obj_c {s : Sc} (hs : s.fits) (x : List UInt8) (h : AH) (fr : Nat) : CR Tryz.prog (globM mx) md (.fn 17) [.agg s.pv, .str x] h fr (.val (.int .i64 (objAt s x))) := object_c s hs.1 x h fr
theorem refObj_c {s : Sc} (hs : s.fits) (x : List UInt8) (h : AH) (fr : Nat) : CR Tryz.prog (globM mx) md (.fn 18) [.agg s.pv, .str x] h fr (.val (.int .i64 (objAt s x))) := refObject_c s hs.1 x h fr
theorem enm_c {s : Sc} (hs : s.fits) (x : List UInt8) (h : AH) (fr : Nat) : CR Tryz.prog (globM mx) md (.fn 19) [.agg s.pv, .str x] h fr (.val (.int .i64 (enmAt s x))) := enum_c s hs.2.1 x h fr
theorem refEnm_c {s : Sc} (hs : s.fits) (x : List UInt8) (h : AH) (fr : Nat) : CR Tryz.prog (globM mx) md (.fn 20) [.agg s.pv, .str x] h fr (.val (.int .i64 (enmAt s x))) := refEnum_c s hs.2.1 x h fr

theorem prop_c {s : Sc} (hs : s.fits) (f : Fld) (h : AH) (fr : Nat) : CR Tryz.prog (globM mx) md (.fn 57) [.agg s.pv, .agg f.pv] h fr (.val (.bool (propB s f))) := by
  refine CR.plain (rs := [.tmp 4]) Tryz.func57 rfl rfl rfl rfl rfl (by simp [PV.cleans, PV.clean, Sc.cl, Fld.cl]) rfl ?_ h fr
  cases c1 : scalar f.t with
  | true =>
    simp -implicitDefEqProofs only [wpC_seq, rowsA, if_true, if_false, opnd, ofVal, ofVal1, layArgs, Nat.reduceAdd, reduceIte, Nat.reduceEqDiff, reduceCtorEq, rowsB, cellsG, Nat.reduceMul, Fld.pv, fda_ptr o33_1, fda_ptr o31_0, loadO_one ag9 sz9, goO_known (refScalar_c f.t), c1]
    simp [propB, c1]
  | false =>
    simp -implicitDefEqProofs only [wpC_seq, rowsA, if_true, if_false, opnd, ofVal, ofVal1, layArgs, Nat.reduceAdd, reduceIte, Nat.reduceEqDiff, reduceCtorEq, rowsB, cellsG, Nat.reduceMul, Fld.pv, fda_ptr o33_1, fda_ptr o31_0, loadO_one ag9 sz9, goO_known (refScalar_c f.t), c1, ld25 s, goO_known (refEnm_c hs f.t)]
    simp [propB, c1]
theorem edge_c {s : Sc} (hs : s.fits) (f : Fld) (h : AH) (fr : Nat) : CR Tryz.prog (globM mx) md (.fn 23) [.agg s.pv, .agg f.pv] h fr (.val (.int .i64 (edgeOf s f))) := by
  refine CR.plain (rs := [.tmp 4]) Tryz.func23 rfl rfl rfl rfl rfl (by simp [PV.cleans, PV.clean, Sc.cl, Fld.cl]) rfl ?_ h fr
  cases c1 : scalar f.t with
  | true =>
    simp -implicitDefEqProofs only [wpC_seq, rowsA, if_true, if_false, opnd, ofVal, ofVal1, layArgs, Nat.reduceAdd, reduceIte, Nat.reduceEqDiff, reduceCtorEq, rowsB, cellsG, Nat.reduceMul, Fld.pv, fda_ptr o33_1, fda_ptr o31_0, loadO_one ag9 sz9, goO_known (scalar_c f.t), c1]
    simp [edgeOf, propB, c1]
  | false =>
    by_cases c2 : 0 ≤ enmAt s f.t
    · simp -implicitDefEqProofs only [wpC_seq, rowsA, if_true, if_false, opnd, ofVal, ofVal1, layArgs, Nat.reduceAdd, reduceIte, Nat.reduceEqDiff, reduceCtorEq, rowsB, cellsG, Nat.reduceMul, Fld.pv, fda_ptr o33_1, fda_ptr o31_0, loadO_one ag9 sz9, goO_known (scalar_c f.t), c1, ld25 s, goO_known (enm_c hs f.t), c2]
      simp [edgeOf, propB, c1, c2]
    · simp -implicitDefEqProofs only [wpC_seq, rowsA, if_true, if_false, opnd, ofVal, ofVal1, layArgs, Nat.reduceAdd, reduceIte, Nat.reduceEqDiff, reduceCtorEq, rowsB, cellsG, Nat.reduceMul, Fld.pv, fda_ptr o33_1, fda_ptr o31_0, loadO_one ag9 sz9, goO_known (scalar_c f.t), c1, ld25 s, goO_known (enm_c hs f.t), c2, goO_known (obj_c hs f.t)]
      simp [edgeOf, propB, c1, c2]
theorem refEdge_c {s : Sc} (hs : s.fits) (f : Fld) (h : AH) (fr : Nat) : CR Tryz.prog (globM mx) md (.fn 24) [.agg s.pv, .agg f.pv] h fr (.val (.int .i64 (edgeOf s f))) := by
  refine CR.plain (rs := [.tmp 4]) Tryz.func24 rfl rfl rfl rfl rfl (by simp [PV.cleans, PV.clean, Sc.cl, Fld.cl]) rfl ?_ h fr
  cases c1 : propB s f with
  | true =>
    simp -implicitDefEqProofs only [wpC_seq, rowsA, if_true, if_false, opnd, ofVal, ofVal1, layArgs, Nat.reduceAdd, reduceIte, Nat.reduceEqDiff, reduceCtorEq, rowsB, cellsG, Nat.reduceMul, ld25 s, ld33 f, goO_known (prop_c hs f), c1]
    simp [edgeOf, c1]
  | false =>
    simp -implicitDefEqProofs only [wpC_seq, rowsA, if_true, if_false, opnd, ofVal, ofVal1, layArgs, Nat.reduceAdd, reduceIte, Nat.reduceEqDiff, reduceCtorEq, rowsB, cellsG, Nat.reduceMul, ld25 s, ld33 f, goO_known (prop_c hs f), c1, fda_ptr o33_1, fda_ptr o31_0]
    simp -implicitDefEqProofs only [wpC_seq, rowsA, if_true, if_false, opnd, ofVal, ofVal1, layArgs, Nat.reduceAdd, reduceIte, Nat.reduceEqDiff, reduceCtorEq, rowsB, cellsG, Nat.reduceMul, Fld.pv, ld25 s, fda_ptr o33_1, fda_ptr o31_0, loadO_one ag9 sz9, goO_known (refObj_c hs f.t)]
    simp [edgeOf, c1]
end Go.Proofs.YtcbngkmmmfaaoaaGreatDoor
/-
  SCHEMAS THAT MAY BE, Q2: of all fields; what each of them asks for.
-/
namespace Go.Proofs.YtcbngkmmmfaaoaaGreatDoor
open Go.RowKit Go.Lib Go.Ac
set_option linter.unusedSimpArgs false
set_option maxRecDepth 100000
variable {mx : Int}

theorem Ob.goes (o : Ob) : (PV.agg o.pv).goes = true := rfl
theorem En.goes (o : En) : (PV.agg o.pv).goes = true := rfl
theorem Fld.goes (o : Fld) : (PV.agg o.pv).goes = true := rfl
/-- A schema's cells; a row of no enums may be none. -/
def scV (s : Sc) (ve : PV) : List PV := [rowV Ob.pv s.os, ve]
theorem ld25v (s : Sc) {ve : PV} : loadO Tryz.prog 25 (some (scV s ve)) = some (.q (.agg (scV s ve))) := load_agg (c := scV s ve) ag25 sz25 (Nat.le_refl 2)
theorem scV_clean {s : Sc} {ve : PV} (hv : RowR En.pv ve s.es) : PV.cleans (scV s ve) = true := by simp [scV, PV.cleans, hv.clean]; rfl
/-! ### Functions that hold a number -/
theorem frz_fn1 {id n sz : Nat} {E : TypeId} {fz : Bool} {c : List PV} {h : AH} (k : FuncId) (hg : h.get id = some (.cells E sz fz c)) (hc : c.length = n) (hcl : PV.cleans c = true) : frz 100 (.fn (.func k) [] [.ptr id n 0]) h = some (.fn (.func k) [] [.rop c], h.set id (.cells E sz true c)) := by
  have := frz_cap100 k hg hc hcl
  exact this
theorem frz_fn2D {dd id n sz : Nat} {E : TypeId} {fz : Bool} {c d : List PV} {h : AH} (k : FuncId) (hg : h.get id = some (.cells E sz fz c)) (hc : c.length = n) (hcl : PV.cleans c = true) : frz (dd + 2) (.fn (.func k) [] [.rop d, .ptr id n 0]) h = some (.fn (.func k) [] [.rop d, .rop c], h.set id (.cells E sz true c)) := by
  have e1 : frz (dd + 1) (.rop d) h = some (.rop d, h) := frz_clean h rfl
  have e2 : frz (dd + 1) (.ptr id n 0) h = some (.rop c, h.set id (.cells E sz true c)) := by
    have := frz_ptr (dd := dd) (off := 0) hg hc hcl
    simpa using this
  rw [frz, if_neg (by simp [PV.clean, PV.cleans])]
  simp only [frzL, e1, e2]
theorem frz_fn2 {id n sz : Nat} {E : TypeId} {fz : Bool} {c d : List PV} {h : AH} (k : FuncId) (hg : h.get id = some (.cells E sz fz c)) (hc : c.length = n) (hcl : PV.cleans c = true) : frz 100 (.fn (.func k) [] [.rop d, .ptr id n 0]) h = some (.fn (.func k) [] [.rop d, .rop c], h.set id (.cells E sz true c)) := frz_fn2D (dd := 98) k hg hc hcl
theorem boxO_fn (fr : Nat) (t : TypeId) (k : FuncId) (cap : List PV) : boxO fr t (.fn (.func k) [] cap) = some (.w (.ptr fr 1 0) fr (.cells t 0 false [.fn (.func k) [] cap])) := rfl
theorem allO_fz {os : List Ob} (hl : os.length ≤ 9223372036854775807) (p : Ob → Bool) {id n sz : Nat} {E : TypeId} {fz : Bool} {c : List PV} {h : AH} (k : FuncId) (hg : h.get id = some (.cells E sz fz c)) (hc : c.length = n) (hcl : PV.cleans c = true)
    (hp : ∀ o ∈ os, ∀ h fr, CR Tryz.prog (globM mx) md (.fn k) [.agg o.pv, .rop c] h fr (.val (.bool (p o)))) (fr : Nat) : CR Tryz.prog (globM mx) md (.fn 78) [rowV Ob.pv os, .fn (.func k) [] [.ptr id n 0]] h fr (.sh (.bool (os.all p)) (h.set id (.cells E sz true c))) := by
  refine CR.viaFrz (args' := [rowV Ob.pv os, .fn (.func k) [] [.rop c]]) Tryz.func78 rfl rfl rfl rfl ?_ rfl (fun h fr => allO_c Ob.pv (fun _ => rfl) Ob.goes p os hl (.inl rfl) k [.rop c] rfl hp h fr) fr
  simp only [frzL, frz_clean h (show (rowV Ob.pv os).clean = true from rfl), frz_fn1 k hg hc hcl]
theorem allF_fz {fs : List Fld} (hl : fs.length ≤ 9223372036854775807) (p : Fld → Bool) {id n sz : Nat} {E : TypeId} {fz : Bool} {c d : List PV} {h : AH} (k : FuncId) (hg : h.get id = some (.cells E sz fz c)) (hc : c.length = n) (hcl : PV.cleans c = true)
    (hp : ∀ o ∈ fs, ∀ h fr, CR Tryz.prog (globM mx) md (.fn k) [.agg o.pv, .rop d, .rop c] h fr (.val (.bool (p o)))) (fr : Nat) : CR Tryz.prog (globM mx) md (.fn 99) [rowV Fld.pv fs, .fn (.func k) [] [.rop d, .ptr id n 0]] h fr (.sh (.bool (fs.all p)) (h.set id (.cells E sz true c))) := by
  refine CR.viaFrz (args' := [rowV Fld.pv fs, .fn (.func k) [] [.rop d, .rop c]]) Tryz.func99 rfl rfl rfl rfl ?_ rfl (fun h fr => allF_c Fld.pv (fun _ => rfl) Fld.goes p fs hl (.inl rfl) k [.rop d, .rop c] rfl hp h fr) fr
  simp only [frzL, frz_clean h (show (rowV Fld.pv fs).clean = true from rfl), frz_fn2 k hg hc hcl]
/-! ### Of all fields -/
theorem ag69 : tyAgg Tryz.prog 69 = some false := by kernel_rfl
theorem sz69 : tySz Tryz.prog 69 = some 1 := by kernel_rfl
section
variable {kh : FuncId} {ch : List PV} {q : Ob → Fld → Bool}
theorem fields3_c (hch : PV.cleans ch = true) (o : Ob) (f : Fld) (hq : ∀ h fr, CR Tryz.prog (globM mx) md (.fn kh) (.agg o.pv :: .agg f.pv :: ch) h fr (.val (.bool (q o f)))) (h : AH) (fr : Nat) :
    CR Tryz.prog (globM mx) md (.fn 100) [.agg f.pv, .rop [.fn (.func kh) [] ch], .rop o.pv] h fr (.val (.bool (q o f))) := by
  refine CR.plain (rs := [.tmp 4]) Tryz.func100 rfl rfl rfl rfl rfl rfl rfl ?_ h fr
  simp -implicitDefEqProofs only [wpC_seq, rowsA, if_true, if_false, opnd, ofVal, ofVal1, layArgs, Nat.reduceAdd, reduceIte, Nat.reduceEqDiff, reduceCtorEq, rowsB, cellsG, Nat.reduceMul, loadO_one ag69 sz69, ld41, ld33, Fld.len, Ob.len, goO_known hq]
theorem fields2_c (hch : PV.cleans ch = true) (o : Ob) (hl : o.fs.length ≤ 9223372036854775807) (hq : ∀ f ∈ o.fs, ∀ h fr, CR Tryz.prog (globM mx) md (.fn kh) (.agg o.pv :: .agg f.pv :: ch) h fr (.val (.bool (q o f)))) (h : AH) (fr : Nat) :
    CR Tryz.prog (globM mx) md (.fn 98) [.agg o.pv, .rop [.fn (.func kh) [] ch]] h fr (.val (.bool (o.fs.all (q o)))) := by
  refine CR.plain (rs := [.tmp 3]) Tryz.func98 rfl rfl rfl rfl rfl rfl rfl ?_ h fr
  simp -implicitDefEqProofs only [wpC_seq, rowsA, if_true, if_false, opnd, ofVal, ofVal1, layArgs, Nat.reduceAdd, reduceIte, Nat.reduceEqDiff, reduceCtorEq, rowsB, cellsG, Nat.reduceMul, Sc.len, Ob.len, En.len, Fld.len, fda_ptr o25_0, fda_ptr o25_1, fda_ptr o33_0, fda_ptr o33_1, fda_ptr o33_2, fda_ptr o33_3, fda_ptr o31_0, fda_ptr o31_1, fda_ptr o41_0, fda_ptr o41_1, fda_ptr o45_0, fda_ptr o45_1, fda_rop o25_0, fda_rop o25_1, fda_rop o33_0, fda_rop o33_1, fda_rop o33_2, fda_rop o33_3, fda_rop o31_0, fda_rop o31_1, fda_rop o41_0, fda_rop o41_1, fda_rop o45_0, fda_rop o45_1,
    ld25, ld33, ld41, ld45, ld33r, ld41r, ld45r, ld22, ld23, ld9o, ld9or, ld39o, ld39or, ld9e, ld9er, ld43e, ld43er, ld9f0, ld9f0r, ld9f1, ld9f1r, ld9f2, ld9f2r, ld9f3, ld9f3r, ld9f4, ld9f4r, ld31f, ln22, ln23, ln39, ln43, List.drop_drop]
  rw [goO_shared (allF_fz hl (q o) (id := 0) (n := 2) (sz := 0) (E := 41) (fz := false) (c := o.pv) 100 (by simp only [AH.get_set, AH.get_up, if_true]) rfl (Ob.cl o) (fun f hf h fr => fields3_c hch o f (hq f hf) h fr))]
  simp -implicitDefEqProofs only [wpC_seq, rowsA, if_true, if_false, opnd, ofVal, ofVal1, layArgs, Nat.reduceAdd, reduceIte, Nat.reduceEqDiff, reduceCtorEq, rowsB, cellsG, Nat.reduceMul]
theorem fields1_c (hch : PV.cleans ch = true) {s : Sc} {ve : PV} (hv : RowR En.pv ve s.es) (hs : s.fits) (hq : ∀ o ∈ s.os, ∀ f ∈ o.fs, ∀ h fr, CR Tryz.prog (globM mx) md (.fn kh) (.agg o.pv :: .agg f.pv :: ch) h fr (.val (.bool (q o f)))) (h : AH) (fr : Nat) :
    CR Tryz.prog (globM mx) md (.fn 42) [.agg (scV s ve), .fn (.func kh) [] ch] h fr (.val (.bool (s.os.all fun o => o.fs.all (q o)))) := by
  refine CR.plain (rs := [.tmp 4]) Tryz.func42 rfl rfl rfl rfl rfl (by simp [PV.cleans, PV.clean, scV_clean hv, hch]) rfl ?_ h fr
  simp -implicitDefEqProofs only [wpC_seq, rowsA, if_true, if_false, opnd, ofVal, ofVal1, layArgs, Nat.reduceAdd, reduceIte, Nat.reduceEqDiff, reduceCtorEq, rowsB, cellsG, Nat.reduceMul, boxO_fn, scV, fda_ptr o25_0, loadO_one ag22 sz22]
  rw [goO_shared (allO_fz hs.1 (fun o => o.fs.all (q o)) (id := 1) (n := 1) (sz := 0) (E := 69) (fz := false) (c := [.fn (.func kh) [] ch]) 98 (by simp only [AH.get_set, AH.get_up, Nat.reduceEqDiff, if_false, if_true]) rfl (by simp [PV.cleans, PV.clean, hch]) (fun o ho h fr => fields2_c hch o (hs.2.2 o ho) (hq o ho) h fr))]
  simp -implicitDefEqProofs only [wpC_seq, rowsA, if_true, if_false, opnd, ofVal, ofVal1, layArgs, Nat.reduceAdd, reduceIte, Nat.reduceEqDiff, reduceCtorEq, rowsB, cellsG, Nat.reduceMul]
/-- So, the function holding a schema of the caller's. -/
theorem fields_sh {s s' : Sc} {ve ve' : PV} (hv : RowR En.pv ve s.es) (hs : s.fits) (hc : PV.cleans (scV s' ve') = true) {id : Nat} {fz : Bool} {h : AH} (hg : h.get id = some (.cells 25 0 fz (scV s' ve')))
    (hq : ∀ o ∈ s.os, ∀ f ∈ o.fs, ∀ h fr, CR Tryz.prog (globM mx) md (.fn kh) [.agg o.pv, .agg f.pv, .rop (scV s' ve')] h fr (.val (.bool (q o f)))) (fr : Nat) :
    CR Tryz.prog (globM mx) md (.fn 42) [.agg (scV s ve), .fn (.func kh) [] [.ptr id 2 0]] h fr (.sh (.bool (s.os.all fun o => o.fs.all (q o))) (h.set id (.cells 25 0 true (scV s' ve')))) := by
  refine CR.viaFrz (args' := [.agg (scV s ve), .fn (.func kh) [] [.rop (scV s' ve')]]) Tryz.func42 rfl rfl rfl (by simp [PV.cleans, PV.clean]) ?_ (by simp [PV.cleans, PV.clean, scV_clean hv]) (fun h fr => fields1_c rfl hv hs hq h fr) fr
  simp only [frzL, frz_clean h (show (PV.agg (scV s ve)).clean = true from scV_clean hv), frz_fn1 kh hg (show (scV s' ve').length = 2 from rfl) hc]
end
/-! ### Where things stand, in a schema whose row of enums may be none -/
theorem obj_v {s : Sc} {ve : PV} (hv : RowR En.pv ve s.es) (hs : s.fits) (x : List UInt8) (h : AH) (fr : Nat) : CR Tryz.prog (globM mx) md (.fn 17) [.agg (scV s ve), .str x] h fr (.val (.int .i64 (objAt s x))) := by
  refine CR.plain (rs := [.tmp 4]) Tryz.func17 rfl rfl rfl rfl rfl (by simp [PV.cleans, PV.clean, scV_clean hv]) rfl ?_ h fr
  simp -implicitDefEqProofs only [wpC_seq, rowsA, if_true, if_false, opnd, ofVal, ofVal1, layArgs, Nat.reduceAdd, reduceIte, Nat.reduceEqDiff, reduceCtorEq, rowsB, cellsG, Nat.reduceMul, scV, fda_ptr o25_0, loadO_one ag22 sz22]
  rw [goO_shared (indexOb_sh s.os hs.1 x 1 _ (by simp only [AH.get_set, AH.get_up, Nat.reduceEqDiff, if_false, if_true]))]
  simp -implicitDefEqProofs only [wpC_seq, rowsA, if_true, if_false, opnd, ofVal, ofVal1, layArgs, Nat.reduceAdd, reduceIte, Nat.reduceEqDiff, reduceCtorEq, rowsB, cellsG, Nat.reduceMul, objAt]
def inv0 (_ : Nat) (F : Fr) (_ : AH) : Prop := F.at 7 = .int .i64 0 ∧ F.at 8 = .int .i64 0
theorem indexEn0_c {v : PV} (hv : v = .nls ∨ v = .els) (kf : FuncId) (cap : List PV) (hcap : PV.cleans cap = true) (h : AH) (fr : Nat) : CR Tryz.prog (globM mx) md (.fn 55) [v, .fn (.func kf) [] cap] h fr (.val (.int .i64 (-1))) := by
  have hc : v.clean = true := by rcases hv with rfl | rfl <;> rfl
  have hlen : lenO Tryz.prog [v] [23] = some (.q (.int .i64 0)) := by
    rcases hv with rfl | rfl
    · exact len_nls u23
    · exact len_els u23
  refine CR.plain (rs := [.tmp 4]) Tryz.func55 rfl rfl rfl rfl rfl (by simp [PV.cleans, PV.clean, hcap, hc]) rfl ?_ h fr
  simp -implicitDefEqProofs only [wpC_seq, rowsA, if_true, if_false, opnd, ofVal, ofVal1, layArgs, Nat.reduceAdd, reduceIte, Nat.reduceEqDiff, reduceCtorEq, rowsB, cellsG, Nat.reduceMul, hlen]
  refine wpC_loop inv0 (k := 0) ⟨?_, ?_⟩ ?_
  · simp only [Fr.at_set, Nat.reduceEqDiff, reduceIte, reduceCtorEq]
  · simp only [Fr.at_set, Nat.reduceEqDiff, reduceIte, reduceCtorEq]
  rintro k F h' ⟨f7, f8⟩
  simp -implicitDefEqProofs only [wpC_seq, rowsA, if_true, if_false, opnd, ofVal, ofVal1, layArgs, Nat.reduceAdd, reduceIte, Nat.reduceEqDiff, reduceCtorEq, rowsB, cellsG, Nat.reduceMul, f7, f8, lss00]
theorem indexEn0_sh {v : PV} (hv : v = .nls ∨ v = .els) (x : List UInt8) (id : Nat) (h : AH) (hg : h.get id = some (.cells 9 0 false [.str x])) (fr : Nat) :
    CR Tryz.prog (globM mx) md (.fn 55) [v, .fn (.func 56) [] [.ptr id 1 0]] h fr (.sh (.int .i64 (-1)) (h.set id (.cells 9 0 true [.str x]))) := by
  have hc : v.clean = true := by rcases hv with rfl | rfl <;> rfl
  refine CR.viaFrz (args' := [v, .fn (.func 56) [] [.rop [.str x]]]) Tryz.func55 rfl rfl rfl (by simp [PV.cleans, PV.clean]) ?_ (by simp [PV.cleans, PV.clean, hc]) (fun h fr => indexEn0_c hv 56 [.rop [.str x]] rfl h fr) fr
  simp only [frzL, frz_clean h hc, frz_cap100 (tot := 1) 56 hg rfl rfl]
theorem enm_v {s : Sc} {ve : PV} (hv : RowR En.pv ve s.es) (hs : s.fits) (x : List UInt8) (h : AH) (fr : Nat) : CR Tryz.prog (globM mx) md (.fn 19) [.agg (scV s ve), .str x] h fr (.val (.int .i64 (enmAt s x))) := by
  have hcl := scV_clean hv
  rcases hv with rfl | ⟨he, hv⟩
  · exact enm_c hs x h fr
  · refine CR.plain (rs := [.tmp 4]) Tryz.func19 rfl rfl rfl rfl rfl (by simp [PV.cleans, PV.clean, hcl]) rfl ?_ h fr
    simp -implicitDefEqProofs only [wpC_seq, rowsA, if_true, if_false, opnd, ofVal, ofVal1, layArgs, Nat.reduceAdd, reduceIte, Nat.reduceEqDiff, reduceCtorEq, rowsB, cellsG, Nat.reduceMul, scV, fda_ptr o25_1, loadO_one ag23 sz23]
    rw [goO_shared (indexEn0_sh hv x 1 _ (by simp only [AH.get_set, AH.get_up, Nat.reduceEqDiff, if_false, if_true]))]
    simp -implicitDefEqProofs only [wpC_seq, rowsA, if_true, if_false, opnd, ofVal, ofVal1, layArgs, Nat.reduceAdd, reduceIte, Nat.reduceEqDiff, reduceCtorEq, rowsB, cellsG, Nat.reduceMul, enmAt, he]
    rfl
theorem edge_v {s : Sc} {ve : PV} (hv : RowR En.pv ve s.es) (hs : s.fits) (f : Fld) (h : AH) (fr : Nat) : CR Tryz.prog (globM mx) md (.fn 23) [.agg (scV s ve), .agg f.pv] h fr (.val (.int .i64 (edgeOf s f))) := by
  refine CR.plain (rs := [.tmp 4]) Tryz.func23 rfl rfl rfl rfl rfl (by simp [PV.cleans, PV.clean, scV_clean hv, Fld.cl]) rfl ?_ h fr
  have hlen : (scV s ve).length = 2 := rfl
  cases c1 : scalar f.t with
  | true =>
    simp -implicitDefEqProofs only [wpC_seq, rowsA, if_true, if_false, opnd, ofVal, ofVal1, layArgs, Nat.reduceAdd, reduceIte, Nat.reduceEqDiff, reduceCtorEq, rowsB, cellsG, Nat.reduceMul, hlen, Fld.pv, fda_ptr o33_1, fda_ptr o31_0, loadO_one ag9 sz9, goO_known (scalar_c f.t), c1]
    simp [edgeOf, propB, c1]
  | false =>
    by_cases c2 : 0 ≤ enmAt s f.t
    · simp -implicitDefEqProofs only [wpC_seq, rowsA, if_true, if_false, opnd, ofVal, ofVal1, layArgs, Nat.reduceAdd, reduceIte, Nat.reduceEqDiff, reduceCtorEq, rowsB, cellsG, Nat.reduceMul, hlen, Fld.pv, fda_ptr o33_1, fda_ptr o31_0, loadO_one ag9 sz9, goO_known (scalar_c f.t), c1, ld25v s, goO_known (enm_v hv hs f.t), c2]
      simp [edgeOf, propB, c1, c2]
    · simp -implicitDefEqProofs only [wpC_seq, rowsA, if_true, if_false, opnd, ofVal, ofVal1, layArgs, Nat.reduceAdd, reduceIte, Nat.reduceEqDiff, reduceCtorEq, rowsB, cellsG, Nat.reduceMul, hlen, Fld.pv, fda_ptr o33_1, fda_ptr o31_0, loadO_one ag9 sz9, goO_known (scalar_c f.t), c1, ld25v s, goO_known (enm_v hv hs f.t), c2, goO_known (obj_v hv hs f.t)]
      simp [edgeOf, propB, c1, c2]
end Go.Proofs.YtcbngkmmmfaaoaaGreatDoor
/-
  SCHEMAS THAT MAY BE, Q3: as many as may be; names; types; what leads back.
-/
namespace Go.Proofs.YtcbngkmmmfaaoaaGreatDoor
open Go.RowKit Go.Lib Go.Ac
set_option linter.unusedSimpArgs false
set_option maxRecDepth 100000
variable {mx : Int}

/-! ### As many as may be -/
/-- A thing of a name and a row. -/
structure Rw where
  n : List UInt8
  v : PV
  k : Nat
def Rw.pv (o : Rw) : List PV := [.str o.n, o.v]
/-- A row of a type, of so many things. -/
def RwOk (t : TypeId) (o : Rw) : Prop := o.v.clean = true ∧ o.k ≤ 9223372036854775807 ∧ tyAgg Tryz.prog t = some false ∧ lenO Tryz.prog [o.v] [t] = some (.q (.int .i64 o.k))
def betw (k lo hi : Nat) : Bool := decide (lo ≤ k) && decide (k ≤ hi)
theorem betw_c (k lo hi : Nat) (h : AH) (fr : Nat) : CR Tryz.prog (globM mx) md (.fn 77) [.int .i64 k, .int .i64 lo, .int .i64 hi] h fr (.val (.bool (betw k lo hi))) := by
  refine CR.plain (rs := [.tmp 6]) Tryz.func77 rfl rfl rfl rfl rfl rfl rfl ?_ h fr
  unfold betw
  by_cases c1 : lo ≤ k
  · have c1' : (k : Int) ≥ (lo : Int) := by omega
    by_cases c2 : k ≤ hi
    · have c2' : (k : Int) ≤ (hi : Int) := by omega
      simp -implicitDefEqProofs only [wpC_seq, rowsA, if_true, if_false, opnd, ofVal, ofVal1, layArgs, Nat.reduceAdd, reduceIte, Nat.reduceEqDiff, reduceCtorEq, rowsB, cellsG, Nat.reduceMul, c1, c1', c2, c2']
    · have c2' : ¬ (k : Int) ≤ (hi : Int) := by omega
      simp -implicitDefEqProofs only [wpC_seq, rowsA, if_true, if_false, opnd, ofVal, ofVal1, layArgs, Nat.reduceAdd, reduceIte, Nat.reduceEqDiff, reduceCtorEq, rowsB, cellsG, Nat.reduceMul, c1, c1', c2, c2', Bool.true_and]
  · have c1' : ¬ (k : Int) ≥ (lo : Int) := by omega
    simp -implicitDefEqProofs only [wpC_seq, rowsA, if_true, if_false, opnd, ofVal, ofVal1, layArgs, Nat.reduceAdd, reduceIte, Nat.reduceEqDiff, reduceCtorEq, rowsB, cellsG, Nat.reduceMul, c1, c1', Bool.false_and]
theorem enoughO_c (o : Rw) (ho : RwOk 39 o) (h : AH) (fr : Nat) : CR Tryz.prog (globM mx) md (.fn 79) [.agg o.pv] h fr (.val (.bool (betw o.k 1 12))) := by
  obtain ⟨h1, h3, h4, h5⟩ := ho
  refine CR.plain (rs := [.tmp 2]) Tryz.func79 rfl rfl rfl rfl rfl (by simp [PV.cleans, PV.clean, Rw.pv, h1]) rfl ?_ h fr
  simp -implicitDefEqProofs only [wpC_seq, rowsA, if_true, if_false, opnd, ofVal, ofVal1, layArgs, Nat.reduceAdd, reduceIte, Nat.reduceEqDiff, reduceCtorEq, rowsB, cellsG, Nat.reduceMul, Rw.pv, fda_ptr o41_1, loadO_one ag39 sz39, h5, goO_known (show ∀ h fr, CR Tryz.prog (globM mx) md (.fn 77) [.int .i64 o.k, .int .i64 1, .int .i64 12] h fr _ from betw_c o.k 1 12)]
theorem enoughE_c (o : Rw) (ho : RwOk 43 o) (h : AH) (fr : Nat) : CR Tryz.prog (globM mx) md (.fn 81) [.agg o.pv] h fr (.val (.bool (betw o.k 1 16))) := by
  obtain ⟨h1, h3, h4, h5⟩ := ho
  refine CR.plain (rs := [.tmp 2]) Tryz.func81 rfl rfl rfl rfl rfl (by simp [PV.cleans, PV.clean, Rw.pv, h1]) rfl ?_ h fr
  simp -implicitDefEqProofs only [wpC_seq, rowsA, if_true, if_false, opnd, ofVal, ofVal1, layArgs, Nat.reduceAdd, reduceIte, Nat.reduceEqDiff, reduceCtorEq, rowsB, cellsG, Nat.reduceMul, Rw.pv, fda_ptr o45_1, loadO_one ag43 sz43, h5, goO_known (show ∀ h fr, CR Tryz.prog (globM mx) md (.fn 77) [.int .i64 o.k, .int .i64 1, .int .i64 16] h fr _ from betw_c o.k 1 16)]
def enoughB (os es : List Rw) : Bool := betw os.length 1 8 && decide (es.length ≤ 8) && os.all (fun o => betw o.k 1 12) && es.all (fun o => betw o.k 1 16)
theorem lenR {α : Type} {f : α → List PV} {v : PV} {l : List α} {t e : TypeId} (hu : Tryz.prog.underlying t = some (.slice e)) (h : RowR f v l) : lenO Tryz.prog [v] [t] = some (.q (.int .i64 l.length)) := by
  rcases h with rfl | ⟨rfl, rfl | rfl⟩
  · exact len_ro hu
  · exact len_nls hu
  · exact len_els hu
theorem enough_c {os es : List Rw} {vo ve : PV} (ho : RowR Rw.pv vo os) (he : RowR Rw.pv ve es) (h1 : ∀ o ∈ os, RwOk 39 o) (h2 : ∀ o ∈ es, RwOk 43 o) (l1 : os.length ≤ 9223372036854775807) (l2 : es.length ≤ 9223372036854775807) (h : AH) (fr : Nat) :
    CR Tryz.prog (globM mx) md (.fn 39) [.agg [vo, ve]] h fr (.val (.bool (enoughB os es))) := by
  refine CR.plain (rs := [.tmp 2]) Tryz.func39 rfl rfl rfl rfl rfl (by simp [PV.cleans, PV.clean, ho.clean, he.clean]) rfl ?_ h fr
  have k1 : ∀ h fr, CR Tryz.prog (globM mx) md (.fn 77) [.int .i64 os.length, .int .i64 1, .int .i64 8] h fr (.val (.bool (betw os.length 1 8))) := betw_c os.length 1 8
  have k2 := allO_c (mx := mx) Rw.pv (fun _ => rfl) (fun _ => rfl) (fun o => betw o.k 1 12) os l1 ho 79 [] rfl (fun o ho h fr => enoughO_c o (h1 o ho) h fr)
  have k3 := allE_c (mx := mx) Rw.pv (fun _ => rfl) (fun _ => rfl) (fun o => betw o.k 1 16) es l2 he 81 [] rfl (fun o ho h fr => enoughE_c o (h2 o ho) h fr)
  unfold enoughB
  cases c1 : betw os.length 1 8 with
  | false => simp -implicitDefEqProofs only [wpC_seq, rowsA, if_true, if_false, opnd, ofVal, ofVal1, layArgs, Nat.reduceAdd, reduceIte, Nat.reduceEqDiff, reduceCtorEq, rowsB, cellsG, Nat.reduceMul, fda_ptr o25_0, loadO_one ag22 sz22, lenR u22 ho, goO_known k1, c1, Bool.false_and]
  | true =>
    by_cases c2 : es.length ≤ 8
    · have c2' : (es.length : Int) ≤ 8 := by omega
      cases c3 : os.all (fun o => betw o.k 1 12) with
      | false => simp -implicitDefEqProofs only [wpC_seq, rowsA, if_true, if_false, opnd, ofVal, ofVal1, layArgs, Nat.reduceAdd, reduceIte, Nat.reduceEqDiff, reduceCtorEq, rowsB, cellsG, Nat.reduceMul, fda_ptr o25_0, fda_ptr o25_1, loadO_one ag22 sz22, loadO_one ag23 sz23, lenR u22 ho, lenR u23 he, goO_known k1, c1, c2, c2', goO_known k2, c3, Bool.false_and, Bool.true_and, Bool.and_false]
      | true => simp -implicitDefEqProofs only [wpC_seq, rowsA, if_true, if_false, opnd, ofVal, ofVal1, layArgs, Nat.reduceAdd, reduceIte, Nat.reduceEqDiff, reduceCtorEq, rowsB, cellsG, Nat.reduceMul, fda_ptr o25_0, fda_ptr o25_1, loadO_one ag22 sz22, loadO_one ag23 sz23, lenR u22 ho, lenR u23 he, goO_known k1, c1, c2, c2', goO_known k2, c3, goO_known k3, Bool.false_and, Bool.true_and, Bool.and_false]
    · have c2' : ¬ (es.length : Int) ≤ 8 := by omega
      simp -implicitDefEqProofs only [wpC_seq, rowsA, if_true, if_false, opnd, ofVal, ofVal1, layArgs, Nat.reduceAdd, reduceIte, Nat.reduceEqDiff, reduceCtorEq, rowsB, cellsG, Nat.reduceMul, fda_ptr o25_0, fda_ptr o25_1, loadO_one ag22 sz22, loadO_one ag23 sz23, lenR u22 ho, lenR u23 he, goO_known k1, c1, c2, c2', Bool.false_and, Bool.true_and, Bool.and_false]

/-! ### Names -/
/-- Texts as long as a program has room for. -/
def Sc.small (s : Sc) : Prop := (∀ o ∈ s.os, o.n.length ≤ 9223372036854775807 ∧ ∀ f ∈ o.fs, f.n.length ≤ 9223372036854775807) ∧ ∀ e ∈ s.es, e.n.length ≤ 9223372036854775807 ∧ e.ws.length ≤ 9223372036854775807 ∧ ∀ w ∈ e.ws, w.length ≤ 9223372036854775807
def idL : List (List UInt8) := [[105, 100], [97, 110, 100], [111, 114], [110, 111, 116]]
def wordL : List (List UInt8) := [[116, 114, 117, 101], [102, 97, 108, 115, 101], [110, 117, 108, 108]]
theorem named1_c (o : Ob) (hs : o.n.length ≤ 9223372036854775807) (h : AH) (fr : Nat) : CR Tryz.prog (globM mx) md (.fn 82) [.agg o.pv] h fr (.val (.bool (ownB mx o.n))) := by
  refine CR.plain (rs := [.tmp 2]) Tryz.func82 rfl rfl rfl rfl rfl rfl rfl ?_ h fr
  simp -implicitDefEqProofs only [wpC_seq, rowsA, if_true, if_false, opnd, ofVal, ofVal1, layArgs, Nat.reduceAdd, reduceIte, Nat.reduceEqDiff, reduceCtorEq, rowsB, cellsG, Nat.reduceMul, Ob.pv, fda_ptr o41_0, loadO_one ag9 sz9, goO_known (own_c o.n hs)]
theorem named2_c (o : Ob) (f : Fld) (hs : f.n.length ≤ 9223372036854775807) (h : AH) (fr : Nat) : CR Tryz.prog (globM mx) md (.fn 84) [.agg o.pv, .agg f.pv] h fr (.val (.bool (nmB mx f.n idL))) := by
  refine CR.plain (rs := [.tmp 4]) Tryz.func84 rfl rfl rfl rfl rfl rfl rfl ?_ h fr
  have hnm := fun (h : AH) (id : Nat) => nm_sh (mx := mx) f.n hs idL (by decide) (id := id) (h := h)
  simp -implicitDefEqProofs only [wpC_seq, rowsA, if_true, if_false, opnd, ofVal, ofVal1, layArgs, Nat.reduceAdd, reduceIte, Nat.reduceEqDiff, reduceCtorEq, rowsB, cellsG, Nat.reduceMul, Ob.len, Fld.pv, fda_ptr o33_0, loadO_one ag9 sz9, bd43_4]
  refine goO_shv (hnm _ _ (by simp only [AH.get_set, if_true]; rfl)) ?_
  simp -implicitDefEqProofs only [wpC_seq, rowsA, if_true, if_false, opnd, ofVal, ofVal1, layArgs, Nat.reduceAdd, reduceIte, Nat.reduceEqDiff, reduceCtorEq, rowsB, cellsG, Nat.reduceMul]
theorem word_c (w : List UInt8) (hs : w.length ≤ 9223372036854775807) (h : AH) (fr : Nat) : CR Tryz.prog (globM mx) md (.fn 88) [.str w] h fr (.val (.bool (nmB mx w wordL))) := by
  refine CR.plain (rs := [.tmp 2]) Tryz.func88 rfl rfl rfl rfl rfl rfl rfl ?_ h fr
  have hnm := fun (h : AH) (id : Nat) => nm_sh (mx := mx) w hs wordL (by decide) (id := id) (h := h)
  simp -implicitDefEqProofs only [wpC_seq, rowsA, if_true, if_false, opnd, ofVal, ofVal1, layArgs, Nat.reduceAdd, reduceIte, Nat.reduceEqDiff, reduceCtorEq, rowsB, cellsG, Nat.reduceMul, bd43_3]
  refine goO_shv (hnm _ _ (by simp only [AH.get_set, if_true]; rfl)) ?_
  simp -implicitDefEqProofs only [wpC_seq, rowsA, if_true, if_false, opnd, ofVal, ofVal1, layArgs, Nat.reduceAdd, reduceIte, Nat.reduceEqDiff, reduceCtorEq, rowsB, cellsG, Nat.reduceMul]
noncomputable def enmB (mx : Int) (e : En) : Bool := ownB mx e.n && e.ws.all (fun w => nmB mx w wordL)
theorem named3_c (e : En) (h1 : e.n.length ≤ 9223372036854775807) (h2 : e.ws.length ≤ 9223372036854775807) (h3 : ∀ w ∈ e.ws, w.length ≤ 9223372036854775807) (h : AH) (fr : Nat) : CR Tryz.prog (globM mx) md (.fn 86) [.agg e.pv] h fr (.val (.bool (enmB mx e))) := by
  refine CR.plain (rs := [.tmp 2]) Tryz.func86 rfl rfl rfl rfl rfl rfl rfl ?_ h fr
  have k1 := allS_c (mx := mx) (fun w => nmB mx w wordL) e.ws h2 (.inl rfl) 88 [] rfl (fun w hw h fr => word_c w (h3 w hw) h fr)
  unfold enmB
  cases c1 : ownB mx e.n with
  | false => simp -implicitDefEqProofs only [wpC_seq, rowsA, if_true, if_false, opnd, ofVal, ofVal1, layArgs, Nat.reduceAdd, reduceIte, Nat.reduceEqDiff, reduceCtorEq, rowsB, cellsG, Nat.reduceMul, En.pv, fda_ptr o45_0, loadO_one ag9 sz9, goO_known (own_c e.n h1), c1, Bool.false_and]
  | true => simp -implicitDefEqProofs only [wpC_seq, rowsA, if_true, if_false, opnd, ofVal, ofVal1, layArgs, Nat.reduceAdd, reduceIte, Nat.reduceEqDiff, reduceCtorEq, rowsB, cellsG, Nat.reduceMul, En.pv, fda_ptr o45_0, fda_ptr o45_1, loadO_one ag9 sz9, loadO_one ag43 sz43, goO_known (own_c e.n h1), c1, goO_known k1, Bool.true_and]
noncomputable def namedB (mx : Int) (s : Sc) : Bool := s.os.all (fun o => ownB mx o.n) && s.os.all (fun o => o.fs.all (fun f => nmB mx f.n idL)) && s.es.all (enmB mx)
theorem named_c {s : Sc} {ve : PV} (hv : RowR En.pv ve s.es) (hs : s.fits) (hm : s.small) (h : AH) (fr : Nat) : CR Tryz.prog (globM mx) md (.fn 40) [.agg (scV s ve)] h fr (.val (.bool (namedB mx s))) := by
  refine CR.plain (rs := [.tmp 2]) Tryz.func40 rfl rfl rfl rfl rfl (by simp [PV.cleans, PV.clean, scV_clean hv]) rfl ?_ h fr
  have k1 := allO_c (mx := mx) Ob.pv (fun _ => rfl) Ob.goes (fun o => ownB mx o.n) s.os hs.1 (.inl rfl) 82 [] rfl (fun o ho h fr => named1_c o (hm.1 o ho).1 h fr)
  have k2 := fields1_c (mx := mx) (kh := 84) (ch := []) (q := fun _ f => nmB mx f.n idL) rfl hv hs (fun o ho f hf h fr => named2_c o f ((hm.1 o ho).2 f hf) h fr)
  have k3 := allE_c (mx := mx) En.pv (fun _ => rfl) En.goes (enmB mx) s.es hs.2.1 hv 86 [] rfl (fun e he h fr => named3_c e (hm.2 e he).1 (hm.2 e he).2.1 (hm.2 e he).2.2 h fr)
  have hld := ld25v s (ve := ve)
  unfold namedB
  rw [scV] at hld k2
  cases c1 : s.os.all (fun o => ownB mx o.n) with
  | false => simp -implicitDefEqProofs only [wpC_seq, rowsA, if_true, if_false, opnd, ofVal, ofVal1, layArgs, Nat.reduceAdd, reduceIte, Nat.reduceEqDiff, reduceCtorEq, rowsB, cellsG, Nat.reduceMul, scV, fda_ptr o25_0, loadO_one ag22 sz22, goO_known k1, c1, Bool.false_and]
  | true =>
    cases c2 : s.os.all (fun o => o.fs.all (fun f => nmB mx f.n idL)) with
    | false => simp -implicitDefEqProofs only [wpC_seq, rowsA, if_true, if_false, opnd, ofVal, ofVal1, layArgs, Nat.reduceAdd, reduceIte, Nat.reduceEqDiff, reduceCtorEq, rowsB, cellsG, Nat.reduceMul, scV, fda_ptr o25_0, fda_ptr o25_1, loadO_one ag22 sz22, loadO_one ag23 sz23, goO_known k1, c1, hld, goO_known k2, c2, Bool.false_and, Bool.true_and]
    | true => simp -implicitDefEqProofs only [wpC_seq, rowsA, if_true, if_false, opnd, ofVal, ofVal1, layArgs, Nat.reduceAdd, reduceIte, Nat.reduceEqDiff, reduceCtorEq, rowsB, cellsG, Nat.reduceMul, scV, fda_ptr o25_0, fda_ptr o25_1, loadO_one ag22 sz22, loadO_one ag23 sz23, goO_known k1, c1, hld, goO_known k2, c2, goO_known k3, Bool.true_and]
end Go.Proofs.YtcbngkmmmfaaoaaGreatDoor
/-
  SCHEMA AND GEN, S4: what leads back.
-/
namespace Go.Proofs.YtcbngkmmmfaaoaaGreatDoor
open Go.RowKit Go.Lib Go.Ac
set_option linter.unusedSimpArgs false
set_option maxRecDepth 100000
variable {mx : Int}

theorem z33 : tyZero Tryz.prog 33 = some [.str [], .str [], .str [], .bool false, .str []] := by kernel_rfl
theorem st33 (f : Fld) (id : Nat) (c : List PV) (hc : c.length = 5) : stoG id 5 0 (.agg f.pv) 5 (some (.cells 33 0 false c)) = some (.w .undef id (.cells 33 0 false f.pv)) := stoG_all id 5 0 33 (.agg f.pv) c hc rfl rfl
theorem al33 {ρ : Operand → PV} {h : AH} {fr : Nat} {d : Option Tmp} {ty : TypeId} {ps : String} {af : Array Edge} {gu : Option (Nat × Bool)} : aop Tryz.prog ρ h fr ⟨d, .alloc 33, ty, ps, af, gu⟩ = some (.w (.ptr fr 5 0) fr (.cells 33 0 false [.str [], .str [], .str [], .bool false, .str []])) := by
  rw [aop_alloc, z33]
  rfl
/-- Where an object's field leads back to. -/
def backOf (s : Sc) (i k : Int) : Int :=
  if i < 0 then -1 else match s.os[i.toNat]? with
    | none => -1
    | some o => if k < 0 then -1 else match o.fs[k.toNat]? with
      | none => -1
      | some f => if edgeOf s f < 0 then -1 else if f.inv = [] then -1 else match s.os[(edgeOf s f).toNat]? with
        | none => -1
        | some q => placeAt q f.inv
theorem idx_range {α : Type} (p : α → Bool) : ∀ (l : List α) (i : Nat), idx p l i = -1 ∨ ∃ j x, idx p l i = ((i + j : Nat) : Int) ∧ l[j]? = some x ∧ p x = true
  | [], _ => .inl rfl
  | x :: l, i => by
    rw [idx]
    by_cases h : p x = true
    · rw [if_pos h]
      exact .inr ⟨0, x, by simp, rfl, h⟩
    · rw [if_neg h]
      rcases idx_range p l (i + 1) with h1 | ⟨j, y, h1, h2, h3⟩
      · exact .inl h1
      · exact .inr ⟨j + 1, y, by rw [h1]; congr 1; omega, by simpa using h2, h3⟩
theorem edge_range (s : Sc) (f : Fld) : edgeOf s f = -1 ∨ ∃ (j : Nat) (o : Ob), edgeOf s f = (j : Int) ∧ s.os[j]? = some o := by
  unfold edgeOf
  split
  · exact .inl rfl
  · rcases idx_range (fun o : Ob => decide (o.n = f.t)) s.os 0 with h | ⟨j, x, h1, h2, _⟩
    · exact .inl h
    · exact .inr ⟨j, x, by unfold objAt; rw [h1]; simp, h2⟩
theorem back_c {s : Sc} (hs : s.fits) (i k : Int) (h : AH) (fr : Nat) : CR Tryz.prog (globM mx) md (.fn 25) [.agg s.pv, .int .i64 i, .int .i64 k] h fr (.val (.int .i64 (backOf s i k))) := by
  refine CR.plain (rs := [.tmp 6]) Tryz.func25 rfl rfl rfl rfl rfl (by simp [PV.cleans, PV.clean, Sc.cl]) rfl ?_ h fr
  by_cases c1 : i < 0
  · simp -implicitDefEqProofs only [wpC_seq, rowsA, if_true, if_false, opnd, ofVal, ofVal1, layArgs, Nat.reduceAdd, reduceIte, Nat.reduceEqDiff, reduceCtorEq, rowsB, cellsG, Nat.reduceMul, Sc.len, Ob.len, En.len, Fld.len, fda_ptr o25_0, fda_ptr o25_1, fda_ptr o33_0, fda_ptr o33_1, fda_ptr o33_2, fda_ptr o33_3, fda_ptr o31_0, fda_ptr o31_1, fda_ptr o41_0, fda_ptr o41_1, fda_ptr o45_0, fda_ptr o45_1, fda_rop o25_0, fda_rop o25_1, fda_rop o33_0, fda_rop o33_1, fda_rop o33_2, fda_rop o33_3, fda_rop o31_0, fda_rop o31_1, fda_rop o41_0, fda_rop o41_1, fda_rop o45_0, fda_rop o45_1,
    ld25, ld33, ld41, ld45, ld33r, ld41r, ld45r, ld22, ld23, ld9o, ld9or, ld39o, ld39or, ld9e, ld9er, ld43e, ld43er, ld9f0, ld9f0r, ld9f1, ld9f1r, ld9f2, ld9f2r, ld9f3, ld9f3r, ld9f4, ld9f4r, ld31f, ln22, ln23, ln39, ln43, List.drop_drop, c1]
    simp [backOf, c1]
  cases ho : s.os[i.toNat]? with
  | none =>
    have c2 : (s.os.length : Int) ≤ i := by
      have := List.getElem?_eq_none_iff.1 ho
      omega
    simp -implicitDefEqProofs only [wpC_seq, rowsA, if_true, if_false, opnd, ofVal, ofVal1, layArgs, Nat.reduceAdd, reduceIte, Nat.reduceEqDiff, reduceCtorEq, rowsB, cellsG, Nat.reduceMul, Sc.len, Ob.len, En.len, Fld.len, fda_ptr o25_0, fda_ptr o25_1, fda_ptr o33_0, fda_ptr o33_1, fda_ptr o33_2, fda_ptr o33_3, fda_ptr o31_0, fda_ptr o31_1, fda_ptr o41_0, fda_ptr o41_1, fda_ptr o45_0, fda_ptr o45_1, fda_rop o25_0, fda_rop o25_1, fda_rop o33_0, fda_rop o33_1, fda_rop o33_2, fda_rop o33_3, fda_rop o31_0, fda_rop o31_1, fda_rop o41_0, fda_rop o41_1, fda_rop o45_0, fda_rop o45_1,
    ld25, ld33, ld41, ld45, ld33r, ld41r, ld45r, ld22, ld23, ld9o, ld9or, ld39o, ld39or, ld9e, ld9er, ld43e, ld43er, ld9f0, ld9f0r, ld9f1, ld9f1r, ld9f2, ld9f2r, ld9f3, ld9f3r, ld9f4, ld9f4r, ld31f, ln22, ln23, ln39, ln43, List.drop_drop, c1, c2]
    simp [backOf, c1, ho]
  | some o =>
    have hil : i.toNat < s.os.length := (List.getElem?_eq_some_iff.1 ho).1
    have c2 : ¬ ((s.os.length : Int) ≤ i) := by omega
    by_cases c3 : k < 0
    · simp -implicitDefEqProofs only [wpC_seq, rowsA, if_true, if_false, opnd, ofVal, ofVal1, layArgs, Nat.reduceAdd, reduceIte, Nat.reduceEqDiff, reduceCtorEq, rowsB, cellsG, Nat.reduceMul, Sc.len, Ob.len, En.len, Fld.len, fda_ptr o25_0, fda_ptr o25_1, fda_ptr o33_0, fda_ptr o33_1, fda_ptr o33_2, fda_ptr o33_3, fda_ptr o31_0, fda_ptr o31_1, fda_ptr o41_0, fda_ptr o41_1, fda_ptr o45_0, fda_ptr o45_1, fda_rop o25_0, fda_rop o25_1, fda_rop o33_0, fda_rop o33_1, fda_rop o33_2, fda_rop o33_3, fda_rop o31_0, fda_rop o31_1, fda_rop o41_0, fda_rop o41_1, fda_rop o45_0, fda_rop o45_1,
    ld25, ld33, ld41, ld45, ld33r, ld41r, ld45r, ld22, ld23, ld9o, ld9or, ld39o, ld39or, ld9e, ld9er, ld43e, ld43er, ld9f0, ld9f0r, ld9f1, ld9f1r, ld9f2, ld9f2r, ld9f3, ld9f3r, ld9f4, ld9f4r, ld31f, ln22, ln23, ln39, ln43, List.drop_drop, c1, c2, c3]
      simp [backOf, c1, ho, c3]
    obtain ⟨r, hr⟩ := ix22 (by omega) ho
    cases hf : o.fs[k.toNat]? with
    | none =>
      have c4 : (o.fs.length : Int) ≤ k := by
        have := List.getElem?_eq_none_iff.1 hf
        omega
      simp -implicitDefEqProofs only [wpC_seq, rowsA, if_true, if_false, opnd, ofVal, ofVal1, layArgs, Nat.reduceAdd, reduceIte, Nat.reduceEqDiff, reduceCtorEq, rowsB, cellsG, Nat.reduceMul, Sc.len, Ob.len, En.len, Fld.len, fda_ptr o25_0, fda_ptr o25_1, fda_ptr o33_0, fda_ptr o33_1, fda_ptr o33_2, fda_ptr o33_3, fda_ptr o31_0, fda_ptr o31_1, fda_ptr o41_0, fda_ptr o41_1, fda_ptr o45_0, fda_ptr o45_1, fda_rop o25_0, fda_rop o25_1, fda_rop o33_0, fda_rop o33_1, fda_rop o33_2, fda_rop o33_3, fda_rop o31_0, fda_rop o31_1, fda_rop o41_0, fda_rop o41_1, fda_rop o45_0, fda_rop o45_1,
    ld25, ld33, ld41, ld45, ld33r, ld41r, ld45r, ld22, ld23, ld9o, ld9or, ld39o, ld39or, ld9e, ld9er, ld43e, ld43er, ld9f0, ld9f0r, ld9f1, ld9f1r, ld9f2, ld9f2r, ld9f3, ld9f3r, ld9f4, ld9f4r, ld31f, ln22, ln23, ln39, ln43, List.drop_drop, c1, c2, c3, c4, hr]
      simp [backOf, c1, ho, c3, hf]
    | some f =>
      have hkl : k.toNat < o.fs.length := (List.getElem?_eq_some_iff.1 hf).1
      have c4 : ¬ ((o.fs.length : Int) ≤ k) := by omega
      obtain ⟨r2, hr2⟩ := ix39 (by omega) hf
      rcases edge_range s f with he | ⟨j, q, he, hq⟩
      · have c5 : (-1 : Int) < 0 := by decide
        simp -implicitDefEqProofs only [wpC_seq, rowsA, if_true, if_false, opnd, ofVal, ofVal1, layArgs, Nat.reduceAdd, reduceIte, Nat.reduceEqDiff, reduceCtorEq, rowsB, cellsG, Nat.reduceMul, Sc.len, Ob.len, En.len, Fld.len, fda_ptr o25_0, fda_ptr o25_1, fda_ptr o33_0, fda_ptr o33_1, fda_ptr o33_2, fda_ptr o33_3, fda_ptr o31_0, fda_ptr o31_1, fda_ptr o41_0, fda_ptr o41_1, fda_ptr o45_0, fda_ptr o45_1, fda_rop o25_0, fda_rop o25_1, fda_rop o33_0, fda_rop o33_1, fda_rop o33_2, fda_rop o33_3, fda_rop o31_0, fda_rop o31_1, fda_rop o41_0, fda_rop o41_1, fda_rop o45_0, fda_rop o45_1,
    ld25, ld33, ld41, ld45, ld33r, ld41r, ld45r, ld22, ld23, ld9o, ld9or, ld39o, ld39or, ld9e, ld9er, ld43e, ld43er, ld9f0, ld9f0r, ld9f1, ld9f1r, ld9f2, ld9f2r, ld9f3, ld9f3r, ld9f4, ld9f4r, ld31f, ln22, ln23, ln39, ln43, List.drop_drop, c1, c2, c3, c4, hr, hr2, al33, sz33, st33, goO_known (edge_c hs f), he, c5]
        simp [backOf, c1, ho, c3, hf, he]
      · have c5 : ¬ ((j : Int) < 0) := by omega
        by_cases c6 : f.inv = []
        · simp -implicitDefEqProofs only [wpC_seq, rowsA, if_true, if_false, opnd, ofVal, ofVal1, layArgs, Nat.reduceAdd, reduceIte, Nat.reduceEqDiff, reduceCtorEq, rowsB, cellsG, Nat.reduceMul, Sc.len, Ob.len, En.len, Fld.len, fda_ptr o25_0, fda_ptr o25_1, fda_ptr o33_0, fda_ptr o33_1, fda_ptr o33_2, fda_ptr o33_3, fda_ptr o31_0, fda_ptr o31_1, fda_ptr o41_0, fda_ptr o41_1, fda_ptr o45_0, fda_ptr o45_1, fda_rop o25_0, fda_rop o25_1, fda_rop o33_0, fda_rop o33_1, fda_rop o33_2, fda_rop o33_3, fda_rop o31_0, fda_rop o31_1, fda_rop o41_0, fda_rop o41_1, fda_rop o45_0, fda_rop o45_1,
    ld25, ld33, ld41, ld45, ld33r, ld41r, ld45r, ld22, ld23, ld9o, ld9or, ld39o, ld39or, ld9e, ld9er, ld43e, ld43er, ld9f0, ld9f0r, ld9f1, ld9f1r, ld9f2, ld9f2r, ld9f3, ld9f3r, ld9f4, ld9f4r, ld31f, ln22, ln23, ln39, ln43, List.drop_drop, c1, c2, c3, c4, hr, hr2, al33, sz33, st33, goO_known (edge_c hs f), he, c5, c6, Array.toList_empty]
          simp [backOf, c1, ho, c3, hf, he, c6]
        · obtain ⟨r3, hr3⟩ := ix22 (l := s.os) (i := (j : Int)) (by omega) (by rw [Int.toNat_natCast]; exact hq)
          have hqf : q.fs.length ≤ 9223372036854775807 := hs.2.2 q (List.mem_of_getElem? hq)
          simp -implicitDefEqProofs only [wpC_seq, rowsA, if_true, if_false, opnd, ofVal, ofVal1, layArgs, Nat.reduceAdd, reduceIte, Nat.reduceEqDiff, reduceCtorEq, rowsB, cellsG, Nat.reduceMul, Sc.len, Ob.len, En.len, Fld.len, fda_ptr o25_0, fda_ptr o25_1, fda_ptr o33_0, fda_ptr o33_1, fda_ptr o33_2, fda_ptr o33_3, fda_ptr o31_0, fda_ptr o31_1, fda_ptr o41_0, fda_ptr o41_1, fda_ptr o45_0, fda_ptr o45_1, fda_rop o25_0, fda_rop o25_1, fda_rop o33_0, fda_rop o33_1, fda_rop o33_2, fda_rop o33_3, fda_rop o31_0, fda_rop o31_1, fda_rop o41_0, fda_rop o41_1, fda_rop o45_0, fda_rop o45_1,
    ld25, ld33, ld41, ld45, ld33r, ld41r, ld45r, ld22, ld23, ld9o, ld9or, ld39o, ld39or, ld9e, ld9er, ld43e, ld43er, ld9f0, ld9f0r, ld9f1, ld9f1r, ld9f2, ld9f2r, ld9f3, ld9f3r, ld9f4, ld9f4r, ld31f, ln22, ln23, ln39, ln43, List.drop_drop, c1, c2, c3, c4, hr, hr2, hr3, al33, sz33, st33, goO_known (edge_c hs f), goD_known (place_c q hqf f.inv), he, c5, c6, Array.toList_empty]
          simp [backOf, c1, ho, c3, hf, he, c6, hq, placeAt]
          exact fun e => absurd e c5
theorem refBack_c {s : Sc} (hs : s.fits) (i k : Int) (h : AH) (fr : Nat) : CR Tryz.prog (globM mx) md (.fn 26) [.agg s.pv, .int .i64 i, .int .i64 k] h fr (.val (.int .i64 (backOf s i k))) := by
  refine CR.plain (rs := [.tmp 6]) Tryz.func26 rfl rfl rfl rfl rfl (by simp [PV.cleans, PV.clean, Sc.cl]) rfl ?_ h fr
  by_cases c1 : i < 0
  · simp -implicitDefEqProofs only [wpC_seq, rowsA, if_true, if_false, opnd, ofVal, ofVal1, layArgs, Nat.reduceAdd, reduceIte, Nat.reduceEqDiff, reduceCtorEq, rowsB, cellsG, Nat.reduceMul, Sc.len, Ob.len, En.len, Fld.len, fda_ptr o25_0, fda_ptr o25_1, fda_ptr o33_0, fda_ptr o33_1, fda_ptr o33_2, fda_ptr o33_3, fda_ptr o31_0, fda_ptr o31_1, fda_ptr o41_0, fda_ptr o41_1, fda_ptr o45_0, fda_ptr o45_1, fda_rop o25_0, fda_rop o25_1, fda_rop o33_0, fda_rop o33_1, fda_rop o33_2, fda_rop o33_3, fda_rop o31_0, fda_rop o31_1, fda_rop o41_0, fda_rop o41_1, fda_rop o45_0, fda_rop o45_1,
    ld25, ld33, ld41, ld45, ld33r, ld41r, ld45r, ld22, ld23, ld9o, ld9or, ld39o, ld39or, ld9e, ld9er, ld43e, ld43er, ld9f0, ld9f0r, ld9f1, ld9f1r, ld9f2, ld9f2r, ld9f3, ld9f3r, ld9f4, ld9f4r, ld31f, ln22, ln23, ln39, ln43, List.drop_drop, c1]
    simp [backOf, c1]
  cases ho : s.os[i.toNat]? with
  | none =>
    have c2 : (s.os.length : Int) ≤ i := by
      have := List.getElem?_eq_none_iff.1 ho
      omega
    simp -implicitDefEqProofs only [wpC_seq, rowsA, if_true, if_false, opnd, ofVal, ofVal1, layArgs, Nat.reduceAdd, reduceIte, Nat.reduceEqDiff, reduceCtorEq, rowsB, cellsG, Nat.reduceMul, Sc.len, Ob.len, En.len, Fld.len, fda_ptr o25_0, fda_ptr o25_1, fda_ptr o33_0, fda_ptr o33_1, fda_ptr o33_2, fda_ptr o33_3, fda_ptr o31_0, fda_ptr o31_1, fda_ptr o41_0, fda_ptr o41_1, fda_ptr o45_0, fda_ptr o45_1, fda_rop o25_0, fda_rop o25_1, fda_rop o33_0, fda_rop o33_1, fda_rop o33_2, fda_rop o33_3, fda_rop o31_0, fda_rop o31_1, fda_rop o41_0, fda_rop o41_1, fda_rop o45_0, fda_rop o45_1,
    ld25, ld33, ld41, ld45, ld33r, ld41r, ld45r, ld22, ld23, ld9o, ld9or, ld39o, ld39or, ld9e, ld9er, ld43e, ld43er, ld9f0, ld9f0r, ld9f1, ld9f1r, ld9f2, ld9f2r, ld9f3, ld9f3r, ld9f4, ld9f4r, ld31f, ln22, ln23, ln39, ln43, List.drop_drop, c1, c2]
    simp [backOf, c1, ho]
  | some o =>
    have hil : i.toNat < s.os.length := (List.getElem?_eq_some_iff.1 ho).1
    have c2 : ¬ ((s.os.length : Int) ≤ i) := by omega
    by_cases c3 : k < 0
    · simp -implicitDefEqProofs only [wpC_seq, rowsA, if_true, if_false, opnd, ofVal, ofVal1, layArgs, Nat.reduceAdd, reduceIte, Nat.reduceEqDiff, reduceCtorEq, rowsB, cellsG, Nat.reduceMul, Sc.len, Ob.len, En.len, Fld.len, fda_ptr o25_0, fda_ptr o25_1, fda_ptr o33_0, fda_ptr o33_1, fda_ptr o33_2, fda_ptr o33_3, fda_ptr o31_0, fda_ptr o31_1, fda_ptr o41_0, fda_ptr o41_1, fda_ptr o45_0, fda_ptr o45_1, fda_rop o25_0, fda_rop o25_1, fda_rop o33_0, fda_rop o33_1, fda_rop o33_2, fda_rop o33_3, fda_rop o31_0, fda_rop o31_1, fda_rop o41_0, fda_rop o41_1, fda_rop o45_0, fda_rop o45_1,
    ld25, ld33, ld41, ld45, ld33r, ld41r, ld45r, ld22, ld23, ld9o, ld9or, ld39o, ld39or, ld9e, ld9er, ld43e, ld43er, ld9f0, ld9f0r, ld9f1, ld9f1r, ld9f2, ld9f2r, ld9f3, ld9f3r, ld9f4, ld9f4r, ld31f, ln22, ln23, ln39, ln43, List.drop_drop, c1, c2, c3]
      simp [backOf, c1, ho, c3]
    obtain ⟨r, hr⟩ := ix22 (by omega) ho
    cases hf : o.fs[k.toNat]? with
    | none =>
      have c4 : (o.fs.length : Int) ≤ k := by
        have := List.getElem?_eq_none_iff.1 hf
        omega
      simp -implicitDefEqProofs only [wpC_seq, rowsA, if_true, if_false, opnd, ofVal, ofVal1, layArgs, Nat.reduceAdd, reduceIte, Nat.reduceEqDiff, reduceCtorEq, rowsB, cellsG, Nat.reduceMul, Sc.len, Ob.len, En.len, Fld.len, fda_ptr o25_0, fda_ptr o25_1, fda_ptr o33_0, fda_ptr o33_1, fda_ptr o33_2, fda_ptr o33_3, fda_ptr o31_0, fda_ptr o31_1, fda_ptr o41_0, fda_ptr o41_1, fda_ptr o45_0, fda_ptr o45_1, fda_rop o25_0, fda_rop o25_1, fda_rop o33_0, fda_rop o33_1, fda_rop o33_2, fda_rop o33_3, fda_rop o31_0, fda_rop o31_1, fda_rop o41_0, fda_rop o41_1, fda_rop o45_0, fda_rop o45_1,
    ld25, ld33, ld41, ld45, ld33r, ld41r, ld45r, ld22, ld23, ld9o, ld9or, ld39o, ld39or, ld9e, ld9er, ld43e, ld43er, ld9f0, ld9f0r, ld9f1, ld9f1r, ld9f2, ld9f2r, ld9f3, ld9f3r, ld9f4, ld9f4r, ld31f, ln22, ln23, ln39, ln43, List.drop_drop, c1, c2, c3, c4, hr]
      simp [backOf, c1, ho, c3, hf]
    | some f =>
      have hkl : k.toNat < o.fs.length := (List.getElem?_eq_some_iff.1 hf).1
      have c4 : ¬ ((o.fs.length : Int) ≤ k) := by omega
      obtain ⟨r2, hr2⟩ := ix39 (by omega) hf
      rcases edge_range s f with he | ⟨j, q, he, hq⟩
      · have c5 : (-1 : Int) < 0 := by decide
        simp -implicitDefEqProofs only [wpC_seq, rowsA, if_true, if_false, opnd, ofVal, ofVal1, layArgs, Nat.reduceAdd, reduceIte, Nat.reduceEqDiff, reduceCtorEq, rowsB, cellsG, Nat.reduceMul, Sc.len, Ob.len, En.len, Fld.len, fda_ptr o25_0, fda_ptr o25_1, fda_ptr o33_0, fda_ptr o33_1, fda_ptr o33_2, fda_ptr o33_3, fda_ptr o31_0, fda_ptr o31_1, fda_ptr o41_0, fda_ptr o41_1, fda_ptr o45_0, fda_ptr o45_1, fda_rop o25_0, fda_rop o25_1, fda_rop o33_0, fda_rop o33_1, fda_rop o33_2, fda_rop o33_3, fda_rop o31_0, fda_rop o31_1, fda_rop o41_0, fda_rop o41_1, fda_rop o45_0, fda_rop o45_1,
    ld25, ld33, ld41, ld45, ld33r, ld41r, ld45r, ld22, ld23, ld9o, ld9or, ld39o, ld39or, ld9e, ld9er, ld43e, ld43er, ld9f0, ld9f0r, ld9f1, ld9f1r, ld9f2, ld9f2r, ld9f3, ld9f3r, ld9f4, ld9f4r, ld31f, ln22, ln23, ln39, ln43, List.drop_drop, c1, c2, c3, c4, hr, hr2, al33, sz33, st33, goO_known (refEdge_c hs f), he, c5]
        simp [backOf, c1, ho, c3, hf, he]
      · have c5 : ¬ ((j : Int) < 0) := by omega
        by_cases c6 : f.inv = []
        · simp -implicitDefEqProofs only [wpC_seq, rowsA, if_true, if_false, opnd, ofVal, ofVal1, layArgs, Nat.reduceAdd, reduceIte, Nat.reduceEqDiff, reduceCtorEq, rowsB, cellsG, Nat.reduceMul, Sc.len, Ob.len, En.len, Fld.len, fda_ptr o25_0, fda_ptr o25_1, fda_ptr o33_0, fda_ptr o33_1, fda_ptr o33_2, fda_ptr o33_3, fda_ptr o31_0, fda_ptr o31_1, fda_ptr o41_0, fda_ptr o41_1, fda_ptr o45_0, fda_ptr o45_1, fda_rop o25_0, fda_rop o25_1, fda_rop o33_0, fda_rop o33_1, fda_rop o33_2, fda_rop o33_3, fda_rop o31_0, fda_rop o31_1, fda_rop o41_0, fda_rop o41_1, fda_rop o45_0, fda_rop o45_1,
    ld25, ld33, ld41, ld45, ld33r, ld41r, ld45r, ld22, ld23, ld9o, ld9or, ld39o, ld39or, ld9e, ld9er, ld43e, ld43er, ld9f0, ld9f0r, ld9f1, ld9f1r, ld9f2, ld9f2r, ld9f3, ld9f3r, ld9f4, ld9f4r, ld31f, ln22, ln23, ln39, ln43, List.drop_drop, c1, c2, c3, c4, hr, hr2, al33, sz33, st33, goO_known (refEdge_c hs f), he, c5, c6, Array.toList_empty]
          simp [backOf, c1, ho, c3, hf, he, c6]
        · obtain ⟨r3, hr3⟩ := ix22 (l := s.os) (i := (j : Int)) (by omega) (by rw [Int.toNat_natCast]; exact hq)
          have hqf : q.fs.length ≤ 9223372036854775807 := hs.2.2 q (List.mem_of_getElem? hq)
          simp -implicitDefEqProofs only [wpC_seq, rowsA, if_true, if_false, opnd, ofVal, ofVal1, layArgs, Nat.reduceAdd, reduceIte, Nat.reduceEqDiff, reduceCtorEq, rowsB, cellsG, Nat.reduceMul, Sc.len, Ob.len, En.len, Fld.len, fda_ptr o25_0, fda_ptr o25_1, fda_ptr o33_0, fda_ptr o33_1, fda_ptr o33_2, fda_ptr o33_3, fda_ptr o31_0, fda_ptr o31_1, fda_ptr o41_0, fda_ptr o41_1, fda_ptr o45_0, fda_ptr o45_1, fda_rop o25_0, fda_rop o25_1, fda_rop o33_0, fda_rop o33_1, fda_rop o33_2, fda_rop o33_3, fda_rop o31_0, fda_rop o31_1, fda_rop o41_0, fda_rop o41_1, fda_rop o45_0, fda_rop o45_1,
    ld25, ld33, ld41, ld45, ld33r, ld41r, ld45r, ld22, ld23, ld9o, ld9or, ld39o, ld39or, ld9e, ld9er, ld43e, ld43er, ld9f0, ld9f0r, ld9f1, ld9f1r, ld9f2, ld9f2r, ld9f3, ld9f3r, ld9f4, ld9f4r, ld31f, ln22, ln23, ln39, ln43, List.drop_drop, c1, c2, c3, c4, hr, hr2, hr3, al33, sz33, st33, goO_known (refEdge_c hs f), goD_known (refField_c q hqf f.inv), he, c5, c6, Array.toList_empty]
          simp [backOf, c1, ho, c3, hf, he, c6, hq, placeAt]
          exact fun e => absurd e c5
end Go.Proofs.YtcbngkmmmfaaoaaGreatDoor
/-
  SCHEMAS THAT MAY BE, Q4: types, what leads back.
-/
namespace Go.Proofs.YtcbngkmmmfaaoaaGreatDoor
open Go.RowKit Go.Lib Go.Ac
set_option linter.unusedSimpArgs false
set_option maxRecDepth 100000
variable {mx : Int}

/-- Is a field's type one that may be? -/
def typedB (s : Sc) (f : Fld) : Bool := if propB s f then decide (f.w = []) || decide (f.w = [33]) else decide (0 ≤ objAt s f.t) && (decide (f.w = []) || decide (f.w = [33, 91, 33]))
theorem typed_c {s : Sc} {ve : PV} (hv : RowR En.pv ve s.es) (hs : s.fits) (f : Fld) (h : AH) (fr : Nat) : CR Tryz.prog (globM mx) md (.fn 44) [.agg (scV s ve), .agg f.pv] h fr (.val (.bool (typedB s f))) := by
  refine CR.plain (rs := [.tmp 4]) Tryz.func44 rfl rfl rfl rfl rfl (by simp [PV.cleans, PV.clean, scV_clean hv, Fld.cl]) rfl ?_ h fr
  have hlen : (scV s ve).length = 2 := rfl
  have wr : ∀ (x : List UInt8), (decide (f.w = []) || decide (f.w = x)) = if f.w = [] then true else decide (f.w = x) := fun x => by
    by_cases c : f.w = [] <;> simp [c]
  unfold typedB propB
  cases c1 : scalar f.t with
  | true =>
    by_cases c3 : f.w = []
    · simp -implicitDefEqProofs only [wpC_seq, rowsA, if_true, if_false, opnd, ofVal, ofVal1, layArgs, Nat.reduceAdd, reduceIte, Nat.reduceEqDiff, reduceCtorEq, rowsB, cellsG, Nat.reduceMul, hlen, Fld.pv, fda_ptr o33_1, fda_ptr o31_0, fda_ptr o31_1, loadO_one ag9 sz9, goO_known (scalar_c f.t), c1, c3, Bool.true_or, Bool.false_or]
    · simp -implicitDefEqProofs only [wpC_seq, rowsA, if_true, if_false, opnd, ofVal, ofVal1, layArgs, Nat.reduceAdd, reduceIte, Nat.reduceEqDiff, reduceCtorEq, rowsB, cellsG, Nat.reduceMul, hlen, Fld.pv, fda_ptr o33_1, fda_ptr o31_0, fda_ptr o31_1, loadO_one ag9 sz9, goO_known (scalar_c f.t), c1, c3, Bool.true_or, Bool.false_or]
  | false =>
    by_cases c2 : 0 ≤ enmAt s f.t
    · by_cases c3 : f.w = []
      · simp -implicitDefEqProofs only [wpC_seq, rowsA, if_true, if_false, opnd, ofVal, ofVal1, layArgs, Nat.reduceAdd, reduceIte, Nat.reduceEqDiff, reduceCtorEq, rowsB, cellsG, Nat.reduceMul, hlen, Fld.pv, fda_ptr o33_1, fda_ptr o31_0, fda_ptr o31_1, loadO_one ag9 sz9, goO_known (scalar_c f.t), c1, ld25v s, goO_known (enm_v hv hs f.t), c2, c3, Bool.or_true, Bool.false_or, Bool.true_or]
      · simp -implicitDefEqProofs only [wpC_seq, rowsA, if_true, if_false, opnd, ofVal, ofVal1, layArgs, Nat.reduceAdd, reduceIte, Nat.reduceEqDiff, reduceCtorEq, rowsB, cellsG, Nat.reduceMul, hlen, Fld.pv, fda_ptr o33_1, fda_ptr o31_0, fda_ptr o31_1, loadO_one ag9 sz9, goO_known (scalar_c f.t), c1, ld25v s, goO_known (enm_v hv hs f.t), c2, c3, Bool.or_true, Bool.false_or, Bool.true_or]
    · by_cases c4 : 0 ≤ objAt s f.t
      · by_cases c3 : f.w = []
        · simp -implicitDefEqProofs only [wpC_seq, rowsA, if_true, if_false, opnd, ofVal, ofVal1, layArgs, Nat.reduceAdd, reduceIte, Nat.reduceEqDiff, reduceCtorEq, rowsB, cellsG, Nat.reduceMul, hlen, Fld.pv, fda_ptr o33_1, fda_ptr o31_0, fda_ptr o31_1, loadO_one ag9 sz9, goO_known (scalar_c f.t), c1, ld25v s, goO_known (enm_v hv hs f.t), c2, goO_known (obj_v hv hs f.t), c4, c3, Bool.or_false, Bool.true_and, Bool.or_self, Bool.true_or, Bool.false_or]
        · simp -implicitDefEqProofs only [wpC_seq, rowsA, if_true, if_false, opnd, ofVal, ofVal1, layArgs, Nat.reduceAdd, reduceIte, Nat.reduceEqDiff, reduceCtorEq, rowsB, cellsG, Nat.reduceMul, hlen, Fld.pv, fda_ptr o33_1, fda_ptr o31_0, fda_ptr o31_1, loadO_one ag9 sz9, goO_known (scalar_c f.t), c1, ld25v s, goO_known (enm_v hv hs f.t), c2, goO_known (obj_v hv hs f.t), c4, c3, Bool.or_false, Bool.true_and, Bool.or_self, Bool.true_or, Bool.false_or]
      · simp -implicitDefEqProofs only [wpC_seq, rowsA, if_true, if_false, opnd, ofVal, ofVal1, layArgs, Nat.reduceAdd, reduceIte, Nat.reduceEqDiff, reduceCtorEq, rowsB, cellsG, Nat.reduceMul, hlen, Fld.pv, fda_ptr o33_1, fda_ptr o31_0, fda_ptr o31_1, loadO_one ag9 sz9, goO_known (scalar_c f.t), c1, ld25v s, goO_known (enm_v hv hs f.t), c2, goO_known (obj_v hv hs f.t), c4, Bool.or_false, Bool.false_and, Bool.or_self]
theorem chk1_c {s : Sc} {ve : PV} (hv : RowR En.pv ve s.es) (hs : s.fits) (o : Ob) (f : Fld) (h : AH) (fr : Nat) : CR Tryz.prog (globM mx) md (.fn 43) [.agg o.pv, .agg f.pv, .rop (scV s ve)] h fr (.val (.bool (typedB s f))) := by
  refine CR.plain (rs := [.tmp 5]) Tryz.func43 rfl rfl rfl rfl rfl rfl rfl ?_ h fr
  simp -implicitDefEqProofs only [wpC_seq, rowsA, if_true, if_false, opnd, ofVal, ofVal1, layArgs, Nat.reduceAdd, reduceIte, Nat.reduceEqDiff, reduceCtorEq, rowsB, cellsG, Nat.reduceMul, Ob.len, Fld.len, ld33, ld25v s, goO_known (typed_c hv hs f)]
/-- May a field be searched? -/
def searchB (s : Sc) (f : Fld) : Bool := !f.s || decide (edgeOf s f < 0)
theorem chk2_c {s : Sc} {ve : PV} (hv : RowR En.pv ve s.es) (hs : s.fits) (o : Ob) (f : Fld) (h : AH) (fr : Nat) : CR Tryz.prog (globM mx) md (.fn 45) [.agg o.pv, .agg f.pv, .rop (scV s ve)] h fr (.val (.bool (searchB s f))) := by
  refine CR.plain (rs := [.tmp 5]) Tryz.func45 rfl rfl rfl rfl rfl rfl rfl ?_ h fr
  have hl : loadO Tryz.prog 4 (some [.bool f.s, .str f.inv]) = some (.q (.bool f.s)) := loadO_one ag4 sz4
  have hl2 := ld33 f
  unfold searchB
  rw [Fld.pv] at hl2
  cases c1 : f.s with
  | false =>
    rw [c1] at hl hl2
    simp -implicitDefEqProofs only [wpC_seq, rowsA, if_true, if_false, opnd, ofVal, ofVal1, layArgs, Nat.reduceAdd, reduceIte, Nat.reduceEqDiff, reduceCtorEq, rowsB, cellsG, Nat.reduceMul, Ob.len, Fld.pv, c1, fda_ptr o33_2, hl, Bool.true_or]
  | true =>
    have he := edge_v (mx := mx) hv hs f
    rw [Fld.pv] at he
    rw [c1] at hl hl2 he
    simp -implicitDefEqProofs only [wpC_seq, rowsA, if_true, if_false, opnd, ofVal, ofVal1, layArgs, Nat.reduceAdd, reduceIte, Nat.reduceEqDiff, reduceCtorEq, rowsB, cellsG, Nat.reduceMul, Ob.len, Fld.pv, c1, fda_ptr o33_2, hl, hl2, ld25v s, goO_known he, Bool.false_or]
/-- Does what leads back do so? -/
def backB (s : Sc) (o : Ob) (f : Fld) : Bool :=
  if f.inv = [] then true
  else if edgeOf s f < 0 then false
  else match s.os[(edgeOf s f).toNat]? with
    | none => false
    | some q => if placeAt q f.inv < 0 then false else match q.fs[(placeAt q f.inv).toNat]? with
      | none => false
      | some g => decide (0 ≤ edgeOf s g) && decide (g.t = o.n) && decide (g.inv = f.n)
theorem place_range (q : Ob) (x : List UInt8) : placeAt q x = -1 ∨ ∃ (j : Nat) (g : Fld), placeAt q x = (j : Int) ∧ q.fs[j]? = some g := by
  rcases idx_range (fun o : Fld => decide (o.n = x)) q.fs 0 with h | ⟨j, g, h1, h2, _⟩
  · exact .inl h
  · exact .inr ⟨j, g, by unfold placeAt; rw [h1]; simp, h2⟩
theorem ld22v (s : Sc) (ve : PV) : loadO Tryz.prog 22 (some (scV s ve)) = some (.q (rowV Ob.pv s.os)) := loadO_one ag22 sz22
theorem backs_c {s : Sc} {ve : PV} (hv : RowR En.pv ve s.es) (hs : s.fits) (o : Ob) (f : Fld) (h : AH) (fr : Nat) : CR Tryz.prog (globM mx) md (.fn 47) [.agg (scV s ve), .agg o.pv, .agg f.pv] h fr (.val (.bool (backB s o f))) := by
  refine CR.plain (rs := [.tmp 6]) Tryz.func47 rfl rfl rfl rfl rfl (by simp [PV.cleans, PV.clean, scV_clean hv, Fld.cl, Ob.cl]) rfl ?_ h fr
  have hlen : (scV s ve).length = 2 := rfl
  unfold backB
  by_cases c1 : f.inv = []
  · simp -implicitDefEqProofs only [wpC_seq, rowsA, if_true, if_false, opnd, ofVal, ofVal1, layArgs, Nat.reduceAdd, reduceIte, Nat.reduceEqDiff, reduceCtorEq, rowsB, cellsG, Nat.reduceMul, Sc.len, Ob.len, En.len, Fld.len, fda_ptr o25_0, fda_ptr o25_1, fda_ptr o33_0, fda_ptr o33_1, fda_ptr o33_2, fda_ptr o33_3, fda_ptr o31_0, fda_ptr o31_1, fda_ptr o41_0, fda_ptr o41_1, fda_ptr o45_0, fda_ptr o45_1, fda_rop o25_0, fda_rop o25_1, fda_rop o33_0, fda_rop o33_1, fda_rop o33_2, fda_rop o33_3, fda_rop o31_0, fda_rop o31_1, fda_rop o41_0, fda_rop o41_1, fda_rop o45_0, fda_rop o45_1,
    ld25, ld33, ld41, ld45, ld33r, ld41r, ld45r, ld22, ld23, ld9o, ld9or, ld39o, ld39or, ld9e, ld9er, ld43e, ld43er, ld9f0, ld9f0r, ld9f1, ld9f1r, ld9f2, ld9f2r, ld9f3, ld9f3r, ld9f4, ld9f4r, ld31f, ln22, ln23, ln39, ln43, List.drop_drop, hlen, c1]
  rcases edge_range s f with he | ⟨j, q, he, hq⟩
  · have c2 : (-1 : Int) < 0 := by decide
    simp -implicitDefEqProofs only [wpC_seq, rowsA, if_true, if_false, opnd, ofVal, ofVal1, layArgs, Nat.reduceAdd, reduceIte, Nat.reduceEqDiff, reduceCtorEq, rowsB, cellsG, Nat.reduceMul, Sc.len, Ob.len, En.len, Fld.len, fda_ptr o25_0, fda_ptr o25_1, fda_ptr o33_0, fda_ptr o33_1, fda_ptr o33_2, fda_ptr o33_3, fda_ptr o31_0, fda_ptr o31_1, fda_ptr o41_0, fda_ptr o41_1, fda_ptr o45_0, fda_ptr o45_1, fda_rop o25_0, fda_rop o25_1, fda_rop o33_0, fda_rop o33_1, fda_rop o33_2, fda_rop o33_3, fda_rop o31_0, fda_rop o31_1, fda_rop o41_0, fda_rop o41_1, fda_rop o45_0, fda_rop o45_1,
    ld25, ld33, ld41, ld45, ld33r, ld41r, ld45r, ld22, ld23, ld9o, ld9or, ld39o, ld39or, ld9e, ld9er, ld43e, ld43er, ld9f0, ld9f0r, ld9f1, ld9f1r, ld9f2, ld9f2r, ld9f3, ld9f3r, ld9f4, ld9f4r, ld31f, ln22, ln23, ln39, ln43, List.drop_drop, hlen, c1, ld25v s, goO_known (edge_v hv hs f), he, c2]
  have c2 : ¬ ((j : Int) < 0) := by omega
  obtain ⟨r, hr⟩ := ix22 (l := s.os) (i := (j : Int)) (by omega) (by rw [Int.toNat_natCast]; exact hq)
  have hqm := hs.2.2 q (List.mem_of_getElem? hq)
  rcases place_range q f.inv with hp | ⟨i, g, hp, hg⟩
  · have c3 : (-1 : Int) < 0 := by decide
    have hpl := place_c (mx := mx) q hqm f.inv
    rw [show idx (fun g : Fld => decide (g.n = f.inv)) q.fs 0 = -1 from hp] at hpl
    simp -implicitDefEqProofs only [wpC_seq, rowsA, if_true, if_false, opnd, ofVal, ofVal1, layArgs, Nat.reduceAdd, reduceIte, Nat.reduceEqDiff, reduceCtorEq, rowsB, cellsG, Nat.reduceMul, Sc.len, Ob.len, En.len, Fld.len, fda_ptr o25_0, fda_ptr o25_1, fda_ptr o33_0, fda_ptr o33_1, fda_ptr o33_2, fda_ptr o33_3, fda_ptr o31_0, fda_ptr o31_1, fda_ptr o41_0, fda_ptr o41_1, fda_ptr o45_0, fda_ptr o45_1, fda_rop o25_0, fda_rop o25_1, fda_rop o33_0, fda_rop o33_1, fda_rop o33_2, fda_rop o33_3, fda_rop o31_0, fda_rop o31_1, fda_rop o41_0, fda_rop o41_1, fda_rop o45_0, fda_rop o45_1,
    ld25, ld33, ld41, ld45, ld33r, ld41r, ld45r, ld22, ld23, ld9o, ld9or, ld39o, ld39or, ld9e, ld9er, ld43e, ld43er, ld9f0, ld9f0r, ld9f1, ld9f1r, ld9f2, ld9f2r, ld9f3, ld9f3r, ld9f4, ld9f4r, ld31f, ln22, ln23, ln39, ln43, List.drop_drop, hlen, c1, ld25v s, ld22v, goO_known (edge_v hv hs f), he, c2, hr, goD_known hpl, hp, c3, Int.toNat_natCast, hq]
  have c3 : ¬ ((i : Int) < 0) := by omega
  obtain ⟨r2, hr2⟩ := ix39 (l := q.fs) (i := (i : Int)) (by omega) (by rw [Int.toNat_natCast]; exact hg)
  have hpl := place_c (mx := mx) q hqm f.inv
  rw [show idx (fun g : Fld => decide (g.n = f.inv)) q.fs 0 = (i : Int) from hp] at hpl
  by_cases c4 : 0 ≤ edgeOf s g
  · by_cases c5 : g.t = o.n
    · simp -implicitDefEqProofs only [wpC_seq, rowsA, if_true, if_false, opnd, ofVal, ofVal1, layArgs, Nat.reduceAdd, reduceIte, Nat.reduceEqDiff, reduceCtorEq, rowsB, cellsG, Nat.reduceMul, Sc.len, Ob.len, En.len, Fld.len, fda_ptr o25_0, fda_ptr o25_1, fda_ptr o33_0, fda_ptr o33_1, fda_ptr o33_2, fda_ptr o33_3, fda_ptr o31_0, fda_ptr o31_1, fda_ptr o41_0, fda_ptr o41_1, fda_ptr o45_0, fda_ptr o45_1, fda_rop o25_0, fda_rop o25_1, fda_rop o33_0, fda_rop o33_1, fda_rop o33_2, fda_rop o33_3, fda_rop o31_0, fda_rop o31_1, fda_rop o41_0, fda_rop o41_1, fda_rop o45_0, fda_rop o45_1,
    ld25, ld33, ld41, ld45, ld33r, ld41r, ld45r, ld22, ld23, ld9o, ld9or, ld39o, ld39or, ld9e, ld9er, ld43e, ld43er, ld9f0, ld9f0r, ld9f1, ld9f1r, ld9f2, ld9f2r, ld9f3, ld9f3r, ld9f4, ld9f4r, ld31f, ln22, ln23, ln39, ln43, List.drop_drop, hlen, c1, ld25v s, ld22v, goO_known (edge_v hv hs f), he, c2, hr, goD_known hpl, hp, c3, Int.toNat_natCast, hq, hg, hr2, al33, sz33, st33, goO_known (edge_v hv hs g), c4, c5, Bool.true_and]
    · simp -implicitDefEqProofs only [wpC_seq, rowsA, if_true, if_false, opnd, ofVal, ofVal1, layArgs, Nat.reduceAdd, reduceIte, Nat.reduceEqDiff, reduceCtorEq, rowsB, cellsG, Nat.reduceMul, Sc.len, Ob.len, En.len, Fld.len, fda_ptr o25_0, fda_ptr o25_1, fda_ptr o33_0, fda_ptr o33_1, fda_ptr o33_2, fda_ptr o33_3, fda_ptr o31_0, fda_ptr o31_1, fda_ptr o41_0, fda_ptr o41_1, fda_ptr o45_0, fda_ptr o45_1, fda_rop o25_0, fda_rop o25_1, fda_rop o33_0, fda_rop o33_1, fda_rop o33_2, fda_rop o33_3, fda_rop o31_0, fda_rop o31_1, fda_rop o41_0, fda_rop o41_1, fda_rop o45_0, fda_rop o45_1,
    ld25, ld33, ld41, ld45, ld33r, ld41r, ld45r, ld22, ld23, ld9o, ld9or, ld39o, ld39or, ld9e, ld9er, ld43e, ld43er, ld9f0, ld9f0r, ld9f1, ld9f1r, ld9f2, ld9f2r, ld9f3, ld9f3r, ld9f4, ld9f4r, ld31f, ln22, ln23, ln39, ln43, List.drop_drop, hlen, c1, ld25v s, ld22v, goO_known (edge_v hv hs f), he, c2, hr, goD_known hpl, hp, c3, Int.toNat_natCast, hq, hg, hr2, al33, sz33, st33, goO_known (edge_v hv hs g), c4, c5, Bool.true_and, Bool.false_and]
  · simp -implicitDefEqProofs only [wpC_seq, rowsA, if_true, if_false, opnd, ofVal, ofVal1, layArgs, Nat.reduceAdd, reduceIte, Nat.reduceEqDiff, reduceCtorEq, rowsB, cellsG, Nat.reduceMul, Sc.len, Ob.len, En.len, Fld.len, fda_ptr o25_0, fda_ptr o25_1, fda_ptr o33_0, fda_ptr o33_1, fda_ptr o33_2, fda_ptr o33_3, fda_ptr o31_0, fda_ptr o31_1, fda_ptr o41_0, fda_ptr o41_1, fda_ptr o45_0, fda_ptr o45_1, fda_rop o25_0, fda_rop o25_1, fda_rop o33_0, fda_rop o33_1, fda_rop o33_2, fda_rop o33_3, fda_rop o31_0, fda_rop o31_1, fda_rop o41_0, fda_rop o41_1, fda_rop o45_0, fda_rop o45_1,
    ld25, ld33, ld41, ld45, ld33r, ld41r, ld45r, ld22, ld23, ld9o, ld9or, ld39o, ld39or, ld9e, ld9er, ld43e, ld43er, ld9f0, ld9f0r, ld9f1, ld9f1r, ld9f2, ld9f2r, ld9f3, ld9f3r, ld9f4, ld9f4r, ld31f, ln22, ln23, ln39, ln43, List.drop_drop, hlen, c1, ld25v s, ld22v, goO_known (edge_v hv hs f), he, c2, hr, goD_known hpl, hp, c3, Int.toNat_natCast, hq, hg, hr2, al33, sz33, st33, goO_known (edge_v hv hs g), c4, Bool.false_and]
theorem chk3_c {s : Sc} {ve : PV} (hv : RowR En.pv ve s.es) (hs : s.fits) (o : Ob) (f : Fld) (h : AH) (fr : Nat) : CR Tryz.prog (globM mx) md (.fn 46) [.agg o.pv, .agg f.pv, .rop (scV s ve)] h fr (.val (.bool (backB s o f))) := by
  refine CR.plain (rs := [.tmp 5]) Tryz.func46 rfl rfl rfl rfl rfl rfl rfl ?_ h fr
  simp -implicitDefEqProofs only [wpC_seq, rowsA, if_true, if_false, opnd, ofVal, ofVal1, layArgs, Nat.reduceAdd, reduceIte, Nat.reduceEqDiff, reduceCtorEq, rowsB, cellsG, Nat.reduceMul, Ob.len, Fld.len, ld33, ld41, ld25v s, goO_known (backs_c hv hs o f)]
end Go.Proofs.YtcbngkmmmfaaoaaGreatDoor
