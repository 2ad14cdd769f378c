/-
  RUNES, 13: which character begins where, and a text's characters (RunesReads).
-/
import Derived.Test.YtohmplfkieaecaaDoorR12
namespace Go.Proofs.YtohmplfkieaecaaDoor
open Go.RowKit Go.Lib Go.Ab
set_option linter.unusedSimpArgs false
set_option maxRecDepth 100000

def inv3 (l : List UInt8) (row : PV) (b : Bool) (k : Nat) (F : Fr) (_ : AH) : Prop := ∃ t : Nat, t + k = 2 ∧ F.at 0 = .str l ∧ F.at 9 = row ∧ F.at 10 = .bool b ∧ F.at 11 = .int .i64 t
def inv3b (l : List UInt8) (row : PV) (t : Int) (S n : Nat) (k : Nat) (F : Fr) (h' : AH) : Prop := ∃ (i : Nat) (c : List PV), i + k = n ∧ F.at 0 = .str l ∧ F.at 9 = row ∧ F.at 10 = .bool true ∧ F.at 11 = .int .i64 t ∧ F.at 12 = .ow S n 0 n ∧ F.at 14 = .int .i64 i ∧ h'.get S = some (.cells 1 false c) ∧ c.length = n
theorem readsLaw_c (l : List UInt8) (hl : l.length ≤ 1048576) (a : Int) (h : AH) (fr : Nat) : CR Tryd.prog glob md 3 [.str l, .int .i64 a] h fr (.bool true) none := by
  refine CR.plain (rs := [.tmp 4]) Tryd.func3 rfl rfl rfl rfl rfl rfl ?_ h fr
  cases hv : validD l with
  | false =>
    have hb := Bds.ex l l.length 0 (by omega) (by simpa using hv)
    simp -implicitDefEqProofs only [wpC_seq, wpC_region, wpC_draw, wpC_cond, wpC_ret, wpC_skip, wpC_exit, wpC_block, wpC_label, wpO_go, wpQ_go, wantA_none, gdO_true, gdO_false, gdQ_true, gdQ_false, goO_q, goO_w, goQ_q, putA_some, putA_none, opnd, ofVal, ofVal1,
    wpO_nil, wpQ_nil, KN_eq, KQ_eq, KS_normal, KS_ret, KS_exit, KB_normal, KB_ret, KB_same, layArgs, Fr.at_set, aop_move, aop_assign, aop_pick, pickO_true, pickO_false, pickO_bool, aop_box, boxO_int, boxO_str, boxO_bool, aop_load, behind_ptr, behind_rop,
    behindO_one, aop_store, aop_index, aop_extract, extractO_0, extractO_1, extractO_2, aop_binOp, bin_add, bin_sub, bin_mul, bin_eql, bin_neq, bin_lss, bin_leq, bin_gtr, bin_geq, bin_seql, bin_sneq, aop_unOp, unO_not, aop_convert, aop_len,
    aop_call, callV_func, aop_slice, decide_true, decide_false, decide_not, wantA_some, yieldA_eq, List.getElem?_toArray, List.getElem?_cons_succ, List.getElem?_cons_zero, Option.bind_some, yieldD_some, wantY_bool, wantY_not, Nat.reduceAdd, reduceIte, Nat.reduceEqDiff,
    Nat.zero_add, Nat.add_zero, beq_self_eq_true, Bool.true_beq, Bool.false_beq, Bool.not_true, Bool.not_false, List.map_cons, List.map_nil, List.append_nil, List.nil_append, List.cons_append, Option.map_some, Option.map_none, Bool.false_eq_true, reduceCtorEq, EndV_normal, EndV_ret, RV_some, resA_tmp, resA_nil, resT_some, oneOf_one, oneOf_two, tup_two, int_same, bool_same, str_same, and_self, and_true, true_and, if_true, if_false, aop_buildSlice, AH.get_set, AH.get_up, AH.next_set, AH.next_up, next_empty, cellsOf_ow, cellsG, List.length_cons, List.length_nil, List.drop_zero, List.take_succ_cons, List.take_zero, Nat.reduceMul, Nat.le_refl, convG_some, List.all_cons, List.all_nil,
    byteC_int, Bool.and_self, toB_int, List.size_toArray, aop_idx, liveG_cells, storeO_ptr, stoG_int, List.set_cons_zero, List.set_cons_succ, behindO_cells, aop_append, aop_makeSlice, aop_len, liveB_ro, KL_normal, KL_ret, KL_exit, KI_normal, KI_ret, KI_exit, goO_known (rune_c l (by omega) a), goO_known (refRune_c l (by omega) a), goO_known fixed_c, goO_known (runesValid_c l (by omega)), goO_known (refValid_c l (by omega)), hv, bin_bneq u4, goO_known (refPoints_bad l (by omega) hb)]
    refine wpC_loop (inv3 l .nls false) (k := 2) ⟨0, rfl, ?_, ?_, ?_, ?_⟩ ?_
    · simp only [Fr.at_set, Nat.reduceEqDiff, reduceIte, reduceCtorEq]
    · simp only [Fr.at_set, Nat.reduceEqDiff, reduceIte, reduceCtorEq]
    · simp only [Fr.at_set, Nat.reduceEqDiff, reduceIte, reduceCtorEq]
    · simp only [Fr.at_set, Nat.reduceEqDiff, reduceIte, reduceCtorEq]; rfl
    rintro k F h' ⟨t, ht, f0, f9, f10, f11⟩
    cases k with
    | zero =>
      have c1 : decide ((t : Int) < 2) = false := decide_eq_false (by omega)
      simp -implicitDefEqProofs only [wpC_seq, wpC_region, wpC_draw, wpC_cond, wpC_ret, wpC_skip, wpC_exit, wpC_block, wpC_label, wpO_go, wpQ_go, wantA_none, gdO_true, gdO_false, gdQ_true, gdQ_false, goO_q, goO_w, goQ_q, putA_some, putA_none, opnd, ofVal, ofVal1,
    wpO_nil, wpQ_nil, KN_eq, KQ_eq, KS_normal, KS_ret, KS_exit, KB_normal, KB_ret, KB_same, layArgs, Fr.at_set, aop_move, aop_assign, aop_pick, pickO_true, pickO_false, pickO_bool, aop_box, boxO_int, boxO_str, boxO_bool, aop_load, behind_ptr, behind_rop,
    behindO_one, aop_store, aop_index, aop_extract, extractO_0, extractO_1, extractO_2, aop_binOp, bin_add, bin_sub, bin_mul, bin_eql, bin_neq, bin_lss, bin_leq, bin_gtr, bin_geq, bin_seql, bin_sneq, aop_unOp, unO_not, aop_convert, aop_len,
    aop_call, callV_func, aop_slice, decide_true, decide_false, decide_not, wantA_some, yieldA_eq, List.getElem?_toArray, List.getElem?_cons_succ, List.getElem?_cons_zero, Option.bind_some, yieldD_some, wantY_bool, wantY_not, Nat.reduceAdd, reduceIte, Nat.reduceEqDiff,
    Nat.zero_add, Nat.add_zero, beq_self_eq_true, Bool.true_beq, Bool.false_beq, Bool.not_true, Bool.not_false, List.map_cons, List.map_nil, List.append_nil, List.nil_append, List.cons_append, Option.map_some, Option.map_none, Bool.false_eq_true, reduceCtorEq, EndV_normal, EndV_ret, RV_some, resA_tmp, resA_nil, resT_some, oneOf_one, oneOf_two, tup_two, int_same, bool_same, str_same, and_self, and_true, true_and, if_true, if_false, aop_buildSlice, AH.get_set, AH.get_up, AH.next_set, AH.next_up, next_empty, cellsOf_ow, cellsG, List.length_cons, List.length_nil, List.drop_zero, List.take_succ_cons, List.take_zero, Nat.reduceMul, Nat.le_refl, convG_some, List.all_cons, List.all_nil,
    byteC_int, Bool.and_self, toB_int, List.size_toArray, aop_idx, liveG_cells, storeO_ptr, stoG_int, List.set_cons_zero, List.set_cons_succ, behindO_cells, aop_append, aop_makeSlice, aop_len, liveB_ro, KL_normal, KL_ret, KL_exit, KI_normal, KI_ret, KI_exit, f0, f9, f10, f11, c1]
    | succ k =>
      have c1 : decide ((t : Int) < 2) = true := decide_eq_true (by omega)
      have w := IntWalk.i64_in ((t : Int) + 1) (by omega)
      obtain ⟨h1, q1, _, _⟩ := points_bad l (by omega) hv (h'.up 9)
      obtain ⟨h2, q2, _, _⟩ := same_c .nls .nls [] [] (by simp) (h1.up 9) (.inr (.inr ⟨rfl, rfl⟩)) (.inr (.inr ⟨rfl, rfl⟩))
      rw [decide_eq_true (show ([] : List Int) = [] from rfl)] at q2
      have c0 : decide ((0 : Int) < 0) = false := by decide
      simp -implicitDefEqProofs only [wpC_seq, wpC_region, wpC_draw, wpC_cond, wpC_ret, wpC_skip, wpC_exit, wpC_block, wpC_label, wpO_go, wpQ_go, wantA_none, gdO_true, gdO_false, gdQ_true, gdQ_false, goO_q, goO_w, goQ_q, putA_some, putA_none, opnd, ofVal, ofVal1,
    wpO_nil, wpQ_nil, KN_eq, KQ_eq, KS_normal, KS_ret, KS_exit, KB_normal, KB_ret, KB_same, layArgs, Fr.at_set, aop_move, aop_assign, aop_pick, pickO_true, pickO_false, pickO_bool, aop_box, boxO_int, boxO_str, boxO_bool, aop_load, behind_ptr, behind_rop,
    behindO_one, aop_store, aop_index, aop_extract, extractO_0, extractO_1, extractO_2, aop_binOp, bin_add, bin_sub, bin_mul, bin_eql, bin_neq, bin_lss, bin_leq, bin_gtr, bin_geq, bin_seql, bin_sneq, aop_unOp, unO_not, aop_convert, aop_len,
    aop_call, callV_func, aop_slice, decide_true, decide_false, decide_not, wantA_some, yieldA_eq, List.getElem?_toArray, List.getElem?_cons_succ, List.getElem?_cons_zero, Option.bind_some, yieldD_some, wantY_bool, wantY_not, Nat.reduceAdd, reduceIte, Nat.reduceEqDiff,
    Nat.zero_add, Nat.add_zero, beq_self_eq_true, Bool.true_beq, Bool.false_beq, Bool.not_true, Bool.not_false, List.map_cons, List.map_nil, List.append_nil, List.nil_append, List.cons_append, Option.map_some, Option.map_none, Bool.false_eq_true, reduceCtorEq, EndV_normal, EndV_ret, RV_some, resA_tmp, resA_nil, resT_some, oneOf_one, oneOf_two, tup_two, int_same, bool_same, str_same, and_self, and_true, true_and, if_true, if_false, aop_buildSlice, AH.get_set, AH.get_up, AH.next_set, AH.next_up, next_empty, cellsOf_ow, cellsG, List.length_cons, List.length_nil, List.drop_zero, List.take_succ_cons, List.take_zero, Nat.reduceMul, Nat.le_refl, convG_some, List.all_cons, List.all_nil,
    byteC_int, Bool.and_self, toB_int, List.size_toArray, aop_idx, liveG_cells, storeO_ptr, stoG_int, List.set_cons_zero, List.set_cons_succ, behindO_cells, aop_append, aop_makeSlice, aop_len, liveB_ro, KL_normal, KL_ret, KL_exit, KI_normal, KI_ret, KI_exit, up_up, f0, f9, f10, f11, c1, goO_shared q1, goO_shared q2, bin_bneq u4]
      refine wpC_round ?_
      simp -implicitDefEqProofs only [wpC_seq, wpC_region, wpC_draw, wpC_cond, wpC_ret, wpC_skip, wpC_exit, wpC_block, wpC_label, wpO_go, wpQ_go, wantA_none, gdO_true, gdO_false, gdQ_true, gdQ_false, goO_q, goO_w, goQ_q, putA_some, putA_none, opnd, ofVal, ofVal1,
    wpO_nil, wpQ_nil, KN_eq, KQ_eq, KS_normal, KS_ret, KS_exit, KB_normal, KB_ret, KB_same, layArgs, Fr.at_set, aop_move, aop_assign, aop_pick, pickO_true, pickO_false, pickO_bool, aop_box, boxO_int, boxO_str, boxO_bool, aop_load, behind_ptr, behind_rop,
    behindO_one, aop_store, aop_index, aop_extract, extractO_0, extractO_1, extractO_2, aop_binOp, bin_add, bin_sub, bin_mul, bin_eql, bin_neq, bin_lss, bin_leq, bin_gtr, bin_geq, bin_seql, bin_sneq, aop_unOp, unO_not, aop_convert, aop_len,
    aop_call, callV_func, aop_slice, decide_true, decide_false, decide_not, wantA_some, yieldA_eq, List.getElem?_toArray, List.getElem?_cons_succ, List.getElem?_cons_zero, Option.bind_some, yieldD_some, wantY_bool, wantY_not, Nat.reduceAdd, reduceIte, Nat.reduceEqDiff,
    Nat.zero_add, Nat.add_zero, beq_self_eq_true, Bool.true_beq, Bool.false_beq, Bool.not_true, Bool.not_false, List.map_cons, List.map_nil, List.append_nil, List.nil_append, List.cons_append, Option.map_some, Option.map_none, Bool.false_eq_true, reduceCtorEq, EndV_normal, EndV_ret, RV_some, resA_tmp, resA_nil, resT_some, oneOf_one, oneOf_two, tup_two, int_same, bool_same, str_same, and_self, and_true, true_and, if_true, if_false, aop_buildSlice, AH.get_set, AH.get_up, AH.next_set, AH.next_up, next_empty, cellsOf_ow, cellsG, List.length_cons, List.length_nil, List.drop_zero, List.take_succ_cons, List.take_zero, Nat.reduceMul, Nat.le_refl, convG_some, List.all_cons, List.all_nil,
    byteC_int, Bool.and_self, toB_int, List.size_toArray, aop_idx, liveG_cells, storeO_ptr, stoG_int, List.set_cons_zero, List.set_cons_succ, behindO_cells, aop_append, aop_makeSlice, aop_len, liveB_ro, KL_normal, KL_ret, KL_exit, KI_normal, KI_ret, KI_exit, up_up, len_nls u26, c0, w, f11]
      refine ⟨k, by omega, t + 1, by omega, ?_, ?_, ?_, ?_⟩
      all_goals simp only [Fr.at_set, Nat.reduceEqDiff, reduceIte, reduceCtorEq, f0, f9, f10]
      rfl
  | true =>
    obtain ⟨cs, hcs⟩ := Chs.ex l l.length 0 (by omega) (by simpa using hv)
    have hlen := hcs.len
    simp -implicitDefEqProofs only [wpC_seq, wpC_region, wpC_draw, wpC_cond, wpC_ret, wpC_skip, wpC_exit, wpC_block, wpC_label, wpO_go, wpQ_go, wantA_none, gdO_true, gdO_false, gdQ_true, gdQ_false, goO_q, goO_w, goQ_q, putA_some, putA_none, opnd, ofVal, ofVal1,
    wpO_nil, wpQ_nil, KN_eq, KQ_eq, KS_normal, KS_ret, KS_exit, KB_normal, KB_ret, KB_same, layArgs, Fr.at_set, aop_move, aop_assign, aop_pick, pickO_true, pickO_false, pickO_bool, aop_box, boxO_int, boxO_str, boxO_bool, aop_load, behind_ptr, behind_rop,
    behindO_one, aop_store, aop_index, aop_extract, extractO_0, extractO_1, extractO_2, aop_binOp, bin_add, bin_sub, bin_mul, bin_eql, bin_neq, bin_lss, bin_leq, bin_gtr, bin_geq, bin_seql, bin_sneq, aop_unOp, unO_not, aop_convert, aop_len,
    aop_call, callV_func, aop_slice, decide_true, decide_false, decide_not, wantA_some, yieldA_eq, List.getElem?_toArray, List.getElem?_cons_succ, List.getElem?_cons_zero, Option.bind_some, yieldD_some, wantY_bool, wantY_not, Nat.reduceAdd, reduceIte, Nat.reduceEqDiff,
    Nat.zero_add, Nat.add_zero, beq_self_eq_true, Bool.true_beq, Bool.false_beq, Bool.not_true, Bool.not_false, List.map_cons, List.map_nil, List.append_nil, List.nil_append, List.cons_append, Option.map_some, Option.map_none, Bool.false_eq_true, reduceCtorEq, EndV_normal, EndV_ret, RV_some, resA_tmp, resA_nil, resT_some, oneOf_one, oneOf_two, tup_two, int_same, bool_same, str_same, and_self, and_true, true_and, if_true, if_false, aop_buildSlice, AH.get_set, AH.get_up, AH.next_set, AH.next_up, next_empty, cellsOf_ow, cellsG, List.length_cons, List.length_nil, List.drop_zero, List.take_succ_cons, List.take_zero, Nat.reduceMul, Nat.le_refl, convG_some, List.all_cons, List.all_nil,
    byteC_int, Bool.and_self, toB_int, List.size_toArray, aop_idx, liveG_cells, storeO_ptr, stoG_int, List.set_cons_zero, List.set_cons_succ, behindO_cells, aop_append, aop_makeSlice, aop_len, liveB_ro, KL_normal, KL_ret, KL_exit, KI_normal, KI_ret, KI_exit, goO_known (rune_c l (by omega) a), goO_known (refRune_c l (by omega) a), goO_known fixed_c, goO_known (runesValid_c l (by omega)), goO_known (refValid_c l (by omega)), hv, bin_bneq u4, goO_known (refPoints_c l (by omega) cs hcs)]
    refine wpC_loop (inv3 l (.ro (cs.map (PV.int .i64)) cs.length) true) (k := 2) ⟨0, rfl, ?_, ?_, ?_, ?_⟩ ?_
    · simp only [Fr.at_set, Nat.reduceEqDiff, reduceIte, reduceCtorEq]
    · simp only [Fr.at_set, Nat.reduceEqDiff, reduceIte, reduceCtorEq]
    · simp only [Fr.at_set, Nat.reduceEqDiff, reduceIte, reduceCtorEq]
    · simp only [Fr.at_set, Nat.reduceEqDiff, reduceIte, reduceCtorEq]; rfl
    rintro k F h' ⟨t, ht, f0, f9, f10, f11⟩
    cases k with
    | zero =>
      have c1 : decide ((t : Int) < 2) = false := decide_eq_false (by omega)
      simp -implicitDefEqProofs only [wpC_seq, wpC_region, wpC_draw, wpC_cond, wpC_ret, wpC_skip, wpC_exit, wpC_block, wpC_label, wpO_go, wpQ_go, wantA_none, gdO_true, gdO_false, gdQ_true, gdQ_false, goO_q, goO_w, goQ_q, putA_some, putA_none, opnd, ofVal, ofVal1,
    wpO_nil, wpQ_nil, KN_eq, KQ_eq, KS_normal, KS_ret, KS_exit, KB_normal, KB_ret, KB_same, layArgs, Fr.at_set, aop_move, aop_assign, aop_pick, pickO_true, pickO_false, pickO_bool, aop_box, boxO_int, boxO_str, boxO_bool, aop_load, behind_ptr, behind_rop,
    behindO_one, aop_store, aop_index, aop_extract, extractO_0, extractO_1, extractO_2, aop_binOp, bin_add, bin_sub, bin_mul, bin_eql, bin_neq, bin_lss, bin_leq, bin_gtr, bin_geq, bin_seql, bin_sneq, aop_unOp, unO_not, aop_convert, aop_len,
    aop_call, callV_func, aop_slice, decide_true, decide_false, decide_not, wantA_some, yieldA_eq, List.getElem?_toArray, List.getElem?_cons_succ, List.getElem?_cons_zero, Option.bind_some, yieldD_some, wantY_bool, wantY_not, Nat.reduceAdd, reduceIte, Nat.reduceEqDiff,
    Nat.zero_add, Nat.add_zero, beq_self_eq_true, Bool.true_beq, Bool.false_beq, Bool.not_true, Bool.not_false, List.map_cons, List.map_nil, List.append_nil, List.nil_append, List.cons_append, Option.map_some, Option.map_none, Bool.false_eq_true, reduceCtorEq, EndV_normal, EndV_ret, RV_some, resA_tmp, resA_nil, resT_some, oneOf_one, oneOf_two, tup_two, int_same, bool_same, str_same, and_self, and_true, true_and, if_true, if_false, aop_buildSlice, AH.get_set, AH.get_up, AH.next_set, AH.next_up, next_empty, cellsOf_ow, cellsG, List.length_cons, List.length_nil, List.drop_zero, List.take_succ_cons, List.take_zero, Nat.reduceMul, Nat.le_refl, convG_some, List.all_cons, List.all_nil,
    byteC_int, Bool.and_self, toB_int, List.size_toArray, aop_idx, liveG_cells, storeO_ptr, stoG_int, List.set_cons_zero, List.set_cons_succ, behindO_cells, aop_append, aop_makeSlice, aop_len, liveB_ro, KL_normal, KL_ret, KL_exit, KI_normal, KI_ret, KI_exit, f0, f9, f10, f11, c1]
    | succ k =>
      have c1 : decide ((t : Int) < 2) = true := decide_eq_true (by omega)
      have w := IntWalk.i64_in ((t : Int) + 1) (by omega)
      obtain ⟨S, h1, q1, g1, _, _, n1⟩ := points_c l (by omega) hv cs hcs (h'.up 9)
      obtain ⟨h2, q2, g2, _⟩ := same_c (.ow S cs.length 0 cs.length) (.ro (cs.map (PV.int .i64)) cs.length) cs cs (by omega) (h1.up 9) (.inr (.inl ⟨S, false, rfl, by rw [AH.get_up]; exact g1⟩)) (.inl rfl)
      rw [decide_eq_true (show cs = cs from rfl)] at q2
      simp -implicitDefEqProofs only [wpC_seq, wpC_region, wpC_draw, wpC_cond, wpC_ret, wpC_skip, wpC_exit, wpC_block, wpC_label, wpO_go, wpQ_go, wantA_none, gdO_true, gdO_false, gdQ_true, gdQ_false, goO_q, goO_w, goQ_q, putA_some, putA_none, opnd, ofVal, ofVal1,
    wpO_nil, wpQ_nil, KN_eq, KQ_eq, KS_normal, KS_ret, KS_exit, KB_normal, KB_ret, KB_same, layArgs, Fr.at_set, aop_move, aop_assign, aop_pick, pickO_true, pickO_false, pickO_bool, aop_box, boxO_int, boxO_str, boxO_bool, aop_load, behind_ptr, behind_rop,
    behindO_one, aop_store, aop_index, aop_extract, extractO_0, extractO_1, extractO_2, aop_binOp, bin_add, bin_sub, bin_mul, bin_eql, bin_neq, bin_lss, bin_leq, bin_gtr, bin_geq, bin_seql, bin_sneq, aop_unOp, unO_not, aop_convert, aop_len,
    aop_call, callV_func, aop_slice, decide_true, decide_false, decide_not, wantA_some, yieldA_eq, List.getElem?_toArray, List.getElem?_cons_succ, List.getElem?_cons_zero, Option.bind_some, yieldD_some, wantY_bool, wantY_not, Nat.reduceAdd, reduceIte, Nat.reduceEqDiff,
    Nat.zero_add, Nat.add_zero, beq_self_eq_true, Bool.true_beq, Bool.false_beq, Bool.not_true, Bool.not_false, List.map_cons, List.map_nil, List.append_nil, List.nil_append, List.cons_append, Option.map_some, Option.map_none, Bool.false_eq_true, reduceCtorEq, EndV_normal, EndV_ret, RV_some, resA_tmp, resA_nil, resT_some, oneOf_one, oneOf_two, tup_two, int_same, bool_same, str_same, and_self, and_true, true_and, if_true, if_false, aop_buildSlice, AH.get_set, AH.get_up, AH.next_set, AH.next_up, next_empty, cellsOf_ow, cellsG, List.length_cons, List.length_nil, List.drop_zero, List.take_succ_cons, List.take_zero, Nat.reduceMul, Nat.le_refl, convG_some, List.all_cons, List.all_nil,
    byteC_int, Bool.and_self, toB_int, List.size_toArray, aop_idx, liveG_cells, storeO_ptr, stoG_int, List.set_cons_zero, List.set_cons_succ, behindO_cells, aop_append, aop_makeSlice, aop_len, liveB_ro, KL_normal, KL_ret, KL_exit, KI_normal, KI_ret, KI_exit, up_up, f0, f9, f10, f11, c1, goO_shared q1, goO_shared q2, bin_bneq u4]
      refine wpC_loop (inv3b l (.ro (cs.map (PV.int .i64)) cs.length) t S cs.length) (k := cs.length) ⟨0, cs.map (PV.int .i64), by omega, ?_, ?_, ?_, ?_, ?_, ?_, ?_, by simp⟩ ?_
      · simp only [Fr.at_set, Nat.reduceEqDiff, reduceIte, reduceCtorEq, f0]
      · simp only [Fr.at_set, Nat.reduceEqDiff, reduceIte, reduceCtorEq, f9]
      · simp only [Fr.at_set, Nat.reduceEqDiff, reduceIte, reduceCtorEq, f10]
      · simp only [Fr.at_set, Nat.reduceEqDiff, reduceIte, reduceCtorEq, f11]
      · simp only [Fr.at_set, Nat.reduceEqDiff, reduceIte, reduceCtorEq]
      · simp only [Fr.at_set, Nat.reduceEqDiff, reduceIte, reduceCtorEq]; rfl
      · simp only [AH.get_up, g2, g1]
      clear f0 f9 f10 f11
      rintro k2 F h'' ⟨i, c, hi, f0, f9, f10, f11, f12, f14, gS, hc⟩
      cases k2 with
      | zero =>
        have c2 : decide ((i : Int) < (cs.length : Int)) = false := decide_eq_false (by omega)
        simp -implicitDefEqProofs only [wpC_seq, wpC_region, wpC_draw, wpC_cond, wpC_ret, wpC_skip, wpC_exit, wpC_block, wpC_label, wpO_go, wpQ_go, wantA_none, gdO_true, gdO_false, gdQ_true, gdQ_false, goO_q, goO_w, goQ_q, putA_some, putA_none, opnd, ofVal, ofVal1,
    wpO_nil, wpQ_nil, KN_eq, KQ_eq, KS_normal, KS_ret, KS_exit, KB_normal, KB_ret, KB_same, layArgs, Fr.at_set, aop_move, aop_assign, aop_pick, pickO_true, pickO_false, pickO_bool, aop_box, boxO_int, boxO_str, boxO_bool, aop_load, behind_ptr, behind_rop,
    behindO_one, aop_store, aop_index, aop_extract, extractO_0, extractO_1, extractO_2, aop_binOp, bin_add, bin_sub, bin_mul, bin_eql, bin_neq, bin_lss, bin_leq, bin_gtr, bin_geq, bin_seql, bin_sneq, aop_unOp, unO_not, aop_convert, aop_len,
    aop_call, callV_func, aop_slice, decide_true, decide_false, decide_not, wantA_some, yieldA_eq, List.getElem?_toArray, List.getElem?_cons_succ, List.getElem?_cons_zero, Option.bind_some, yieldD_some, wantY_bool, wantY_not, Nat.reduceAdd, reduceIte, Nat.reduceEqDiff,
    Nat.zero_add, Nat.add_zero, beq_self_eq_true, Bool.true_beq, Bool.false_beq, Bool.not_true, Bool.not_false, List.map_cons, List.map_nil, List.append_nil, List.nil_append, List.cons_append, Option.map_some, Option.map_none, Bool.false_eq_true, reduceCtorEq, EndV_normal, EndV_ret, RV_some, resA_tmp, resA_nil, resT_some, oneOf_one, oneOf_two, tup_two, int_same, bool_same, str_same, and_self, and_true, true_and, if_true, if_false, aop_buildSlice, AH.get_set, AH.get_up, AH.next_set, AH.next_up, next_empty, cellsOf_ow, cellsG, List.length_cons, List.length_nil, List.drop_zero, List.take_succ_cons, List.take_zero, Nat.reduceMul, Nat.le_refl, convG_some, List.all_cons, List.all_nil,
    byteC_int, Bool.and_self, toB_int, List.size_toArray, aop_idx, liveG_cells, storeO_ptr, stoG_int, List.set_cons_zero, List.set_cons_succ, behindO_cells, aop_append, aop_makeSlice, aop_len, liveB_ro, KL_normal, KL_ret, KL_exit, KI_normal, KI_ret, KI_exit, up_up, f0, f9, f10, f11, f12, f14, len_ow u26, c2, w]
        refine ⟨k, by omega, t + 1, by omega, ?_, ?_, ?_, ?_⟩
        all_goals simp only [Fr.at_set, Nat.reduceEqDiff, reduceIte, reduceCtorEq, f0, f9, f10]
        rfl
      | succ k2 =>
        have c2 : decide ((i : Int) < (cs.length : Int)) = true := decide_eq_true (by omega)
        have w2 := IntWalk.i64_in ((i : Int) + 1) (by omega)
        have e0 : ((i : Int)).toNat = i := by omega
        have hlt : i < cs.length := by omega
        simp -implicitDefEqProofs only [wpC_seq, wpC_region, wpC_draw, wpC_cond, wpC_ret, wpC_skip, wpC_exit, wpC_block, wpC_label, wpO_go, wpQ_go, wantA_none, gdO_true, gdO_false, gdQ_true, gdQ_false, goO_q, goO_w, goQ_q, putA_some, putA_none, opnd, ofVal, ofVal1,
    wpO_nil, wpQ_nil, KN_eq, KQ_eq, KS_normal, KS_ret, KS_exit, KB_normal, KB_ret, KB_same, layArgs, Fr.at_set, aop_move, aop_assign, aop_pick, pickO_true, pickO_false, pickO_bool, aop_box, boxO_int, boxO_str, boxO_bool, aop_load, behind_ptr, behind_rop,
    behindO_one, aop_store, aop_index, aop_extract, extractO_0, extractO_1, extractO_2, aop_binOp, bin_add, bin_sub, bin_mul, bin_eql, bin_neq, bin_lss, bin_leq, bin_gtr, bin_geq, bin_seql, bin_sneq, aop_unOp, unO_not, aop_convert, aop_len,
    aop_call, callV_func, aop_slice, decide_true, decide_false, decide_not, wantA_some, yieldA_eq, List.getElem?_toArray, List.getElem?_cons_succ, List.getElem?_cons_zero, Option.bind_some, yieldD_some, wantY_bool, wantY_not, Nat.reduceAdd, reduceIte, Nat.reduceEqDiff,
    Nat.zero_add, Nat.add_zero, beq_self_eq_true, Bool.true_beq, Bool.false_beq, Bool.not_true, Bool.not_false, List.map_cons, List.map_nil, List.append_nil, List.nil_append, List.cons_append, Option.map_some, Option.map_none, Bool.false_eq_true, reduceCtorEq, EndV_normal, EndV_ret, RV_some, resA_tmp, resA_nil, resT_some, oneOf_one, oneOf_two, tup_two, int_same, bool_same, str_same, and_self, and_true, true_and, if_true, if_false, aop_buildSlice, AH.get_set, AH.get_up, AH.next_set, AH.next_up, next_empty, cellsOf_ow, cellsG, List.length_cons, List.length_nil, List.drop_zero, List.take_succ_cons, List.take_zero, Nat.reduceMul, Nat.le_refl, convG_some, List.all_cons, List.all_nil,
    byteC_int, Bool.and_self, toB_int, List.size_toArray, aop_idx, liveG_cells, storeO_ptr, stoG_int, List.set_cons_zero, List.set_cons_succ, behindO_cells, aop_append, aop_makeSlice, aop_len, liveB_ro, KL_normal, KL_ret, KL_exit, KI_normal, KI_ret, KI_exit, up_set, up_up, f0, f9, f10, f11, f12, f14, len_ow u26, c2, w2, ida_ow (n := cs.length) (i := (i : Int)) u26 sz3 (by omega) (by omega), gS, hc, sz3, e0, hlt]
        refine ⟨k2, by omega, i + 1, c.set i (.int .i64 (-1)), by omega, ?_, ?_, ?_, ?_, ?_, ?_, ?_, by simp [hc]⟩
        · simp only [Fr.at_set, Nat.reduceEqDiff, reduceIte, reduceCtorEq, f0]
        · simp only [Fr.at_set, Nat.reduceEqDiff, reduceIte, reduceCtorEq, f9]
        · simp only [Fr.at_set, Nat.reduceEqDiff, reduceIte, reduceCtorEq, f10]
        · simp only [Fr.at_set, Nat.reduceEqDiff, reduceIte, reduceCtorEq, f11]
        · simp only [Fr.at_set, Nat.reduceEqDiff, reduceIte, reduceCtorEq, f12]
        · simp only [Fr.at_set, Nat.reduceEqDiff, reduceIte, reduceCtorEq]; rfl
        · simp only [AH.get_set, if_true]
end Go.Proofs.YtohmplfkieaecaaDoor
