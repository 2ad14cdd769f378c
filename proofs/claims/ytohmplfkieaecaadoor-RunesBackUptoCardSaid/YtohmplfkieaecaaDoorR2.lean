/-
  RUNES, 2: a character's bytes (ref.Bytes), and what begins at a place (ref.Rune).
-/
import Derived.Test.YtohmplfkieaecaaDoorR1
import Derived.Test.YtohmplfkieaecaaDoorA20
import Derived.Lib.MapLaws
namespace Go.Proofs.YtohmplfkieaecaaDoor
open Go.RowKit Go.Lib Go.Ab
set_option linter.unusedSimpArgs false
set_option maxRecDepth 100000

theorem i3 : (Tryd.prog.info? 3).map (fun i => (i.size, i.bytes, i.zero)) = some (1, 8, some (.int .i64 0)) := by kernel_rfl
theorem i5 : (Tryd.prog.info? 5).map (fun i => (i.size, i.bytes, i.zero)) = some (1, 1, some (.int .u8 0)) := by kernel_rfl

theorem bytes_c (n : Int) (hn : isD n = true) (h : AH) (fr : Nat) : CR Tryd.prog glob md 28 [.int .i64 n] h fr (.str (encodeRune n)) none := by
  simp only [isD, Bool.and_eq_true, Bool.or_eq_true, decide_eq_true_eq] at hn
  refine CR.plain (rs := [.tmp 2]) Tryd.func28 rfl rfl rfl rfl rfl rfl ?_ h fr
  by_cases c1 : n < 128
  · have e : encodeRune n = [UInt8.ofNat (IntKind.u8.wrap n).toNat] := by
      rw [encodeRune, encodeRuneZ_one (by omega) (by omega), IntWalk.u8_in _ (by omega)]
      rfl
    simp -implicitDefEqProofs only [wpC_seq, wpC_region, wpC_draw, wpC_cond, wpC_ret, wpC_skip, wpC_exit, wpC_block, wpC_label, wpO_go, wpQ_go, wantA_none, gdO_true, gdO_false, gdQ_true, gdQ_false, goO_q, goO_w, goQ_q, putA_some, putA_none, opnd, ofVal, ofVal1,
    wpO_nil, wpQ_nil, KN_eq, KQ_eq, KS_normal, KS_ret, KS_exit, KB_normal, KB_ret, KB_same, layArgs, Fr.at_set, aop_move, aop_assign, aop_pick, pickO_true, pickO_false, pickO_bool, aop_box, boxO_int, boxO_str, boxO_bool, aop_load, behind_ptr, behind_rop,
    behindO_one, aop_store, aop_index, aop_extract, extractO_0, extractO_1, extractO_2, aop_binOp, bin_add, bin_sub, bin_mul, bin_eql, bin_neq, bin_lss, bin_leq, bin_gtr, bin_geq, bin_seql, bin_sneq, aop_unOp, unO_not, aop_convert, aop_len,
    aop_call, callV_func, aop_slice, decide_true, decide_false, decide_not, wantA_some, yieldA_eq, List.getElem?_toArray, List.getElem?_cons_succ, List.getElem?_cons_zero, Option.bind_some, yieldD_some, wantY_bool, wantY_not, Nat.reduceAdd, reduceIte, Nat.reduceEqDiff,
    Nat.zero_add, Nat.add_zero, beq_self_eq_true, Bool.true_beq, Bool.false_beq, Bool.not_true, Bool.not_false, List.map_cons, List.map_nil, List.append_nil, List.nil_append, List.cons_append, Option.map_some, Option.map_none, Bool.false_eq_true, reduceCtorEq, EndV_normal, EndV_ret, RV_some, resA_tmp, resA_nil, resT_some, oneOf_one, oneOf_two, tup_two, int_same, bool_same, str_same, and_self, and_true, true_and, if_true, if_false, aop_buildSlice, AH.get_set, AH.get_up, AH.next_set, AH.next_up, next_empty, cellsOf_ow, cellsG, List.length_cons, List.length_nil, List.drop_zero, List.take_succ_cons, List.take_zero, Nat.reduceMul, Nat.le_refl, convG_some, List.all_cons, List.all_nil,
    byteC_int, Bool.and_self, toB_int, List.size_toArray, aop_idx, liveG_cells, storeO_ptr, stoG_int, List.set_cons_zero, List.set_cons_succ, behindO_cells, aop_append, aop_makeSlice, aop_len, liveB_ro, KL_normal, KL_ret, KL_exit, KI_normal, KI_ret, KI_exit, c1, conv_int u3 u5, build_1 u37 sz5 z5, conv_bytes u37 u5 u9, e]
  have q1 : Int.tdiv n 64 = n / 64 := Int.tdiv_eq_ediv_of_nonneg (by omega)
  have q2 : Int.tdiv n 4096 = n / 4096 := Int.tdiv_eq_ediv_of_nonneg (by omega)
  have q3 : Int.tdiv n 262144 = n / 262144 := Int.tdiv_eq_ediv_of_nonneg (by omega)
  have r1 : Int.tmod n 64 = n % 64 := Int.tmod_eq_emod_of_nonneg (by omega)
  have r2 : Int.tmod (n / 64) 64 = n / 64 % 64 := Int.tmod_eq_emod_of_nonneg (by omega)
  have r3 : Int.tmod (n / 4096) 64 = n / 4096 % 64 := Int.tmod_eq_emod_of_nonneg (by omega)
  have w1 := IntWalk.i64_in (n / 64) (by omega)
  have w2 := IntWalk.i64_in (n / 4096) (by omega)
  have w3 := IntWalk.i64_in (n / 262144) (by omega)
  have v0 := IntWalk.i64_in (128 + n % 64) (by omega)
  have v1 := IntWalk.i64_in (128 + n / 64 % 64) (by omega)
  have v2 := IntWalk.i64_in (128 + n / 4096 % 64) (by omega)
  have t0 := IntWalk.u8_in (128 + n % 64) (by omega)
  have t1 := IntWalk.u8_in (128 + n / 64 % 64) (by omega)
  have t2 := IntWalk.u8_in (128 + n / 4096 % 64) (by omega)
  have z64 := @bin_quo Tryd.prog
  by_cases c2 : n < 2048
  · have x0 := IntWalk.i64_in (192 + n / 64) (by omega)
    have x1 := IntWalk.u8_in (192 + n / 64) (by omega)
    have e : encodeRune n = [UInt8.ofNat (192 + n / 64).toNat, UInt8.ofNat (128 + n % 64).toNat] := by
      rw [encodeRune, encodeRuneZ_two (by omega) (by omega)]
      rfl
    simp -implicitDefEqProofs only [wpC_seq, wpC_region, wpC_draw, wpC_cond, wpC_ret, wpC_skip, wpC_exit, wpC_block, wpC_label, wpO_go, wpQ_go, wantA_none, gdO_true, gdO_false, gdQ_true, gdQ_false, goO_q, goO_w, goQ_q, putA_some, putA_none, opnd, ofVal, ofVal1,
    wpO_nil, wpQ_nil, KN_eq, KQ_eq, KS_normal, KS_ret, KS_exit, KB_normal, KB_ret, KB_same, layArgs, Fr.at_set, aop_move, aop_assign, aop_pick, pickO_true, pickO_false, pickO_bool, aop_box, boxO_int, boxO_str, boxO_bool, aop_load, behind_ptr, behind_rop,
    behindO_one, aop_store, aop_index, aop_extract, extractO_0, extractO_1, extractO_2, aop_binOp, bin_add, bin_sub, bin_mul, bin_eql, bin_neq, bin_lss, bin_leq, bin_gtr, bin_geq, bin_seql, bin_sneq, aop_unOp, unO_not, aop_convert, aop_len,
    aop_call, callV_func, aop_slice, decide_true, decide_false, decide_not, wantA_some, yieldA_eq, List.getElem?_toArray, List.getElem?_cons_succ, List.getElem?_cons_zero, Option.bind_some, yieldD_some, wantY_bool, wantY_not, Nat.reduceAdd, reduceIte, Nat.reduceEqDiff,
    Nat.zero_add, Nat.add_zero, beq_self_eq_true, Bool.true_beq, Bool.false_beq, Bool.not_true, Bool.not_false, List.map_cons, List.map_nil, List.append_nil, List.nil_append, List.cons_append, Option.map_some, Option.map_none, Bool.false_eq_true, reduceCtorEq, EndV_normal, EndV_ret, RV_some, resA_tmp, resA_nil, resT_some, oneOf_one, oneOf_two, tup_two, int_same, bool_same, str_same, and_self, and_true, true_and, if_true, if_false, aop_buildSlice, AH.get_set, AH.get_up, AH.next_set, AH.next_up, next_empty, cellsOf_ow, cellsG, List.length_cons, List.length_nil, List.drop_zero, List.take_succ_cons, List.take_zero, Nat.reduceMul, Nat.le_refl, convG_some, List.all_cons, List.all_nil,
    byteC_int, Bool.and_self, toB_int, List.size_toArray, aop_idx, liveG_cells, storeO_ptr, stoG_int, List.set_cons_zero, List.set_cons_succ, behindO_cells, aop_append, aop_makeSlice, aop_len, liveB_ro, KL_normal, KL_ret, KL_exit, KI_normal, KI_ret, KI_exit, c1, c2, conv_int u3 u5, build_2 u37 sz5 z5, conv_bytes u37 u5 u9, e, bin_quo (show (64 : Int) ≠ 0 by decide), bin_rem (show (64 : Int) ≠ 0 by decide), q1, r1, w1, v0, t0, x0, x1]
  by_cases c3 : n < 65536
  · have x0 := IntWalk.i64_in (224 + n / 4096) (by omega)
    have x1 := IntWalk.u8_in (224 + n / 4096) (by omega)
    have e : encodeRune n = [UInt8.ofNat (224 + n / 4096).toNat, UInt8.ofNat (128 + n / 64 % 64).toNat, UInt8.ofNat (128 + n % 64).toNat] := by
      rw [encodeRune, encodeRuneZ_three (by omega)]
      rfl
    simp -implicitDefEqProofs only [wpC_seq, wpC_region, wpC_draw, wpC_cond, wpC_ret, wpC_skip, wpC_exit, wpC_block, wpC_label, wpO_go, wpQ_go, wantA_none, gdO_true, gdO_false, gdQ_true, gdQ_false, goO_q, goO_w, goQ_q, putA_some, putA_none, opnd, ofVal, ofVal1,
    wpO_nil, wpQ_nil, KN_eq, KQ_eq, KS_normal, KS_ret, KS_exit, KB_normal, KB_ret, KB_same, layArgs, Fr.at_set, aop_move, aop_assign, aop_pick, pickO_true, pickO_false, pickO_bool, aop_box, boxO_int, boxO_str, boxO_bool, aop_load, behind_ptr, behind_rop,
    behindO_one, aop_store, aop_index, aop_extract, extractO_0, extractO_1, extractO_2, aop_binOp, bin_add, bin_sub, bin_mul, bin_eql, bin_neq, bin_lss, bin_leq, bin_gtr, bin_geq, bin_seql, bin_sneq, aop_unOp, unO_not, aop_convert, aop_len,
    aop_call, callV_func, aop_slice, decide_true, decide_false, decide_not, wantA_some, yieldA_eq, List.getElem?_toArray, List.getElem?_cons_succ, List.getElem?_cons_zero, Option.bind_some, yieldD_some, wantY_bool, wantY_not, Nat.reduceAdd, reduceIte, Nat.reduceEqDiff,
    Nat.zero_add, Nat.add_zero, beq_self_eq_true, Bool.true_beq, Bool.false_beq, Bool.not_true, Bool.not_false, List.map_cons, List.map_nil, List.append_nil, List.nil_append, List.cons_append, Option.map_some, Option.map_none, Bool.false_eq_true, reduceCtorEq, EndV_normal, EndV_ret, RV_some, resA_tmp, resA_nil, resT_some, oneOf_one, oneOf_two, tup_two, int_same, bool_same, str_same, and_self, and_true, true_and, if_true, if_false, aop_buildSlice, AH.get_set, AH.get_up, AH.next_set, AH.next_up, next_empty, cellsOf_ow, cellsG, List.length_cons, List.length_nil, List.drop_zero, List.take_succ_cons, List.take_zero, Nat.reduceMul, Nat.le_refl, convG_some, List.all_cons, List.all_nil,
    byteC_int, Bool.and_self, toB_int, List.size_toArray, aop_idx, liveG_cells, storeO_ptr, stoG_int, List.set_cons_zero, List.set_cons_succ, behindO_cells, aop_append, aop_makeSlice, aop_len, liveB_ro, KL_normal, KL_ret, KL_exit, KI_normal, KI_ret, KI_exit, c1, c2, c3, conv_int u3 u5, build_3 u37 sz5 z5, conv_bytes u37 u5 u9, e, bin_quo (show (64 : Int) ≠ 0 by decide), bin_quo (show (4096 : Int) ≠ 0 by decide), bin_rem (show (64 : Int) ≠ 0 by decide), q1, q2, r1, r2, w1, w2, v0, v1, t0, t1, x0, x1]
  · have x0 := IntWalk.i64_in (240 + n / 262144) (by omega)
    have x1 := IntWalk.u8_in (240 + n / 262144) (by omega)
    have e : encodeRune n = [UInt8.ofNat (240 + n / 262144).toNat, UInt8.ofNat (128 + n / 4096 % 64).toNat, UInt8.ofNat (128 + n / 64 % 64).toNat, UInt8.ofNat (128 + n % 64).toNat] := by
      rw [encodeRune, encodeRuneZ_four (by omega) (by omega)]
      rfl
    simp -implicitDefEqProofs only [wpC_seq, wpC_region, wpC_draw, wpC_cond, wpC_ret, wpC_skip, wpC_exit, wpC_block, wpC_label, wpO_go, wpQ_go, wantA_none, gdO_true, gdO_false, gdQ_true, gdQ_false, goO_q, goO_w, goQ_q, putA_some, putA_none, opnd, ofVal, ofVal1,
    wpO_nil, wpQ_nil, KN_eq, KQ_eq, KS_normal, KS_ret, KS_exit, KB_normal, KB_ret, KB_same, layArgs, Fr.at_set, aop_move, aop_assign, aop_pick, pickO_true, pickO_false, pickO_bool, aop_box, boxO_int, boxO_str, boxO_bool, aop_load, behind_ptr, behind_rop,
    behindO_one, aop_store, aop_index, aop_extract, extractO_0, extractO_1, extractO_2, aop_binOp, bin_add, bin_sub, bin_mul, bin_eql, bin_neq, bin_lss, bin_leq, bin_gtr, bin_geq, bin_seql, bin_sneq, aop_unOp, unO_not, aop_convert, aop_len,
    aop_call, callV_func, aop_slice, decide_true, decide_false, decide_not, wantA_some, yieldA_eq, List.getElem?_toArray, List.getElem?_cons_succ, List.getElem?_cons_zero, Option.bind_some, yieldD_some, wantY_bool, wantY_not, Nat.reduceAdd, reduceIte, Nat.reduceEqDiff,
    Nat.zero_add, Nat.add_zero, beq_self_eq_true, Bool.true_beq, Bool.false_beq, Bool.not_true, Bool.not_false, List.map_cons, List.map_nil, List.append_nil, List.nil_append, List.cons_append, Option.map_some, Option.map_none, Bool.false_eq_true, reduceCtorEq, EndV_normal, EndV_ret, RV_some, resA_tmp, resA_nil, resT_some, oneOf_one, oneOf_two, tup_two, int_same, bool_same, str_same, and_self, and_true, true_and, if_true, if_false, aop_buildSlice, AH.get_set, AH.get_up, AH.next_set, AH.next_up, next_empty, cellsOf_ow, cellsG, List.length_cons, List.length_nil, List.drop_zero, List.take_succ_cons, List.take_zero, Nat.reduceMul, Nat.le_refl, convG_some, List.all_cons, List.all_nil,
    byteC_int, Bool.and_self, toB_int, List.size_toArray, aop_idx, liveG_cells, storeO_ptr, stoG_int, List.set_cons_zero, List.set_cons_succ, behindO_cells, aop_append, aop_makeSlice, aop_len, liveB_ro, KL_normal, KL_ret, KL_exit, KI_normal, KI_ret, KI_exit, c1, c2, c3, conv_int u3 u5, build_4 u37 sz5 z5, conv_bytes u37 u5 u9, e, bin_quo (show (64 : Int) ≠ 0 by decide), bin_quo (show (4096 : Int) ≠ 0 by decide), bin_quo (show (262144 : Int) ≠ 0 by decide), bin_rem (show (64 : Int) ≠ 0 by decide), q1, q2, q3, r1, r2, r3, w1, w2, w3, v0, v1, v2, t0, t1, t2, x0, x1]
end Go.Proofs.YtohmplfkieaecaaDoor
