/-
  RUNES, 4: a number's bytes (Put), the first that begins no source character (Source).
-/
import Derived.Test.YtohmplfkieaecaaDoorR3
import Derived.Test.YtohmplfkieaecaaDoorR4f
namespace Go.Proofs.YtohmplfkieaecaaDoor
open Go.RowKit Go.Lib Go.Ab
set_option linter.unusedSimpArgs false
set_option maxRecDepth 100000

theorem validRune_c (n : Int) (h : AH) (fr : Nat) : CR Tryd.prog glob md 30 [.int .i32 n] h fr (.bool (isD n)) none := by
  refine CR.plain (rs := [.tmp 2]) Tryd.func30 rfl rfl rfl rfl rfl rfl ?_ h fr
  rcases Bool.eq_false_or_eq_true (decide (0 ≤ n)) with c1 | c1 <;> rcases Bool.eq_false_or_eq_true (decide (n < 55296)) with c2 | c2 <;>
    rcases Bool.eq_false_or_eq_true (decide (57343 < n)) with c3 | c3 <;> rcases Bool.eq_false_or_eq_true (decide (n ≤ 1114111)) with c4 | c4 <;>
  · have e : isD n = ((decide (0 ≤ n)) && decide (n ≤ 1114111) && (decide (n < 55296) || decide (57343 < n))) := rfl
    rw [c1, c2, c3, c4] at e
    have e' : isD n = _ := e.trans rfl
    simp only [decide_eq_true_eq, decide_eq_false_iff_not] at c1 c2 c3 c4
    first
      | (exfalso; omega)
      | (rw [e]
         simp -implicitDefEqProofs only [wpC_seq, wpC_region, wpC_draw, wpC_cond, wpC_ret, wpC_skip, wpC_exit, wpC_block, wpC_label, wpO_go, wpQ_go, wantA_none, gdO_true, gdO_false, gdQ_true, gdQ_false, goO_q, goO_w, goQ_q, putA_some, putA_none, opnd, ofVal, ofVal1,
    wpO_nil, wpQ_nil, KN_eq, KQ_eq, KS_normal, KS_ret, KS_exit, KB_normal, KB_ret, KB_same, layArgs, Fr.at_set, aop_move, aop_assign, aop_pick, pickO_true, pickO_false, pickO_bool, aop_box, boxO_int, boxO_str, boxO_bool, aop_load, behind_ptr, behind_rop,
    behindO_one, aop_store, aop_index, aop_extract, extractO_0, extractO_1, extractO_2, aop_binOp, bin_add, bin_sub, bin_mul, bin_eql, bin_neq, bin_lss, bin_leq, bin_gtr, bin_geq, bin_seql, bin_sneq, aop_unOp, unO_not, aop_convert, aop_len,
    aop_call, callV_func, aop_slice, decide_true, decide_false, decide_not, wantA_some, yieldA_eq, List.getElem?_toArray, List.getElem?_cons_succ, List.getElem?_cons_zero, Option.bind_some, yieldD_some, wantY_bool, wantY_not, Nat.reduceAdd, reduceIte, Nat.reduceEqDiff,
    Nat.zero_add, Nat.add_zero, beq_self_eq_true, Bool.true_beq, Bool.false_beq, Bool.not_true, Bool.not_false, List.map_cons, List.map_nil, List.append_nil, List.nil_append, List.cons_append, Option.map_some, Option.map_none, Bool.false_eq_true, reduceCtorEq, EndV_normal, EndV_ret, RV_some, resA_tmp, resA_nil, resT_some, oneOf_one, oneOf_two, tup_two, int_same, bool_same, str_same, and_self, and_true, true_and, if_true, if_false, c1, c2, c3, c4]
         rfl)

theorem encode_eq_rune (n : Int) (hn : isD n = true) : (Utf8.encode n).data.toList = encodeRune n := by
  rw [isD_iff] at hn
  have hv : Utf8.valid n = true := by simp [Utf8.valid]; omega
  obtain ⟨m, rfl⟩ : ∃ m : Nat, n = m := ⟨n.toNat, by omega⟩
  unfold Utf8.encode encodeRune
  simp only [hv, if_true, Int.toNat_natCast]
  by_cases c1 : m < 128
  · rw [if_pos (by omega), encodeRuneZ_one (by omega) (by omega)]
    simp
  by_cases c2 : m < 2048
  · rw [if_neg (by omega), if_pos (by omega), encodeRuneZ_two (by omega) (by omega)]
    simp only [List.map_cons, List.map_nil]
    rw [show (192 + (m : Int) / 64).toNat = 0xC0 + m / 64 by omega, show (128 + (m : Int) % 64).toNat = 0x80 + m % 64 by omega]
  by_cases c3 : m < 65536
  · rw [if_neg (by omega), if_neg (by omega), if_pos (by omega), encodeRuneZ_three (by omega)]
    simp only [List.map_cons, List.map_nil]
    rw [show (224 + (m : Int) / 4096).toNat = 0xE0 + m / 4096 by omega, show (128 + (m : Int) / 64 % 64).toNat = 0x80 + m / 64 % 64 by omega, show (128 + (m : Int) % 64).toNat = 0x80 + m % 64 by omega]
  · rw [if_neg (by omega), if_neg (by omega), if_neg (by omega), encodeRuneZ_four (by omega) (by omega)]
    simp only [List.map_cons, List.map_nil]
    rw [show (240 + (m : Int) / 262144).toNat = 0xF0 + m / 262144 by omega, show (128 + (m : Int) / 4096 % 64).toNat = 0x80 + m / 4096 % 64 by omega, show (128 + (m : Int) / 64 % 64).toNat = 0x80 + m / 64 % 64 by omega, show (128 + (m : Int) % 64).toNat = 0x80 + m % 64 by omega]

def putD (n : Int) : List UInt8 × Int := if isD n then (encodeRune n, 0) else ([], 10)
theorem emptyStr : ofVal (.string "".toUTF8) = .str [] := by rfl
theorem put_c (n : Int) (h : AH) (fr : Nat) : CR Tryd.prog glob md 20 [.int .i64 n] h fr (.tup [.str (putD n).1, .int .i64 (putD n).2]) none := by
  refine CR.plain (rs := [.tmp 2, .tmp 3]) Tryd.func20 rfl rfl rfl rfl rfl rfl ?_ h fr
  by_cases c1 : n < 0
  · have e : putD n = ([], 10) := by
      unfold putD
      rw [if_neg]
      rw [isD_iff]
      omega
    simp -implicitDefEqProofs only [wpC_seq, wpC_region, wpC_draw, wpC_cond, wpC_ret, wpC_skip, wpC_exit, wpC_block, wpC_label, wpO_go, wpQ_go, wantA_none, gdO_true, gdO_false, gdQ_true, gdQ_false, goO_q, goO_w, goQ_q, putA_some, putA_none, opnd, ofVal, ofVal1,
    wpO_nil, wpQ_nil, KN_eq, KQ_eq, KS_normal, KS_ret, KS_exit, KB_normal, KB_ret, KB_same, layArgs, Fr.at_set, aop_move, aop_assign, aop_pick, pickO_true, pickO_false, pickO_bool, aop_box, boxO_int, boxO_str, boxO_bool, aop_load, behind_ptr, behind_rop,
    behindO_one, aop_store, aop_index, aop_extract, extractO_0, extractO_1, extractO_2, aop_binOp, bin_add, bin_sub, bin_mul, bin_eql, bin_neq, bin_lss, bin_leq, bin_gtr, bin_geq, bin_seql, bin_sneq, aop_unOp, unO_not, aop_convert, aop_len,
    aop_call, callV_func, aop_slice, decide_true, decide_false, decide_not, wantA_some, yieldA_eq, List.getElem?_toArray, List.getElem?_cons_succ, List.getElem?_cons_zero, Option.bind_some, yieldD_some, wantY_bool, wantY_not, Nat.reduceAdd, reduceIte, Nat.reduceEqDiff,
    Nat.zero_add, Nat.add_zero, beq_self_eq_true, Bool.true_beq, Bool.false_beq, Bool.not_true, Bool.not_false, List.map_cons, List.map_nil, List.append_nil, List.nil_append, List.cons_append, Option.map_some, Option.map_none, Bool.false_eq_true, reduceCtorEq, EndV_normal, EndV_ret, RV_some, resA_tmp, resA_nil, resT_some, oneOf_one, oneOf_two, tup_two, int_same, bool_same, str_same, and_self, and_true, true_and, if_true, if_false, c1, e]
  by_cases c2 : 1114111 < n
  · have e : putD n = ([], 10) := by
      unfold putD
      rw [if_neg]
      rw [isD_iff]
      omega
    simp -implicitDefEqProofs only [wpC_seq, wpC_region, wpC_draw, wpC_cond, wpC_ret, wpC_skip, wpC_exit, wpC_block, wpC_label, wpO_go, wpQ_go, wantA_none, gdO_true, gdO_false, gdQ_true, gdQ_false, goO_q, goO_w, goQ_q, putA_some, putA_none, opnd, ofVal, ofVal1,
    wpO_nil, wpQ_nil, KN_eq, KQ_eq, KS_normal, KS_ret, KS_exit, KB_normal, KB_ret, KB_same, layArgs, Fr.at_set, aop_move, aop_assign, aop_pick, pickO_true, pickO_false, pickO_bool, aop_box, boxO_int, boxO_str, boxO_bool, aop_load, behind_ptr, behind_rop,
    behindO_one, aop_store, aop_index, aop_extract, extractO_0, extractO_1, extractO_2, aop_binOp, bin_add, bin_sub, bin_mul, bin_eql, bin_neq, bin_lss, bin_leq, bin_gtr, bin_geq, bin_seql, bin_sneq, aop_unOp, unO_not, aop_convert, aop_len,
    aop_call, callV_func, aop_slice, decide_true, decide_false, decide_not, wantA_some, yieldA_eq, List.getElem?_toArray, List.getElem?_cons_succ, List.getElem?_cons_zero, Option.bind_some, yieldD_some, wantY_bool, wantY_not, Nat.reduceAdd, reduceIte, Nat.reduceEqDiff,
    Nat.zero_add, Nat.add_zero, beq_self_eq_true, Bool.true_beq, Bool.false_beq, Bool.not_true, Bool.not_false, List.map_cons, List.map_nil, List.append_nil, List.nil_append, List.cons_append, Option.map_some, Option.map_none, Bool.false_eq_true, reduceCtorEq, EndV_normal, EndV_ret, RV_some, resA_tmp, resA_nil, resT_some, oneOf_one, oneOf_two, tup_two, int_same, bool_same, str_same, and_self, and_true, true_and, if_true, if_false, c1, c2, e]
  have w := IntWalk.i32_in n (by omega)
  by_cases hN : isD n = true
  · have e : putD n = (encodeRune n, 0) := by simp [putD, hN]
    simp -implicitDefEqProofs only [wpC_seq, wpC_region, wpC_draw, wpC_cond, wpC_ret, wpC_skip, wpC_exit, wpC_block, wpC_label, wpO_go, wpQ_go, wantA_none, gdO_true, gdO_false, gdQ_true, gdQ_false, goO_q, goO_w, goQ_q, putA_some, putA_none, opnd, ofVal, ofVal1,
    wpO_nil, wpQ_nil, KN_eq, KQ_eq, KS_normal, KS_ret, KS_exit, KB_normal, KB_ret, KB_same, layArgs, Fr.at_set, aop_move, aop_assign, aop_pick, pickO_true, pickO_false, pickO_bool, aop_box, boxO_int, boxO_str, boxO_bool, aop_load, behind_ptr, behind_rop,
    behindO_one, aop_store, aop_index, aop_extract, extractO_0, extractO_1, extractO_2, aop_binOp, bin_add, bin_sub, bin_mul, bin_eql, bin_neq, bin_lss, bin_leq, bin_gtr, bin_geq, bin_seql, bin_sneq, aop_unOp, unO_not, aop_convert, aop_len,
    aop_call, callV_func, aop_slice, decide_true, decide_false, decide_not, wantA_some, yieldA_eq, List.getElem?_toArray, List.getElem?_cons_succ, List.getElem?_cons_zero, Option.bind_some, yieldD_some, wantY_bool, wantY_not, Nat.reduceAdd, reduceIte, Nat.reduceEqDiff,
    Nat.zero_add, Nat.add_zero, beq_self_eq_true, Bool.true_beq, Bool.false_beq, Bool.not_true, Bool.not_false, List.map_cons, List.map_nil, List.append_nil, List.nil_append, List.cons_append, Option.map_some, Option.map_none, Bool.false_eq_true, reduceCtorEq, EndV_normal, EndV_ret, RV_some, resA_tmp, resA_nil, resT_some, oneOf_one, oneOf_two, tup_two, int_same, bool_same, str_same, and_self, and_true, true_and, if_true, if_false, c1, c2, e, conv_int u3 u21, w, goO_known (validRune_c _), hN, conv_char u21 u9, encode_eq_rune n hN]
  · have e : putD n = ([], 10) := by simp [putD, hN]
    have hN' : isD n = false := by simpa using hN
    simp -implicitDefEqProofs only [wpC_seq, wpC_region, wpC_draw, wpC_cond, wpC_ret, wpC_skip, wpC_exit, wpC_block, wpC_label, wpO_go, wpQ_go, wantA_none, gdO_true, gdO_false, gdQ_true, gdQ_false, goO_q, goO_w, goQ_q, putA_some, putA_none, opnd, ofVal, ofVal1,
    wpO_nil, wpQ_nil, KN_eq, KQ_eq, KS_normal, KS_ret, KS_exit, KB_normal, KB_ret, KB_same, layArgs, Fr.at_set, aop_move, aop_assign, aop_pick, pickO_true, pickO_false, pickO_bool, aop_box, boxO_int, boxO_str, boxO_bool, aop_load, behind_ptr, behind_rop,
    behindO_one, aop_store, aop_index, aop_extract, extractO_0, extractO_1, extractO_2, aop_binOp, bin_add, bin_sub, bin_mul, bin_eql, bin_neq, bin_lss, bin_leq, bin_gtr, bin_geq, bin_seql, bin_sneq, aop_unOp, unO_not, aop_convert, aop_len,
    aop_call, callV_func, aop_slice, decide_true, decide_false, decide_not, wantA_some, yieldA_eq, List.getElem?_toArray, List.getElem?_cons_succ, List.getElem?_cons_zero, Option.bind_some, yieldD_some, wantY_bool, wantY_not, Nat.reduceAdd, reduceIte, Nat.reduceEqDiff,
    Nat.zero_add, Nat.add_zero, beq_self_eq_true, Bool.true_beq, Bool.false_beq, Bool.not_true, Bool.not_false, List.map_cons, List.map_nil, List.append_nil, List.nil_append, List.cons_append, Option.map_some, Option.map_none, Bool.false_eq_true, reduceCtorEq, EndV_normal, EndV_ret, RV_some, resA_tmp, resA_nil, resT_some, oneOf_one, oneOf_two, tup_two, int_same, bool_same, str_same, and_self, and_true, true_and, if_true, if_false, c1, c2, e, conv_int u3 u21, w, goO_known (validRune_c _), hN']
theorem refPut_c (n : Int) (h : AH) (fr : Nat) : CR Tryd.prog glob md 21 [.int .i64 n] h fr (.tup [.str (putD n).1, .int .i64 (putD n).2]) none := by
  refine CR.plain (rs := [.tmp 2, .tmp 3]) Tryd.func21 rfl rfl rfl rfl rfl rfl ?_ h fr
  by_cases hN : isD n = true
  · have e : putD n = (encodeRune n, 0) := by simp [putD, hN]
    simp -implicitDefEqProofs only [wpC_seq, wpC_region, wpC_draw, wpC_cond, wpC_ret, wpC_skip, wpC_exit, wpC_block, wpC_label, wpO_go, wpQ_go, wantA_none, gdO_true, gdO_false, gdQ_true, gdQ_false, goO_q, goO_w, goQ_q, putA_some, putA_none, opnd, ofVal, ofVal1,
    wpO_nil, wpQ_nil, KN_eq, KQ_eq, KS_normal, KS_ret, KS_exit, KB_normal, KB_ret, KB_same, layArgs, Fr.at_set, aop_move, aop_assign, aop_pick, pickO_true, pickO_false, pickO_bool, aop_box, boxO_int, boxO_str, boxO_bool, aop_load, behind_ptr, behind_rop,
    behindO_one, aop_store, aop_index, aop_extract, extractO_0, extractO_1, extractO_2, aop_binOp, bin_add, bin_sub, bin_mul, bin_eql, bin_neq, bin_lss, bin_leq, bin_gtr, bin_geq, bin_seql, bin_sneq, aop_unOp, unO_not, aop_convert, aop_len,
    aop_call, callV_func, aop_slice, decide_true, decide_false, decide_not, wantA_some, yieldA_eq, List.getElem?_toArray, List.getElem?_cons_succ, List.getElem?_cons_zero, Option.bind_some, yieldD_some, wantY_bool, wantY_not, Nat.reduceAdd, reduceIte, Nat.reduceEqDiff,
    Nat.zero_add, Nat.add_zero, beq_self_eq_true, Bool.true_beq, Bool.false_beq, Bool.not_true, Bool.not_false, List.map_cons, List.map_nil, List.append_nil, List.nil_append, List.cons_append, Option.map_some, Option.map_none, Bool.false_eq_true, reduceCtorEq, EndV_normal, EndV_ret, RV_some, resA_tmp, resA_nil, resT_some, oneOf_one, oneOf_two, tup_two, int_same, bool_same, str_same, and_self, and_true, true_and, if_true, if_false, e, goO_known (is_c _), hN, goO_known (bytes_c n hN)]
  · have e : putD n = ([], 10) := by simp [putD, hN]
    have hN' : isD n = false := by simpa using hN
    simp -implicitDefEqProofs only [wpC_seq, wpC_region, wpC_draw, wpC_cond, wpC_ret, wpC_skip, wpC_exit, wpC_block, wpC_label, wpO_go, wpQ_go, wantA_none, gdO_true, gdO_false, gdQ_true, gdQ_false, goO_q, goO_w, goQ_q, putA_some, putA_none, opnd, ofVal, ofVal1,
    wpO_nil, wpQ_nil, KN_eq, KQ_eq, KS_normal, KS_ret, KS_exit, KB_normal, KB_ret, KB_same, layArgs, Fr.at_set, aop_move, aop_assign, aop_pick, pickO_true, pickO_false, pickO_bool, aop_box, boxO_int, boxO_str, boxO_bool, aop_load, behind_ptr, behind_rop,
    behindO_one, aop_store, aop_index, aop_extract, extractO_0, extractO_1, extractO_2, aop_binOp, bin_add, bin_sub, bin_mul, bin_eql, bin_neq, bin_lss, bin_leq, bin_gtr, bin_geq, bin_seql, bin_sneq, aop_unOp, unO_not, aop_convert, aop_len,
    aop_call, callV_func, aop_slice, decide_true, decide_false, decide_not, wantA_some, yieldA_eq, List.getElem?_toArray, List.getElem?_cons_succ, List.getElem?_cons_zero, Option.bind_some, yieldD_some, wantY_bool, wantY_not, Nat.reduceAdd, reduceIte, Nat.reduceEqDiff,
    Nat.zero_add, Nat.add_zero, beq_self_eq_true, Bool.true_beq, Bool.false_beq, Bool.not_true, Bool.not_false, List.map_cons, List.map_nil, List.append_nil, List.nil_append, List.cons_append, Option.map_some, Option.map_none, Bool.false_eq_true, reduceCtorEq, EndV_normal, EndV_ret, RV_some, resA_tmp, resA_nil, resT_some, oneOf_one, oneOf_two, tup_two, int_same, bool_same, str_same, and_self, and_true, true_and, if_true, if_false, e, goO_known (is_c _), hN']

/-! ### The law of Put -/
theorem runeD_enc (n : Int) (hN : isD n = true) : runeD (encodeRune n) 0 = (n, ((encodeRune n).length : Int)) := by
  have h1 := dec_enc n hN []
  rw [List.append_nil] at h1
  have h2 := enc_pos n
  rw [isD_iff] at hN
  unfold runeD
  rw [if_neg (by omega)]
  simp only [Int.toNat_zero, List.drop_zero, h1]
  rw [if_neg]
  · apply Prod.ext <;> simp only
    omega
  · rintro ⟨k1, k2⟩
    have := enc_two n (by omega)
    omega
theorem puts_c (n : Int) (h : AH) (fr : Nat) : CR Tryd.prog glob md 4 [.int .i64 n] h fr (.bool true) none := by
  refine CR.plain (rs := [.tmp 2]) Tryd.func4 rfl rfl rfl rfl rfl rfl ?_ h fr
  by_cases hN : isD n = true
  · have e : putD n = (encodeRune n, 0) := by simp [putD, hN]
    have hl := enc_pos n
    have er := runeD_enc n hN
    have e1 : runeD (encodeRune n) 0 = runeD (encodeRune n) 0 := rfl
    simp -implicitDefEqProofs only [wpC_seq, wpC_region, wpC_draw, wpC_cond, wpC_ret, wpC_skip, wpC_exit, wpC_block, wpC_label, wpO_go, wpQ_go, wantA_none, gdO_true, gdO_false, gdQ_true, gdQ_false, goO_q, goO_w, goQ_q, putA_some, putA_none, opnd, ofVal, ofVal1,
    wpO_nil, wpQ_nil, KN_eq, KQ_eq, KS_normal, KS_ret, KS_exit, KB_normal, KB_ret, KB_same, layArgs, Fr.at_set, aop_move, aop_assign, aop_pick, pickO_true, pickO_false, pickO_bool, aop_box, boxO_int, boxO_str, boxO_bool, aop_load, behind_ptr, behind_rop,
    behindO_one, aop_store, aop_index, aop_extract, extractO_0, extractO_1, extractO_2, aop_binOp, bin_add, bin_sub, bin_mul, bin_eql, bin_neq, bin_lss, bin_leq, bin_gtr, bin_geq, bin_seql, bin_sneq, aop_unOp, unO_not, aop_convert, aop_len,
    aop_call, callV_func, aop_slice, decide_true, decide_false, decide_not, wantA_some, yieldA_eq, List.getElem?_toArray, List.getElem?_cons_succ, List.getElem?_cons_zero, Option.bind_some, yieldD_some, wantY_bool, wantY_not, Nat.reduceAdd, reduceIte, Nat.reduceEqDiff,
    Nat.zero_add, Nat.add_zero, beq_self_eq_true, Bool.true_beq, Bool.false_beq, Bool.not_true, Bool.not_false, List.map_cons, List.map_nil, List.append_nil, List.nil_append, List.cons_append, Option.map_some, Option.map_none, Bool.false_eq_true, reduceCtorEq, EndV_normal, EndV_ret, RV_some, resA_tmp, resA_nil, resT_some, oneOf_one, oneOf_two, tup_two, int_same, bool_same, str_same, and_self, and_true, true_and, if_true, if_false, goO_known (put_c _), goO_known (refPut_c _), e, goO_known (fixed_c), goO_known (rune_c (encodeRune n) (by omega) 0), er, len_str u9]
  · have e : putD n = ([], 10) := by simp [putD, hN]
    have er : runeD [] 0 = (0, 0) := rfl
    simp -implicitDefEqProofs only [wpC_seq, wpC_region, wpC_draw, wpC_cond, wpC_ret, wpC_skip, wpC_exit, wpC_block, wpC_label, wpO_go, wpQ_go, wantA_none, gdO_true, gdO_false, gdQ_true, gdQ_false, goO_q, goO_w, goQ_q, putA_some, putA_none, opnd, ofVal, ofVal1,
    wpO_nil, wpQ_nil, KN_eq, KQ_eq, KS_normal, KS_ret, KS_exit, KB_normal, KB_ret, KB_same, layArgs, Fr.at_set, aop_move, aop_assign, aop_pick, pickO_true, pickO_false, pickO_bool, aop_box, boxO_int, boxO_str, boxO_bool, aop_load, behind_ptr, behind_rop,
    behindO_one, aop_store, aop_index, aop_extract, extractO_0, extractO_1, extractO_2, aop_binOp, bin_add, bin_sub, bin_mul, bin_eql, bin_neq, bin_lss, bin_leq, bin_gtr, bin_geq, bin_seql, bin_sneq, aop_unOp, unO_not, aop_convert, aop_len,
    aop_call, callV_func, aop_slice, decide_true, decide_false, decide_not, wantA_some, yieldA_eq, List.getElem?_toArray, List.getElem?_cons_succ, List.getElem?_cons_zero, Option.bind_some, yieldD_some, wantY_bool, wantY_not, Nat.reduceAdd, reduceIte, Nat.reduceEqDiff,
    Nat.zero_add, Nat.add_zero, beq_self_eq_true, Bool.true_beq, Bool.false_beq, Bool.not_true, Bool.not_false, List.map_cons, List.map_nil, List.append_nil, List.nil_append, List.cons_append, Option.map_some, Option.map_none, Bool.false_eq_true, reduceCtorEq, EndV_normal, EndV_ret, RV_some, resA_tmp, resA_nil, resT_some, oneOf_one, oneOf_two, tup_two, int_same, bool_same, str_same, and_self, and_true, true_and, if_true, if_false, goO_known (put_c _), goO_known (refPut_c _), e, goO_known (fixed_c), goO_known (rune_c [] (by simp) 0), er, len_str u9, show ¬ ((10 : Int) = 0) by decide]
end Go.Proofs.YtohmplfkieaecaaDoor
