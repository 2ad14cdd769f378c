/-
  RUNES, 1: what the code's small functions come to.
-/
import Derived.Test.YtohmplfkieaecaaDoorR0
import Derived.Test.YtohmplfkieaecaaDoorA19
import Derived.IntWalk
namespace Go.Proofs.YtohmplfkieaecaaDoor
open Go.RowKit Go.Lib Go.Ab
set_option linter.unusedSimpArgs false
set_option maxRecDepth 100000

theorem u3 : Tryd.prog.underlying 3 = some (.int .i64) := Tryd.underlying3
theorem u4 : Tryd.prog.underlying 4 = some .bool := Tryd.underlying4
theorem u5 : Tryd.prog.underlying 5 = some (.int .u8) := Tryd.underlying5
theorem u9 : Tryd.prog.underlying 9 = some .string := Tryd.underlying9
theorem u21 : Tryd.prog.underlying 21 = some (.int .i32) := Tryd.underlying21
theorem u26 : Tryd.prog.underlying 26 = some (.slice 3) := Tryd.underlying26
theorem u37 : Tryd.prog.underlying 37 = some (.slice 5) := Tryd.underlying37
theorem sz3 : tySz Tryd.prog 3 = some 1 := by kernel_rfl
theorem sz5 : tySz Tryd.prog 5 = some 1 := by kernel_rfl
theorem sz9 : tySz Tryd.prog 9 = some 1 := by kernel_rfl
theorem ag3 : tyAgg Tryd.prog 3 = some false := by kernel_rfl
theorem ag9 : tyAgg Tryd.prog 9 = some false := by kernel_rfl
theorem z3 : tyZero Tryd.prog 3 = some [.int .i64 0] := by kernel_rfl
theorem z5 : tyZero Tryd.prog 5 = some [.int .u8 0] := by kernel_rfl


/-! ### What begins at a place -/
/-- runes.Rune, over lists. -/
def runeD (l : List UInt8) (a : Int) : Int × Int :=
  if a < 0 ∨ (l.length : Int) ≤ a then (0, 0)
  else if (decodeL (l.drop a.toNat)).1 = 65533 ∧ (decodeL (l.drop a.toNat)).2 = 1 then (0, 0)
  else ((decodeL (l.drop a.toNat)).1, (decodeL (l.drop a.toNat)).2)
theorem decodeGo_L (l : List UInt8) (h : l ≠ []) : decodeGo ⟨l.toArray⟩ = decodeL l := by
  unfold decodeGo decodeL
  rw [if_neg]
  intro e
  apply h
  simpa [ByteArray.size] using e

theorem decode_c (l : List UInt8) (h : AH) (fr : Nat) : CR Tryd.prog glob md 26 [.str l] h fr (.tup [.int .i32 (decodeGo ⟨l.toArray⟩).1, .int .i64 (decodeGo ⟨l.toArray⟩).2]) none :=
  CR.lib Tryd.func26 rfl rfl rfl rfl rfl h fr
theorem valid_c (l : List UInt8) (hl : l.length ≤ 9223372036854775807) (h : AH) (fr : Nat) : CR Tryd.prog glob md 29 [.str l] h fr (.bool (validD l)) none :=
  CR.lib Tryd.func29 rfl rfl rfl rfl (by simp [validF, hl]) h fr

theorem rune_c (l : List UInt8) (hl : l.length ≤ 9223372036854775807) (a : Int) (h : AH) (fr : Nat) : CR Tryd.prog glob md 12 [.str l, .int .i64 a] h fr (.tup [.int .i64 (runeD l a).1, .int .i64 (runeD l a).2]) none := by
  refine CR.plain (rs := [.tmp 4, .tmp 5]) Tryd.func12 rfl rfl rfl rfl rfl rfl ?_ h fr
  by_cases c1 : a < 0
  · have e : runeD l a = (0, 0) := by simp [runeD, c1]
    simp -implicitDefEqProofs only [wpC_seq, wpC_region, wpC_draw, wpC_cond, wpC_ret, wpC_skip, wpC_exit, wpC_block, wpC_label, wpO_go, wpQ_go, wantA_none, gdO_true, gdO_false, gdQ_true, gdQ_false, goO_q, goO_w, goQ_q, putA_some, putA_none, opnd, ofVal, ofVal1,
    wpO_nil, wpQ_nil, KN_eq, KQ_eq, KS_normal, KS_ret, KS_exit, KB_normal, KB_ret, KB_same, layArgs, Fr.at_set, aop_move, aop_assign, aop_pick, pickO_true, pickO_false, pickO_bool, aop_box, boxO_int, boxO_str, boxO_bool, aop_load, behind_ptr, behind_rop,
    behindO_one, aop_store, aop_index, aop_extract, extractO_0, extractO_1, extractO_2, aop_binOp, bin_add, bin_sub, bin_mul, bin_eql, bin_neq, bin_lss, bin_leq, bin_gtr, bin_geq, bin_seql, bin_sneq, aop_unOp, unO_not, aop_convert, aop_len,
    aop_call, callV_func, aop_slice, decide_true, decide_false, decide_not, wantA_some, yieldA_eq, List.getElem?_toArray, List.getElem?_cons_succ, List.getElem?_cons_zero, Option.bind_some, yieldD_some, wantY_bool, wantY_not, Nat.reduceAdd, reduceIte, Nat.reduceEqDiff,
    Nat.zero_add, Nat.add_zero, beq_self_eq_true, Bool.true_beq, Bool.false_beq, Bool.not_true, Bool.not_false, List.map_cons, List.map_nil, List.append_nil, List.nil_append, List.cons_append, Option.map_some, Option.map_none, Bool.false_eq_true, reduceCtorEq, EndV_normal, EndV_ret, RV_some, resA_tmp, resA_nil, resT_some, oneOf_one, oneOf_two, tup_two, int_same, bool_same, str_same, and_self, and_true, true_and, if_true, if_false, c1, e]
  by_cases c2 : (l.length : Int) ≤ a
  · have e : runeD l a = (0, 0) := by simp [runeD, c2]
    simp -implicitDefEqProofs only [wpC_seq, wpC_region, wpC_draw, wpC_cond, wpC_ret, wpC_skip, wpC_exit, wpC_block, wpC_label, wpO_go, wpQ_go, wantA_none, gdO_true, gdO_false, gdQ_true, gdQ_false, goO_q, goO_w, goQ_q, putA_some, putA_none, opnd, ofVal, ofVal1,
    wpO_nil, wpQ_nil, KN_eq, KQ_eq, KS_normal, KS_ret, KS_exit, KB_normal, KB_ret, KB_same, layArgs, Fr.at_set, aop_move, aop_assign, aop_pick, pickO_true, pickO_false, pickO_bool, aop_box, boxO_int, boxO_str, boxO_bool, aop_load, behind_ptr, behind_rop,
    behindO_one, aop_store, aop_index, aop_extract, extractO_0, extractO_1, extractO_2, aop_binOp, bin_add, bin_sub, bin_mul, bin_eql, bin_neq, bin_lss, bin_leq, bin_gtr, bin_geq, bin_seql, bin_sneq, aop_unOp, unO_not, aop_convert, aop_len,
    aop_call, callV_func, aop_slice, decide_true, decide_false, decide_not, wantA_some, yieldA_eq, List.getElem?_toArray, List.getElem?_cons_succ, List.getElem?_cons_zero, Option.bind_some, yieldD_some, wantY_bool, wantY_not, Nat.reduceAdd, reduceIte, Nat.reduceEqDiff,
    Nat.zero_add, Nat.add_zero, beq_self_eq_true, Bool.true_beq, Bool.false_beq, Bool.not_true, Bool.not_false, List.map_cons, List.map_nil, List.append_nil, List.nil_append, List.cons_append, Option.map_some, Option.map_none, Bool.false_eq_true, reduceCtorEq, EndV_normal, EndV_ret, RV_some, resA_tmp, resA_nil, resT_some, oneOf_one, oneOf_two, tup_two, int_same, bool_same, str_same, and_self, and_true, true_and, if_true, if_false, c1, c2, len_str u9, e]
  have hne : l.drop a.toNat ≠ [] := by
    intro e
    have := congrArg List.length e
    rw [List.length_drop, List.length_nil] at this
    omega
  have hr := decodeL_rune (l.drop a.toNat)
  have hw := decodeL_width (l.drop a.toNat)
  have hle := decodeL_le _ hne
  rw [List.length_drop] at hle
  have hd := decodeGo_L _ hne
  have h0 : 0 ≤ a := by omega
  have h1 : a ≤ l.length := by omega
  by_cases c3 : (decodeL (l.drop a.toNat)).1 = 65533
  · have c3' : decide (((decodeL (l.drop a.toNat)).1 : Int) = 65533) = true := decide_eq_true (by omega)
    have ew := IntWalk.i64_in ((decodeL (l.drop a.toNat)).1 : Int) (by omega)
    by_cases c4 : (decodeL (l.drop a.toNat)).2 = 1
    · have c4' : ((decodeL (l.drop a.toNat)).2 : Int) < 2 := by omega
      have e : runeD l a = (0, 0) := by simp [runeD, c3, c4]
      simp -implicitDefEqProofs only [wpC_seq, wpC_region, wpC_draw, wpC_cond, wpC_ret, wpC_skip, wpC_exit, wpC_block, wpC_label, wpO_go, wpQ_go, wantA_none, gdO_true, gdO_false, gdQ_true, gdQ_false, goO_q, goO_w, goQ_q, putA_some, putA_none, opnd, ofVal, ofVal1,
    wpO_nil, wpQ_nil, KN_eq, KQ_eq, KS_normal, KS_ret, KS_exit, KB_normal, KB_ret, KB_same, layArgs, Fr.at_set, aop_move, aop_assign, aop_pick, pickO_true, pickO_false, pickO_bool, aop_box, boxO_int, boxO_str, boxO_bool, aop_load, behind_ptr, behind_rop,
    behindO_one, aop_store, aop_index, aop_extract, extractO_0, extractO_1, extractO_2, aop_binOp, bin_add, bin_sub, bin_mul, bin_eql, bin_neq, bin_lss, bin_leq, bin_gtr, bin_geq, bin_seql, bin_sneq, aop_unOp, unO_not, aop_convert, aop_len,
    aop_call, callV_func, aop_slice, decide_true, decide_false, decide_not, wantA_some, yieldA_eq, List.getElem?_toArray, List.getElem?_cons_succ, List.getElem?_cons_zero, Option.bind_some, yieldD_some, wantY_bool, wantY_not, Nat.reduceAdd, reduceIte, Nat.reduceEqDiff,
    Nat.zero_add, Nat.add_zero, beq_self_eq_true, Bool.true_beq, Bool.false_beq, Bool.not_true, Bool.not_false, List.map_cons, List.map_nil, List.append_nil, List.nil_append, List.cons_append, Option.map_some, Option.map_none, Bool.false_eq_true, reduceCtorEq, EndV_normal, EndV_ret, RV_some, resA_tmp, resA_nil, resT_some, oneOf_one, oneOf_two, tup_two, int_same, bool_same, str_same, and_self, and_true, true_and, if_true, if_false, c1, c2, len_str u9, slice_from u9 h0 h1, goO_known (decode_c _), hd, c3', c4', e]
    · have c5 : ¬ (((decodeL (l.drop a.toNat)).2 : Int) < 2) := by omega
      have e : runeD l a = (((decodeL (l.drop a.toNat)).1 : Int), ((decodeL (l.drop a.toNat)).2 : Int)) := by simp [runeD, c1, c2, c3, c4]
      simp -implicitDefEqProofs only [wpC_seq, wpC_region, wpC_draw, wpC_cond, wpC_ret, wpC_skip, wpC_exit, wpC_block, wpC_label, wpO_go, wpQ_go, wantA_none, gdO_true, gdO_false, gdQ_true, gdQ_false, goO_q, goO_w, goQ_q, putA_some, putA_none, opnd, ofVal, ofVal1,
    wpO_nil, wpQ_nil, KN_eq, KQ_eq, KS_normal, KS_ret, KS_exit, KB_normal, KB_ret, KB_same, layArgs, Fr.at_set, aop_move, aop_assign, aop_pick, pickO_true, pickO_false, pickO_bool, aop_box, boxO_int, boxO_str, boxO_bool, aop_load, behind_ptr, behind_rop,
    behindO_one, aop_store, aop_index, aop_extract, extractO_0, extractO_1, extractO_2, aop_binOp, bin_add, bin_sub, bin_mul, bin_eql, bin_neq, bin_lss, bin_leq, bin_gtr, bin_geq, bin_seql, bin_sneq, aop_unOp, unO_not, aop_convert, aop_len,
    aop_call, callV_func, aop_slice, decide_true, decide_false, decide_not, wantA_some, yieldA_eq, List.getElem?_toArray, List.getElem?_cons_succ, List.getElem?_cons_zero, Option.bind_some, yieldD_some, wantY_bool, wantY_not, Nat.reduceAdd, reduceIte, Nat.reduceEqDiff,
    Nat.zero_add, Nat.add_zero, beq_self_eq_true, Bool.true_beq, Bool.false_beq, Bool.not_true, Bool.not_false, List.map_cons, List.map_nil, List.append_nil, List.nil_append, List.cons_append, Option.map_some, Option.map_none, Bool.false_eq_true, reduceCtorEq, EndV_normal, EndV_ret, RV_some, resA_tmp, resA_nil, resT_some, oneOf_one, oneOf_two, tup_two, int_same, bool_same, str_same, and_self, and_true, true_and, if_true, if_false, c1, c2, len_str u9, slice_from u9 h0 h1, goO_known (decode_c _), hd, c3', c5, conv_int u21 u3, e, ew]
  · have c5 : ¬ (((decodeL (l.drop a.toNat)).1 : Int) = 65533) := by omega
    have e : runeD l a = (((decodeL (l.drop a.toNat)).1 : Int), ((decodeL (l.drop a.toNat)).2 : Int)) := by simp [runeD, c1, c2, c3]
    have ew := IntWalk.i64_in ((decodeL (l.drop a.toNat)).1 : Int) (by omega)
    simp -implicitDefEqProofs only [wpC_seq, wpC_region, wpC_draw, wpC_cond, wpC_ret, wpC_skip, wpC_exit, wpC_block, wpC_label, wpO_go, wpQ_go, wantA_none, gdO_true, gdO_false, gdQ_true, gdQ_false, goO_q, goO_w, goQ_q, putA_some, putA_none, opnd, ofVal, ofVal1,
    wpO_nil, wpQ_nil, KN_eq, KQ_eq, KS_normal, KS_ret, KS_exit, KB_normal, KB_ret, KB_same, layArgs, Fr.at_set, aop_move, aop_assign, aop_pick, pickO_true, pickO_false, pickO_bool, aop_box, boxO_int, boxO_str, boxO_bool, aop_load, behind_ptr, behind_rop,
    behindO_one, aop_store, aop_index, aop_extract, extractO_0, extractO_1, extractO_2, aop_binOp, bin_add, bin_sub, bin_mul, bin_eql, bin_neq, bin_lss, bin_leq, bin_gtr, bin_geq, bin_seql, bin_sneq, aop_unOp, unO_not, aop_convert, aop_len,
    aop_call, callV_func, aop_slice, decide_true, decide_false, decide_not, wantA_some, yieldA_eq, List.getElem?_toArray, List.getElem?_cons_succ, List.getElem?_cons_zero, Option.bind_some, yieldD_some, wantY_bool, wantY_not, Nat.reduceAdd, reduceIte, Nat.reduceEqDiff,
    Nat.zero_add, Nat.add_zero, beq_self_eq_true, Bool.true_beq, Bool.false_beq, Bool.not_true, Bool.not_false, List.map_cons, List.map_nil, List.append_nil, List.nil_append, List.cons_append, Option.map_some, Option.map_none, Bool.false_eq_true, reduceCtorEq, EndV_normal, EndV_ret, RV_some, resA_tmp, resA_nil, resT_some, oneOf_one, oneOf_two, tup_two, int_same, bool_same, str_same, and_self, and_true, true_and, if_true, if_false, c1, c2, len_str u9, slice_from u9 h0 h1, goO_known (decode_c _), hd, c5, conv_int u21 u3, e, ew]

/-! ### ref.Is, runes.source, ref.ends -/
def isD (n : Int) : Bool := decide (0 ≤ n) && decide (n ≤ 1114111) && (decide (n < 55296) || decide (57343 < n))
theorem is_c (n : Int) (h : AH) (fr : Nat) : CR Tryd.prog glob md 27 [.int .i64 n] h fr (.bool (isD n)) none := by
  refine CR.plain (rs := [.tmp 2]) Tryd.func27 rfl rfl rfl rfl rfl rfl ?_ h fr
  by_cases c1 : 0 ≤ n <;> by_cases c2 : n ≤ 1114111 <;> by_cases c3 : n < 55296 <;> by_cases c4 : 57343 < n <;>
  · simp -implicitDefEqProofs only [wpC_seq, wpC_region, wpC_draw, wpC_cond, wpC_ret, wpC_skip, wpC_exit, wpC_block, wpC_label, wpO_go, wpQ_go, wantA_none, gdO_true, gdO_false, gdQ_true, gdQ_false, goO_q, goO_w, goQ_q, putA_some, putA_none, opnd, ofVal, ofVal1,
    wpO_nil, wpQ_nil, KN_eq, KQ_eq, KS_normal, KS_ret, KS_exit, KB_normal, KB_ret, KB_same, layArgs, Fr.at_set, aop_move, aop_assign, aop_pick, pickO_true, pickO_false, pickO_bool, aop_box, boxO_int, boxO_str, boxO_bool, aop_load, behind_ptr, behind_rop,
    behindO_one, aop_store, aop_index, aop_extract, extractO_0, extractO_1, extractO_2, aop_binOp, bin_add, bin_sub, bin_mul, bin_eql, bin_neq, bin_lss, bin_leq, bin_gtr, bin_geq, bin_seql, bin_sneq, aop_unOp, unO_not, aop_convert, aop_len,
    aop_call, callV_func, aop_slice, decide_true, decide_false, decide_not, wantA_some, yieldA_eq, List.getElem?_toArray, List.getElem?_cons_succ, List.getElem?_cons_zero, Option.bind_some, yieldD_some, wantY_bool, wantY_not, Nat.reduceAdd, reduceIte, Nat.reduceEqDiff,
    Nat.zero_add, Nat.add_zero, beq_self_eq_true, Bool.true_beq, Bool.false_beq, Bool.not_true, Bool.not_false, List.map_cons, List.map_nil, List.append_nil, List.nil_append, List.cons_append, Option.map_some, Option.map_none, Bool.false_eq_true, reduceCtorEq, EndV_normal, EndV_ret, RV_some, resA_tmp, resA_nil, resT_some, oneOf_one, oneOf_two, tup_two, int_same, bool_same, str_same, and_self, and_true, true_and, if_true, if_false, c1, c2, c3, c4]
    simp [isD, c1, c2, c3, c4]
def sourceD (c : Int) : Bool := decide (c = 9) || decide (c = 10) || decide (c = 13) || (decide (32 ≤ c) && decide (c ≤ 65535))
theorem source_c (n : Int) (h : AH) (fr : Nat) : CR Tryd.prog glob md 31 [.int .i64 n] h fr (.bool (sourceD n)) none := by
  refine CR.plain (rs := [.tmp 2]) Tryd.func31 rfl rfl rfl rfl rfl rfl ?_ h fr
  by_cases c1 : n = 9
  · subst c1
    simp -implicitDefEqProofs only [wpC_seq, wpC_region, wpC_draw, wpC_cond, wpC_ret, wpC_skip, wpC_exit, wpC_block, wpC_label, wpO_go, wpQ_go, wantA_none, gdO_true, gdO_false, gdQ_true, gdQ_false, goO_q, goO_w, goQ_q, putA_some, putA_none, opnd, ofVal, ofVal1,
    wpO_nil, wpQ_nil, KN_eq, KQ_eq, KS_normal, KS_ret, KS_exit, KB_normal, KB_ret, KB_same, layArgs, Fr.at_set, aop_move, aop_assign, aop_pick, pickO_true, pickO_false, pickO_bool, aop_box, boxO_int, boxO_str, boxO_bool, aop_load, behind_ptr, behind_rop,
    behindO_one, aop_store, aop_index, aop_extract, extractO_0, extractO_1, extractO_2, aop_binOp, bin_add, bin_sub, bin_mul, bin_eql, bin_neq, bin_lss, bin_leq, bin_gtr, bin_geq, bin_seql, bin_sneq, aop_unOp, unO_not, aop_convert, aop_len,
    aop_call, callV_func, aop_slice, decide_true, decide_false, decide_not, wantA_some, yieldA_eq, List.getElem?_toArray, List.getElem?_cons_succ, List.getElem?_cons_zero, Option.bind_some, yieldD_some, wantY_bool, wantY_not, Nat.reduceAdd, reduceIte, Nat.reduceEqDiff,
    Nat.zero_add, Nat.add_zero, beq_self_eq_true, Bool.true_beq, Bool.false_beq, Bool.not_true, Bool.not_false, List.map_cons, List.map_nil, List.append_nil, List.nil_append, List.cons_append, Option.map_some, Option.map_none, Bool.false_eq_true, reduceCtorEq, EndV_normal, EndV_ret, RV_some, resA_tmp, resA_nil, resT_some, oneOf_one, oneOf_two, tup_two, int_same, bool_same, str_same, and_self, and_true, true_and, if_true, if_false]
    rfl
  by_cases c2 : n = 10
  · subst c2
    simp -implicitDefEqProofs only [wpC_seq, wpC_region, wpC_draw, wpC_cond, wpC_ret, wpC_skip, wpC_exit, wpC_block, wpC_label, wpO_go, wpQ_go, wantA_none, gdO_true, gdO_false, gdQ_true, gdQ_false, goO_q, goO_w, goQ_q, putA_some, putA_none, opnd, ofVal, ofVal1,
    wpO_nil, wpQ_nil, KN_eq, KQ_eq, KS_normal, KS_ret, KS_exit, KB_normal, KB_ret, KB_same, layArgs, Fr.at_set, aop_move, aop_assign, aop_pick, pickO_true, pickO_false, pickO_bool, aop_box, boxO_int, boxO_str, boxO_bool, aop_load, behind_ptr, behind_rop,
    behindO_one, aop_store, aop_index, aop_extract, extractO_0, extractO_1, extractO_2, aop_binOp, bin_add, bin_sub, bin_mul, bin_eql, bin_neq, bin_lss, bin_leq, bin_gtr, bin_geq, bin_seql, bin_sneq, aop_unOp, unO_not, aop_convert, aop_len,
    aop_call, callV_func, aop_slice, decide_true, decide_false, decide_not, wantA_some, yieldA_eq, List.getElem?_toArray, List.getElem?_cons_succ, List.getElem?_cons_zero, Option.bind_some, yieldD_some, wantY_bool, wantY_not, Nat.reduceAdd, reduceIte, Nat.reduceEqDiff,
    Nat.zero_add, Nat.add_zero, beq_self_eq_true, Bool.true_beq, Bool.false_beq, Bool.not_true, Bool.not_false, List.map_cons, List.map_nil, List.append_nil, List.nil_append, List.cons_append, Option.map_some, Option.map_none, Bool.false_eq_true, reduceCtorEq, EndV_normal, EndV_ret, RV_some, resA_tmp, resA_nil, resT_some, oneOf_one, oneOf_two, tup_two, int_same, bool_same, str_same, and_self, and_true, true_and, if_true, if_false, show ¬ ((10 : Int) = 9) by decide]
    rfl
  by_cases c3 : n = 13
  · subst c3
    simp -implicitDefEqProofs only [wpC_seq, wpC_region, wpC_draw, wpC_cond, wpC_ret, wpC_skip, wpC_exit, wpC_block, wpC_label, wpO_go, wpQ_go, wantA_none, gdO_true, gdO_false, gdQ_true, gdQ_false, goO_q, goO_w, goQ_q, putA_some, putA_none, opnd, ofVal, ofVal1,
    wpO_nil, wpQ_nil, KN_eq, KQ_eq, KS_normal, KS_ret, KS_exit, KB_normal, KB_ret, KB_same, layArgs, Fr.at_set, aop_move, aop_assign, aop_pick, pickO_true, pickO_false, pickO_bool, aop_box, boxO_int, boxO_str, boxO_bool, aop_load, behind_ptr, behind_rop,
    behindO_one, aop_store, aop_index, aop_extract, extractO_0, extractO_1, extractO_2, aop_binOp, bin_add, bin_sub, bin_mul, bin_eql, bin_neq, bin_lss, bin_leq, bin_gtr, bin_geq, bin_seql, bin_sneq, aop_unOp, unO_not, aop_convert, aop_len,
    aop_call, callV_func, aop_slice, decide_true, decide_false, decide_not, wantA_some, yieldA_eq, List.getElem?_toArray, List.getElem?_cons_succ, List.getElem?_cons_zero, Option.bind_some, yieldD_some, wantY_bool, wantY_not, Nat.reduceAdd, reduceIte, Nat.reduceEqDiff,
    Nat.zero_add, Nat.add_zero, beq_self_eq_true, Bool.true_beq, Bool.false_beq, Bool.not_true, Bool.not_false, List.map_cons, List.map_nil, List.append_nil, List.nil_append, List.cons_append, Option.map_some, Option.map_none, Bool.false_eq_true, reduceCtorEq, EndV_normal, EndV_ret, RV_some, resA_tmp, resA_nil, resT_some, oneOf_one, oneOf_two, tup_two, int_same, bool_same, str_same, and_self, and_true, true_and, if_true, if_false, show ¬ ((13 : Int) = 9) by decide, show ¬ ((13 : Int) = 10) by decide]
    rfl
  by_cases c4 : 32 ≤ n <;> by_cases c5 : n ≤ 65535 <;>
  · simp -implicitDefEqProofs only [wpC_seq, wpC_region, wpC_draw, wpC_cond, wpC_ret, wpC_skip, wpC_exit, wpC_block, wpC_label, wpO_go, wpQ_go, wantA_none, gdO_true, gdO_false, gdQ_true, gdQ_false, goO_q, goO_w, goQ_q, putA_some, putA_none, opnd, ofVal, ofVal1,
    wpO_nil, wpQ_nil, KN_eq, KQ_eq, KS_normal, KS_ret, KS_exit, KB_normal, KB_ret, KB_same, layArgs, Fr.at_set, aop_move, aop_assign, aop_pick, pickO_true, pickO_false, pickO_bool, aop_box, boxO_int, boxO_str, boxO_bool, aop_load, behind_ptr, behind_rop,
    behindO_one, aop_store, aop_index, aop_extract, extractO_0, extractO_1, extractO_2, aop_binOp, bin_add, bin_sub, bin_mul, bin_eql, bin_neq, bin_lss, bin_leq, bin_gtr, bin_geq, bin_seql, bin_sneq, aop_unOp, unO_not, aop_convert, aop_len,
    aop_call, callV_func, aop_slice, decide_true, decide_false, decide_not, wantA_some, yieldA_eq, List.getElem?_toArray, List.getElem?_cons_succ, List.getElem?_cons_zero, Option.bind_some, yieldD_some, wantY_bool, wantY_not, Nat.reduceAdd, reduceIte, Nat.reduceEqDiff,
    Nat.zero_add, Nat.add_zero, beq_self_eq_true, Bool.true_beq, Bool.false_beq, Bool.not_true, Bool.not_false, List.map_cons, List.map_nil, List.append_nil, List.nil_append, List.cons_append, Option.map_some, Option.map_none, Bool.false_eq_true, reduceCtorEq, EndV_normal, EndV_ret, RV_some, resA_tmp, resA_nil, resT_some, oneOf_one, oneOf_two, tup_two, int_same, bool_same, str_same, and_self, and_true, true_and, if_true, if_false, c1, c2, c3, c4, c5]
    simp [sourceD, c1, c2, c3, c4, c5]
end Go.Proofs.YtohmplfkieaecaaDoor
