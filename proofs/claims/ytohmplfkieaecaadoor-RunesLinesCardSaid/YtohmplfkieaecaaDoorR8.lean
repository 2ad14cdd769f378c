/-
  RUNES, 8: lines and columns as the place rises (RunesLines).
-/
import Derived.Test.YtohmplfkieaecaaDoorR7b
namespace Go.Proofs.YtohmplfkieaecaaDoor
open Go.RowKit Go.Lib Go.Ab
set_option linter.unusedSimpArgs false
set_option maxRecDepth 100000

theorem place_at (l : List UInt8) (hl : l.length ≤ 140737488351232) (k : Nat) (hk : k ≤ l.length) (L B C : Int) (h1 : lnD l k 0 1 0 = (L, B)) (h2 : Stp l k B 0 C) (h : AH) (fr : Nat) : CR Tryd.prog glob md 24 [.str l, .int .i64 k] h fr (.tup [.int .i64 L, .int .i64 (1 + C)]) none := by
  have e : clampD l (k : Int) = k := by unfold clampD; omega
  refine place_c l hl k L B C ?_ ?_ h fr
  · rw [e, show ((k : Int)).toNat = k by omega]; exact h1
  · rw [e]; exact h2
theorem lnD_snoc (l : List UInt8) : ∀ (k i : Nat) (n b : Int), lnD l (k + 1) i n b = if endsD l (i + k) then ((lnD l k i n b).1 + 1, ((i + k : Nat) : Int) + 1) else lnD l k i n b
  | 0, i, n, b => by simp [lnD]
  | k + 1, i, n, b => by
    rw [lnD]
    conv => rhs; rw [lnD]
    by_cases h : endsD l i = true
    · rw [if_pos h, if_pos h, lnD_snoc l k (i + 1), show i + 1 + k = i + (k + 1) by omega]
    · rw [if_neg h, if_neg h, lnD_snoc l k (i + 1), show i + 1 + k = i + (k + 1) by omega]
theorem Stp.next {l : List UInt8} {A a n r : Int} (h : Stp l A a n r) : ∀ r', Stp l (A + 1) a n r' → r ≤ r' ∧ r' ≤ r + 1 := by
  induction h with
  | done a n h1 =>
    intro r' h'
    have hr := runeD_le l a
    cases h' with
    | done _ _ q => omega
    | step _ _ _ q h2 =>
      have hb := h2.bound
      split at hb <;> omega
  | step a n r h1 h2 ih =>
    intro r' h'
    have hr := runeD_le l a
    have hb := h2.bound
    cases h' with
    | done _ _ q => omega
    | step _ _ _ q h2' =>
      have hb' := h2'.bound
      by_cases c : a + max (runeD l a).2 1 ≤ A
      · rw [if_pos c] at ih h2
        rw [if_pos (by omega)] at h2'
        exact ih r' h2'
      · rw [if_neg c] at hb
        split at hb' <;> omega

def invL (l : List UInt8) (k : Nat) (F : Fr) (_ : AH) : Prop := ∃ (j : Nat) (L B C : Int), j + k = l.length ∧ lnD l j 0 1 0 = (L, B) ∧ Stp l j B 0 C ∧ F.at 0 = .str l ∧ F.at 3 = .int .i64 L ∧ F.at 4 = .int .i64 (1 + C) ∧ F.at 5 = .int .i64 ((j : Int) + 1)
theorem linesLaw_c (l : List UInt8) (hl : l.length ≤ 140737488351232) (h : AH) (fr : Nat) : CR Tryd.prog glob md 9 [.str l] h fr (.bool true) none := by
  refine CR.plain (rs := [.tmp 2]) Tryd.func9 rfl rfl rfl rfl rfl rfl ?_ h fr
  by_cases c0 : 600 < (l.length : Int)
  · have d0 : decide (600 < (l.length : Int)) = true := decide_eq_true c0
    simp -implicitDefEqProofs only [wpC_seq, wpC_region, wpC_draw, wpC_cond, wpC_ret, wpC_skip, wpC_exit, wpC_block, wpC_label, wpO_go, wpQ_go, wantA_none, gdO_true, gdO_false, gdQ_true, gdQ_false, goO_q, goO_w, goQ_q, putA_some, putA_none, opnd, ofVal, ofVal1,
    wpO_nil, wpQ_nil, KN_eq, KQ_eq, KS_normal, KS_ret, KS_exit, KB_normal, KB_ret, KB_same, layArgs, Fr.at_set, aop_move, aop_assign, aop_pick, pickO_true, pickO_false, pickO_bool, aop_box, boxO_int, boxO_str, boxO_bool, aop_load, behind_ptr, behind_rop,
    behindO_one, aop_store, aop_index, aop_extract, extractO_0, extractO_1, extractO_2, aop_binOp, bin_add, bin_sub, bin_mul, bin_eql, bin_neq, bin_lss, bin_leq, bin_gtr, bin_geq, bin_seql, bin_sneq, aop_unOp, unO_not, aop_convert, aop_len,
    aop_call, callV_func, aop_slice, decide_true, decide_false, decide_not, wantA_some, yieldA_eq, List.getElem?_toArray, List.getElem?_cons_succ, List.getElem?_cons_zero, Option.bind_some, yieldD_some, wantY_bool, wantY_not, Nat.reduceAdd, reduceIte, Nat.reduceEqDiff,
    Nat.zero_add, Nat.add_zero, beq_self_eq_true, Bool.true_beq, Bool.false_beq, Bool.not_true, Bool.not_false, List.map_cons, List.map_nil, List.append_nil, List.nil_append, List.cons_append, Option.map_some, Option.map_none, Bool.false_eq_true, reduceCtorEq, EndV_normal, EndV_ret, RV_some, resA_tmp, resA_nil, resT_some, oneOf_one, oneOf_two, tup_two, int_same, bool_same, str_same, and_self, and_true, true_and, if_true, if_false, aop_buildSlice, AH.get_set, AH.get_up, AH.next_set, AH.next_up, next_empty, cellsOf_ow, cellsG, List.length_cons, List.length_nil, List.drop_zero, List.take_succ_cons, List.take_zero, Nat.reduceMul, Nat.le_refl, convG_some, List.all_cons, List.all_nil,
    byteC_int, Bool.and_self, toB_int, List.size_toArray, aop_idx, liveG_cells, storeO_ptr, stoG_int, List.set_cons_zero, List.set_cons_succ, behindO_cells, aop_append, aop_makeSlice, aop_len, liveB_ro, KL_normal, KL_ret, KL_exit, KI_normal, KI_ret, KI_exit, len_str u9, d0, goO_known fixed_c]
  have d0 : decide (600 < (l.length : Int)) = false := decide_eq_false c0
  have p0 : ∀ h fr, CR Tryd.prog glob md 24 [.str l, .int .i64 0] h fr (.tup [.int .i64 1, .int .i64 (1 + 0)]) none := place_at l hl 0 (by omega) 1 0 0 rfl (.done _ _ (by omega))
  have d1 : decide ((1 : Int) + 0 = 1) = true := by decide
  simp -implicitDefEqProofs only [wpC_seq, wpC_region, wpC_draw, wpC_cond, wpC_ret, wpC_skip, wpC_exit, wpC_block, wpC_label, wpO_go, wpQ_go, wantA_none, gdO_true, gdO_false, gdQ_true, gdQ_false, goO_q, goO_w, goQ_q, putA_some, putA_none, opnd, ofVal, ofVal1,
    wpO_nil, wpQ_nil, KN_eq, KQ_eq, KS_normal, KS_ret, KS_exit, KB_normal, KB_ret, KB_same, layArgs, Fr.at_set, aop_move, aop_assign, aop_pick, pickO_true, pickO_false, pickO_bool, aop_box, boxO_int, boxO_str, boxO_bool, aop_load, behind_ptr, behind_rop,
    behindO_one, aop_store, aop_index, aop_extract, extractO_0, extractO_1, extractO_2, aop_binOp, bin_add, bin_sub, bin_mul, bin_eql, bin_neq, bin_lss, bin_leq, bin_gtr, bin_geq, bin_seql, bin_sneq, aop_unOp, unO_not, aop_convert, aop_len,
    aop_call, callV_func, aop_slice, decide_true, decide_false, decide_not, wantA_some, yieldA_eq, List.getElem?_toArray, List.getElem?_cons_succ, List.getElem?_cons_zero, Option.bind_some, yieldD_some, wantY_bool, wantY_not, Nat.reduceAdd, reduceIte, Nat.reduceEqDiff,
    Nat.zero_add, Nat.add_zero, beq_self_eq_true, Bool.true_beq, Bool.false_beq, Bool.not_true, Bool.not_false, List.map_cons, List.map_nil, List.append_nil, List.nil_append, List.cons_append, Option.map_some, Option.map_none, Bool.false_eq_true, reduceCtorEq, EndV_normal, EndV_ret, RV_some, resA_tmp, resA_nil, resT_some, oneOf_one, oneOf_two, tup_two, int_same, bool_same, str_same, and_self, and_true, true_and, if_true, if_false, aop_buildSlice, AH.get_set, AH.get_up, AH.next_set, AH.next_up, next_empty, cellsOf_ow, cellsG, List.length_cons, List.length_nil, List.drop_zero, List.take_succ_cons, List.take_zero, Nat.reduceMul, Nat.le_refl, convG_some, List.all_cons, List.all_nil,
    byteC_int, Bool.and_self, toB_int, List.size_toArray, aop_idx, liveG_cells, storeO_ptr, stoG_int, List.set_cons_zero, List.set_cons_succ, behindO_cells, aop_append, aop_makeSlice, aop_len, liveB_ro, KL_normal, KL_ret, KL_exit, KI_normal, KI_ret, KI_exit, len_str u9, d0, goO_known p0, goO_known fixed_c, d1]
  refine wpC_loop (invL l) (k := l.length) ⟨0, 1, 0, 0, by omega, rfl, .done _ _ (by omega), ?_, ?_, ?_, ?_⟩ ?_
  · simp only [Fr.at_set, Nat.reduceEqDiff, reduceIte, reduceCtorEq]
  · simp only [Fr.at_set, Nat.reduceEqDiff, reduceIte, reduceCtorEq]
  · simp only [Fr.at_set, Nat.reduceEqDiff, reduceIte, reduceCtorEq]
  · simp only [Fr.at_set, Nat.reduceEqDiff, reduceIte, reduceCtorEq]; rfl
  rintro k F h' ⟨j, L, B, C, hj, hln, hst, f0, f3, f4, f5⟩
  cases k with
  | zero =>
    have c1 : decide ((j : Int) + 1 ≤ (l.length : Int)) = false := decide_eq_false (by omega)
    simp -implicitDefEqProofs only [wpC_seq, wpC_region, wpC_draw, wpC_cond, wpC_ret, wpC_skip, wpC_exit, wpC_block, wpC_label, wpO_go, wpQ_go, wantA_none, gdO_true, gdO_false, gdQ_true, gdQ_false, goO_q, goO_w, goQ_q, putA_some, putA_none, opnd, ofVal, ofVal1,
    wpO_nil, wpQ_nil, KN_eq, KQ_eq, KS_normal, KS_ret, KS_exit, KB_normal, KB_ret, KB_same, layArgs, Fr.at_set, aop_move, aop_assign, aop_pick, pickO_true, pickO_false, pickO_bool, aop_box, boxO_int, boxO_str, boxO_bool, aop_load, behind_ptr, behind_rop,
    behindO_one, aop_store, aop_index, aop_extract, extractO_0, extractO_1, extractO_2, aop_binOp, bin_add, bin_sub, bin_mul, bin_eql, bin_neq, bin_lss, bin_leq, bin_gtr, bin_geq, bin_seql, bin_sneq, aop_unOp, unO_not, aop_convert, aop_len,
    aop_call, callV_func, aop_slice, decide_true, decide_false, decide_not, wantA_some, yieldA_eq, List.getElem?_toArray, List.getElem?_cons_succ, List.getElem?_cons_zero, Option.bind_some, yieldD_some, wantY_bool, wantY_not, Nat.reduceAdd, reduceIte, Nat.reduceEqDiff,
    Nat.zero_add, Nat.add_zero, beq_self_eq_true, Bool.true_beq, Bool.false_beq, Bool.not_true, Bool.not_false, List.map_cons, List.map_nil, List.append_nil, List.nil_append, List.cons_append, Option.map_some, Option.map_none, Bool.false_eq_true, reduceCtorEq, EndV_normal, EndV_ret, RV_some, resA_tmp, resA_nil, resT_some, oneOf_one, oneOf_two, tup_two, int_same, bool_same, str_same, and_self, and_true, true_and, if_true, if_false, aop_buildSlice, AH.get_set, AH.get_up, AH.next_set, AH.next_up, next_empty, cellsOf_ow, cellsG, List.length_cons, List.length_nil, List.drop_zero, List.take_succ_cons, List.take_zero, Nat.reduceMul, Nat.le_refl, convG_some, List.all_cons, List.all_nil,
    byteC_int, Bool.and_self, toB_int, List.size_toArray, aop_idx, liveG_cells, storeO_ptr, stoG_int, List.set_cons_zero, List.set_cons_succ, behindO_cells, aop_append, aop_makeSlice, aop_len, liveB_ro, KL_normal, KL_ret, KL_exit, KI_normal, KI_ret, KI_exit, len_str u9, f0, f5, c1]
  | succ k =>
    have c1 : decide ((j : Int) + 1 ≤ (l.length : Int)) = true := decide_eq_true (by omega)
    have hb1 := lnD_bound l j 0 1 0
    rw [hln] at hb1
    have hb2 := hst.bound
    have hsn := lnD_snoc l j 0 1 0
    rw [hln, Nat.zero_add] at hsn
    obtain ⟨C', hC'⟩ := Stp.ex l ((j + 1 : Nat) : Int) _ (lnD l (j + 1) 0 1 0).2 0 (Nat.le_refl _)
    obtain ⟨L', B', hLB⟩ : ∃ L' B', lnD l (j + 1) 0 1 0 = (L', B') := ⟨_, _, rfl⟩
    rw [hLB] at hC' hsn
    simp only at hC'
    have p1 := place_at l hl (j + 1) (by omega) L' B' C' hLB hC'
    rw [show ((j + 1 : Nat) : Int) = (j : Int) + 1 by omega] at p1
    have wL := IntWalk.i64_in (L + 1) (by omega)
    have wC := IntWalk.i64_in (1 + C + 1) (by omega)
    have wj := IntWalk.i64_in ((j : Int) + 1 + 1) (by omega)
    have fin : ∀ (F' : Fr) (h'' : AH), F'.at 0 = .str l → F'.at 3 = .int .i64 L' → F'.at 4 = .int .i64 (1 + C') → F'.at 5 = .int .i64 ((j : Int) + 1 + 1) → ∃ i, i < k + 1 ∧ invL l i F' h'' :=
      fun F' h'' q0 q3 q4 q5 => ⟨k, by omega, j + 1, L', B', C', by omega, hLB, hC', q0, q3, q4, by rw [q5]; rfl⟩
    by_cases hE : endsD l j = true
    · rw [if_pos hE] at hsn
      simp only [Prod.mk.injEq] at hsn
      have hb3 := hC'.bound
      have q1 : decide (L' < L) = false := decide_eq_false (by omega)
      have q2 : decide (L + 1 < L') = false := decide_eq_false (by omega)
      have q3 : decide (L' = L) = false := decide_eq_false (by omega)
      have q6 : decide (L < L') = true := decide_eq_true (by omega)
      have q7 : decide (1 + C' = 1) = true := decide_eq_true (by omega)
      simp -implicitDefEqProofs only [wpC_seq, wpC_region, wpC_draw, wpC_cond, wpC_ret, wpC_skip, wpC_exit, wpC_block, wpC_label, wpO_go, wpQ_go, wantA_none, gdO_true, gdO_false, gdQ_true, gdQ_false, goO_q, goO_w, goQ_q, putA_some, putA_none, opnd, ofVal, ofVal1,
    wpO_nil, wpQ_nil, KN_eq, KQ_eq, KS_normal, KS_ret, KS_exit, KB_normal, KB_ret, KB_same, layArgs, Fr.at_set, aop_move, aop_assign, aop_pick, pickO_true, pickO_false, pickO_bool, aop_box, boxO_int, boxO_str, boxO_bool, aop_load, behind_ptr, behind_rop,
    behindO_one, aop_store, aop_index, aop_extract, extractO_0, extractO_1, extractO_2, aop_binOp, bin_add, bin_sub, bin_mul, bin_eql, bin_neq, bin_lss, bin_leq, bin_gtr, bin_geq, bin_seql, bin_sneq, aop_unOp, unO_not, aop_convert, aop_len,
    aop_call, callV_func, aop_slice, decide_true, decide_false, decide_not, wantA_some, yieldA_eq, List.getElem?_toArray, List.getElem?_cons_succ, List.getElem?_cons_zero, Option.bind_some, yieldD_some, wantY_bool, wantY_not, Nat.reduceAdd, reduceIte, Nat.reduceEqDiff,
    Nat.zero_add, Nat.add_zero, beq_self_eq_true, Bool.true_beq, Bool.false_beq, Bool.not_true, Bool.not_false, List.map_cons, List.map_nil, List.append_nil, List.nil_append, List.cons_append, Option.map_some, Option.map_none, Bool.false_eq_true, reduceCtorEq, EndV_normal, EndV_ret, RV_some, resA_tmp, resA_nil, resT_some, oneOf_one, oneOf_two, tup_two, int_same, bool_same, str_same, and_self, and_true, true_and, if_true, if_false, aop_buildSlice, AH.get_set, AH.get_up, AH.next_set, AH.next_up, next_empty, cellsOf_ow, cellsG, List.length_cons, List.length_nil, List.drop_zero, List.take_succ_cons, List.take_zero, Nat.reduceMul, Nat.le_refl, convG_some, List.all_cons, List.all_nil,
    byteC_int, Bool.and_self, toB_int, List.size_toArray, aop_idx, liveG_cells, storeO_ptr, stoG_int, List.set_cons_zero, List.set_cons_succ, behindO_cells, aop_append, aop_makeSlice, aop_len, liveB_ro, KL_normal, KL_ret, KL_exit, KI_normal, KI_ret, KI_exit, len_str u9, f0, f3, f4, f5, c1, goO_known p1, wL, wC, wj, q1, q2, q3, q6, q7]
      refine fin _ _ ?_ ?_ ?_ ?_
      all_goals simp only [Fr.at_set, Nat.reduceEqDiff, reduceIte, reduceCtorEq, f0]
    · rw [if_neg hE] at hsn
      simp only [Prod.mk.injEq] at hsn
      obtain ⟨e1, e2⟩ := hsn
      rw [e2, show ((j + 1 : Nat) : Int) = (j : Int) + 1 by omega] at hC'
      have hn := hst.next C' hC'
      have q1 : decide (L' < L) = false := decide_eq_false (by omega)
      have q2 : decide (L + 1 < L') = false := decide_eq_false (by omega)
      have q3 : decide (L' = L) = true := decide_eq_true (by omega)
      have q4 : decide (1 + C' < 1 + C) = false := decide_eq_false (by omega)
      have q5 : decide (1 + C + 1 < 1 + C') = false := decide_eq_false (by omega)
      have q6 : decide (L < L') = false := decide_eq_false (by omega)
      simp -implicitDefEqProofs only [wpC_seq, wpC_region, wpC_draw, wpC_cond, wpC_ret, wpC_skip, wpC_exit, wpC_block, wpC_label, wpO_go, wpQ_go, wantA_none, gdO_true, gdO_false, gdQ_true, gdQ_false, goO_q, goO_w, goQ_q, putA_some, putA_none, opnd, ofVal, ofVal1,
    wpO_nil, wpQ_nil, KN_eq, KQ_eq, KS_normal, KS_ret, KS_exit, KB_normal, KB_ret, KB_same, layArgs, Fr.at_set, aop_move, aop_assign, aop_pick, pickO_true, pickO_false, pickO_bool, aop_box, boxO_int, boxO_str, boxO_bool, aop_load, behind_ptr, behind_rop,
    behindO_one, aop_store, aop_index, aop_extract, extractO_0, extractO_1, extractO_2, aop_binOp, bin_add, bin_sub, bin_mul, bin_eql, bin_neq, bin_lss, bin_leq, bin_gtr, bin_geq, bin_seql, bin_sneq, aop_unOp, unO_not, aop_convert, aop_len,
    aop_call, callV_func, aop_slice, decide_true, decide_false, decide_not, wantA_some, yieldA_eq, List.getElem?_toArray, List.getElem?_cons_succ, List.getElem?_cons_zero, Option.bind_some, yieldD_some, wantY_bool, wantY_not, Nat.reduceAdd, reduceIte, Nat.reduceEqDiff,
    Nat.zero_add, Nat.add_zero, beq_self_eq_true, Bool.true_beq, Bool.false_beq, Bool.not_true, Bool.not_false, List.map_cons, List.map_nil, List.append_nil, List.nil_append, List.cons_append, Option.map_some, Option.map_none, Bool.false_eq_true, reduceCtorEq, EndV_normal, EndV_ret, RV_some, resA_tmp, resA_nil, resT_some, oneOf_one, oneOf_two, tup_two, int_same, bool_same, str_same, and_self, and_true, true_and, if_true, if_false, aop_buildSlice, AH.get_set, AH.get_up, AH.next_set, AH.next_up, next_empty, cellsOf_ow, cellsG, List.length_cons, List.length_nil, List.drop_zero, List.take_succ_cons, List.take_zero, Nat.reduceMul, Nat.le_refl, convG_some, List.all_cons, List.all_nil,
    byteC_int, Bool.and_self, toB_int, List.size_toArray, aop_idx, liveG_cells, storeO_ptr, stoG_int, List.set_cons_zero, List.set_cons_succ, behindO_cells, aop_append, aop_makeSlice, aop_len, liveB_ro, KL_normal, KL_ret, KL_exit, KI_normal, KI_ret, KI_exit, len_str u9, f0, f3, f4, f5, c1, goO_known p1, wL, wC, wj, q1, q2, q3, q4, q5, q6]
      refine fin _ _ ?_ ?_ ?_ ?_
      all_goals simp only [Fr.at_set, Nat.reduceEqDiff, reduceIte, reduceCtorEq, f0]
end Go.Proofs.YtohmplfkieaecaaDoor
