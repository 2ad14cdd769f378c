/-
  RUNES, 7b: a place's line and column, as the program has it (runes.Place), and RunesPlaces.
-/
import Derived.Test.YtohmplfkieaecaaDoorR7
namespace Go.Proofs.YtohmplfkieaecaaDoor
open Go.RowKit Go.Lib Go.Ab
set_option linter.unusedSimpArgs false
set_option maxRecDepth 100000

def inv32 (l : List UInt8) (A r : Int) (k : Nat) (F : Fr) (h : AH) : Prop := ∃ (a n : Int), 0 ≤ a ∧ a ≤ l.length ∧ k = (A - a).toNat ∧ 0 ≤ n ∧ Stp l A a n r ∧ F.at 0 = .int .i64 a ∧ F.at 1 = .ptr 1 1 0 ∧ F.at 2 = .ptr 0 1 0 ∧ F.at 4 = .int .i64 n ∧
  h.get 0 = some (.cells 0 false [.str l]) ∧ h.get 1 = some (.cells 0 false [.int .i64 A])
theorem steps_c (l : List UInt8) (hl : l.length ≤ 140737488351232) (A b r : Int) (hA : 0 ≤ A ∧ A ≤ l.length) (hb : 0 ≤ b ∧ b ≤ A) (hst : Stp l A b 0 r) (h : AH) (g0 : h.get 0 = some (.cells 0 false [.str l])) (g1 : h.get 1 = some (.cells 0 false [.int .i64 A])) :
    ∃ v h', (∀ fr, CR Tryd.prog glob md 32 [.int .i64 b, .ptr 1 1 0, .ptr 0 1 0] h fr v (some h')) ∧ v = .int .i64 r := by
  have hC := hst.bound
  refine CR.mix (rs := [.tmp 4]) (Q := fun v _ => v = .int .i64 r) Tryd.func32 rfl rfl rfl rfl rfl (by simp [frzL, frz, PV.clean]) ?_
  simp -implicitDefEqProofs only [wpC_seq, wpC_region, wpC_draw, wpC_cond, wpC_ret, wpC_skip, wpC_exit, wpC_block, wpC_label, wpO_go, wpQ_go, wantA_none, gdO_true, gdO_false, gdQ_true, gdQ_false, goO_q, goO_w, goQ_q, putA_some, putA_none, opnd, ofVal, ofVal1,
    wpO_nil, wpQ_nil, KN_eq, KQ_eq, KS_normal, KS_ret, KS_exit, KB_normal, KB_ret, KB_same, layArgs, Fr.at_set, aop_move, aop_assign, aop_pick, pickO_true, pickO_false, pickO_bool, aop_box, boxO_int, boxO_str, boxO_bool, aop_load, behind_ptr, behind_rop,
    behindO_one, aop_store, aop_index, aop_extract, extractO_0, extractO_1, extractO_2, aop_binOp, bin_add, bin_sub, bin_mul, bin_eql, bin_neq, bin_lss, bin_leq, bin_gtr, bin_geq, bin_seql, bin_sneq, aop_unOp, unO_not, aop_convert, aop_len,
    aop_call, callV_func, aop_slice, decide_true, decide_false, decide_not, wantA_some, yieldA_eq, List.getElem?_toArray, List.getElem?_cons_succ, List.getElem?_cons_zero, Option.bind_some, yieldD_some, wantY_bool, wantY_not, Nat.reduceAdd, reduceIte, Nat.reduceEqDiff,
    Nat.zero_add, Nat.add_zero, beq_self_eq_true, Bool.true_beq, Bool.false_beq, Bool.not_true, Bool.not_false, List.map_cons, List.map_nil, List.append_nil, List.nil_append, List.cons_append, Option.map_some, Option.map_none, Bool.false_eq_true, reduceCtorEq, EndV_normal, EndV_ret, RV_some, resA_tmp, resA_nil, resT_some, oneOf_one, oneOf_two, tup_two, int_same, bool_same, str_same, and_self, and_true, true_and, if_true, if_false, aop_buildSlice, AH.get_set, AH.get_up, AH.next_set, AH.next_up, next_empty, cellsOf_ow, cellsG, List.length_cons, List.length_nil, List.drop_zero, List.take_succ_cons, List.take_zero, Nat.reduceMul, Nat.le_refl, convG_some, List.all_cons, List.all_nil,
    byteC_int, Bool.and_self, toB_int, List.size_toArray, aop_idx, liveG_cells, storeO_ptr, stoG_int, List.set_cons_zero, List.set_cons_succ, behindO_cells, aop_append, aop_makeSlice, aop_len, liveB_ro, KL_normal, KL_ret, KL_exit, KI_normal, KI_ret, KI_exit]
  refine wpC_loop (inv32 l A r) (k := (A - b).toNat) ⟨b, 0, by omega, by omega, rfl, by omega, hst, ?_, ?_, ?_, ?_, ?_, ?_⟩ ?_
  · simp only [Fr.at_set, Nat.reduceEqDiff, reduceIte, reduceCtorEq]
  · simp only [Fr.at_set, Nat.reduceEqDiff, reduceIte, reduceCtorEq, Nat.reduceAdd]
  · simp only [Fr.at_set, Nat.reduceEqDiff, reduceIte, reduceCtorEq, Nat.reduceAdd]
  · simp only [Fr.at_set, Nat.reduceEqDiff, reduceIte, reduceCtorEq]
  · simp only [AH.get_up, g0]
  · simp only [AH.get_up, g1]
  clear g0 g1 hst
  rintro k F h' ⟨x, m, x0, x1, rfl, m1, hst, f0, f1, f2, f4, g0, g1⟩
  have hsb := hst.bound
  cases hst with
  | done _ _ q =>
    have c2 : decide (x < A) = false := decide_eq_false (by omega)
    simp -implicitDefEqProofs only [wpC_seq, wpC_region, wpC_draw, wpC_cond, wpC_ret, wpC_skip, wpC_exit, wpC_block, wpC_label, wpO_go, wpQ_go, wantA_none, gdO_true, gdO_false, gdQ_true, gdQ_false, goO_q, goO_w, goQ_q, putA_some, putA_none, opnd, ofVal, ofVal1,
    wpO_nil, wpQ_nil, KN_eq, KQ_eq, KS_normal, KS_ret, KS_exit, KB_normal, KB_ret, KB_same, layArgs, Fr.at_set, aop_move, aop_assign, aop_pick, pickO_true, pickO_false, pickO_bool, aop_box, boxO_int, boxO_str, boxO_bool, aop_load, behind_ptr, behind_rop,
    behindO_one, aop_store, aop_index, aop_extract, extractO_0, extractO_1, extractO_2, aop_binOp, bin_add, bin_sub, bin_mul, bin_eql, bin_neq, bin_lss, bin_leq, bin_gtr, bin_geq, bin_seql, bin_sneq, aop_unOp, unO_not, aop_convert, aop_len,
    aop_call, callV_func, aop_slice, decide_true, decide_false, decide_not, wantA_some, yieldA_eq, List.getElem?_toArray, List.getElem?_cons_succ, List.getElem?_cons_zero, Option.bind_some, yieldD_some, wantY_bool, wantY_not, Nat.reduceAdd, reduceIte, Nat.reduceEqDiff,
    Nat.zero_add, Nat.add_zero, beq_self_eq_true, Bool.true_beq, Bool.false_beq, Bool.not_true, Bool.not_false, List.map_cons, List.map_nil, List.append_nil, List.nil_append, List.cons_append, Option.map_some, Option.map_none, Bool.false_eq_true, reduceCtorEq, EndV_normal, EndV_ret, RV_some, resA_tmp, resA_nil, resT_some, oneOf_one, oneOf_two, tup_two, int_same, bool_same, str_same, and_self, and_true, true_and, if_true, if_false, aop_buildSlice, AH.get_set, AH.get_up, AH.next_set, AH.next_up, next_empty, cellsOf_ow, cellsG, List.length_cons, List.length_nil, List.drop_zero, List.take_succ_cons, List.take_zero, Nat.reduceMul, Nat.le_refl, convG_some, List.all_cons, List.all_nil,
    byteC_int, Bool.and_self, toB_int, List.size_toArray, aop_idx, liveG_cells, storeO_ptr, stoG_int, List.set_cons_zero, List.set_cons_succ, behindO_cells, aop_append, aop_makeSlice, aop_len, liveB_ro, KL_normal, KL_ret, KL_exit, KI_normal, KI_ret, KI_exit, EndS_normal, EndS_ret, RS_some, f0, f1, f2, f4, g0, g1, loadO_one ag3 sz3, loadO_one ag9 sz9, c2]
  | step _ _ _ q hst =>
    have c2 : decide (x < A) = true := decide_eq_true (by omega)
    have hr := runeD_le l x
    have w := IntWalk.i64_in (x + max (runeD l x).2 1) (by omega)
    by_cases c3 : x + max (runeD l x).2 1 ≤ A
    · rw [if_pos c3] at hst
      have hsb2 := hst.bound
      have w2 := IntWalk.i64_in (m + 1) (by omega)
      simp -implicitDefEqProofs only [wpC_seq, wpC_region, wpC_draw, wpC_cond, wpC_ret, wpC_skip, wpC_exit, wpC_block, wpC_label, wpO_go, wpQ_go, wantA_none, gdO_true, gdO_false, gdQ_true, gdQ_false, goO_q, goO_w, goQ_q, putA_some, putA_none, opnd, ofVal, ofVal1,
    wpO_nil, wpQ_nil, KN_eq, KQ_eq, KS_normal, KS_ret, KS_exit, KB_normal, KB_ret, KB_same, layArgs, Fr.at_set, aop_move, aop_assign, aop_pick, pickO_true, pickO_false, pickO_bool, aop_box, boxO_int, boxO_str, boxO_bool, aop_load, behind_ptr, behind_rop,
    behindO_one, aop_store, aop_index, aop_extract, extractO_0, extractO_1, extractO_2, aop_binOp, bin_add, bin_sub, bin_mul, bin_eql, bin_neq, bin_lss, bin_leq, bin_gtr, bin_geq, bin_seql, bin_sneq, aop_unOp, unO_not, aop_convert, aop_len,
    aop_call, callV_func, aop_slice, decide_true, decide_false, decide_not, wantA_some, yieldA_eq, List.getElem?_toArray, List.getElem?_cons_succ, List.getElem?_cons_zero, Option.bind_some, yieldD_some, wantY_bool, wantY_not, Nat.reduceAdd, reduceIte, Nat.reduceEqDiff,
    Nat.zero_add, Nat.add_zero, beq_self_eq_true, Bool.true_beq, Bool.false_beq, Bool.not_true, Bool.not_false, List.map_cons, List.map_nil, List.append_nil, List.nil_append, List.cons_append, Option.map_some, Option.map_none, Bool.false_eq_true, reduceCtorEq, EndV_normal, EndV_ret, RV_some, resA_tmp, resA_nil, resT_some, oneOf_one, oneOf_two, tup_two, int_same, bool_same, str_same, and_self, and_true, true_and, if_true, if_false, aop_buildSlice, AH.get_set, AH.get_up, AH.next_set, AH.next_up, next_empty, cellsOf_ow, cellsG, List.length_cons, List.length_nil, List.drop_zero, List.take_succ_cons, List.take_zero, Nat.reduceMul, Nat.le_refl, convG_some, List.all_cons, List.all_nil,
    byteC_int, Bool.and_self, toB_int, List.size_toArray, aop_idx, liveG_cells, storeO_ptr, stoG_int, List.set_cons_zero, List.set_cons_succ, behindO_cells, aop_append, aop_makeSlice, aop_len, liveB_ro, KL_normal, KL_ret, KL_exit, KI_normal, KI_ret, KI_exit, f0, f1, f2, f4, g0, g1, loadO_one ag3 sz3, loadO_one ag9 sz9, c2, goO_known (rune_c l (by omega) x), aop_maxO, mm_max, w, c3, w2]
      refine ⟨_, ?_, x + max (runeD l x).2 1, m + 1, by omega, by omega, rfl, by omega, hst, ?_, ?_, ?_, ?_, ?_, ?_⟩
      · omega
      all_goals simp only [Fr.at_set, Nat.reduceEqDiff, reduceIte, reduceCtorEq, f1, f2, AH.get_up, g0, g1]
    · rw [if_neg c3] at hst
      simp -implicitDefEqProofs only [wpC_seq, wpC_region, wpC_draw, wpC_cond, wpC_ret, wpC_skip, wpC_exit, wpC_block, wpC_label, wpO_go, wpQ_go, wantA_none, gdO_true, gdO_false, gdQ_true, gdQ_false, goO_q, goO_w, goQ_q, putA_some, putA_none, opnd, ofVal, ofVal1,
    wpO_nil, wpQ_nil, KN_eq, KQ_eq, KS_normal, KS_ret, KS_exit, KB_normal, KB_ret, KB_same, layArgs, Fr.at_set, aop_move, aop_assign, aop_pick, pickO_true, pickO_false, pickO_bool, aop_box, boxO_int, boxO_str, boxO_bool, aop_load, behind_ptr, behind_rop,
    behindO_one, aop_store, aop_index, aop_extract, extractO_0, extractO_1, extractO_2, aop_binOp, bin_add, bin_sub, bin_mul, bin_eql, bin_neq, bin_lss, bin_leq, bin_gtr, bin_geq, bin_seql, bin_sneq, aop_unOp, unO_not, aop_convert, aop_len,
    aop_call, callV_func, aop_slice, decide_true, decide_false, decide_not, wantA_some, yieldA_eq, List.getElem?_toArray, List.getElem?_cons_succ, List.getElem?_cons_zero, Option.bind_some, yieldD_some, wantY_bool, wantY_not, Nat.reduceAdd, reduceIte, Nat.reduceEqDiff,
    Nat.zero_add, Nat.add_zero, beq_self_eq_true, Bool.true_beq, Bool.false_beq, Bool.not_true, Bool.not_false, List.map_cons, List.map_nil, List.append_nil, List.nil_append, List.cons_append, Option.map_some, Option.map_none, Bool.false_eq_true, reduceCtorEq, EndV_normal, EndV_ret, RV_some, resA_tmp, resA_nil, resT_some, oneOf_one, oneOf_two, tup_two, int_same, bool_same, str_same, and_self, and_true, true_and, if_true, if_false, aop_buildSlice, AH.get_set, AH.get_up, AH.next_set, AH.next_up, next_empty, cellsOf_ow, cellsG, List.length_cons, List.length_nil, List.drop_zero, List.take_succ_cons, List.take_zero, Nat.reduceMul, Nat.le_refl, convG_some, List.all_cons, List.all_nil,
    byteC_int, Bool.and_self, toB_int, List.size_toArray, aop_idx, liveG_cells, storeO_ptr, stoG_int, List.set_cons_zero, List.set_cons_succ, behindO_cells, aop_append, aop_makeSlice, aop_len, liveB_ro, KL_normal, KL_ret, KL_exit, KI_normal, KI_ret, KI_exit, f0, f1, f2, f4, g0, g1, loadO_one ag3 sz3, loadO_one ag9 sz9, c2, goO_known (rune_c l (by omega) x), aop_maxO, mm_max, w, c3]
      refine ⟨_, ?_, x + max (runeD l x).2 1, m, by omega, by omega, rfl, by omega, hst, ?_, ?_, ?_, ?_, ?_, ?_⟩
      · omega
      all_goals simp only [Fr.at_set, Nat.reduceEqDiff, reduceIte, reduceCtorEq, f1, f2, f4, AH.get_up, g0, g1]

def inv24 (l : List UInt8) (A L B : Int) (k : Nat) (F : Fr) (h : AH) : Prop := ∃ (i : Nat) (n b : Int), (i : Int) + k = A ∧ 1 ≤ n ∧ n ≤ 1 + i ∧ 0 ≤ b ∧ b ≤ i ∧ lnD l k i n b = (L, B) ∧ F.at 2 = .ptr 0 1 0 ∧ F.at 3 = .ptr 1 1 0 ∧ F.at 15 = .int .i64 A ∧ F.at 6 = .int .i64 n ∧ F.at 7 = .int .i64 b ∧ F.at 16 = .int .i64 i ∧
  h.get 0 = some (.cells 0 false [.str l]) ∧ h.get 1 = some (.cells 0 false [.int .i64 A])
theorem place_c (l : List UInt8) (hl : l.length ≤ 140737488351232) (a L B C : Int) (h1 : lnD l (clampD l a).toNat 0 1 0 = (L, B)) (h2 : Stp l (clampD l a) B 0 C) (h : AH) (fr : Nat) : CR Tryd.prog glob md 24 [.str l, .int .i64 a] h fr (.tup [.int .i64 L, .int .i64 (1 + C)]) none := by
  refine CR.plain (rs := [.tmp 4, .tmp 5]) Tryd.func24 rfl rfl rfl rfl rfl rfl ?_ h fr
  have hA : 0 ≤ clampD l a ∧ clampD l a ≤ l.length := by unfold clampD; omega
  have eA : min (max a 0) (l.length : Int) = clampD l a := by unfold clampD; omega
  have hB := lnD_bound l (clampD l a).toNat 0 1 0
  rw [h1] at hB
  have hC := h2.bound
  generalize clampD l a = A at *
  simp -implicitDefEqProofs only [wpC_seq, wpC_region, wpC_draw, wpC_cond, wpC_ret, wpC_skip, wpC_exit, wpC_block, wpC_label, wpO_go, wpQ_go, wantA_none, gdO_true, gdO_false, gdQ_true, gdQ_false, goO_q, goO_w, goQ_q, putA_some, putA_none, opnd, ofVal, ofVal1,
    wpO_nil, wpQ_nil, KN_eq, KQ_eq, KS_normal, KS_ret, KS_exit, KB_normal, KB_ret, KB_same, layArgs, Fr.at_set, aop_move, aop_assign, aop_pick, pickO_true, pickO_false, pickO_bool, aop_box, boxO_int, boxO_str, boxO_bool, aop_load, behind_ptr, behind_rop,
    behindO_one, aop_store, aop_index, aop_extract, extractO_0, extractO_1, extractO_2, aop_binOp, bin_add, bin_sub, bin_mul, bin_eql, bin_neq, bin_lss, bin_leq, bin_gtr, bin_geq, bin_seql, bin_sneq, aop_unOp, unO_not, aop_convert, aop_len,
    aop_call, callV_func, aop_slice, decide_true, decide_false, decide_not, wantA_some, yieldA_eq, List.getElem?_toArray, List.getElem?_cons_succ, List.getElem?_cons_zero, Option.bind_some, yieldD_some, wantY_bool, wantY_not, Nat.reduceAdd, reduceIte, Nat.reduceEqDiff,
    Nat.zero_add, Nat.add_zero, beq_self_eq_true, Bool.true_beq, Bool.false_beq, Bool.not_true, Bool.not_false, List.map_cons, List.map_nil, List.append_nil, List.nil_append, List.cons_append, Option.map_some, Option.map_none, Bool.false_eq_true, reduceCtorEq, EndV_normal, EndV_ret, RV_some, resA_tmp, resA_nil, resT_some, oneOf_one, oneOf_two, tup_two, int_same, bool_same, str_same, and_self, and_true, true_and, if_true, if_false, aop_buildSlice, AH.get_set, AH.get_up, AH.next_set, AH.next_up, next_empty, cellsOf_ow, cellsG, List.length_cons, List.length_nil, List.drop_zero, List.take_succ_cons, List.take_zero, Nat.reduceMul, Nat.le_refl, convG_some, List.all_cons, List.all_nil,
    byteC_int, Bool.and_self, toB_int, List.size_toArray, aop_idx, liveG_cells, storeO_ptr, stoG_int, List.set_cons_zero, List.set_cons_succ, behindO_cells, aop_append, aop_makeSlice, aop_len, liveB_ro, KL_normal, KL_ret, KL_exit, KI_normal, KI_ret, KI_exit, aop_minO, aop_maxO, mm_min, mm_max, len_str u9, eA, loadO_one ag3 sz3, loadO_one ag9 sz9, sz3, Nat.reduceLT]
  refine wpC_loop (inv24 l A L B) (k := A.toNat) ⟨0, 1, 0, by omega, by omega, by omega, by omega, by omega, h1, ?_, ?_, ?_, ?_, ?_, ?_, ?_, ?_⟩ ?_
  · simp only [Fr.at_set, Nat.reduceEqDiff, reduceIte, reduceCtorEq]
  · simp only [Fr.at_set, Nat.reduceEqDiff, reduceIte, reduceCtorEq]
  · simp only [Fr.at_set, Nat.reduceEqDiff, reduceIte, reduceCtorEq]
  · simp only [Fr.at_set, Nat.reduceEqDiff, reduceIte, reduceCtorEq]
  · simp only [Fr.at_set, Nat.reduceEqDiff, reduceIte, reduceCtorEq]
  · simp only [Fr.at_set, Nat.reduceEqDiff, reduceIte, reduceCtorEq]; rfl
  · simp only [AH.get_up, AH.get_set, Nat.reduceEqDiff, reduceIte, reduceCtorEq]
  · simp only [AH.get_up, AH.get_set, Nat.reduceEqDiff, reduceIte, reduceCtorEq]
  rintro k F h' ⟨i, n, b, hi, n1, n2, b1, b2, hln, f2, f3, f15, f6, f7, f16, g0, g1⟩
  cases k with
  | zero =>
    have c1 : decide ((i : Int) < A) = false := decide_eq_false (by omega)
    obtain ⟨rfl, rfl⟩ : n = L ∧ b = B := by simpa [lnD] using hln
    have w := IntWalk.i64_in (1 + C) (by omega)
    have go : ∀ h1 : AH, h1.get 0 = some (.cells 0 false [.str l]) → h1.get 1 = some (.cells 0 false [.int .i64 A]) → ∃ h2, ∀ fr, CR Tryd.prog glob md 32 [.int .i64 b, .ptr 1 1 0, .ptr 0 1 0] h1 fr (.int .i64 C) (some h2) := by
      intro h1 k0 k1
      obtain ⟨v, h2, e, rfl⟩ := steps_c l hl A b C hA (by omega) h2 h1 k0 k1
      exact ⟨h2, e⟩
    obtain ⟨h2', hgo⟩ := go (((h'.up 1).up 2).up 7) (by simpa only [AH.get_up] using g0) (by simpa only [AH.get_up] using g1)
    simp -implicitDefEqProofs only [wpC_seq, wpC_region, wpC_draw, wpC_cond, wpC_ret, wpC_skip, wpC_exit, wpC_block, wpC_label, wpO_go, wpQ_go, wantA_none, gdO_true, gdO_false, gdQ_true, gdQ_false, goO_q, goO_w, goQ_q, putA_some, putA_none, opnd, ofVal, ofVal1,
    wpO_nil, wpQ_nil, KN_eq, KQ_eq, KS_normal, KS_ret, KS_exit, KB_normal, KB_ret, KB_same, layArgs, Fr.at_set, aop_move, aop_assign, aop_pick, pickO_true, pickO_false, pickO_bool, aop_box, boxO_int, boxO_str, boxO_bool, aop_load, behind_ptr, behind_rop,
    behindO_one, aop_store, aop_index, aop_extract, extractO_0, extractO_1, extractO_2, aop_binOp, bin_add, bin_sub, bin_mul, bin_eql, bin_neq, bin_lss, bin_leq, bin_gtr, bin_geq, bin_seql, bin_sneq, aop_unOp, unO_not, aop_convert, aop_len,
    aop_call, callV_func, aop_slice, decide_true, decide_false, decide_not, wantA_some, yieldA_eq, List.getElem?_toArray, List.getElem?_cons_succ, List.getElem?_cons_zero, Option.bind_some, yieldD_some, wantY_bool, wantY_not, Nat.reduceAdd, reduceIte, Nat.reduceEqDiff,
    Nat.zero_add, Nat.add_zero, beq_self_eq_true, Bool.true_beq, Bool.false_beq, Bool.not_true, Bool.not_false, List.map_cons, List.map_nil, List.append_nil, List.nil_append, List.cons_append, Option.map_some, Option.map_none, Bool.false_eq_true, reduceCtorEq, EndV_normal, EndV_ret, RV_some, resA_tmp, resA_nil, resT_some, oneOf_one, oneOf_two, tup_two, int_same, bool_same, str_same, and_self, and_true, true_and, if_true, if_false, aop_buildSlice, AH.get_set, AH.get_up, AH.next_set, AH.next_up, next_empty, cellsOf_ow, cellsG, List.length_cons, List.length_nil, List.drop_zero, List.take_succ_cons, List.take_zero, Nat.reduceMul, Nat.le_refl, convG_some, List.all_cons, List.all_nil,
    byteC_int, Bool.and_self, toB_int, List.size_toArray, aop_idx, liveG_cells, storeO_ptr, stoG_int, List.set_cons_zero, List.set_cons_succ, behindO_cells, aop_append, aop_makeSlice, aop_len, liveB_ro, KL_normal, KL_ret, KL_exit, KI_normal, KI_ret, KI_exit, f2, f3, f15, f6, f7, f16, g0, g1, c1, aop_makeFunc, goO_shared hgo, w]
  | succ k =>
    have hil : (i : Int) < l.length := by omega
    have i0 : 0 ≤ (i : Int) := by omega
    have c1 : decide ((i : Int) < A) = true := decide_eq_true (by omega)
    have w := IntWalk.i64_in ((i : Int) + 1) (by omega)
    have w2 := IntWalk.i64_in (n + 1) (by omega)
    have e0 : ((i : Int)).toNat = i := by omega
    have e1 : ((i : Int) + 1).toNat = i + 1 := by omega
    unfold lnD at hln
    have fin : ∀ (F' : Fr) (h'' : AH) (n' b' : Int), (if endsD l i then (n + 1, (i : Int) + 1) else (n, b)) = (n', b') → F'.at 2 = .ptr 0 1 0 → F'.at 3 = .ptr 1 1 0 → F'.at 15 = .int .i64 A → F'.at 6 = .int .i64 n' → F'.at 7 = .int .i64 b' → F'.at 16 = .int .i64 ((i : Int) + 1) →
        h''.get 0 = some (.cells 0 false [.str l]) → h''.get 1 = some (.cells 0 false [.int .i64 A]) → ∃ j, j < k + 1 ∧ inv24 l A L B j F' h'' := by
      intro F' h'' n' b' e q2 q3 q15 q6 q7 q16 k0 k1
      refine ⟨k, by omega, i + 1, n', b', by omega, ?_, ?_, ?_, ?_, ?_, q2, q3, q15, q6, q7, q16, k0, k1⟩
      · split at e <;> simp only [Prod.mk.injEq] at e <;> omega
      · split at e <;> simp only [Prod.mk.injEq] at e <;> omega
      · split at e <;> simp only [Prod.mk.injEq] at e <;> omega
      · split at e <;> simp only [Prod.mk.injEq] at e <;> omega
      · split at e
        · rename_i hE
          rw [if_pos hE] at hln
          simp only [Prod.mk.injEq] at e
          rw [← e.1, ← e.2]
          exact hln
        · rename_i hE
          rw [if_neg hE] at hln
          simp only [Prod.mk.injEq] at e
          rw [← e.1, ← e.2]
          exact hln
    by_cases c2 : (l.getD i 0).toNat = 10
    · have d2 : decide (((l.getD i 0).toNat : Int) = 10) = true := decide_eq_true (by omega)
      have hE : endsD l i = true := by simp only [endsD, decide_eq_true c2]; rfl
      simp -implicitDefEqProofs only [wpC_seq, wpC_region, wpC_draw, wpC_cond, wpC_ret, wpC_skip, wpC_exit, wpC_block, wpC_label, wpO_go, wpQ_go, wantA_none, gdO_true, gdO_false, gdQ_true, gdQ_false, goO_q, goO_w, goQ_q, putA_some, putA_none, opnd, ofVal, ofVal1,
    wpO_nil, wpQ_nil, KN_eq, KQ_eq, KS_normal, KS_ret, KS_exit, KB_normal, KB_ret, KB_same, layArgs, Fr.at_set, aop_move, aop_assign, aop_pick, pickO_true, pickO_false, pickO_bool, aop_box, boxO_int, boxO_str, boxO_bool, aop_load, behind_ptr, behind_rop,
    behindO_one, aop_store, aop_index, aop_extract, extractO_0, extractO_1, extractO_2, aop_binOp, bin_add, bin_sub, bin_mul, bin_eql, bin_neq, bin_lss, bin_leq, bin_gtr, bin_geq, bin_seql, bin_sneq, aop_unOp, unO_not, aop_convert, aop_len,
    aop_call, callV_func, aop_slice, decide_true, decide_false, decide_not, wantA_some, yieldA_eq, List.getElem?_toArray, List.getElem?_cons_succ, List.getElem?_cons_zero, Option.bind_some, yieldD_some, wantY_bool, wantY_not, Nat.reduceAdd, reduceIte, Nat.reduceEqDiff,
    Nat.zero_add, Nat.add_zero, beq_self_eq_true, Bool.true_beq, Bool.false_beq, Bool.not_true, Bool.not_false, List.map_cons, List.map_nil, List.append_nil, List.nil_append, List.cons_append, Option.map_some, Option.map_none, Bool.false_eq_true, reduceCtorEq, EndV_normal, EndV_ret, RV_some, resA_tmp, resA_nil, resT_some, oneOf_one, oneOf_two, tup_two, int_same, bool_same, str_same, and_self, and_true, true_and, if_true, if_false, aop_buildSlice, AH.get_set, AH.get_up, AH.next_set, AH.next_up, next_empty, cellsOf_ow, cellsG, List.length_cons, List.length_nil, List.drop_zero, List.take_succ_cons, List.take_zero, Nat.reduceMul, Nat.le_refl, convG_some, List.all_cons, List.all_nil,
    byteC_int, Bool.and_self, toB_int, List.size_toArray, aop_idx, liveG_cells, storeO_ptr, stoG_int, List.set_cons_zero, List.set_cons_succ, behindO_cells, aop_append, aop_makeSlice, aop_len, liveB_ro, KL_normal, KL_ret, KL_exit, KI_normal, KI_ret, KI_exit, f2, f3, f15, f6, f7, f16, g0, g1, c1, loadO_one ag9 sz9, idxO_str u9 i0 hil, e0, d2, w, w2]
      refine fin _ _ (n + 1) ((i : Int) + 1) (by rw [if_pos hE]) ?_ ?_ ?_ ?_ ?_ ?_ ?_ ?_
      all_goals simp only [Fr.at_set, Nat.reduceEqDiff, reduceIte, reduceCtorEq, f2, f3, f15, AH.get_up, g0, g1]
    · have d2 : decide (((l.getD i 0).toNat : Int) = 10) = false := decide_eq_false (by omega)
      by_cases c3 : (l.getD i 0).toNat = 13
      · have d3 : decide (((l.getD i 0).toNat : Int) = 13) = true := decide_eq_true (by omega)
        by_cases c4 : (i : Int) + 1 = l.length
        · have d4 : decide ((i : Int) + 1 = (l.length : Int)) = true := decide_eq_true c4
          have hE : endsD l i = true := by simp only [endsD, decide_eq_false c2, decide_eq_true c3, decide_eq_true (show l.length ≤ i + 1 by omega)]; rfl
          simp -implicitDefEqProofs only [wpC_seq, wpC_region, wpC_draw, wpC_cond, wpC_ret, wpC_skip, wpC_exit, wpC_block, wpC_label, wpO_go, wpQ_go, wantA_none, gdO_true, gdO_false, gdQ_true, gdQ_false, goO_q, goO_w, goQ_q, putA_some, putA_none, opnd, ofVal, ofVal1,
    wpO_nil, wpQ_nil, KN_eq, KQ_eq, KS_normal, KS_ret, KS_exit, KB_normal, KB_ret, KB_same, layArgs, Fr.at_set, aop_move, aop_assign, aop_pick, pickO_true, pickO_false, pickO_bool, aop_box, boxO_int, boxO_str, boxO_bool, aop_load, behind_ptr, behind_rop,
    behindO_one, aop_store, aop_index, aop_extract, extractO_0, extractO_1, extractO_2, aop_binOp, bin_add, bin_sub, bin_mul, bin_eql, bin_neq, bin_lss, bin_leq, bin_gtr, bin_geq, bin_seql, bin_sneq, aop_unOp, unO_not, aop_convert, aop_len,
    aop_call, callV_func, aop_slice, decide_true, decide_false, decide_not, wantA_some, yieldA_eq, List.getElem?_toArray, List.getElem?_cons_succ, List.getElem?_cons_zero, Option.bind_some, yieldD_some, wantY_bool, wantY_not, Nat.reduceAdd, reduceIte, Nat.reduceEqDiff,
    Nat.zero_add, Nat.add_zero, beq_self_eq_true, Bool.true_beq, Bool.false_beq, Bool.not_true, Bool.not_false, List.map_cons, List.map_nil, List.append_nil, List.nil_append, List.cons_append, Option.map_some, Option.map_none, Bool.false_eq_true, reduceCtorEq, EndV_normal, EndV_ret, RV_some, resA_tmp, resA_nil, resT_some, oneOf_one, oneOf_two, tup_two, int_same, bool_same, str_same, and_self, and_true, true_and, if_true, if_false, aop_buildSlice, AH.get_set, AH.get_up, AH.next_set, AH.next_up, next_empty, cellsOf_ow, cellsG, List.length_cons, List.length_nil, List.drop_zero, List.take_succ_cons, List.take_zero, Nat.reduceMul, Nat.le_refl, convG_some, List.all_cons, List.all_nil,
    byteC_int, Bool.and_self, toB_int, List.size_toArray, aop_idx, liveG_cells, storeO_ptr, stoG_int, List.set_cons_zero, List.set_cons_succ, behindO_cells, aop_append, aop_makeSlice, aop_len, liveB_ro, KL_normal, KL_ret, KL_exit, KI_normal, KI_ret, KI_exit, f2, f3, f15, f6, f7, f16, g0, g1, c1, loadO_one ag9 sz9, idxO_str u9 i0 hil, e0, d2, d3, d4, len_str u9, w, w2]
          refine fin _ _ (n + 1) ((i : Int) + 1) (by rw [if_pos hE]) ?_ ?_ ?_ ?_ ?_ ?_ ?_ ?_
          all_goals simp only [Fr.at_set, Nat.reduceEqDiff, reduceIte, reduceCtorEq, f2, f3, f15, AH.get_up, g0, g1]
        · have d4 : decide ((i : Int) + 1 = (l.length : Int)) = false := decide_eq_false c4
          have j0 : 0 ≤ (i : Int) + 1 := by omega
          have j1 : (i : Int) + 1 < l.length := by omega
          by_cases c5 : (l.getD (i + 1) 0).toNat = 10
          · have d5 : decide (((l.getD (i + 1) 0).toNat : Int) = 10) = true := decide_eq_true (by omega)
            have hE : endsD l i = false := by simp only [endsD, decide_eq_false c2, decide_eq_true c3, decide_eq_false (show ¬ l.length ≤ i + 1 by omega), decide_eq_true c5]; rfl
            simp -implicitDefEqProofs only [wpC_seq, wpC_region, wpC_draw, wpC_cond, wpC_ret, wpC_skip, wpC_exit, wpC_block, wpC_label, wpO_go, wpQ_go, wantA_none, gdO_true, gdO_false, gdQ_true, gdQ_false, goO_q, goO_w, goQ_q, putA_some, putA_none, opnd, ofVal, ofVal1,
    wpO_nil, wpQ_nil, KN_eq, KQ_eq, KS_normal, KS_ret, KS_exit, KB_normal, KB_ret, KB_same, layArgs, Fr.at_set, aop_move, aop_assign, aop_pick, pickO_true, pickO_false, pickO_bool, aop_box, boxO_int, boxO_str, boxO_bool, aop_load, behind_ptr, behind_rop,
    behindO_one, aop_store, aop_index, aop_extract, extractO_0, extractO_1, extractO_2, aop_binOp, bin_add, bin_sub, bin_mul, bin_eql, bin_neq, bin_lss, bin_leq, bin_gtr, bin_geq, bin_seql, bin_sneq, aop_unOp, unO_not, aop_convert, aop_len,
    aop_call, callV_func, aop_slice, decide_true, decide_false, decide_not, wantA_some, yieldA_eq, List.getElem?_toArray, List.getElem?_cons_succ, List.getElem?_cons_zero, Option.bind_some, yieldD_some, wantY_bool, wantY_not, Nat.reduceAdd, reduceIte, Nat.reduceEqDiff,
    Nat.zero_add, Nat.add_zero, beq_self_eq_true, Bool.true_beq, Bool.false_beq, Bool.not_true, Bool.not_false, List.map_cons, List.map_nil, List.append_nil, List.nil_append, List.cons_append, Option.map_some, Option.map_none, Bool.false_eq_true, reduceCtorEq, EndV_normal, EndV_ret, RV_some, resA_tmp, resA_nil, resT_some, oneOf_one, oneOf_two, tup_two, int_same, bool_same, str_same, and_self, and_true, true_and, if_true, if_false, aop_buildSlice, AH.get_set, AH.get_up, AH.next_set, AH.next_up, next_empty, cellsOf_ow, cellsG, List.length_cons, List.length_nil, List.drop_zero, List.take_succ_cons, List.take_zero, Nat.reduceMul, Nat.le_refl, convG_some, List.all_cons, List.all_nil,
    byteC_int, Bool.and_self, toB_int, List.size_toArray, aop_idx, liveG_cells, storeO_ptr, stoG_int, List.set_cons_zero, List.set_cons_succ, behindO_cells, aop_append, aop_makeSlice, aop_len, liveB_ro, KL_normal, KL_ret, KL_exit, KI_normal, KI_ret, KI_exit, f2, f3, f15, f6, f7, f16, g0, g1, c1, loadO_one ag9 sz9, idxO_str u9 i0 hil, idxO_str u9 j0 j1, e0, e1, d2, d3, d4, d5, len_str u9, w, w2]
            refine fin _ _ n b (by rw [if_neg (by simp [hE])]) ?_ ?_ ?_ ?_ ?_ ?_ ?_ ?_
            all_goals simp only [Fr.at_set, Nat.reduceEqDiff, reduceIte, reduceCtorEq, f2, f3, f15, f6, f7, AH.get_up, g0, g1]
          · have d5 : decide (((l.getD (i + 1) 0).toNat : Int) = 10) = false := decide_eq_false (by omega)
            have hE : endsD l i = true := by simp only [endsD, decide_eq_false c2, decide_eq_true c3, decide_eq_false (show ¬ l.length ≤ i + 1 by omega), decide_eq_false c5]; rfl
            simp -implicitDefEqProofs only [wpC_seq, wpC_region, wpC_draw, wpC_cond, wpC_ret, wpC_skip, wpC_exit, wpC_block, wpC_label, wpO_go, wpQ_go, wantA_none, gdO_true, gdO_false, gdQ_true, gdQ_false, goO_q, goO_w, goQ_q, putA_some, putA_none, opnd, ofVal, ofVal1,
    wpO_nil, wpQ_nil, KN_eq, KQ_eq, KS_normal, KS_ret, KS_exit, KB_normal, KB_ret, KB_same, layArgs, Fr.at_set, aop_move, aop_assign, aop_pick, pickO_true, pickO_false, pickO_bool, aop_box, boxO_int, boxO_str, boxO_bool, aop_load, behind_ptr, behind_rop,
    behindO_one, aop_store, aop_index, aop_extract, extractO_0, extractO_1, extractO_2, aop_binOp, bin_add, bin_sub, bin_mul, bin_eql, bin_neq, bin_lss, bin_leq, bin_gtr, bin_geq, bin_seql, bin_sneq, aop_unOp, unO_not, aop_convert, aop_len,
    aop_call, callV_func, aop_slice, decide_true, decide_false, decide_not, wantA_some, yieldA_eq, List.getElem?_toArray, List.getElem?_cons_succ, List.getElem?_cons_zero, Option.bind_some, yieldD_some, wantY_bool, wantY_not, Nat.reduceAdd, reduceIte, Nat.reduceEqDiff,
    Nat.zero_add, Nat.add_zero, beq_self_eq_true, Bool.true_beq, Bool.false_beq, Bool.not_true, Bool.not_false, List.map_cons, List.map_nil, List.append_nil, List.nil_append, List.cons_append, Option.map_some, Option.map_none, Bool.false_eq_true, reduceCtorEq, EndV_normal, EndV_ret, RV_some, resA_tmp, resA_nil, resT_some, oneOf_one, oneOf_two, tup_two, int_same, bool_same, str_same, and_self, and_true, true_and, if_true, if_false, aop_buildSlice, AH.get_set, AH.get_up, AH.next_set, AH.next_up, next_empty, cellsOf_ow, cellsG, List.length_cons, List.length_nil, List.drop_zero, List.take_succ_cons, List.take_zero, Nat.reduceMul, Nat.le_refl, convG_some, List.all_cons, List.all_nil,
    byteC_int, Bool.and_self, toB_int, List.size_toArray, aop_idx, liveG_cells, storeO_ptr, stoG_int, List.set_cons_zero, List.set_cons_succ, behindO_cells, aop_append, aop_makeSlice, aop_len, liveB_ro, KL_normal, KL_ret, KL_exit, KI_normal, KI_ret, KI_exit, f2, f3, f15, f6, f7, f16, g0, g1, c1, loadO_one ag9 sz9, idxO_str u9 i0 hil, idxO_str u9 j0 j1, e0, e1, d2, d3, d4, d5, len_str u9, w, w2]
            refine fin _ _ (n + 1) ((i : Int) + 1) (by rw [if_pos hE]) ?_ ?_ ?_ ?_ ?_ ?_ ?_ ?_
            all_goals simp only [Fr.at_set, Nat.reduceEqDiff, reduceIte, reduceCtorEq, f2, f3, f15, AH.get_up, g0, g1]
      · have d3 : decide (((l.getD i 0).toNat : Int) = 13) = false := decide_eq_false (by omega)
        have hE : endsD l i = false := by simp only [endsD, decide_eq_false c2, decide_eq_false c3]; rfl
        simp -implicitDefEqProofs only [wpC_seq, wpC_region, wpC_draw, wpC_cond, wpC_ret, wpC_skip, wpC_exit, wpC_block, wpC_label, wpO_go, wpQ_go, wantA_none, gdO_true, gdO_false, gdQ_true, gdQ_false, goO_q, goO_w, goQ_q, putA_some, putA_none, opnd, ofVal, ofVal1,
    wpO_nil, wpQ_nil, KN_eq, KQ_eq, KS_normal, KS_ret, KS_exit, KB_normal, KB_ret, KB_same, layArgs, Fr.at_set, aop_move, aop_assign, aop_pick, pickO_true, pickO_false, pickO_bool, aop_box, boxO_int, boxO_str, boxO_bool, aop_load, behind_ptr, behind_rop,
    behindO_one, aop_store, aop_index, aop_extract, extractO_0, extractO_1, extractO_2, aop_binOp, bin_add, bin_sub, bin_mul, bin_eql, bin_neq, bin_lss, bin_leq, bin_gtr, bin_geq, bin_seql, bin_sneq, aop_unOp, unO_not, aop_convert, aop_len,
    aop_call, callV_func, aop_slice, decide_true, decide_false, decide_not, wantA_some, yieldA_eq, List.getElem?_toArray, List.getElem?_cons_succ, List.getElem?_cons_zero, Option.bind_some, yieldD_some, wantY_bool, wantY_not, Nat.reduceAdd, reduceIte, Nat.reduceEqDiff,
    Nat.zero_add, Nat.add_zero, beq_self_eq_true, Bool.true_beq, Bool.false_beq, Bool.not_true, Bool.not_false, List.map_cons, List.map_nil, List.append_nil, List.nil_append, List.cons_append, Option.map_some, Option.map_none, Bool.false_eq_true, reduceCtorEq, EndV_normal, EndV_ret, RV_some, resA_tmp, resA_nil, resT_some, oneOf_one, oneOf_two, tup_two, int_same, bool_same, str_same, and_self, and_true, true_and, if_true, if_false, aop_buildSlice, AH.get_set, AH.get_up, AH.next_set, AH.next_up, next_empty, cellsOf_ow, cellsG, List.length_cons, List.length_nil, List.drop_zero, List.take_succ_cons, List.take_zero, Nat.reduceMul, Nat.le_refl, convG_some, List.all_cons, List.all_nil,
    byteC_int, Bool.and_self, toB_int, List.size_toArray, aop_idx, liveG_cells, storeO_ptr, stoG_int, List.set_cons_zero, List.set_cons_succ, behindO_cells, aop_append, aop_makeSlice, aop_len, liveB_ro, KL_normal, KL_ret, KL_exit, KI_normal, KI_ret, KI_exit, f2, f3, f15, f6, f7, f16, g0, g1, c1, loadO_one ag9 sz9, idxO_str u9 i0 hil, e0, d2, d3, w, w2]
        refine fin _ _ n b (by rw [if_neg (by simp [hE])]) ?_ ?_ ?_ ?_ ?_ ?_ ?_ ?_
        all_goals simp only [Fr.at_set, Nat.reduceEqDiff, reduceIte, reduceCtorEq, f2, f3, f15, f6, f7, AH.get_up, g0, g1]

/-- Both answers to one place. -/
theorem places_ex (l : List UInt8) (hl : l.length ≤ 140737488351232) (a : Int) : ∃ L C : Int, (∀ h fr, CR Tryd.prog glob md 24 [.str l, .int .i64 a] h fr (.tup [.int .i64 L, .int .i64 (1 + C)]) none) ∧ (∀ h fr, CR Tryd.prog glob md 25 [.str l, .int .i64 a] h fr (.tup [.int .i64 L, .int .i64 (1 + C)]) none) := by
  obtain ⟨C, hC⟩ := Stp.ex l (clampD l a) _ (lnD l (clampD l a).toNat 0 1 0).2 0 (Nat.le_refl _)
  refine ⟨(lnD l (clampD l a).toNat 0 1 0).1, C, place_c l hl a _ _ C rfl hC, ?_⟩
  have := hC.shift 1
  rw [Int.zero_add, Int.add_comm C 1] at this
  exact refPlace_c l hl a _ _ _ rfl this
theorem placesLaw_c (l : List UInt8) (hl : l.length ≤ 140737488351232) (a : Int) (h : AH) (fr : Nat) : CR Tryd.prog glob md 6 [.str l, .int .i64 a] h fr (.bool true) none := by
  obtain ⟨L, C, h1, h2⟩ := places_ex l hl a
  refine CR.plain (rs := [.tmp 4]) Tryd.func6 rfl rfl rfl rfl rfl rfl ?_ h fr
  simp -implicitDefEqProofs only [wpC_seq, wpC_region, wpC_draw, wpC_cond, wpC_ret, wpC_skip, wpC_exit, wpC_block, wpC_label, wpO_go, wpQ_go, wantA_none, gdO_true, gdO_false, gdQ_true, gdQ_false, goO_q, goO_w, goQ_q, putA_some, putA_none, opnd, ofVal, ofVal1,
    wpO_nil, wpQ_nil, KN_eq, KQ_eq, KS_normal, KS_ret, KS_exit, KB_normal, KB_ret, KB_same, layArgs, Fr.at_set, aop_move, aop_assign, aop_pick, pickO_true, pickO_false, pickO_bool, aop_box, boxO_int, boxO_str, boxO_bool, aop_load, behind_ptr, behind_rop,
    behindO_one, aop_store, aop_index, aop_extract, extractO_0, extractO_1, extractO_2, aop_binOp, bin_add, bin_sub, bin_mul, bin_eql, bin_neq, bin_lss, bin_leq, bin_gtr, bin_geq, bin_seql, bin_sneq, aop_unOp, unO_not, aop_convert, aop_len,
    aop_call, callV_func, aop_slice, decide_true, decide_false, decide_not, wantA_some, yieldA_eq, List.getElem?_toArray, List.getElem?_cons_succ, List.getElem?_cons_zero, Option.bind_some, yieldD_some, wantY_bool, wantY_not, Nat.reduceAdd, reduceIte, Nat.reduceEqDiff,
    Nat.zero_add, Nat.add_zero, beq_self_eq_true, Bool.true_beq, Bool.false_beq, Bool.not_true, Bool.not_false, List.map_cons, List.map_nil, List.append_nil, List.nil_append, List.cons_append, Option.map_some, Option.map_none, Bool.false_eq_true, reduceCtorEq, EndV_normal, EndV_ret, RV_some, resA_tmp, resA_nil, resT_some, oneOf_one, oneOf_two, tup_two, int_same, bool_same, str_same, and_self, and_true, true_and, if_true, if_false, goO_known h1, goO_known h2, goO_known fixed_c]
end Go.Proofs.YtohmplfkieaecaaDoor
