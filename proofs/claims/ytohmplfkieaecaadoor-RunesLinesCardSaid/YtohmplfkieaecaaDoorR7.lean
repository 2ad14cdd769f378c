/-
  RUNES, 7: a place's line and column (Place).
-/
import Derived.Test.YtohmplfkieaecaaDoorR5
import Derived.Test.YtohmplfkieaecaaDoorA21
namespace Go.Proofs.YtohmplfkieaecaaDoor
open Go.RowKit Go.Lib Go.Ab
set_option linter.unusedSimpArgs false
set_option maxRecDepth 100000

/-- Does a line end behind a byte? -/
def endsD (l : List UInt8) (i : Nat) : Bool := decide ((l.getD i 0).toNat = 10) || (decide ((l.getD i 0).toNat = 13) && (decide (l.length ≤ i + 1) || !decide ((l.getD (i + 1) 0).toNat = 10)))
/-- The line, and where it begins: k bytes on from the i-th. -/
def lnD (l : List UInt8) : Nat → Nat → Int → Int → Int × Int
  | 0, _, n, b => (n, b)
  | k + 1, i, n, b => if endsD l i then lnD l k (i + 1) (n + 1) ((i : Int) + 1) else lnD l k (i + 1) n b
/-- The steps from a place to at. -/
inductive Stp (l : List UInt8) (at' : Int) : Int → Int → Int → Prop
  | done (a n : Int) : at' ≤ a → Stp l at' a n n
  | step (a n r : Int) : a < at' → Stp l at' (a + max (runeD l a).2 1) (if a + max (runeD l a).2 1 ≤ at' then n + 1 else n) r → Stp l at' a n r
theorem runeD_le (l : List UInt8) (a : Int) : 0 ≤ (runeD l a).2 ∧ (0 ≤ a → a ≤ l.length → a + (runeD l a).2 ≤ l.length) := by
  by_cases h : (runeD l a).2 = 0
  · rw [h]; omega
  · have := runeD_pos l a h
    omega
theorem Stp.ex (l : List UInt8) (at' : Int) : ∀ (k : Nat) (a n : Int), (at' - a).toNat ≤ k → ∃ r, Stp l at' a n r
  | 0, a, n, hk => ⟨n, .done a n (by omega)⟩
  | k + 1, a, n, hk => by
    by_cases h1 : at' ≤ a
    · exact ⟨n, .done a n h1⟩
    · have := runeD_le l a
      obtain ⟨r, hr⟩ := Stp.ex l at' k (a + max (runeD l a).2 1) (if a + max (runeD l a).2 1 ≤ at' then n + 1 else n) (by omega)
      exact ⟨r, .step a n r (by omega) hr⟩
theorem Stp.shift {l : List UInt8} {at' a n r : Int} (h : Stp l at' a n r) (j : Int) : Stp l at' a (n + j) (r + j) := by
  induction h with
  | done a n h1 => exact .done _ _ h1
  | step a n r h1 h2 ih =>
    refine .step _ _ _ h1 ?_
    have e : (if a + max (runeD l a).2 1 ≤ at' then n + j + 1 else n + j) = (if a + max (runeD l a).2 1 ≤ at' then n + 1 else n) + j := by split <;> omega
    rw [e]
    exact ih
theorem Stp.bound {l : List UInt8} {at' a n r : Int} (h : Stp l at' a n r) : n ≤ r ∧ (a ≤ at' → r ≤ n + (at' - a)) ∧ (at' < a → r = n) := by
  induction h with
  | done a n h1 => omega
  | step a n r h1 h2 ih =>
    have := runeD_le l a
    split at ih <;> omega
theorem lnD_bound (l : List UInt8) : ∀ (k i : Nat) (n b : Int), n ≤ (lnD l k i n b).1 ∧ (lnD l k i n b).1 ≤ n + k ∧ ((0 ≤ b ∧ b ≤ (i : Int)) → 0 ≤ (lnD l k i n b).2 ∧ (lnD l k i n b).2 ≤ (i : Int) + k)
  | 0, i, n, b => by simp [lnD]
  | k + 1, i, n, b => by
    unfold lnD
    split
    · have := lnD_bound l k (i + 1) (n + 1) ((i : Int) + 1)
      omega
    · have := lnD_bound l k (i + 1) n b
      omega

theorem ends_c (l : List UInt8) (hl : l.length ≤ 140737488351232) (i : Nat) (hi : i < l.length) (h : AH) (fr : Nat) : CR Tryd.prog glob md 33 [.str l, .int .i64 i] h fr (.bool (endsD l i)) none := by
  refine CR.plain (rs := [.tmp 4]) Tryd.func33 rfl rfl rfl rfl rfl rfl ?_ h fr
  have hi' : (i : Int) < l.length := by omega
  have e0 : ((i : Int)).toNat = i := by omega
  have w := IntWalk.i64_in ((i : Int) + 1) (by omega)
  have e1 : ((i : Int) + 1).toNat = i + 1 := by omega
  by_cases c1 : (l.getD i 0).toNat = 13
  · have d1 : decide (((l.getD i 0).toNat : Int) = 13) = true := decide_eq_true (by omega)
    have d1' : decide ((l.getD i 0).toNat = 10) = false := decide_eq_false (by omega)
    have d1'' : decide ((l.getD i 0).toNat = 13) = true := decide_eq_true c1
    by_cases c2 : l.length ≤ i + 1
    · have d2 : decide ((l.length : Int) ≤ (i : Int) + 1) = true := decide_eq_true (by omega)
      have e : endsD l i = true := by simp only [endsD, d1', d1'', decide_eq_true c2]; rfl
      simp -implicitDefEqProofs only [wpC_seq, wpC_region, wpC_draw, wpC_cond, wpC_ret, wpC_skip, wpC_exit, wpC_block, wpC_label, wpO_go, wpQ_go, wantA_none, gdO_true, gdO_false, gdQ_true, gdQ_false, goO_q, goO_w, goQ_q, putA_some, putA_none, opnd, ofVal, ofVal1,
    wpO_nil, wpQ_nil, KN_eq, KQ_eq, KS_normal, KS_ret, KS_exit, KB_normal, KB_ret, KB_same, layArgs, Fr.at_set, aop_move, aop_assign, aop_pick, pickO_true, pickO_false, pickO_bool, aop_box, boxO_int, boxO_str, boxO_bool, aop_load, behind_ptr, behind_rop,
    behindO_one, aop_store, aop_index, aop_extract, extractO_0, extractO_1, extractO_2, aop_binOp, bin_add, bin_sub, bin_mul, bin_eql, bin_neq, bin_lss, bin_leq, bin_gtr, bin_geq, bin_seql, bin_sneq, aop_unOp, unO_not, aop_convert, aop_len,
    aop_call, callV_func, aop_slice, decide_true, decide_false, decide_not, wantA_some, yieldA_eq, List.getElem?_toArray, List.getElem?_cons_succ, List.getElem?_cons_zero, Option.bind_some, yieldD_some, wantY_bool, wantY_not, Nat.reduceAdd, reduceIte, Nat.reduceEqDiff,
    Nat.zero_add, Nat.add_zero, beq_self_eq_true, Bool.true_beq, Bool.false_beq, Bool.not_true, Bool.not_false, List.map_cons, List.map_nil, List.append_nil, List.nil_append, List.cons_append, Option.map_some, Option.map_none, Bool.false_eq_true, reduceCtorEq, EndV_normal, EndV_ret, RV_some, resA_tmp, resA_nil, resT_some, oneOf_one, oneOf_two, tup_two, int_same, bool_same, str_same, and_self, and_true, true_and, if_true, if_false, idxO_str u9 (show 0 ≤ (i : Int) by omega) hi', e0, d1, w, d2, len_str u9, e]
    · have d2 : decide ((l.length : Int) ≤ (i : Int) + 1) = false := decide_eq_false (by omega)
      by_cases c3 : (l.getD (i + 1) 0).toNat = 10
      · have d3 : decide (((l.getD (i + 1) 0).toNat : Int) = 10) = true := decide_eq_true (by omega)
        have e : endsD l i = false := by simp only [endsD, d1', d1'', decide_eq_false c2, decide_eq_true c3]; rfl
        simp -implicitDefEqProofs only [wpC_seq, wpC_region, wpC_draw, wpC_cond, wpC_ret, wpC_skip, wpC_exit, wpC_block, wpC_label, wpO_go, wpQ_go, wantA_none, gdO_true, gdO_false, gdQ_true, gdQ_false, goO_q, goO_w, goQ_q, putA_some, putA_none, opnd, ofVal, ofVal1,
    wpO_nil, wpQ_nil, KN_eq, KQ_eq, KS_normal, KS_ret, KS_exit, KB_normal, KB_ret, KB_same, layArgs, Fr.at_set, aop_move, aop_assign, aop_pick, pickO_true, pickO_false, pickO_bool, aop_box, boxO_int, boxO_str, boxO_bool, aop_load, behind_ptr, behind_rop,
    behindO_one, aop_store, aop_index, aop_extract, extractO_0, extractO_1, extractO_2, aop_binOp, bin_add, bin_sub, bin_mul, bin_eql, bin_neq, bin_lss, bin_leq, bin_gtr, bin_geq, bin_seql, bin_sneq, aop_unOp, unO_not, aop_convert, aop_len,
    aop_call, callV_func, aop_slice, decide_true, decide_false, decide_not, wantA_some, yieldA_eq, List.getElem?_toArray, List.getElem?_cons_succ, List.getElem?_cons_zero, Option.bind_some, yieldD_some, wantY_bool, wantY_not, Nat.reduceAdd, reduceIte, Nat.reduceEqDiff,
    Nat.zero_add, Nat.add_zero, beq_self_eq_true, Bool.true_beq, Bool.false_beq, Bool.not_true, Bool.not_false, List.map_cons, List.map_nil, List.append_nil, List.nil_append, List.cons_append, Option.map_some, Option.map_none, Bool.false_eq_true, reduceCtorEq, EndV_normal, EndV_ret, RV_some, resA_tmp, resA_nil, resT_some, oneOf_one, oneOf_two, tup_two, int_same, bool_same, str_same, and_self, and_true, true_and, if_true, if_false, idxO_str u9 (show 0 ≤ (i : Int) by omega) hi', e0, d1, w, d2, len_str u9, e, idxO_str u9 (show 0 ≤ (i : Int) + 1 by omega) (show (i : Int) + 1 < l.length by omega), e1, d3]
      · have d3 : decide (((l.getD (i + 1) 0).toNat : Int) = 10) = false := decide_eq_false (by omega)
        have e : endsD l i = true := by simp only [endsD, d1', d1'', decide_eq_false c2, decide_eq_false c3]; rfl
        simp -implicitDefEqProofs only [wpC_seq, wpC_region, wpC_draw, wpC_cond, wpC_ret, wpC_skip, wpC_exit, wpC_block, wpC_label, wpO_go, wpQ_go, wantA_none, gdO_true, gdO_false, gdQ_true, gdQ_false, goO_q, goO_w, goQ_q, putA_some, putA_none, opnd, ofVal, ofVal1,
    wpO_nil, wpQ_nil, KN_eq, KQ_eq, KS_normal, KS_ret, KS_exit, KB_normal, KB_ret, KB_same, layArgs, Fr.at_set, aop_move, aop_assign, aop_pick, pickO_true, pickO_false, pickO_bool, aop_box, boxO_int, boxO_str, boxO_bool, aop_load, behind_ptr, behind_rop,
    behindO_one, aop_store, aop_index, aop_extract, extractO_0, extractO_1, extractO_2, aop_binOp, bin_add, bin_sub, bin_mul, bin_eql, bin_neq, bin_lss, bin_leq, bin_gtr, bin_geq, bin_seql, bin_sneq, aop_unOp, unO_not, aop_convert, aop_len,
    aop_call, callV_func, aop_slice, decide_true, decide_false, decide_not, wantA_some, yieldA_eq, List.getElem?_toArray, List.getElem?_cons_succ, List.getElem?_cons_zero, Option.bind_some, yieldD_some, wantY_bool, wantY_not, Nat.reduceAdd, reduceIte, Nat.reduceEqDiff,
    Nat.zero_add, Nat.add_zero, beq_self_eq_true, Bool.true_beq, Bool.false_beq, Bool.not_true, Bool.not_false, List.map_cons, List.map_nil, List.append_nil, List.nil_append, List.cons_append, Option.map_some, Option.map_none, Bool.false_eq_true, reduceCtorEq, EndV_normal, EndV_ret, RV_some, resA_tmp, resA_nil, resT_some, oneOf_one, oneOf_two, tup_two, int_same, bool_same, str_same, and_self, and_true, true_and, if_true, if_false, idxO_str u9 (show 0 ≤ (i : Int) by omega) hi', e0, d1, w, d2, len_str u9, e, idxO_str u9 (show 0 ≤ (i : Int) + 1 by omega) (show (i : Int) + 1 < l.length by omega), e1, d3]
  · have d1 : decide (((l.getD i 0).toNat : Int) = 13) = false := decide_eq_false (by omega)
    have d1'' : decide ((l.getD i 0).toNat = 13) = false := decide_eq_false c1
    by_cases c2 : (l.getD i 0).toNat = 10
    · have d2 : decide (((l.getD i 0).toNat : Int) = 10) = true := decide_eq_true (by omega)
      have e : endsD l i = true := by simp only [endsD, d1'', decide_eq_true c2]; rfl
      simp -implicitDefEqProofs only [wpC_seq, wpC_region, wpC_draw, wpC_cond, wpC_ret, wpC_skip, wpC_exit, wpC_block, wpC_label, wpO_go, wpQ_go, wantA_none, gdO_true, gdO_false, gdQ_true, gdQ_false, goO_q, goO_w, goQ_q, putA_some, putA_none, opnd, ofVal, ofVal1,
    wpO_nil, wpQ_nil, KN_eq, KQ_eq, KS_normal, KS_ret, KS_exit, KB_normal, KB_ret, KB_same, layArgs, Fr.at_set, aop_move, aop_assign, aop_pick, pickO_true, pickO_false, pickO_bool, aop_box, boxO_int, boxO_str, boxO_bool, aop_load, behind_ptr, behind_rop,
    behindO_one, aop_store, aop_index, aop_extract, extractO_0, extractO_1, extractO_2, aop_binOp, bin_add, bin_sub, bin_mul, bin_eql, bin_neq, bin_lss, bin_leq, bin_gtr, bin_geq, bin_seql, bin_sneq, aop_unOp, unO_not, aop_convert, aop_len,
    aop_call, callV_func, aop_slice, decide_true, decide_false, decide_not, wantA_some, yieldA_eq, List.getElem?_toArray, List.getElem?_cons_succ, List.getElem?_cons_zero, Option.bind_some, yieldD_some, wantY_bool, wantY_not, Nat.reduceAdd, reduceIte, Nat.reduceEqDiff,
    Nat.zero_add, Nat.add_zero, beq_self_eq_true, Bool.true_beq, Bool.false_beq, Bool.not_true, Bool.not_false, List.map_cons, List.map_nil, List.append_nil, List.nil_append, List.cons_append, Option.map_some, Option.map_none, Bool.false_eq_true, reduceCtorEq, EndV_normal, EndV_ret, RV_some, resA_tmp, resA_nil, resT_some, oneOf_one, oneOf_two, tup_two, int_same, bool_same, str_same, and_self, and_true, true_and, if_true, if_false, idxO_str u9 (show 0 ≤ (i : Int) by omega) hi', e0, d1, d2, e]
    · have d2 : decide (((l.getD i 0).toNat : Int) = 10) = false := decide_eq_false (by omega)
      have e : endsD l i = false := by simp only [endsD, d1'', decide_eq_false c2]; rfl
      simp -implicitDefEqProofs only [wpC_seq, wpC_region, wpC_draw, wpC_cond, wpC_ret, wpC_skip, wpC_exit, wpC_block, wpC_label, wpO_go, wpQ_go, wantA_none, gdO_true, gdO_false, gdQ_true, gdQ_false, goO_q, goO_w, goQ_q, putA_some, putA_none, opnd, ofVal, ofVal1,
    wpO_nil, wpQ_nil, KN_eq, KQ_eq, KS_normal, KS_ret, KS_exit, KB_normal, KB_ret, KB_same, layArgs, Fr.at_set, aop_move, aop_assign, aop_pick, pickO_true, pickO_false, pickO_bool, aop_box, boxO_int, boxO_str, boxO_bool, aop_load, behind_ptr, behind_rop,
    behindO_one, aop_store, aop_index, aop_extract, extractO_0, extractO_1, extractO_2, aop_binOp, bin_add, bin_sub, bin_mul, bin_eql, bin_neq, bin_lss, bin_leq, bin_gtr, bin_geq, bin_seql, bin_sneq, aop_unOp, unO_not, aop_convert, aop_len,
    aop_call, callV_func, aop_slice, decide_true, decide_false, decide_not, wantA_some, yieldA_eq, List.getElem?_toArray, List.getElem?_cons_succ, List.getElem?_cons_zero, Option.bind_some, yieldD_some, wantY_bool, wantY_not, Nat.reduceAdd, reduceIte, Nat.reduceEqDiff,
    Nat.zero_add, Nat.add_zero, beq_self_eq_true, Bool.true_beq, Bool.false_beq, Bool.not_true, Bool.not_false, List.map_cons, List.map_nil, List.append_nil, List.nil_append, List.cons_append, Option.map_some, Option.map_none, Bool.false_eq_true, reduceCtorEq, EndV_normal, EndV_ret, RV_some, resA_tmp, resA_nil, resT_some, oneOf_one, oneOf_two, tup_two, int_same, bool_same, str_same, and_self, and_true, true_and, if_true, if_false, idxO_str u9 (show 0 ≤ (i : Int) by omega) hi', e0, d1, d2, e]

/-! ### ref.Place -/
def clampD (l : List UInt8) (a : Int) : Int := max 0 (min a l.length)
def inv25a (l : List UInt8) (A L B : Int) (k : Nat) (F : Fr) (_ : AH) : Prop := ∃ (i : Nat) (n b : Int), (i : Int) + k = A ∧ 1 ≤ n ∧ n ≤ 1 + i ∧ lnD l k i n b = (L, B) ∧ F.at 0 = .str l ∧ F.at 1 = .int .i64 A ∧ F.at 6 = .int .i64 n ∧ F.at 7 = .int .i64 b ∧ F.at 8 = .int .i64 i
def inv25b (l : List UInt8) (A L C : Int) (k : Nat) (F : Fr) (_ : AH) : Prop := ∃ (a n : Int), 0 ≤ a ∧ a ≤ l.length ∧ k = (A - a).toNat ∧ 1 ≤ n ∧ Stp l A a n C ∧ F.at 0 = .str l ∧ F.at 1 = .int .i64 A ∧ F.at 6 = .int .i64 L ∧ F.at 7 = .int .i64 a ∧ F.at 9 = .int .i64 n
theorem refPlace_c (l : List UInt8) (hl : l.length ≤ 140737488351232) (a L B C : Int) (h1 : lnD l (clampD l a).toNat 0 1 0 = (L, B)) (h2 : Stp l (clampD l a) B 1 C) (h : AH) (fr : Nat) : CR Tryd.prog glob md 25 [.str l, .int .i64 a] h fr (.tup [.int .i64 L, .int .i64 C]) none := by
  refine CR.plain (rs := [.tmp 4, .tmp 5]) Tryd.func25 rfl rfl rfl rfl rfl rfl ?_ h fr
  have hA : 0 ≤ clampD l a ∧ clampD l a ≤ l.length := by unfold clampD; omega
  have eA : max 0 (min a (l.length : Int)) = clampD l a := rfl
  have hB := lnD_bound l (clampD l a).toNat 0 1 0
  rw [h1] at hB
  have hC := h2.bound
  generalize clampD l a = A at *
  simp -implicitDefEqProofs only [wpC_seq, wpC_region, wpC_draw, wpC_cond, wpC_ret, wpC_skip, wpC_exit, wpC_block, wpC_label, wpO_go, wpQ_go, wantA_none, gdO_true, gdO_false, gdQ_true, gdQ_false, goO_q, goO_w, goQ_q, putA_some, putA_none, opnd, ofVal, ofVal1,
    wpO_nil, wpQ_nil, KN_eq, KQ_eq, KS_normal, KS_ret, KS_exit, KB_normal, KB_ret, KB_same, layArgs, Fr.at_set, aop_move, aop_assign, aop_pick, pickO_true, pickO_false, pickO_bool, aop_box, boxO_int, boxO_str, boxO_bool, aop_load, behind_ptr, behind_rop,
    behindO_one, aop_store, aop_index, aop_extract, extractO_0, extractO_1, extractO_2, aop_binOp, bin_add, bin_sub, bin_mul, bin_eql, bin_neq, bin_lss, bin_leq, bin_gtr, bin_geq, bin_seql, bin_sneq, aop_unOp, unO_not, aop_convert, aop_len,
    aop_call, callV_func, aop_slice, decide_true, decide_false, decide_not, wantA_some, yieldA_eq, List.getElem?_toArray, List.getElem?_cons_succ, List.getElem?_cons_zero, Option.bind_some, yieldD_some, wantY_bool, wantY_not, Nat.reduceAdd, reduceIte, Nat.reduceEqDiff,
    Nat.zero_add, Nat.add_zero, beq_self_eq_true, Bool.true_beq, Bool.false_beq, Bool.not_true, Bool.not_false, List.map_cons, List.map_nil, List.append_nil, List.nil_append, List.cons_append, Option.map_some, Option.map_none, Bool.false_eq_true, reduceCtorEq, EndV_normal, EndV_ret, RV_some, resA_tmp, resA_nil, resT_some, oneOf_one, oneOf_two, tup_two, int_same, bool_same, str_same, and_self, and_true, true_and, if_true, if_false, aop_buildSlice, AH.get_set, AH.get_up, AH.next_set, AH.next_up, next_empty, cellsOf_ow, cellsG, List.length_cons, List.length_nil, List.drop_zero, List.take_succ_cons, List.take_zero, Nat.reduceMul, Nat.le_refl, convG_some, List.all_cons, List.all_nil,
    byteC_int, Bool.and_self, toB_int, List.size_toArray, aop_idx, liveG_cells, storeO_ptr, stoG_int, List.set_cons_zero, List.set_cons_succ, behindO_cells, aop_append, aop_makeSlice, aop_len, liveB_ro, KL_normal, KL_ret, KL_exit, KI_normal, KI_ret, KI_exit, aop_minO, aop_maxO, mm_min, mm_max, len_str u9, eA]
  refine wpC_loop (inv25a l A L B) (k := A.toNat) ⟨0, 1, 0, by omega, by omega, by omega, h1, ?_, ?_, ?_, ?_, ?_⟩ ?_
  · simp only [Fr.at_set, Nat.reduceEqDiff, reduceIte, reduceCtorEq]
  · simp only [Fr.at_set, Nat.reduceEqDiff, reduceIte, reduceCtorEq]
  · simp only [Fr.at_set, Nat.reduceEqDiff, reduceIte, reduceCtorEq]
  · simp only [Fr.at_set, Nat.reduceEqDiff, reduceIte, reduceCtorEq]
  · simp only [Fr.at_set, Nat.reduceEqDiff, reduceIte, reduceCtorEq]; rfl
  rintro k F h' ⟨i, n, b, hi, n1, n2, hln, f0, f1, f6, f7, f8⟩
  cases k with
  | zero =>
    have c1 : decide ((i : Int) < A) = false := decide_eq_false (by omega)
    obtain ⟨rfl, rfl⟩ : n = L ∧ b = B := by simpa [lnD] using hln
    simp -implicitDefEqProofs only [wpC_seq, wpC_region, wpC_draw, wpC_cond, wpC_ret, wpC_skip, wpC_exit, wpC_block, wpC_label, wpO_go, wpQ_go, wantA_none, gdO_true, gdO_false, gdQ_true, gdQ_false, goO_q, goO_w, goQ_q, putA_some, putA_none, opnd, ofVal, ofVal1,
    wpO_nil, wpQ_nil, KN_eq, KQ_eq, KS_normal, KS_ret, KS_exit, KB_normal, KB_ret, KB_same, layArgs, Fr.at_set, aop_move, aop_assign, aop_pick, pickO_true, pickO_false, pickO_bool, aop_box, boxO_int, boxO_str, boxO_bool, aop_load, behind_ptr, behind_rop,
    behindO_one, aop_store, aop_index, aop_extract, extractO_0, extractO_1, extractO_2, aop_binOp, bin_add, bin_sub, bin_mul, bin_eql, bin_neq, bin_lss, bin_leq, bin_gtr, bin_geq, bin_seql, bin_sneq, aop_unOp, unO_not, aop_convert, aop_len,
    aop_call, callV_func, aop_slice, decide_true, decide_false, decide_not, wantA_some, yieldA_eq, List.getElem?_toArray, List.getElem?_cons_succ, List.getElem?_cons_zero, Option.bind_some, yieldD_some, wantY_bool, wantY_not, Nat.reduceAdd, reduceIte, Nat.reduceEqDiff,
    Nat.zero_add, Nat.add_zero, beq_self_eq_true, Bool.true_beq, Bool.false_beq, Bool.not_true, Bool.not_false, List.map_cons, List.map_nil, List.append_nil, List.nil_append, List.cons_append, Option.map_some, Option.map_none, Bool.false_eq_true, reduceCtorEq, EndV_normal, EndV_ret, RV_some, resA_tmp, resA_nil, resT_some, oneOf_one, oneOf_two, tup_two, int_same, bool_same, str_same, and_self, and_true, true_and, if_true, if_false, aop_buildSlice, AH.get_set, AH.get_up, AH.next_set, AH.next_up, next_empty, cellsOf_ow, cellsG, List.length_cons, List.length_nil, List.drop_zero, List.take_succ_cons, List.take_zero, Nat.reduceMul, Nat.le_refl, convG_some, List.all_cons, List.all_nil,
    byteC_int, Bool.and_self, toB_int, List.size_toArray, aop_idx, liveG_cells, storeO_ptr, stoG_int, List.set_cons_zero, List.set_cons_succ, behindO_cells, aop_append, aop_makeSlice, aop_len, liveB_ro, KL_normal, KL_ret, KL_exit, KI_normal, KI_ret, KI_exit, f0, f1, f6, f7, f8, c1]
    refine wpC_loop (inv25b l A n C) (k := (A - b).toNat) ⟨b, 1, by omega, by omega, rfl, by omega, h2, ?_, ?_, ?_, ?_, ?_⟩ ?_
    · simp only [Fr.at_set, Nat.reduceEqDiff, reduceIte, reduceCtorEq, f0]
    · simp only [Fr.at_set, Nat.reduceEqDiff, reduceIte, reduceCtorEq, f1]
    · simp only [Fr.at_set, Nat.reduceEqDiff, reduceIte, reduceCtorEq, f6]
    · simp only [Fr.at_set, Nat.reduceEqDiff, reduceIte, reduceCtorEq, f7]
    · simp only [Fr.at_set, Nat.reduceEqDiff, reduceIte, reduceCtorEq]
    clear f0 f1 f6 f7 f8
    rintro k F h'' ⟨x, m, x0, x1, rfl, m1, hst, f0, f1, f6, f7, f9⟩
    have hsb := hst.bound
    cases hst with
    | done _ _ q =>
      have c2 : decide (x < A) = false := decide_eq_false (by omega)
      simp -implicitDefEqProofs only [wpC_seq, wpC_region, wpC_draw, wpC_cond, wpC_ret, wpC_skip, wpC_exit, wpC_block, wpC_label, wpO_go, wpQ_go, wantA_none, gdO_true, gdO_false, gdQ_true, gdQ_false, goO_q, goO_w, goQ_q, putA_some, putA_none, opnd, ofVal, ofVal1,
    wpO_nil, wpQ_nil, KN_eq, KQ_eq, KS_normal, KS_ret, KS_exit, KB_normal, KB_ret, KB_same, layArgs, Fr.at_set, aop_move, aop_assign, aop_pick, pickO_true, pickO_false, pickO_bool, aop_box, boxO_int, boxO_str, boxO_bool, aop_load, behind_ptr, behind_rop,
    behindO_one, aop_store, aop_index, aop_extract, extractO_0, extractO_1, extractO_2, aop_binOp, bin_add, bin_sub, bin_mul, bin_eql, bin_neq, bin_lss, bin_leq, bin_gtr, bin_geq, bin_seql, bin_sneq, aop_unOp, unO_not, aop_convert, aop_len,
    aop_call, callV_func, aop_slice, decide_true, decide_false, decide_not, wantA_some, yieldA_eq, List.getElem?_toArray, List.getElem?_cons_succ, List.getElem?_cons_zero, Option.bind_some, yieldD_some, wantY_bool, wantY_not, Nat.reduceAdd, reduceIte, Nat.reduceEqDiff,
    Nat.zero_add, Nat.add_zero, beq_self_eq_true, Bool.true_beq, Bool.false_beq, Bool.not_true, Bool.not_false, List.map_cons, List.map_nil, List.append_nil, List.nil_append, List.cons_append, Option.map_some, Option.map_none, Bool.false_eq_true, reduceCtorEq, EndV_normal, EndV_ret, RV_some, resA_tmp, resA_nil, resT_some, oneOf_one, oneOf_two, tup_two, int_same, bool_same, str_same, and_self, and_true, true_and, if_true, if_false, aop_buildSlice, AH.get_set, AH.get_up, AH.next_set, AH.next_up, next_empty, cellsOf_ow, cellsG, List.length_cons, List.length_nil, List.drop_zero, List.take_succ_cons, List.take_zero, Nat.reduceMul, Nat.le_refl, convG_some, List.all_cons, List.all_nil,
    byteC_int, Bool.and_self, toB_int, List.size_toArray, aop_idx, liveG_cells, storeO_ptr, stoG_int, List.set_cons_zero, List.set_cons_succ, behindO_cells, aop_append, aop_makeSlice, aop_len, liveB_ro, KL_normal, KL_ret, KL_exit, KI_normal, KI_ret, KI_exit, f0, f1, f6, f7, f9, c2]
    | step _ _ _ q hst =>
      have c2 : decide (x < A) = true := decide_eq_true (by omega)
      have hr := runeD_le l x
      have hm : max 1 (runeD l x).2 = max (runeD l x).2 1 := by omega
      have w := IntWalk.i64_in (x + max (runeD l x).2 1) (by omega)
      by_cases c3 : x + max (runeD l x).2 1 ≤ A
      · rw [if_pos c3] at hst
        have hsb2 := hst.bound
        have w2 := IntWalk.i64_in (m + 1) (by omega)
        simp -implicitDefEqProofs only [wpC_seq, wpC_region, wpC_draw, wpC_cond, wpC_ret, wpC_skip, wpC_exit, wpC_block, wpC_label, wpO_go, wpQ_go, wantA_none, gdO_true, gdO_false, gdQ_true, gdQ_false, goO_q, goO_w, goQ_q, putA_some, putA_none, opnd, ofVal, ofVal1,
    wpO_nil, wpQ_nil, KN_eq, KQ_eq, KS_normal, KS_ret, KS_exit, KB_normal, KB_ret, KB_same, layArgs, Fr.at_set, aop_move, aop_assign, aop_pick, pickO_true, pickO_false, pickO_bool, aop_box, boxO_int, boxO_str, boxO_bool, aop_load, behind_ptr, behind_rop,
    behindO_one, aop_store, aop_index, aop_extract, extractO_0, extractO_1, extractO_2, aop_binOp, bin_add, bin_sub, bin_mul, bin_eql, bin_neq, bin_lss, bin_leq, bin_gtr, bin_geq, bin_seql, bin_sneq, aop_unOp, unO_not, aop_convert, aop_len,
    aop_call, callV_func, aop_slice, decide_true, decide_false, decide_not, wantA_some, yieldA_eq, List.getElem?_toArray, List.getElem?_cons_succ, List.getElem?_cons_zero, Option.bind_some, yieldD_some, wantY_bool, wantY_not, Nat.reduceAdd, reduceIte, Nat.reduceEqDiff,
    Nat.zero_add, Nat.add_zero, beq_self_eq_true, Bool.true_beq, Bool.false_beq, Bool.not_true, Bool.not_false, List.map_cons, List.map_nil, List.append_nil, List.nil_append, List.cons_append, Option.map_some, Option.map_none, Bool.false_eq_true, reduceCtorEq, EndV_normal, EndV_ret, RV_some, resA_tmp, resA_nil, resT_some, oneOf_one, oneOf_two, tup_two, int_same, bool_same, str_same, and_self, and_true, true_and, if_true, if_false, aop_buildSlice, AH.get_set, AH.get_up, AH.next_set, AH.next_up, next_empty, cellsOf_ow, cellsG, List.length_cons, List.length_nil, List.drop_zero, List.take_succ_cons, List.take_zero, Nat.reduceMul, Nat.le_refl, convG_some, List.all_cons, List.all_nil,
    byteC_int, Bool.and_self, toB_int, List.size_toArray, aop_idx, liveG_cells, storeO_ptr, stoG_int, List.set_cons_zero, List.set_cons_succ, behindO_cells, aop_append, aop_makeSlice, aop_len, liveB_ro, KL_normal, KL_ret, KL_exit, KI_normal, KI_ret, KI_exit, f0, f1, f6, f7, f9, c2, goO_known (refRune_c l hl x), aop_maxO, mm_max, hm, w, c3, w2]
        refine ⟨_, ?_, x + max (runeD l x).2 1, m + 1, by omega, by omega, rfl, by omega, hst, ?_, ?_, ?_, ?_, ?_⟩
        · omega
        all_goals simp only [Fr.at_set, Nat.reduceEqDiff, reduceIte, reduceCtorEq, f0, f1, f6]
      · rw [if_neg c3] at hst
        simp -implicitDefEqProofs only [wpC_seq, wpC_region, wpC_draw, wpC_cond, wpC_ret, wpC_skip, wpC_exit, wpC_block, wpC_label, wpO_go, wpQ_go, wantA_none, gdO_true, gdO_false, gdQ_true, gdQ_false, goO_q, goO_w, goQ_q, putA_some, putA_none, opnd, ofVal, ofVal1,
    wpO_nil, wpQ_nil, KN_eq, KQ_eq, KS_normal, KS_ret, KS_exit, KB_normal, KB_ret, KB_same, layArgs, Fr.at_set, aop_move, aop_assign, aop_pick, pickO_true, pickO_false, pickO_bool, aop_box, boxO_int, boxO_str, boxO_bool, aop_load, behind_ptr, behind_rop,
    behindO_one, aop_store, aop_index, aop_extract, extractO_0, extractO_1, extractO_2, aop_binOp, bin_add, bin_sub, bin_mul, bin_eql, bin_neq, bin_lss, bin_leq, bin_gtr, bin_geq, bin_seql, bin_sneq, aop_unOp, unO_not, aop_convert, aop_len,
    aop_call, callV_func, aop_slice, decide_true, decide_false, decide_not, wantA_some, yieldA_eq, List.getElem?_toArray, List.getElem?_cons_succ, List.getElem?_cons_zero, Option.bind_some, yieldD_some, wantY_bool, wantY_not, Nat.reduceAdd, reduceIte, Nat.reduceEqDiff,
    Nat.zero_add, Nat.add_zero, beq_self_eq_true, Bool.true_beq, Bool.false_beq, Bool.not_true, Bool.not_false, List.map_cons, List.map_nil, List.append_nil, List.nil_append, List.cons_append, Option.map_some, Option.map_none, Bool.false_eq_true, reduceCtorEq, EndV_normal, EndV_ret, RV_some, resA_tmp, resA_nil, resT_some, oneOf_one, oneOf_two, tup_two, int_same, bool_same, str_same, and_self, and_true, true_and, if_true, if_false, aop_buildSlice, AH.get_set, AH.get_up, AH.next_set, AH.next_up, next_empty, cellsOf_ow, cellsG, List.length_cons, List.length_nil, List.drop_zero, List.take_succ_cons, List.take_zero, Nat.reduceMul, Nat.le_refl, convG_some, List.all_cons, List.all_nil,
    byteC_int, Bool.and_self, toB_int, List.size_toArray, aop_idx, liveG_cells, storeO_ptr, stoG_int, List.set_cons_zero, List.set_cons_succ, behindO_cells, aop_append, aop_makeSlice, aop_len, liveB_ro, KL_normal, KL_ret, KL_exit, KI_normal, KI_ret, KI_exit, f0, f1, f6, f7, f9, c2, goO_known (refRune_c l hl x), aop_maxO, mm_max, hm, w, c3]
        refine ⟨_, ?_, x + max (runeD l x).2 1, m, by omega, by omega, rfl, by omega, hst, ?_, ?_, ?_, ?_, ?_⟩
        · omega
        all_goals simp only [Fr.at_set, Nat.reduceEqDiff, reduceIte, reduceCtorEq, f0, f1, f6, f9]
  | succ k =>
    have c1 : decide ((i : Int) < A) = true := decide_eq_true (by omega)
    have w := IntWalk.i64_in ((i : Int) + 1) (by omega)
    have w2 := IntWalk.i64_in (n + 1) (by omega)
    unfold lnD at hln
    cases hE : endsD l i with
    | true =>
      rw [hE, if_pos rfl] at hln
      simp -implicitDefEqProofs only [wpC_seq, wpC_region, wpC_draw, wpC_cond, wpC_ret, wpC_skip, wpC_exit, wpC_block, wpC_label, wpO_go, wpQ_go, wantA_none, gdO_true, gdO_false, gdQ_true, gdQ_false, goO_q, goO_w, goQ_q, putA_some, putA_none, opnd, ofVal, ofVal1,
    wpO_nil, wpQ_nil, KN_eq, KQ_eq, KS_normal, KS_ret, KS_exit, KB_normal, KB_ret, KB_same, layArgs, Fr.at_set, aop_move, aop_assign, aop_pick, pickO_true, pickO_false, pickO_bool, aop_box, boxO_int, boxO_str, boxO_bool, aop_load, behind_ptr, behind_rop,
    behindO_one, aop_store, aop_index, aop_extract, extractO_0, extractO_1, extractO_2, aop_binOp, bin_add, bin_sub, bin_mul, bin_eql, bin_neq, bin_lss, bin_leq, bin_gtr, bin_geq, bin_seql, bin_sneq, aop_unOp, unO_not, aop_convert, aop_len,
    aop_call, callV_func, aop_slice, decide_true, decide_false, decide_not, wantA_some, yieldA_eq, List.getElem?_toArray, List.getElem?_cons_succ, List.getElem?_cons_zero, Option.bind_some, yieldD_some, wantY_bool, wantY_not, Nat.reduceAdd, reduceIte, Nat.reduceEqDiff,
    Nat.zero_add, Nat.add_zero, beq_self_eq_true, Bool.true_beq, Bool.false_beq, Bool.not_true, Bool.not_false, List.map_cons, List.map_nil, List.append_nil, List.nil_append, List.cons_append, Option.map_some, Option.map_none, Bool.false_eq_true, reduceCtorEq, EndV_normal, EndV_ret, RV_some, resA_tmp, resA_nil, resT_some, oneOf_one, oneOf_two, tup_two, int_same, bool_same, str_same, and_self, and_true, true_and, if_true, if_false, aop_buildSlice, AH.get_set, AH.get_up, AH.next_set, AH.next_up, next_empty, cellsOf_ow, cellsG, List.length_cons, List.length_nil, List.drop_zero, List.take_succ_cons, List.take_zero, Nat.reduceMul, Nat.le_refl, convG_some, List.all_cons, List.all_nil,
    byteC_int, Bool.and_self, toB_int, List.size_toArray, aop_idx, liveG_cells, storeO_ptr, stoG_int, List.set_cons_zero, List.set_cons_succ, behindO_cells, aop_append, aop_makeSlice, aop_len, liveB_ro, KL_normal, KL_ret, KL_exit, KI_normal, KI_ret, KI_exit, f0, f1, f6, f7, f8, c1, goO_known (ends_c l hl i (by omega)), hE, w, w2]
      refine ⟨k, by omega, i + 1, n + 1, (i : Int) + 1, by omega, by omega, by omega, hln, ?_, ?_, ?_, ?_, ?_⟩
      all_goals simp only [Fr.at_set, Nat.reduceEqDiff, reduceIte, reduceCtorEq, f0, f1, f6]
      rfl
    | false =>
      rw [hE, if_neg (by simp)] at hln
      simp -implicitDefEqProofs only [wpC_seq, wpC_region, wpC_draw, wpC_cond, wpC_ret, wpC_skip, wpC_exit, wpC_block, wpC_label, wpO_go, wpQ_go, wantA_none, gdO_true, gdO_false, gdQ_true, gdQ_false, goO_q, goO_w, goQ_q, putA_some, putA_none, opnd, ofVal, ofVal1,
    wpO_nil, wpQ_nil, KN_eq, KQ_eq, KS_normal, KS_ret, KS_exit, KB_normal, KB_ret, KB_same, layArgs, Fr.at_set, aop_move, aop_assign, aop_pick, pickO_true, pickO_false, pickO_bool, aop_box, boxO_int, boxO_str, boxO_bool, aop_load, behind_ptr, behind_rop,
    behindO_one, aop_store, aop_index, aop_extract, extractO_0, extractO_1, extractO_2, aop_binOp, bin_add, bin_sub, bin_mul, bin_eql, bin_neq, bin_lss, bin_leq, bin_gtr, bin_geq, bin_seql, bin_sneq, aop_unOp, unO_not, aop_convert, aop_len,
    aop_call, callV_func, aop_slice, decide_true, decide_false, decide_not, wantA_some, yieldA_eq, List.getElem?_toArray, List.getElem?_cons_succ, List.getElem?_cons_zero, Option.bind_some, yieldD_some, wantY_bool, wantY_not, Nat.reduceAdd, reduceIte, Nat.reduceEqDiff,
    Nat.zero_add, Nat.add_zero, beq_self_eq_true, Bool.true_beq, Bool.false_beq, Bool.not_true, Bool.not_false, List.map_cons, List.map_nil, List.append_nil, List.nil_append, List.cons_append, Option.map_some, Option.map_none, Bool.false_eq_true, reduceCtorEq, EndV_normal, EndV_ret, RV_some, resA_tmp, resA_nil, resT_some, oneOf_one, oneOf_two, tup_two, int_same, bool_same, str_same, and_self, and_true, true_and, if_true, if_false, aop_buildSlice, AH.get_set, AH.get_up, AH.next_set, AH.next_up, next_empty, cellsOf_ow, cellsG, List.length_cons, List.length_nil, List.drop_zero, List.take_succ_cons, List.take_zero, Nat.reduceMul, Nat.le_refl, convG_some, List.all_cons, List.all_nil,
    byteC_int, Bool.and_self, toB_int, List.size_toArray, aop_idx, liveG_cells, storeO_ptr, stoG_int, List.set_cons_zero, List.set_cons_succ, behindO_cells, aop_append, aop_makeSlice, aop_len, liveB_ro, KL_normal, KL_ret, KL_exit, KI_normal, KI_ret, KI_exit, f0, f1, f6, f7, f8, c1, goO_known (ends_c l hl i (by omega)), hE, w]
      refine ⟨k, by omega, i + 1, n, b, by omega, by omega, by omega, hln, ?_, ?_, ?_, ?_, ?_⟩
      all_goals simp only [Fr.at_set, Nat.reduceEqDiff, reduceIte, reduceCtorEq, f0, f1, f6, f7]
      rfl
end Go.Proofs.YtohmplfkieaecaaDoor
