/-
  RUNES, 11: going through a text step by step (RunesSteps).
-/
import Derived.Test.YtohmplfkieaecaaDoorR10
namespace Go.Proofs.YtohmplfkieaecaaDoor
open Go.RowKit Go.Lib Go.Ab
set_option linter.unusedSimpArgs false
set_option maxRecDepth 100000

theorem points_bad (l : List UInt8) (hl : l.length ≤ 1073741824) (hv : validD l = false) (h : AH) :
    ∃ h', (∀ fr, CR Tryd.prog glob md 18 [.str l] h fr (.tup [.nls, .bool false]) (some h')) ∧ (∀ j, h'.get j = h.get j) ∧ h.next ≤ h'.next := by
  have key : ∃ v h', (∀ fr, CR Tryd.prog glob md 18 [.str l] h fr v (some h')) ∧ v = .tup [.nls, .bool false] ∧ (∀ j, h'.get j = h.get j) ∧ h.next ≤ h'.next := by
    refine CR.sh (rs := [.tmp 2, .tmp 3]) (Q := fun v h' => v = .tup [.nls, .bool false] ∧ (∀ j, h'.get j = h.get j) ∧ h.next ≤ h'.next) Tryd.func18 rfl rfl rfl rfl ?_
    simp -implicitDefEqProofs only [wpC_seq, wpC_region, wpC_draw, wpC_cond, wpC_ret, wpC_skip, wpC_exit, wpC_block, wpC_label, wpO_go, wpQ_go, wantA_none, gdO_true, gdO_false, gdQ_true, gdQ_false, goO_q, goO_w, goQ_q, putA_some, putA_none, opnd, ofVal, ofVal1,
    wpO_nil, wpQ_nil, KN_eq, KQ_eq, KS_normal, KS_ret, KS_exit, KB_normal, KB_ret, KB_same, layArgs, Fr.at_set, aop_move, aop_assign, aop_pick, pickO_true, pickO_false, pickO_bool, aop_box, boxO_int, boxO_str, boxO_bool, aop_load, behind_ptr, behind_rop,
    behindO_one, aop_store, aop_index, aop_extract, extractO_0, extractO_1, extractO_2, aop_binOp, bin_add, bin_sub, bin_mul, bin_eql, bin_neq, bin_lss, bin_leq, bin_gtr, bin_geq, bin_seql, bin_sneq, aop_unOp, unO_not, aop_convert, aop_len,
    aop_call, callV_func, aop_slice, decide_true, decide_false, decide_not, wantA_some, yieldA_eq, List.getElem?_toArray, List.getElem?_cons_succ, List.getElem?_cons_zero, Option.bind_some, yieldD_some, wantY_bool, wantY_not, Nat.reduceAdd, reduceIte, Nat.reduceEqDiff,
    Nat.zero_add, Nat.add_zero, beq_self_eq_true, Bool.true_beq, Bool.false_beq, Bool.not_true, Bool.not_false, List.map_cons, List.map_nil, List.append_nil, List.nil_append, List.cons_append, Option.map_some, Option.map_none, Bool.false_eq_true, reduceCtorEq, EndV_normal, EndV_ret, RV_some, resA_tmp, resA_nil, resT_some, oneOf_one, oneOf_two, tup_two, int_same, bool_same, str_same, and_self, and_true, true_and, if_true, if_false, aop_buildSlice, AH.get_set, AH.get_up, AH.next_set, AH.next_up, next_empty, cellsOf_ow, cellsG, List.length_cons, List.length_nil, List.drop_zero, List.take_succ_cons, List.take_zero, Nat.reduceMul, Nat.le_refl, convG_some, List.all_cons, List.all_nil,
    byteC_int, Bool.and_self, toB_int, List.size_toArray, aop_idx, liveG_cells, storeO_ptr, stoG_int, List.set_cons_zero, List.set_cons_succ, behindO_cells, aop_append, aop_makeSlice, aop_len, liveB_ro, KL_normal, KL_ret, KL_exit, KI_normal, KI_ret, KI_exit, EndS_normal, EndS_ret, RS_some, up_set, up_up, goO_known (runesValid_c l (by omega)), hv]
    exact ⟨fun _ => trivial, by omega⟩
  obtain ⟨v, h', k1, rfl, k2, k3⟩ := key
  exact ⟨h', k1, k2, k3⟩
theorem runeD_at {l : List UInt8} {pos : Nat} (h : okL (l.drop pos)) : runeD l pos = (((decodeL (l.drop pos)).1 : Int), ((decodeL (l.drop pos)).2 : Int)) := by
  have := drop_ne h.1
  have e := runeD_of_ok (l := l) (a := (pos : Int)) (by omega) (by omega) (by rw [show ((pos : Int)).toNat = pos by omega]; exact h)
  rw [show ((pos : Int)).toNat = pos by omega] at e
  exact e

def inv10 (l : List UInt8) (cs : List Int) (S T : Nat) (k : Nat) (F : Fr) (h' : AH) : Prop := ∃ (pos : Nat) (pre post : List Int), k = post.length ∧ cs = pre ++ post ∧ Chs l pos post ∧ pos ≤ l.length ∧ F.at 0 = .str l ∧ F.at 3 = .ow S cs.length 0 cs.length ∧ F.at 5 = .ow T pre.length 0 pre.length ∧ F.at 6 = .int .i64 pos ∧
  h'.get S = some (.cells 1 false (cs.map (PV.int .i64))) ∧ h'.get T = some (.cells 1 false (pre.map (PV.int .i64))) ∧ S < h'.next ∧ T < h'.next
theorem stepsLaw_c (l : List UInt8) (hl : l.length ≤ 1048576) (h : AH) (fr : Nat) : CR Tryd.prog glob md 10 [.str l] h fr (.bool true) none := by
  refine CR.plain (rs := [.tmp 2]) Tryd.func10 rfl rfl rfl rfl rfl rfl ?_ h fr
  cases hv : validD l with
  | false =>
    obtain ⟨h1, k1, _, _⟩ := points_bad l (by omega) hv (AH.empty.up 8)
    simp -implicitDefEqProofs only [wpC_seq, wpC_region, wpC_draw, wpC_cond, wpC_ret, wpC_skip, wpC_exit, wpC_block, wpC_label, wpO_go, wpQ_go, wantA_none, gdO_true, gdO_false, gdQ_true, gdQ_false, goO_q, goO_w, goQ_q, putA_some, putA_none, opnd, ofVal, ofVal1,
    wpO_nil, wpQ_nil, KN_eq, KQ_eq, KS_normal, KS_ret, KS_exit, KB_normal, KB_ret, KB_same, layArgs, Fr.at_set, aop_move, aop_assign, aop_pick, pickO_true, pickO_false, pickO_bool, aop_box, boxO_int, boxO_str, boxO_bool, aop_load, behind_ptr, behind_rop,
    behindO_one, aop_store, aop_index, aop_extract, extractO_0, extractO_1, extractO_2, aop_binOp, bin_add, bin_sub, bin_mul, bin_eql, bin_neq, bin_lss, bin_leq, bin_gtr, bin_geq, bin_seql, bin_sneq, aop_unOp, unO_not, aop_convert, aop_len,
    aop_call, callV_func, aop_slice, decide_true, decide_false, decide_not, wantA_some, yieldA_eq, List.getElem?_toArray, List.getElem?_cons_succ, List.getElem?_cons_zero, Option.bind_some, yieldD_some, wantY_bool, wantY_not, Nat.reduceAdd, reduceIte, Nat.reduceEqDiff,
    Nat.zero_add, Nat.add_zero, beq_self_eq_true, Bool.true_beq, Bool.false_beq, Bool.not_true, Bool.not_false, List.map_cons, List.map_nil, List.append_nil, List.nil_append, List.cons_append, Option.map_some, Option.map_none, Bool.false_eq_true, reduceCtorEq, EndV_normal, EndV_ret, RV_some, resA_tmp, resA_nil, resT_some, oneOf_one, oneOf_two, tup_two, int_same, bool_same, str_same, and_self, and_true, true_and, if_true, if_false, aop_buildSlice, AH.get_set, AH.get_up, AH.next_set, AH.next_up, next_empty, cellsOf_ow, cellsG, List.length_cons, List.length_nil, List.drop_zero, List.take_succ_cons, List.take_zero, Nat.reduceMul, Nat.le_refl, convG_some, List.all_cons, List.all_nil,
    byteC_int, Bool.and_self, toB_int, List.size_toArray, aop_idx, liveG_cells, storeO_ptr, stoG_int, List.set_cons_zero, List.set_cons_succ, behindO_cells, aop_append, aop_makeSlice, aop_len, liveB_ro, KL_normal, KL_ret, KL_exit, KI_normal, KI_ret, KI_exit, up_up, goO_shared k1, goO_known fixed_c, len_nls u26]
  | true =>
    obtain ⟨cs, hcs⟩ := Chs.ex l l.length 0 (by omega) (by simpa using hv)
    have hlen := hcs.len
    obtain ⟨S, h1, k1, g1, _, _, n1⟩ := points_c l (by omega) hv cs hcs (AH.empty.up 8)
    simp -implicitDefEqProofs only [wpC_seq, wpC_region, wpC_draw, wpC_cond, wpC_ret, wpC_skip, wpC_exit, wpC_block, wpC_label, wpO_go, wpQ_go, wantA_none, gdO_true, gdO_false, gdQ_true, gdQ_false, goO_q, goO_w, goQ_q, putA_some, putA_none, opnd, ofVal, ofVal1,
    wpO_nil, wpQ_nil, KN_eq, KQ_eq, KS_normal, KS_ret, KS_exit, KB_normal, KB_ret, KB_same, layArgs, Fr.at_set, aop_move, aop_assign, aop_pick, pickO_true, pickO_false, pickO_bool, aop_box, boxO_int, boxO_str, boxO_bool, aop_load, behind_ptr, behind_rop,
    behindO_one, aop_store, aop_index, aop_extract, extractO_0, extractO_1, extractO_2, aop_binOp, bin_add, bin_sub, bin_mul, bin_eql, bin_neq, bin_lss, bin_leq, bin_gtr, bin_geq, bin_seql, bin_sneq, aop_unOp, unO_not, aop_convert, aop_len,
    aop_call, callV_func, aop_slice, decide_true, decide_false, decide_not, wantA_some, yieldA_eq, List.getElem?_toArray, List.getElem?_cons_succ, List.getElem?_cons_zero, Option.bind_some, yieldD_some, wantY_bool, wantY_not, Nat.reduceAdd, reduceIte, Nat.reduceEqDiff,
    Nat.zero_add, Nat.add_zero, beq_self_eq_true, Bool.true_beq, Bool.false_beq, Bool.not_true, Bool.not_false, List.map_cons, List.map_nil, List.append_nil, List.nil_append, List.cons_append, Option.map_some, Option.map_none, Bool.false_eq_true, reduceCtorEq, EndV_normal, EndV_ret, RV_some, resA_tmp, resA_nil, resT_some, oneOf_one, oneOf_two, tup_two, int_same, bool_same, str_same, and_self, and_true, true_and, if_true, if_false, aop_buildSlice, AH.get_set, AH.get_up, AH.next_set, AH.next_up, next_empty, cellsOf_ow, cellsG, List.length_cons, List.length_nil, List.drop_zero, List.take_succ_cons, List.take_zero, Nat.reduceMul, Nat.le_refl, convG_some, List.all_cons, List.all_nil,
    byteC_int, Bool.and_self, toB_int, List.size_toArray, aop_idx, liveG_cells, storeO_ptr, stoG_int, List.set_cons_zero, List.set_cons_succ, behindO_cells, aop_append, aop_makeSlice, aop_len, liveB_ro, KL_normal, KL_ret, KL_exit, KI_normal, KI_ret, KI_exit, up_set, up_up, goO_shared k1, goO_known fixed_c, Nat.add_assoc h1.next, build_0 u26 sz3 z3]
    refine wpC_loop (inv10 l cs S (h1.next + 6)) (k := cs.length) ⟨0, [], cs, rfl, rfl, hcs, by omega, ?_, ?_, ?_, ?_, ?_, ?_, ?_, ?_⟩ ?_
    · simp only [Fr.at_set, Nat.reduceEqDiff, reduceIte, reduceCtorEq]
    · simp only [Fr.at_set, Nat.reduceEqDiff, reduceIte, reduceCtorEq]
    · simp only [Fr.at_set, Nat.reduceEqDiff, reduceIte, reduceCtorEq, List.length_nil]
    · simp only [Fr.at_set, Nat.reduceEqDiff, reduceIte, reduceCtorEq]; rfl
    · simp only [AH.get_set, AH.get_up, show ¬ (S = h1.next + 6) by omega, if_false, g1]
    · simp only [AH.get_set, if_true, List.map_nil]
    · simp only [AH.next_set, AH.next_up]; omega
    · simp only [AH.next_set, AH.next_up]; omega
    have hST : ¬ (S = h1.next + 6) := by omega
    generalize h1.next + 6 = T at *
    have hTS : ¬ (T = S) := fun e => hST e.symm
    rintro k F h' ⟨pos, pre, post, rfl, hcs2, hch, hp, f0, f3, f5, f6, gS, gT, nS, nT⟩
    have hpl : pre.length ≤ cs.length := by rw [hcs2, List.length_append]; omega
    cases hch with
    | done _ hd =>
      have c1 : decide ((pos : Int) < (l.length : Int)) = false := decide_eq_false (by omega)
      have c2 : decide ((pos : Int) = (l.length : Int)) = true := decide_eq_true (by omega)
      rw [List.append_nil] at hcs2
      subst hcs2
      obtain ⟨h2, q1, _, _⟩ := same_c (.ow T cs.length 0 cs.length) (.ow S cs.length 0 cs.length) cs cs (by omega) (h'.up 21) (.inr (.inl ⟨T, false, rfl, by rw [AH.get_up]; exact gT⟩)) (.inr (.inl ⟨S, false, rfl, by rw [AH.get_up]; exact gS⟩))
      rw [decide_eq_true (show cs = cs from rfl)] at q1
      simp -implicitDefEqProofs only [wpC_seq, wpC_region, wpC_draw, wpC_cond, wpC_ret, wpC_skip, wpC_exit, wpC_block, wpC_label, wpO_go, wpQ_go, wantA_none, gdO_true, gdO_false, gdQ_true, gdQ_false, goO_q, goO_w, goQ_q, putA_some, putA_none, opnd, ofVal, ofVal1,
    wpO_nil, wpQ_nil, KN_eq, KQ_eq, KS_normal, KS_ret, KS_exit, KB_normal, KB_ret, KB_same, layArgs, Fr.at_set, aop_move, aop_assign, aop_pick, pickO_true, pickO_false, pickO_bool, aop_box, boxO_int, boxO_str, boxO_bool, aop_load, behind_ptr, behind_rop,
    behindO_one, aop_store, aop_index, aop_extract, extractO_0, extractO_1, extractO_2, aop_binOp, bin_add, bin_sub, bin_mul, bin_eql, bin_neq, bin_lss, bin_leq, bin_gtr, bin_geq, bin_seql, bin_sneq, aop_unOp, unO_not, aop_convert, aop_len,
    aop_call, callV_func, aop_slice, decide_true, decide_false, decide_not, wantA_some, yieldA_eq, List.getElem?_toArray, List.getElem?_cons_succ, List.getElem?_cons_zero, Option.bind_some, yieldD_some, wantY_bool, wantY_not, Nat.reduceAdd, reduceIte, Nat.reduceEqDiff,
    Nat.zero_add, Nat.add_zero, beq_self_eq_true, Bool.true_beq, Bool.false_beq, Bool.not_true, Bool.not_false, List.map_cons, List.map_nil, List.append_nil, List.nil_append, List.cons_append, Option.map_some, Option.map_none, Bool.false_eq_true, reduceCtorEq, EndV_normal, EndV_ret, RV_some, resA_tmp, resA_nil, resT_some, oneOf_one, oneOf_two, tup_two, int_same, bool_same, str_same, and_self, and_true, true_and, if_true, if_false, aop_buildSlice, AH.get_set, AH.get_up, AH.next_set, AH.next_up, next_empty, cellsOf_ow, cellsG, List.length_cons, List.length_nil, List.drop_zero, List.take_succ_cons, List.take_zero, Nat.reduceMul, Nat.le_refl, convG_some, List.all_cons, List.all_nil,
    byteC_int, Bool.and_self, toB_int, List.size_toArray, aop_idx, liveG_cells, storeO_ptr, stoG_int, List.set_cons_zero, List.set_cons_succ, behindO_cells, aop_append, aop_makeSlice, aop_len, liveB_ro, KL_normal, KL_ret, KL_exit, KI_normal, KI_ret, KI_exit, up_set, up_up, f0, f3, f5, f6, c1, c2, len_str u9, goO_shared q1]
    | step _ c cs' ho hc hs =>
      have hpos := drop_ne ho.1
      have hr := decodeL_rune (l.drop pos)
      have hw := decodeL_width (l.drop pos)
      have hle := decodeL_le _ ho.1
      rw [List.length_drop] at hle
      have c1 : decide ((pos : Int) < (l.length : Int)) = true := decide_eq_true (by omega)
      have c2 : decide ((pre.length : Int) ≤ (l.length : Int)) = true := decide_eq_true (by omega)
      have c3 : decide (((decodeL (l.drop pos)).2 : Int) < 1) = false := decide_eq_false (by omega)
      have w := IntWalk.i64_in ((pos : Int) + ((decodeL (l.drop pos)).2 : Int)) (by omega)
      have hT : ∀ k, ¬ (T = h'.next + k) := fun k => by omega
      have ha : ∀ (H : AH) (fr id : Nat), H.get T = some (.cells 1 false (pre.map (PV.int .i64))) → H.get id = some (.cells 1 false [.int .i64 c]) → appO Tryd.prog H fr [.ow T pre.length 0 pre.length, .ow id 1 0 1] [26, 26] =
          some (.w (.ow T (pre.length + 1) 0 (pre.length + 1)) (H.set T (.cells 1 false (pre.map (PV.int .i64) ++ [.int .i64 c])))) := fun H fr id q1 q2 =>
        app_ow u26 u26 (.inr ⟨_, rfl⟩) i3 rfl q1 (by simp) (by rw [cellsOf_ow, q2]; exact cellsG_all rfl) (by omega) (by omega) (by omega)
      rw [hc] at ha
      simp -implicitDefEqProofs only [wpC_seq, wpC_region, wpC_draw, wpC_cond, wpC_ret, wpC_skip, wpC_exit, wpC_block, wpC_label, wpO_go, wpQ_go, wantA_none, gdO_true, gdO_false, gdQ_true, gdQ_false, goO_q, goO_w, goQ_q, putA_some, putA_none, opnd, ofVal, ofVal1,
    wpO_nil, wpQ_nil, KN_eq, KQ_eq, KS_normal, KS_ret, KS_exit, KB_normal, KB_ret, KB_same, layArgs, Fr.at_set, aop_move, aop_assign, aop_pick, pickO_true, pickO_false, pickO_bool, aop_box, boxO_int, boxO_str, boxO_bool, aop_load, behind_ptr, behind_rop,
    behindO_one, aop_store, aop_index, aop_extract, extractO_0, extractO_1, extractO_2, aop_binOp, bin_add, bin_sub, bin_mul, bin_eql, bin_neq, bin_lss, bin_leq, bin_gtr, bin_geq, bin_seql, bin_sneq, aop_unOp, unO_not, aop_convert, aop_len,
    aop_call, callV_func, aop_slice, decide_true, decide_false, decide_not, wantA_some, yieldA_eq, List.getElem?_toArray, List.getElem?_cons_succ, List.getElem?_cons_zero, Option.bind_some, yieldD_some, wantY_bool, wantY_not, Nat.reduceAdd, reduceIte, Nat.reduceEqDiff,
    Nat.zero_add, Nat.add_zero, beq_self_eq_true, Bool.true_beq, Bool.false_beq, Bool.not_true, Bool.not_false, List.map_cons, List.map_nil, List.append_nil, List.nil_append, List.cons_append, Option.map_some, Option.map_none, Bool.false_eq_true, reduceCtorEq, EndV_normal, EndV_ret, RV_some, resA_tmp, resA_nil, resT_some, oneOf_one, oneOf_two, tup_two, int_same, bool_same, str_same, and_self, and_true, true_and, if_true, if_false, aop_buildSlice, AH.get_set, AH.get_up, AH.next_set, AH.next_up, next_empty, cellsOf_ow, cellsG, List.length_cons, List.length_nil, List.drop_zero, List.take_succ_cons, List.take_zero, Nat.reduceMul, Nat.le_refl, convG_some, List.all_cons, List.all_nil,
    byteC_int, Bool.and_self, toB_int, List.size_toArray, aop_idx, liveG_cells, storeO_ptr, stoG_int, List.set_cons_zero, List.set_cons_succ, behindO_cells, aop_append, aop_makeSlice, aop_len, liveB_ro, KL_normal, KL_ret, KL_exit, KI_normal, KI_ret, KI_exit, up_set, up_up, Nat.add_assoc h'.next, f0, f3, f5, f6, c1, c2, c3, len_str u9, len_ow u26, goO_known (rune_c l (by omega) pos), runeD_at ho, build_1 u26 sz3 z3]
      rw [ha]
      rotate_left
      · simp only [AH.get_set, AH.get_up, hT, if_false, gT]
      · simp only [AH.get_set, if_true]
      simp -implicitDefEqProofs only [wpC_seq, wpC_region, wpC_draw, wpC_cond, wpC_ret, wpC_skip, wpC_exit, wpC_block, wpC_label, wpO_go, wpQ_go, wantA_none, gdO_true, gdO_false, gdQ_true, gdQ_false, goO_q, goO_w, goQ_q, putA_some, putA_none, opnd, ofVal, ofVal1,
    wpO_nil, wpQ_nil, KN_eq, KQ_eq, KS_normal, KS_ret, KS_exit, KB_normal, KB_ret, KB_same, layArgs, Fr.at_set, aop_move, aop_assign, aop_pick, pickO_true, pickO_false, pickO_bool, aop_box, boxO_int, boxO_str, boxO_bool, aop_load, behind_ptr, behind_rop,
    behindO_one, aop_store, aop_index, aop_extract, extractO_0, extractO_1, extractO_2, aop_binOp, bin_add, bin_sub, bin_mul, bin_eql, bin_neq, bin_lss, bin_leq, bin_gtr, bin_geq, bin_seql, bin_sneq, aop_unOp, unO_not, aop_convert, aop_len,
    aop_call, callV_func, aop_slice, decide_true, decide_false, decide_not, wantA_some, yieldA_eq, List.getElem?_toArray, List.getElem?_cons_succ, List.getElem?_cons_zero, Option.bind_some, yieldD_some, wantY_bool, wantY_not, Nat.reduceAdd, reduceIte, Nat.reduceEqDiff,
    Nat.zero_add, Nat.add_zero, beq_self_eq_true, Bool.true_beq, Bool.false_beq, Bool.not_true, Bool.not_false, List.map_cons, List.map_nil, List.append_nil, List.nil_append, List.cons_append, Option.map_some, Option.map_none, Bool.false_eq_true, reduceCtorEq, EndV_normal, EndV_ret, RV_some, resA_tmp, resA_nil, resT_some, oneOf_one, oneOf_two, tup_two, int_same, bool_same, str_same, and_self, and_true, true_and, if_true, if_false, aop_buildSlice, AH.get_set, AH.get_up, AH.next_set, AH.next_up, next_empty, cellsOf_ow, cellsG, List.length_cons, List.length_nil, List.drop_zero, List.take_succ_cons, List.take_zero, Nat.reduceMul, Nat.le_refl, convG_some, List.all_cons, List.all_nil,
    byteC_int, Bool.and_self, toB_int, List.size_toArray, aop_idx, liveG_cells, storeO_ptr, stoG_int, List.set_cons_zero, List.set_cons_succ, behindO_cells, aop_append, aop_makeSlice, aop_len, liveB_ro, KL_normal, KL_ret, KL_exit, KI_normal, KI_ret, KI_exit, up_set, up_up, Nat.add_assoc h'.next, f0, f3, f5, f6, w]
      refine ⟨cs'.length, by omega, pos + (decodeL (l.drop pos)).2, pre ++ [c], cs', rfl, by rw [hcs2]; simp, hs, by omega, ?_, ?_, ?_, ?_, ?_, ?_, ?_, ?_⟩
      · simp only [Fr.at_set, Nat.reduceEqDiff, reduceIte, reduceCtorEq, f0]
      · simp only [Fr.at_set, Nat.reduceEqDiff, reduceIte, reduceCtorEq, f3]
      · simp only [Fr.at_set, Nat.reduceEqDiff, reduceIte, reduceCtorEq, List.length_append, List.length_cons, List.length_nil]
      · simp only [Fr.at_set, Nat.reduceEqDiff, reduceIte, reduceCtorEq]; rfl
      · simp only [AH.get_set, AH.get_up, hST, show ∀ k, ¬ (S = h'.next + k) from fun k => by omega, if_false, gS]
      · simp only [AH.get_set, if_true, List.map_append, List.map_cons, List.map_nil, hc]
      · simp only [AH.next_set, AH.next_up]; omega
      · simp only [AH.next_set, AH.next_up]; omega
end Go.Proofs.YtohmplfkieaecaaDoor
