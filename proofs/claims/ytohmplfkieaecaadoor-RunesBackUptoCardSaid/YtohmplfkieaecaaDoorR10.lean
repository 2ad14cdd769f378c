/-
  RUNES, 10: a text's characters (Points).
-/
import Derived.Test.YtohmplfkieaecaaDoorR9
namespace Go.Proofs.YtohmplfkieaecaaDoor
open Go.RowKit Go.Lib Go.Ab
set_option linter.unusedSimpArgs false
set_option maxRecDepth 100000

/-- The characters from a place on. -/
inductive Chs (l : List UInt8) : Nat → List Int → Prop
  | done (a : Nat) : l.length ≤ a → Chs l a []
  | step (a : Nat) (c : Int) (cs : List Int) : okL (l.drop a) → c = ((decodeL (l.drop a)).1 : Int) → Chs l (a + (decodeL (l.drop a)).2) cs → Chs l a (c :: cs)
theorem drop_ne {l : List UInt8} {a : Nat} (h : l.drop a ≠ []) : a < l.length := by
  apply Classical.byContradiction
  intro q
  exact h (List.drop_eq_nil_of_le (by omega))
theorem Chs.ex (l : List UInt8) : ∀ (k a : Nat), l.length - a ≤ k → validD (l.drop a) = true → ∃ cs, Chs l a cs
  | 0, a, hk, _ => ⟨[], .done a (by omega)⟩
  | k + 1, a, hk, hv => by
    by_cases hne : l.drop a = []
    · refine ⟨[], .done a ?_⟩
      have := congrArg List.length hne
      rw [List.length_drop, List.length_nil] at this
      omega
    · by_cases ho : okL (l.drop a)
      · have hw := decodeL_width (l.drop a)
        have := drop_ne hne
        rw [validD_ok ho, List.drop_drop] at hv
        obtain ⟨cs, hcs⟩ := Chs.ex l k (a + (decodeL (l.drop a)).2) (by omega) hv
        exact ⟨_, .step a _ cs ho rfl hcs⟩
      · rw [validD_bad hne ho] at hv
        simp at hv
theorem Chs.len {l : List UInt8} {a : Nat} {cs : List Int} (h : Chs l a cs) : cs.length ≤ l.length - a := by
  induction h with
  | done a h1 => simp
  | step a c cs ho hc hs ih =>
    have hw := decodeL_width (l.drop a)
    have hle := decodeL_le _ ho.1
    have := drop_ne ho.1
    rw [List.length_drop] at hle
    rw [List.length_cons]
    omega
theorem dec_at (l : List UInt8) (pos : Nat) : Utf8.decode ⟨l.toArray⟩ pos = decodeL (l.drop pos) := (decodeL_drop ⟨l.toArray⟩ pos).symm

def inv18 (l : List UInt8) (cs : List Int) (h : AH) (S IT : Nat) (k : Nat) (F : Fr) (h' : AH) : Prop := ∃ (pos : Nat) (pre post : List Int), k = post.length ∧ cs = pre ++ post ∧ Chs l pos post ∧ F.at 4 = .ow S pre.length 0 pre.length ∧ F.at 14 = .iter IT ∧
  h'.get S = some (.cells 1 false (pre.map (PV.int .i64))) ∧ h'.get IT = some (.siter l pos) ∧ (∀ j, j < h.next → h'.get j = h.get j) ∧ S < h'.next ∧ IT < h'.next
theorem points_c (l : List UInt8) (hl : l.length ≤ 1073741824) (hv : validD l = true) (cs : List Int) (hcs : Chs l 0 cs) (h : AH) :
    ∃ id h', (∀ fr, CR Tryd.prog glob md 18 [.str l] h fr (.tup [.ow id cs.length 0 cs.length, .bool true]) (some h')) ∧ h'.get id = some (.cells 1 false (cs.map (PV.int .i64))) ∧ (∀ j, j < h.next → h'.get j = h.get j) ∧ h.next ≤ id ∧ id < h'.next := by
  have hlen := hcs.len
  have key : ∃ v h', (∀ fr, CR Tryd.prog glob md 18 [.str l] h fr v (some h')) ∧ ∃ id, v = .tup [.ow id cs.length 0 cs.length, .bool true] ∧ h'.get id = some (.cells 1 false (cs.map (PV.int .i64))) ∧ (∀ j, j < h.next → h'.get j = h.get j) ∧ h.next ≤ id ∧ id < h'.next := by
    refine CR.sh (rs := [.tmp 2, .tmp 3]) (Q := fun v h' => ∃ id, v = .tup [.ow id cs.length 0 cs.length, .bool true] ∧ h'.get id = some (.cells 1 false (cs.map (PV.int .i64))) ∧ (∀ j, j < h.next → h'.get j = h.get j) ∧ h.next ≤ id ∧ id < h'.next) Tryd.func18 rfl rfl rfl rfl ?_
    simp -implicitDefEqProofs only [wpC_seq, wpC_region, wpC_draw, wpC_cond, wpC_ret, wpC_skip, wpC_exit, wpC_block, wpC_label, wpO_go, wpQ_go, wantA_none, gdO_true, gdO_false, gdQ_true, gdQ_false, goO_q, goO_w, goQ_q, putA_some, putA_none, opnd, ofVal, ofVal1,
    wpO_nil, wpQ_nil, KN_eq, KQ_eq, KS_normal, KS_ret, KS_exit, KB_normal, KB_ret, KB_same, layArgs, Fr.at_set, aop_move, aop_assign, aop_pick, pickO_true, pickO_false, pickO_bool, aop_box, boxO_int, boxO_str, boxO_bool, aop_load, behind_ptr, behind_rop,
    behindO_one, aop_store, aop_index, aop_extract, extractO_0, extractO_1, extractO_2, aop_binOp, bin_add, bin_sub, bin_mul, bin_eql, bin_neq, bin_lss, bin_leq, bin_gtr, bin_geq, bin_seql, bin_sneq, aop_unOp, unO_not, aop_convert, aop_len,
    aop_call, callV_func, aop_slice, decide_true, decide_false, decide_not, wantA_some, yieldA_eq, List.getElem?_toArray, List.getElem?_cons_succ, List.getElem?_cons_zero, Option.bind_some, yieldD_some, wantY_bool, wantY_not, Nat.reduceAdd, reduceIte, Nat.reduceEqDiff,
    Nat.zero_add, Nat.add_zero, beq_self_eq_true, Bool.true_beq, Bool.false_beq, Bool.not_true, Bool.not_false, List.map_cons, List.map_nil, List.append_nil, List.nil_append, List.cons_append, Option.map_some, Option.map_none, Bool.false_eq_true, reduceCtorEq, EndV_normal, EndV_ret, RV_some, resA_tmp, resA_nil, resT_some, oneOf_one, oneOf_two, tup_two, int_same, bool_same, str_same, and_self, and_true, true_and, if_true, if_false, aop_buildSlice, AH.get_set, AH.get_up, AH.next_set, AH.next_up, next_empty, cellsOf_ow, cellsG, List.length_cons, List.length_nil, List.drop_zero, List.take_succ_cons, List.take_zero, Nat.reduceMul, Nat.le_refl, convG_some, List.all_cons, List.all_nil,
    byteC_int, Bool.and_self, toB_int, List.size_toArray, aop_idx, liveG_cells, storeO_ptr, stoG_int, List.set_cons_zero, List.set_cons_succ, behindO_cells, aop_append, aop_makeSlice, aop_len, liveB_ro, KL_normal, KL_ret, KL_exit, KI_normal, KI_ret, KI_exit, up_set, up_up, goO_known (runesValid_c l (by omega)), hv, len_str u9, make_0 u26 i3 z3 (show (0 : Int) ≤ (l.length : Int) by omega) (show (l.length : Int) ≤ 2 ^ 40 by omega) (show (l.length : Int) * (8 : Nat) ≤ 2 ^ 40 by omega), aop_range, range_str u9]
    generalize hSe : h.next + 5 + 2 = S
    generalize hIe : h.next + 9 + 1 = IT
    have hSI : ¬ (S = IT) := by omega
    have hIS : ¬ (IT = S) := by omega
    refine wpC_loop (inv18 l cs h S IT) (k := cs.length) ⟨0, [], cs, rfl, rfl, hcs, ?_, ?_, ?_, ?_, ?_, ?_, ?_⟩ ?_
    · simp only [Fr.at_set, Nat.reduceEqDiff, reduceIte, reduceCtorEq, List.length_nil]
    · simp only [Fr.at_set, Nat.reduceEqDiff, reduceIte, reduceCtorEq]
    · simp only [AH.get_set, hSI, if_true, if_false, List.map_nil]
    · simp only [AH.get_set, if_true]
    · intro j hj
      simp only [AH.get_set, AH.get_up, show ¬ (j = IT) by omega, show ¬ (j = S) by omega, if_false]
    · simp only [AH.next_set, AH.next_up]; omega
    · simp only [AH.next_set, AH.next_up]; omega
    rintro k F h' ⟨pos, pre, post, rfl, hcs2, hch, f4, f14, gS, gI, gk, nS, nI⟩
    have hS : ∀ k, ¬ (S = h'.next + k) := fun k => by omega
    have hI : ∀ k, ¬ (IT = h'.next + k) := fun k => by omega
    have hS' : ∀ k, ¬ (h'.next + k = S) := fun k => by omega
    have hI' : ∀ k, ¬ (h'.next + k = IT) := fun k => by omega
    cases hch with
    | done _ hp =>
      have hn : ∀ n, nextO (h'.up n) (.iter IT) = some (.q (.tup [.bool false])) := fun n => next_end (by rw [AH.get_up]; exact gI) (by omega)
      rw [List.append_nil] at hcs2
      subst hcs2
      simp -implicitDefEqProofs only [wpC_seq, wpC_region, wpC_draw, wpC_cond, wpC_ret, wpC_skip, wpC_exit, wpC_block, wpC_label, wpO_go, wpQ_go, wantA_none, gdO_true, gdO_false, gdQ_true, gdQ_false, goO_q, goO_w, goQ_q, putA_some, putA_none, opnd, ofVal, ofVal1,
    wpO_nil, wpQ_nil, KN_eq, KQ_eq, KS_normal, KS_ret, KS_exit, KB_normal, KB_ret, KB_same, layArgs, Fr.at_set, aop_move, aop_assign, aop_pick, pickO_true, pickO_false, pickO_bool, aop_box, boxO_int, boxO_str, boxO_bool, aop_load, behind_ptr, behind_rop,
    behindO_one, aop_store, aop_index, aop_extract, extractO_0, extractO_1, extractO_2, aop_binOp, bin_add, bin_sub, bin_mul, bin_eql, bin_neq, bin_lss, bin_leq, bin_gtr, bin_geq, bin_seql, bin_sneq, aop_unOp, unO_not, aop_convert, aop_len,
    aop_call, callV_func, aop_slice, decide_true, decide_false, decide_not, wantA_some, yieldA_eq, List.getElem?_toArray, List.getElem?_cons_succ, List.getElem?_cons_zero, Option.bind_some, yieldD_some, wantY_bool, wantY_not, Nat.reduceAdd, reduceIte, Nat.reduceEqDiff,
    Nat.zero_add, Nat.add_zero, beq_self_eq_true, Bool.true_beq, Bool.false_beq, Bool.not_true, Bool.not_false, List.map_cons, List.map_nil, List.append_nil, List.nil_append, List.cons_append, Option.map_some, Option.map_none, Bool.false_eq_true, reduceCtorEq, EndV_normal, EndV_ret, RV_some, resA_tmp, resA_nil, resT_some, oneOf_one, oneOf_two, tup_two, int_same, bool_same, str_same, and_self, and_true, true_and, if_true, if_false, aop_buildSlice, AH.get_set, AH.get_up, AH.next_set, AH.next_up, next_empty, cellsOf_ow, cellsG, List.length_cons, List.length_nil, List.drop_zero, List.take_succ_cons, List.take_zero, Nat.reduceMul, Nat.le_refl, convG_some, List.all_cons, List.all_nil,
    byteC_int, Bool.and_self, toB_int, List.size_toArray, aop_idx, liveG_cells, storeO_ptr, stoG_int, List.set_cons_zero, List.set_cons_succ, behindO_cells, aop_append, aop_makeSlice, aop_len, liveB_ro, KL_normal, KL_ret, KL_exit, KI_normal, KI_ret, KI_exit, EndS_normal, EndS_ret, RS_some, f4, f14, aop_nextS, hn]
      refine ⟨S, rfl, gS, fun j hj => gk j hj, by omega, by omega⟩
    | step _ c cs' ho hc hs =>
      have hpos := drop_ne ho.1
      have hr := decodeL_rune (l.drop pos)
      have hn : ∀ n, nextO (h'.up n) (.iter IT) = some (.w (.tup [.bool true, .int .i64 pos, .int .i32 c]) ((h'.up n).set IT (.siter l (pos + (decodeL (l.drop pos)).2)))) := fun n => by
        rw [next_more (by rw [AH.get_up]; exact gI) hpos, dec_at, hc]
      have w := IntWalk.i64_in c (by omega)
      have hpl : pre.length + 1 ≤ 1073741824 := by
        have := congrArg List.length hcs2
        rw [List.length_append, List.length_cons] at this
        omega
      have ha : ∀ (H : AH) (fr id : Nat), H.get S = some (.cells 1 false (pre.map (PV.int .i64))) → H.get id = some (.cells 1 false [.int .i64 c]) → appO Tryd.prog H fr [.ow S pre.length 0 pre.length, .ow id 1 0 1] [26, 26] =
          some (.w (.ow S (pre.length + 1) 0 (pre.length + 1)) (H.set S (.cells 1 false (pre.map (PV.int .i64) ++ [.int .i64 c])))) := fun H fr id q1 q2 =>
        app_ow u26 u26 (.inr ⟨_, rfl⟩) i3 rfl q1 (by simp) (by rw [cellsOf_ow, q2]; exact cellsG_all rfl) (by omega) (by omega) (by omega)
      simp -implicitDefEqProofs only [wpC_seq, wpC_region, wpC_draw, wpC_cond, wpC_ret, wpC_skip, wpC_exit, wpC_block, wpC_label, wpO_go, wpQ_go, wantA_none, gdO_true, gdO_false, gdQ_true, gdQ_false, goO_q, goO_w, goQ_q, putA_some, putA_none, opnd, ofVal, ofVal1,
    wpO_nil, wpQ_nil, KN_eq, KQ_eq, KS_normal, KS_ret, KS_exit, KB_normal, KB_ret, KB_same, layArgs, Fr.at_set, aop_move, aop_assign, aop_pick, pickO_true, pickO_false, pickO_bool, aop_box, boxO_int, boxO_str, boxO_bool, aop_load, behind_ptr, behind_rop,
    behindO_one, aop_store, aop_index, aop_extract, extractO_0, extractO_1, extractO_2, aop_binOp, bin_add, bin_sub, bin_mul, bin_eql, bin_neq, bin_lss, bin_leq, bin_gtr, bin_geq, bin_seql, bin_sneq, aop_unOp, unO_not, aop_convert, aop_len,
    aop_call, callV_func, aop_slice, decide_true, decide_false, decide_not, wantA_some, yieldA_eq, List.getElem?_toArray, List.getElem?_cons_succ, List.getElem?_cons_zero, Option.bind_some, yieldD_some, wantY_bool, wantY_not, Nat.reduceAdd, reduceIte, Nat.reduceEqDiff,
    Nat.zero_add, Nat.add_zero, beq_self_eq_true, Bool.true_beq, Bool.false_beq, Bool.not_true, Bool.not_false, List.map_cons, List.map_nil, List.append_nil, List.nil_append, List.cons_append, Option.map_some, Option.map_none, Bool.false_eq_true, reduceCtorEq, EndV_normal, EndV_ret, RV_some, resA_tmp, resA_nil, resT_some, oneOf_one, oneOf_two, tup_two, int_same, bool_same, str_same, and_self, and_true, true_and, if_true, if_false, aop_buildSlice, AH.get_set, AH.get_up, AH.next_set, AH.next_up, next_empty, cellsOf_ow, cellsG, List.length_cons, List.length_nil, List.drop_zero, List.take_succ_cons, List.take_zero, Nat.reduceMul, Nat.le_refl, convG_some, List.all_cons, List.all_nil,
    byteC_int, Bool.and_self, toB_int, List.size_toArray, aop_idx, liveG_cells, storeO_ptr, stoG_int, List.set_cons_zero, List.set_cons_succ, behindO_cells, aop_append, aop_makeSlice, aop_len, liveB_ro, KL_normal, KL_ret, KL_exit, KI_normal, KI_ret, KI_exit, up_set, up_up, Nat.add_assoc h'.next, f4, f14, aop_nextS, hn, conv_int u21 u3, w, build_1 u26 sz3 z3]
      rw [ha]
      rotate_left
      · simp only [AH.get_set, AH.get_up, hS, hSI, if_false, gS]
      · simp only [AH.get_set, if_true]
      simp -implicitDefEqProofs only [wpC_seq, wpC_region, wpC_draw, wpC_cond, wpC_ret, wpC_skip, wpC_exit, wpC_block, wpC_label, wpO_go, wpQ_go, wantA_none, gdO_true, gdO_false, gdQ_true, gdQ_false, goO_q, goO_w, goQ_q, putA_some, putA_none, opnd, ofVal, ofVal1,
    wpO_nil, wpQ_nil, KN_eq, KQ_eq, KS_normal, KS_ret, KS_exit, KB_normal, KB_ret, KB_same, layArgs, Fr.at_set, aop_move, aop_assign, aop_pick, pickO_true, pickO_false, pickO_bool, aop_box, boxO_int, boxO_str, boxO_bool, aop_load, behind_ptr, behind_rop,
    behindO_one, aop_store, aop_index, aop_extract, extractO_0, extractO_1, extractO_2, aop_binOp, bin_add, bin_sub, bin_mul, bin_eql, bin_neq, bin_lss, bin_leq, bin_gtr, bin_geq, bin_seql, bin_sneq, aop_unOp, unO_not, aop_convert, aop_len,
    aop_call, callV_func, aop_slice, decide_true, decide_false, decide_not, wantA_some, yieldA_eq, List.getElem?_toArray, List.getElem?_cons_succ, List.getElem?_cons_zero, Option.bind_some, yieldD_some, wantY_bool, wantY_not, Nat.reduceAdd, reduceIte, Nat.reduceEqDiff,
    Nat.zero_add, Nat.add_zero, beq_self_eq_true, Bool.true_beq, Bool.false_beq, Bool.not_true, Bool.not_false, List.map_cons, List.map_nil, List.append_nil, List.nil_append, List.cons_append, Option.map_some, Option.map_none, Bool.false_eq_true, reduceCtorEq, EndV_normal, EndV_ret, RV_some, resA_tmp, resA_nil, resT_some, oneOf_one, oneOf_two, tup_two, int_same, bool_same, str_same, and_self, and_true, true_and, if_true, if_false, aop_buildSlice, AH.get_set, AH.get_up, AH.next_set, AH.next_up, next_empty, cellsOf_ow, cellsG, List.length_cons, List.length_nil, List.drop_zero, List.take_succ_cons, List.take_zero, Nat.reduceMul, Nat.le_refl, convG_some, List.all_cons, List.all_nil,
    byteC_int, Bool.and_self, toB_int, List.size_toArray, aop_idx, liveG_cells, storeO_ptr, stoG_int, List.set_cons_zero, List.set_cons_succ, behindO_cells, aop_append, aop_makeSlice, aop_len, liveB_ro, KL_normal, KL_ret, KL_exit, KI_normal, KI_ret, KI_exit, up_set, up_up, Nat.add_assoc h'.next]
      refine ⟨cs'.length, by omega, pos + (decodeL (l.drop pos)).2, pre ++ [c], cs', rfl, by rw [hcs2]; simp, hs, ?_, ?_, ?_, ?_, ?_, ?_, ?_⟩
      · simp only [Fr.at_set, Nat.reduceEqDiff, reduceIte, reduceCtorEq, List.length_append, List.length_cons, List.length_nil]
      · simp only [Fr.at_set, Nat.reduceEqDiff, reduceIte, reduceCtorEq, f14]
      · simp only [AH.get_set, if_true, List.map_append, List.map_cons, List.map_nil]
      · simp only [AH.get_set, hIS, hI, if_true, if_false]
      · intro j hj
        simp only [AH.get_set, AH.get_up, show ¬ (j = IT) by omega, show ¬ (j = S) by omega, show ∀ k, ¬ (j = h'.next + k) from fun k => by omega, if_false, gk j hj]
      · simp only [AH.next_set, AH.next_up]; omega
      · simp only [AH.next_set, AH.next_up]; omega
  obtain ⟨v, h', k1, id, rfl, k2, k3, k4, k5⟩ := key
  exact ⟨id, h', k1, k2, k3, k4, k5⟩
end Go.Proofs.YtohmplfkieaecaaDoor
