/-
  SCHEMA AND GEN, G6: rows of arguments, copied.
-/
import Derived.Test.YtcbngkmmmfaaoaaGreatDoorG5
namespace Go.Proofs.YtcbngkmmmfaaoaaGreatDoor
open Go.RowKit Go.Lib Go.Ac
set_option linter.unusedSimpArgs false
set_option maxRecDepth 100000
variable {mx : Int}

theorem nil52 (h : AH) : binO Tryz.prog h .eql 52 .nls .nls = some (.q (.bool true)) := by simp [binO, liveB, binV, sameV, u52]
theorem nil52e (h : AH) : binO Tryz.prog h .eql 52 .emp .nls = some (.q (.bool false)) := by simp [binO, liveB, binV, sameV, u52]
theorem nil52r (h : AH) (c : List PV) (n : Nat) (hn : 0 < n) : binO Tryz.prog h .eql 52 (.ro c n) .nls = some (.q (.bool false)) := by
  cases n with
  | zero => omega
  | succ n => simp [binO, liveB, binV, sameV, u52]
theorem bd52 (fr : Nat) : buildO Tryz.prog fr 52 0 [] = some (.w .els fr (.cells 56 3 false [])) := by kernel_rfl
theorem i56 : (Tryz.prog.info? 56).map (fun i => (i.size, i.bytes, i.zero.map (·.cells.size))) = some (3, 48, some 3) := by kernel_rfl
theorem ap52e (h : AH) (fr : Nat) : appO Tryz.prog h fr [.els, .emp] [52, 52] = some (.q .els) := by
  cases hi : Tryz.prog.info? 56 with
  | none => have := i56; rw [hi] at this; simp at this
  | some i =>
    have e := i56
    rw [hi] at e
    simp only [Option.map_some, Option.some.injEq, Prod.mk.injEq] at e
    obtain ⟨e1, e2, e3⟩ := e
    obtain ⟨z, hz, hzs⟩ := Option.map_eq_some_iff.1 e3
    simp [appO, u52, appendV, hi, hz, e1, hzs, cellsOf]
theorem ap52r (h : AH) (fr : Nat) (c : List PV) (n : Nat) (hc : c.length = n * 3) (h0 : 0 < n) (hb : n * 48 ≤ 2 ^ 47) : appO Tryz.prog h fr [.els, .ro c n] [52, 52] = some (.w (.ow fr (n * 3) 0 n) fr (.cells 56 3 false c)) := by
  cases hi : Tryz.prog.info? 56 with
  | none => have := i56; rw [hi] at this; simp at this
  | some i =>
    have e := i56
    rw [hi] at e
    simp only [Option.map_some, Option.some.injEq, Prod.mk.injEq] at e
    obtain ⟨e1, e2, e3⟩ := e
    obtain ⟨z, hz, hzs⟩ := Option.map_eq_some_iff.1 e3
    simp only [appO, u52, appendV, hi, hz, e1, hzs, cellsOf, hc, e2, if_true]
    rw [if_neg (by omega), if_neg (by omega), if_pos ⟨hb, by omega⟩]
theorem cloneN_c (h : AH) (fr : Nat) : CR Tryz.prog (globM mx) md (.fn 74) [.nls] h fr (.val .nls) := by
  refine CR.ownV Tryz.func74 rfl rfl rfl rfl (ends_of (rs := [.tmp 2]) (Q := fun u _ => u = .nls) rfl rfl (fun u h' e => ⟨u, h', h', rfl, fun _ _ _ _ q => (by rw [e] at q; cases q), by rw [e]; rfl⟩) ?_) h fr
  simp -implicitDefEqProofs only [wpC_seq, wpC_region, wpC_draw, outX_normal, wpC_cond, wpC_ret, wpC_skip, wpC_exit, wpC_block, wpC_label, wpO_go, wpD_go, wantA_none, gdO_true, gdO_false, gdD_true, gdD_false, goO_q, goO_w, goD_q, goD_new, putA_some, putA_none, opnd, ofVal, ofVal1,
    wpO_nil, wpD_nil, KS_normal, KS_ret, KS_exit, KB_normal, KB_ret, KB_same, layArgs, Fr.at_set, boxO_agg, aop_makeFunc, aop_move, aop_assign, aop_pick, pickO_true, pickO_false, pickO_bool, aop_box, boxO_int, boxO_str, boxO_bool, aop_load, behind_ptr, behind_rop,
    behindO_one, aop_store, aop_index, aop_extract, extractO_0, extractO_1, extractO_2, aop_binOp, bin_add, bin_sub, bin_mul, bin_eql, bin_neq, bin_lss, bin_leq, bin_gtr, bin_geq, bin_seql, bin_sneq, aop_unOp, unO_not, aop_convert, aop_len,
    aop_call, callV_func, aop_slice, decide_true, decide_false, decide_not, wantA_some, yieldA_eq, List.getElem?_toArray, List.getElem?_cons_succ, List.getElem?_cons_zero, Option.bind_some, yieldD_some, wantY_bool, wantY_not, Nat.reduceAdd, reduceIte, Nat.reduceEqDiff,
    Nat.zero_add, Nat.add_zero, beq_self_eq_true, Bool.true_beq, Bool.false_beq, Bool.not_true, Bool.not_false, List.map_cons, List.map_nil, List.append_nil, List.nil_append, List.cons_append, Option.map_some, Option.map_none, Bool.false_eq_true, reduceCtorEq, EndV_normal, EndV_ret, RS_some, resA_tmp, resA_nil, resA_cell, resL_some, resT_some, oneOf_one, oneOf_two, oneOf_none, EndS_normal, EndS_ret, tup_two, int_same, bool_same, str_same, and_self, and_true, true_and, if_true, if_false, aop_buildSlice, List.drop_succ_cons, AH.get_set, AH.get_up, AH.next_set, AH.next_up, next_empty, cellsOf_ow, cellsG, List.length_cons, List.length_nil, List.drop_zero, List.take_succ_cons, List.take_zero, Nat.reduceMul, Nat.le_refl, convG_some, List.all_cons, List.all_nil,
    byteC_int, Bool.and_self, toB_int, List.size_toArray, aop_idx, liveG_cells, storeO_ptr, stoG_int, List.set_cons_zero, List.set_cons_succ, behindO_cells, aop_append, aop_makeSlice, aop_len, liveB_ro, aop_fieldAddr, aop_nilCheck, aop_field, aop_build, KI_normal, KI_ret, KI_exit, nil52]
theorem cloneE_c (h : AH) (fr : Nat) : CR Tryz.prog (globM mx) md (.fn 74) [.emp] h fr (.val .els) := by
  refine CR.ownV Tryz.func74 rfl rfl rfl rfl (ends_of (rs := [.tmp 2]) (Q := fun u _ => u = .els) rfl rfl (fun u h' e => ⟨u, h', h', rfl, fun _ _ _ _ q => (by rw [e] at q; cases q), by rw [e]; rfl⟩) ?_) h fr
  simp -implicitDefEqProofs only [wpC_seq, wpC_region, wpC_draw, outX_normal, wpC_cond, wpC_ret, wpC_skip, wpC_exit, wpC_block, wpC_label, wpO_go, wpD_go, wantA_none, gdO_true, gdO_false, gdD_true, gdD_false, goO_q, goO_w, goD_q, goD_new, putA_some, putA_none, opnd, ofVal, ofVal1,
    wpO_nil, wpD_nil, KS_normal, KS_ret, KS_exit, KB_normal, KB_ret, KB_same, layArgs, Fr.at_set, boxO_agg, aop_makeFunc, aop_move, aop_assign, aop_pick, pickO_true, pickO_false, pickO_bool, aop_box, boxO_int, boxO_str, boxO_bool, aop_load, behind_ptr, behind_rop,
    behindO_one, aop_store, aop_index, aop_extract, extractO_0, extractO_1, extractO_2, aop_binOp, bin_add, bin_sub, bin_mul, bin_eql, bin_neq, bin_lss, bin_leq, bin_gtr, bin_geq, bin_seql, bin_sneq, aop_unOp, unO_not, aop_convert, aop_len,
    aop_call, callV_func, aop_slice, decide_true, decide_false, decide_not, wantA_some, yieldA_eq, List.getElem?_toArray, List.getElem?_cons_succ, List.getElem?_cons_zero, Option.bind_some, yieldD_some, wantY_bool, wantY_not, Nat.reduceAdd, reduceIte, Nat.reduceEqDiff,
    Nat.zero_add, Nat.add_zero, beq_self_eq_true, Bool.true_beq, Bool.false_beq, Bool.not_true, Bool.not_false, List.map_cons, List.map_nil, List.append_nil, List.nil_append, List.cons_append, Option.map_some, Option.map_none, Bool.false_eq_true, reduceCtorEq, EndV_normal, EndV_ret, RS_some, resA_tmp, resA_nil, resA_cell, resL_some, resT_some, oneOf_one, oneOf_two, oneOf_none, EndS_normal, EndS_ret, tup_two, int_same, bool_same, str_same, and_self, and_true, true_and, if_true, if_false, aop_buildSlice, List.drop_succ_cons, AH.get_set, AH.get_up, AH.next_set, AH.next_up, next_empty, cellsOf_ow, cellsG, List.length_cons, List.length_nil, List.drop_zero, List.take_succ_cons, List.take_zero, Nat.reduceMul, Nat.le_refl, convG_some, List.all_cons, List.all_nil,
    byteC_int, Bool.and_self, toB_int, List.size_toArray, aop_idx, liveG_cells, storeO_ptr, stoG_int, List.set_cons_zero, List.set_cons_succ, behindO_cells, aop_append, aop_makeSlice, aop_len, liveB_ro, aop_fieldAddr, aop_nilCheck, aop_field, aop_build, KI_normal, KI_ret, KI_exit, nil52e, bd52, ap52e]
theorem cloneR_c (l : List Inp) (h0 : 0 < l.length) (hb : l.length * 48 ≤ 2 ^ 47) (h : AH) (fr : Nat) : CR Tryz.prog (globM mx) md (.fn 74) [rowV Inp.pv l] h fr (.new (.ow fr (l.length * 3) 0 l.length) (.cells 56 3 false (flat Inp.pv l))) := by
  have hlen : (flat Inp.pv l).length = l.length * 3 := flat_len (f := Inp.pv) (z := 3) (fun _ => rfl) l
  refine CR.own Tryz.func74 rfl rfl rfl rfl (ends_of (rs := [.tmp 2]) (Q := fun u h' => ∃ id, u = .ow id (l.length * 3) 0 l.length ∧ h'.get id = some (.cells 56 3 false (flat Inp.pv l))) rfl rfl ?_ ?_) h fr
  · rintro u h' ⟨id, rfl, hg⟩
    exact ⟨id, h', _, h', _, rfl, hg, hlen, frzL_clean _ _ (flat_clean Inp.cl l), ⟨_, hg⟩, rfl⟩
  · simp -implicitDefEqProofs only [wpC_seq, wpC_region, wpC_draw, outX_normal, wpC_cond, wpC_ret, wpC_skip, wpC_exit, wpC_block, wpC_label, wpO_go, wpD_go, wantA_none, gdO_true, gdO_false, gdD_true, gdD_false, goO_q, goO_w, goD_q, goD_new, putA_some, putA_none, opnd, ofVal, ofVal1,
    wpO_nil, wpD_nil, KS_normal, KS_ret, KS_exit, KB_normal, KB_ret, KB_same, layArgs, Fr.at_set, boxO_agg, aop_makeFunc, aop_move, aop_assign, aop_pick, pickO_true, pickO_false, pickO_bool, aop_box, boxO_int, boxO_str, boxO_bool, aop_load, behind_ptr, behind_rop,
    behindO_one, aop_store, aop_index, aop_extract, extractO_0, extractO_1, extractO_2, aop_binOp, bin_add, bin_sub, bin_mul, bin_eql, bin_neq, bin_lss, bin_leq, bin_gtr, bin_geq, bin_seql, bin_sneq, aop_unOp, unO_not, aop_convert, aop_len,
    aop_call, callV_func, aop_slice, decide_true, decide_false, decide_not, wantA_some, yieldA_eq, List.getElem?_toArray, List.getElem?_cons_succ, List.getElem?_cons_zero, Option.bind_some, yieldD_some, wantY_bool, wantY_not, Nat.reduceAdd, reduceIte, Nat.reduceEqDiff,
    Nat.zero_add, Nat.add_zero, beq_self_eq_true, Bool.true_beq, Bool.false_beq, Bool.not_true, Bool.not_false, List.map_cons, List.map_nil, List.append_nil, List.nil_append, List.cons_append, Option.map_some, Option.map_none, Bool.false_eq_true, reduceCtorEq, EndV_normal, EndV_ret, RS_some, resA_tmp, resA_nil, resA_cell, resL_some, resT_some, oneOf_one, oneOf_two, oneOf_none, EndS_normal, EndS_ret, tup_two, int_same, bool_same, str_same, and_self, and_true, true_and, if_true, if_false, aop_buildSlice, List.drop_succ_cons, AH.get_set, AH.get_up, AH.next_set, AH.next_up, next_empty, cellsOf_ow, cellsG, List.length_cons, List.length_nil, List.drop_zero, List.take_succ_cons, List.take_zero, Nat.reduceMul, Nat.le_refl, convG_some, List.all_cons, List.all_nil,
    byteC_int, Bool.and_self, toB_int, List.size_toArray, aop_idx, liveG_cells, storeO_ptr, stoG_int, List.set_cons_zero, List.set_cons_succ, behindO_cells, aop_append, aop_makeSlice, aop_len, liveB_ro, aop_fieldAddr, aop_nilCheck, aop_field, aop_build, KI_normal, KI_ret, KI_exit, rowV, nil52r _ _ _ h0, bd52, ap52r _ _ _ _ hlen h0 hb]
    exact ⟨_, rfl, by simp only [AH.get_set, if_true]⟩
end Go.Proofs.YtcbngkmmmfaaoaaGreatDoor
