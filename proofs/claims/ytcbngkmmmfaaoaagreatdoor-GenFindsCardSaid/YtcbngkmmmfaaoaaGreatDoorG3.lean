/-
  SCHEMA AND GEN, G3: rows of arguments, compared.
-/
import Derived.Test.YtcbngkmmmfaaoaaGreatDoorG2
namespace Go.Proofs.YtcbngkmmmfaaoaaGreatDoor
open Go.RowKit Go.Lib Go.Ac
set_option linter.unusedSimpArgs false
set_option maxRecDepth 100000
variable {mx : Int}

theorem g56 : Tryz.prog.eqGuardType Tryz.prog.depth 56 = false := by kernel_rfl
theorem eqS56 (p : Inp) : eqS Tryz.prog 50 56 p.pv p.pv = some true := by
  simp [eqS, Inp.pv, sz56, eqP, eqGo, Tryz.underlying56, Tryz.underlying31, show Tryz.prog.stoodInHeld 56 = false by kernel_rfl, show Tryz.prog.stoodInHeld 31 = false by kernel_rfl, sz31]
theorem ne56 (p : Inp) (h : AH) : binO Tryz.prog h .neq 56 (.agg p.pv) (.agg p.pv) = some (.q (.bool false)) := by
  have : sameV Tryz.prog 56 (.agg p.pv) (.agg p.pv) = some true := by
    simp only [sameV, Tryz.underlying56, g56, eqS56]
    rfl
  simp [binO, liveB, binV, this]
theorem ld56r (f : Inp) (r : List PV) : loadO Tryz.prog 56 (some (f.pv ++ r)) = some (.q (.agg f.pv)) := by
  rw [load_agg ag56 sz56 (by rw [List.length_append]; exact Nat.le_add_right 3 _), List.take_left' (show f.pv.length = 3 from rfl)]
/-- A row of arguments, as it may stand. -/
def ArgR (x : PV) (l : List Inp) : Prop := x = rowV Inp.pv l ∨ (l = [] ∧ (x = .nls ∨ x = .els ∨ x = .emp))
theorem ArgR.len {x : PV} {l : List Inp} (a : ArgR x l) : lenO Tryz.prog [x] [52] = some (.q (.int .i64 l.length)) := by
  rcases a with rfl | ⟨rfl, rfl | rfl | rfl⟩
  · exact len_ro u52
  all_goals simp [lenO, lenV, u52]
theorem ArgR.at {x : PV} {l : List Inp} (a : ArgR x l) {i : Int} {o : Inp} (h0 : 0 ≤ i) (ho : l[i.toNat]? = some o) : ∃ r, ∀ h, idaO Tryz.prog h 52 x (.int .i64 i) = some (.q (.rop (o.pv ++ r))) := by
  rcases a with rfl | ⟨rfl, _⟩
  · obtain ⟨r, hr⟩ := flat_drop (f := Inp.pv) (z := 3) (fun _ => rfl) l i.toNat o ho
    have := (List.getElem?_eq_some_iff.1 ho).1
    exact ⟨r, fun h => by rw [← hr]; exact ida_roN u52 sz56 h0 (by omega)⟩
  · simp at ho
theorem ArgR.clean {x : PV} {l : List Inp} (a : ArgR x l) : x.clean = true := by
  rcases a with rfl | ⟨rfl, rfl | rfl | rfl⟩ <;> rfl
def invIns (x y : PV) (n : Nat) (k : Nat) (F : Fr) (_ : AH) : Prop := ∃ i : Nat, i + k = n ∧ F.at 0 = x ∧ F.at 1 = y ∧ F.at 5 = .int .i64 i
theorem sameIns_c {x y : PV} {l : List Inp} (hx : ArgR x l) (hy : ArgR y l) (hl : l.length ≤ 9223372036854775807) (h : AH) (fr : Nat) : CR Tryz.prog (globM mx) md (.fn 71) [x, y] h fr (.val (.bool true)) := by
  refine CR.plain (rs := [.tmp 4]) Tryz.func71 rfl rfl rfl rfl rfl (by simp [PV.cleans, hx.clean, hy.clean]) rfl ?_ h fr
  simp -implicitDefEqProofs only [wpC_seq, wpC_region, wpC_draw, outX_normal, wpC_cond, wpC_ret, wpC_skip, wpC_exit, wpC_block, wpC_label, wpO_go, wpD_go, wantA_none, gdO_true, gdO_false, gdD_true, gdD_false, goO_q, goO_w, goD_q, goD_new, putA_some, putA_none, opnd, ofVal, ofVal1,
    wpO_nil, wpD_nil, KS_normal, KS_ret, KS_exit, KB_normal, KB_ret, KB_same, layArgs, Fr.at_set, boxO_agg, aop_makeFunc, aop_move, aop_assign, aop_pick, pickO_true, pickO_false, pickO_bool, aop_box, boxO_int, boxO_str, boxO_bool, aop_load, behind_ptr, behind_rop,
    behindO_one, aop_store, aop_index, aop_extract, extractO_0, extractO_1, extractO_2, aop_binOp, bin_add, bin_sub, bin_mul, bin_eql, bin_neq, bin_lss, bin_leq, bin_gtr, bin_geq, bin_seql, bin_sneq, aop_unOp, unO_not, aop_convert, aop_len,
    aop_call, callV_func, aop_slice, decide_true, decide_false, decide_not, wantA_some, yieldA_eq, List.getElem?_toArray, List.getElem?_cons_succ, List.getElem?_cons_zero, Option.bind_some, yieldD_some, wantY_bool, wantY_not, Nat.reduceAdd, reduceIte, Nat.reduceEqDiff,
    Nat.zero_add, Nat.add_zero, beq_self_eq_true, Bool.true_beq, Bool.false_beq, Bool.not_true, Bool.not_false, List.map_cons, List.map_nil, List.append_nil, List.nil_append, List.cons_append, Option.map_some, Option.map_none, Bool.false_eq_true, reduceCtorEq, EndV_normal, EndV_ret, RS_some, resA_tmp, resA_nil, resA_cell, resL_some, resT_some, oneOf_one, oneOf_two, oneOf_none, EndS_normal, EndS_ret, tup_two, int_same, bool_same, str_same, and_self, and_true, true_and, if_true, if_false, aop_buildSlice, List.drop_succ_cons, AH.get_set, AH.get_up, AH.next_set, AH.next_up, next_empty, cellsOf_ow, cellsG, List.length_cons, List.length_nil, List.drop_zero, List.take_succ_cons, List.take_zero, Nat.reduceMul, Nat.le_refl, convG_some, List.all_cons, List.all_nil,
    byteC_int, Bool.and_self, toB_int, List.size_toArray, aop_idx, liveG_cells, storeO_ptr, stoG_int, List.set_cons_zero, List.set_cons_succ, behindO_cells, aop_append, aop_makeSlice, aop_len, liveB_ro, aop_fieldAddr, aop_nilCheck, aop_field, aop_build, KI_normal, KI_ret, KI_exit, hx.len, hy.len]
  refine wpC_loop (invIns x y l.length) (k := l.length) ⟨0, by omega, ?_, ?_, ?_⟩ ?_
  · simp only [Fr.at_set, Nat.reduceEqDiff, reduceIte, reduceCtorEq]
  · simp only [Fr.at_set, Nat.reduceEqDiff, reduceIte, reduceCtorEq]
  · simp only [Fr.at_set, Nat.reduceEqDiff, reduceIte, reduceCtorEq]; rfl
  rintro k F h' ⟨i, hi, f0, f1, f5⟩
  cases k with
  | zero =>
    have c1 : decide ((i : Int) < (l.length : Int)) = false := decide_eq_false (by omega)
    simp -implicitDefEqProofs only [wpC_seq, wpC_region, wpC_draw, outX_normal, wpC_cond, wpC_ret, wpC_skip, wpC_exit, wpC_block, wpC_label, wpO_go, wpD_go, wantA_none, gdO_true, gdO_false, gdD_true, gdD_false, goO_q, goO_w, goD_q, goD_new, putA_some, putA_none, opnd, ofVal, ofVal1,
    wpO_nil, wpD_nil, KS_normal, KS_ret, KS_exit, KB_normal, KB_ret, KB_same, layArgs, Fr.at_set, boxO_agg, aop_makeFunc, aop_move, aop_assign, aop_pick, pickO_true, pickO_false, pickO_bool, aop_box, boxO_int, boxO_str, boxO_bool, aop_load, behind_ptr, behind_rop,
    behindO_one, aop_store, aop_index, aop_extract, extractO_0, extractO_1, extractO_2, aop_binOp, bin_add, bin_sub, bin_mul, bin_eql, bin_neq, bin_lss, bin_leq, bin_gtr, bin_geq, bin_seql, bin_sneq, aop_unOp, unO_not, aop_convert, aop_len,
    aop_call, callV_func, aop_slice, decide_true, decide_false, decide_not, wantA_some, yieldA_eq, List.getElem?_toArray, List.getElem?_cons_succ, List.getElem?_cons_zero, Option.bind_some, yieldD_some, wantY_bool, wantY_not, Nat.reduceAdd, reduceIte, Nat.reduceEqDiff,
    Nat.zero_add, Nat.add_zero, beq_self_eq_true, Bool.true_beq, Bool.false_beq, Bool.not_true, Bool.not_false, List.map_cons, List.map_nil, List.append_nil, List.nil_append, List.cons_append, Option.map_some, Option.map_none, Bool.false_eq_true, reduceCtorEq, EndV_normal, EndV_ret, RS_some, resA_tmp, resA_nil, resA_cell, resL_some, resT_some, oneOf_one, oneOf_two, oneOf_none, EndS_normal, EndS_ret, tup_two, int_same, bool_same, str_same, and_self, and_true, true_and, if_true, if_false, aop_buildSlice, List.drop_succ_cons, AH.get_set, AH.get_up, AH.next_set, AH.next_up, next_empty, cellsOf_ow, cellsG, List.length_cons, List.length_nil, List.drop_zero, List.take_succ_cons, List.take_zero, Nat.reduceMul, Nat.le_refl, convG_some, List.all_cons, List.all_nil,
    byteC_int, Bool.and_self, toB_int, List.size_toArray, aop_idx, liveG_cells, storeO_ptr, stoG_int, List.set_cons_zero, List.set_cons_succ, behindO_cells, aop_append, aop_makeSlice, aop_len, liveB_ro, aop_fieldAddr, aop_nilCheck, aop_field, aop_build, KI_normal, KI_ret, KI_exit, f0, f1, f5, hx.len, c1]
  | succ k =>
    have c1 : decide ((i : Int) < (l.length : Int)) = true := decide_eq_true (by omega)
    obtain ⟨o, ho⟩ : ∃ o, l[i]? = some o := ⟨l[i], List.getElem?_eq_getElem (by omega)⟩
    obtain ⟨r1, hr1⟩ := hx.at (i := (i : Int)) (by omega) (by rw [Int.toNat_natCast]; exact ho)
    obtain ⟨r2, hr2⟩ := hy.at (i := (i : Int)) (by omega) (by rw [Int.toNat_natCast]; exact ho)
    have w := IntWalk.i64_in ((i : Int) + 1) (by omega)
    simp -implicitDefEqProofs only [wpC_seq, wpC_region, wpC_draw, outX_normal, wpC_cond, wpC_ret, wpC_skip, wpC_exit, wpC_block, wpC_label, wpO_go, wpD_go, wantA_none, gdO_true, gdO_false, gdD_true, gdD_false, goO_q, goO_w, goD_q, goD_new, putA_some, putA_none, opnd, ofVal, ofVal1,
    wpO_nil, wpD_nil, KS_normal, KS_ret, KS_exit, KB_normal, KB_ret, KB_same, layArgs, Fr.at_set, boxO_agg, aop_makeFunc, aop_move, aop_assign, aop_pick, pickO_true, pickO_false, pickO_bool, aop_box, boxO_int, boxO_str, boxO_bool, aop_load, behind_ptr, behind_rop,
    behindO_one, aop_store, aop_index, aop_extract, extractO_0, extractO_1, extractO_2, aop_binOp, bin_add, bin_sub, bin_mul, bin_eql, bin_neq, bin_lss, bin_leq, bin_gtr, bin_geq, bin_seql, bin_sneq, aop_unOp, unO_not, aop_convert, aop_len,
    aop_call, callV_func, aop_slice, decide_true, decide_false, decide_not, wantA_some, yieldA_eq, List.getElem?_toArray, List.getElem?_cons_succ, List.getElem?_cons_zero, Option.bind_some, yieldD_some, wantY_bool, wantY_not, Nat.reduceAdd, reduceIte, Nat.reduceEqDiff,
    Nat.zero_add, Nat.add_zero, beq_self_eq_true, Bool.true_beq, Bool.false_beq, Bool.not_true, Bool.not_false, List.map_cons, List.map_nil, List.append_nil, List.nil_append, List.cons_append, Option.map_some, Option.map_none, Bool.false_eq_true, reduceCtorEq, EndV_normal, EndV_ret, RS_some, resA_tmp, resA_nil, resA_cell, resL_some, resT_some, oneOf_one, oneOf_two, oneOf_none, EndS_normal, EndS_ret, tup_two, int_same, bool_same, str_same, and_self, and_true, true_and, if_true, if_false, aop_buildSlice, List.drop_succ_cons, AH.get_set, AH.get_up, AH.next_set, AH.next_up, next_empty, cellsOf_ow, cellsG, List.length_cons, List.length_nil, List.drop_zero, List.take_succ_cons, List.take_zero, Nat.reduceMul, Nat.le_refl, convG_some, List.all_cons, List.all_nil,
    byteC_int, Bool.and_self, toB_int, List.size_toArray, aop_idx, liveG_cells, storeO_ptr, stoG_int, List.set_cons_zero, List.set_cons_succ, behindO_cells, aop_append, aop_makeSlice, aop_len, liveB_ro, aop_fieldAddr, aop_nilCheck, aop_field, aop_build, KI_normal, KI_ret, KI_exit, f0, f1, f5, hx.len, c1, hr1, hr2, ld56r, ne56, w]
    refine ⟨k, by omega, i + 1, by omega, ?_, ?_, ?_⟩
    · simp only [Fr.at_set, Nat.reduceEqDiff, reduceIte, reduceCtorEq, f0]
    · simp only [Fr.at_set, Nat.reduceEqDiff, reduceIte, reduceCtorEq, f1]
    · simp only [Fr.at_set, Nat.reduceEqDiff, reduceIte, reduceCtorEq]; rfl
end Go.Proofs.YtcbngkmmmfaaoaaGreatDoor
