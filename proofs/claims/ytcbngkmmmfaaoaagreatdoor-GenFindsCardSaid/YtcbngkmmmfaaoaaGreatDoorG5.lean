/-
  SCHEMA AND GEN, G5: which field that is, as the reference has it.
-/
import Derived.Test.YtcbngkmmmfaaoaaGreatDoorG4
import Derived.Test.YtcbngkmmmfaaoaaGreatDoorS4
namespace Go.Proofs.YtcbngkmmmfaaoaaGreatDoor
open Go.RowKit Go.Lib Go.Ac
set_option linter.unusedSimpArgs false
set_option maxRecDepth 100000
variable {mx : Int}

theorem z58 : tyZero Tryz.prog 58 = some [.str [], .str [], .str [], .nls] := by kernel_rfl
theorem al58 {ρ : Operand → PV} {h : AH} {fr : Nat} {d : Option Tmp} {ty : TypeId} {ps : String} {af : Array Edge} {gu : Option (Nat × Bool)} : aop Tryz.prog ρ h fr ⟨d, .alloc 58, ty, ps, af, gu⟩ = some (.w (.ptr fr 4 0) fr (.cells 58 0 false (outC [] [] [] .nls))) := by
  rw [aop_alloc, z58]
  rfl
theorem st58 (n t w : List UInt8) (x : PV) (id : Nat) (c : List PV) (hc : c.length = 4) : stoG id 4 0 (.agg (outC n t w x)) 4 (some (.cells 58 0 false c)) = some (.w .undef id (.cells 58 0 false (outC n t w x))) := stoG_all id 4 0 58 (.agg (outC n t w x)) c hc rfl rfl
theorem ld58 (n t w : List UInt8) (x : PV) : loadO Tryz.prog 58 (some (outC n t w x)) = some (.q (.agg (outC n t w x))) := load_agg (c := outC n t w x) ag58 sz58 (Nat.le_refl 4)
theorem bl58n (a b c : List UInt8) : bldO Tryz.prog 58 [(0, .str a), (1, .agg [.str b, .str c]), (2, .nls)] = some (.q (.agg (outC a b c .nls))) := by kernel_rfl
theorem bl58 (a b c : List UInt8) : bldO Tryz.prog 58 [(0, .str a), (1, .agg [.str b, .str c])] = some (.q (.agg (outC a b c .nls))) := by kernel_rfl
theorem bl58z : bldO Tryz.prog 58 [] = some (.q (.agg (outC [] [] [] .nls))) := by kernel_rfl
theorem refOutN_c (a b c : List UInt8) (h : AH) (fr : Nat) : CR Tryz.prog (globM mx) md (.fn 61) [.str a, .str b, .str c, .nls] h fr (.val (.agg (outC a b c .nls))) := by
  refine CR.frozen (rs := [.cell 8 58]) Tryz.func61 rfl rfl rfl rfl rfl rfl ?_ h fr
  simp -implicitDefEqProofs only [wpC_seq, wpC_region, wpC_draw, outX_normal, wpC_cond, wpC_ret, wpC_skip, wpC_exit, wpC_block, wpC_label, wpO_go, wpD_go, wantA_none, gdO_true, gdO_false, gdD_true, gdD_false, goO_q, goO_w, goD_q, goD_new, putA_some, putA_none, opnd, ofVal, ofVal1,
    wpO_nil, wpD_nil, KS_normal, KS_ret, KS_exit, KB_normal, KB_ret, KB_same, layArgs, Fr.at_set, boxO_agg, aop_makeFunc, aop_move, aop_assign, aop_pick, pickO_true, pickO_false, pickO_bool, aop_box, boxO_int, boxO_str, boxO_bool, aop_load, behind_ptr, behind_rop,
    behindO_one, aop_store, aop_index, aop_extract, extractO_0, extractO_1, extractO_2, aop_binOp, bin_add, bin_sub, bin_mul, bin_eql, bin_neq, bin_lss, bin_leq, bin_gtr, bin_geq, bin_seql, bin_sneq, aop_unOp, unO_not, aop_convert, aop_len,
    aop_call, callV_func, aop_slice, decide_true, decide_false, decide_not, wantA_some, yieldA_eq, List.getElem?_toArray, List.getElem?_cons_succ, List.getElem?_cons_zero, Option.bind_some, yieldD_some, wantY_bool, wantY_not, Nat.reduceAdd, reduceIte, Nat.reduceEqDiff,
    Nat.zero_add, Nat.add_zero, beq_self_eq_true, Bool.true_beq, Bool.false_beq, Bool.not_true, Bool.not_false, List.map_cons, List.map_nil, List.append_nil, List.nil_append, List.cons_append, Option.map_some, Option.map_none, Bool.false_eq_true, reduceCtorEq, EndV_normal, EndV_ret, RS_some, resA_tmp, resA_nil, resA_cell, resL_some, resT_some, oneOf_one, oneOf_two, oneOf_none, EndS_normal, EndS_ret, tup_two, int_same, bool_same, str_same, and_self, and_true, true_and, if_true, if_false, aop_buildSlice, List.drop_succ_cons, AH.get_set, AH.get_up, AH.next_set, AH.next_up, next_empty, cellsOf_ow, cellsG, List.length_cons, List.length_nil, List.drop_zero, List.take_succ_cons, List.take_zero, Nat.reduceMul, Nat.le_refl, convG_some, List.all_cons, List.all_nil,
    byteC_int, Bool.and_self, toB_int, List.size_toArray, aop_idx, liveG_cells, storeO_ptr, stoG_int, List.set_cons_zero, List.set_cons_succ, behindO_cells, aop_append, aop_makeSlice, aop_len, liveB_ro, aop_fieldAddr, aop_nilCheck, aop_field, aop_build, KI_normal, KI_ret, KI_exit, al58, bl31, bl58n, sz58, st58, outC_len, ld58]
  exact ⟨_, frz_clean _ rfl⟩

def typenameL : List UInt8 := [95, 95, 116, 121, 112, 101, 110, 97, 109, 101]
def stringL : List UInt8 := [83, 116, 114, 105, 110, 103]
structure Fnd where
  n : List UInt8
  t : List UInt8
  w : List UInt8
  args : Option (List Inp)
  b : Bool
def Fnd.none : Fnd := ⟨[], [], [], Option.none, false⟩
def outAt (o : Df) (x : List UInt8) : Int := idx (fun p => decide (p.n = x)) o.outs 0
/-- Which field that is. -/
def outOf (l : List Df) (d x : List UInt8) : Fnd :=
  if defAt l d < 0 then Fnd.none else match l[(defAt l d).toNat]? with
    | Option.none => Fnd.none
    | some o => if o.k = 2 then (if x = typenameL then ⟨x, stringL, [33], Option.none, true⟩ else if outAt o x < 0 then Fnd.none else match o.outs[(outAt o x).toNat]? with
      | Option.none => Fnd.none
      | some p => ⟨p.n, p.t, p.w, p.args, true⟩) else Fnd.none
theorem ld58r (p : Outp) (r : List PV) : loadO Tryz.prog 58 (some (p.pv ++ r)) = some (.q (.agg (outC p.n p.t p.w (rowO Inp.pv p.args)))) := by
  rw [load_agg ag58 sz58 (by rw [List.length_append]; exact Nat.le_add_right 4 _), List.take_left' (show p.pv.length = 4 from rfl)]
  rfl
theorem ld9pr (o : Outp) (r : List PV) : loadO Tryz.prog 9 (some (o.pv ++ r)) = some (.q (.str o.n)) := loadO_one ag9 sz9
def invRefO (l : List Df) (o : Df) (j : Int) (x : List UInt8) (k : Nat) (F : Fr) (h : AH) : Prop := ∃ i : Nat, i + k = o.outs.length ∧ F.at 0 = rowV Df.pv l ∧ F.at 2 = .str x ∧ F.at 6 = .ptr 0 4 0 ∧ F.at 8 = .int .i64 j ∧ F.at 9 = .int .i64 i ∧ h.get 0 = some (.cells 58 0 false (outC [] [] [] .nls)) ∧ idx (fun p => decide (p.n = x)) (o.outs.drop i) i = outAt o x
theorem refOut_c (l : List Df) (hs : l.length ≤ 9223372036854775807) (ho : ∀ o ∈ l, o.outs.length ≤ 9223372036854775807) (d x : List UInt8) (h : AH) (fr : Nat) :
    CR Tryz.prog (globM mx) md (.fn 32) [rowV Df.pv l, .str d, .str x] h fr (.val (.tup [.agg (outC (outOf l d x).n (outOf l d x).t (outOf l d x).w (rowO Inp.pv (outOf l d x).args)), .bool (outOf l d x).b])) := by
  refine CR.frozen (rs := [.cell 6 58, .tmp 7]) Tryz.func32 rfl rfl rfl rfl rfl rfl ?_ h fr
  have fin : ∀ (a b c : List UInt8) (y : PV) (t : Bool) (h : AH), y.clean = true → ∃ h'', frz 100 (.tup [.agg (outC a b c y), .bool t]) h = some (.tup [.agg (outC a b c y), .bool t], h'') := fun a b c y t h hy => ⟨h, frz_clean h (by simp [PV.clean, PV.cleans, outC, hy])⟩
  by_cases c1 : defAt l d < 0
  · have e : outOf l d x = Fnd.none := by simp [outOf, c1]
    rw [e]
    simp -implicitDefEqProofs only [wpC_seq, wpC_region, wpC_draw, outX_normal, wpC_cond, wpC_ret, wpC_skip, wpC_exit, wpC_block, wpC_label, wpO_go, wpD_go, wantA_none, gdO_true, gdO_false, gdD_true, gdD_false, goO_q, goO_w, goD_q, goD_new, putA_some, putA_none, opnd, ofVal, ofVal1,
    wpO_nil, wpD_nil, KS_normal, KS_ret, KS_exit, KB_normal, KB_ret, KB_same, layArgs, Fr.at_set, boxO_agg, aop_makeFunc, aop_move, aop_assign, aop_pick, pickO_true, pickO_false, pickO_bool, aop_box, boxO_int, boxO_str, boxO_bool, aop_load, behind_ptr, behind_rop,
    behindO_one, aop_store, aop_index, aop_extract, extractO_0, extractO_1, extractO_2, aop_binOp, bin_add, bin_sub, bin_mul, bin_eql, bin_neq, bin_lss, bin_leq, bin_gtr, bin_geq, bin_seql, bin_sneq, aop_unOp, unO_not, aop_convert, aop_len,
    aop_call, callV_func, aop_slice, decide_true, decide_false, decide_not, wantA_some, yieldA_eq, List.getElem?_toArray, List.getElem?_cons_succ, List.getElem?_cons_zero, Option.bind_some, yieldD_some, wantY_bool, wantY_not, Nat.reduceAdd, reduceIte, Nat.reduceEqDiff,
    Nat.zero_add, Nat.add_zero, beq_self_eq_true, Bool.true_beq, Bool.false_beq, Bool.not_true, Bool.not_false, List.map_cons, List.map_nil, List.append_nil, List.nil_append, List.cons_append, Option.map_some, Option.map_none, Bool.false_eq_true, reduceCtorEq, EndV_normal, EndV_ret, RS_some, resA_tmp, resA_nil, resA_cell, resL_some, resT_some, oneOf_one, oneOf_two, oneOf_none, EndS_normal, EndS_ret, tup_two, int_same, bool_same, str_same, and_self, and_true, true_and, if_true, if_false, aop_buildSlice, List.drop_succ_cons, AH.get_set, AH.get_up, AH.next_set, AH.next_up, next_empty, cellsOf_ow, cellsG, List.length_cons, List.length_nil, List.drop_zero, List.take_succ_cons, List.take_zero, Nat.reduceMul, Nat.le_refl, convG_some, List.all_cons, List.all_nil,
    byteC_int, Bool.and_self, toB_int, List.size_toArray, aop_idx, liveG_cells, storeO_ptr, stoG_int, List.set_cons_zero, List.set_cons_succ, behindO_cells, aop_append, aop_makeSlice, aop_len, liveB_ro, aop_fieldAddr, aop_nilCheck, aop_field, aop_build, KI_normal, KI_ret, KI_exit, al58, goO_known (refFind_c l hs d), c1, bl58z, sz58, st58, outC_len, ld58]
    exact fin _ _ _ _ _ _ rfl
  obtain ⟨j, o, hj, hjo⟩ : ∃ (j : Nat) (o : Df), defAt l d = (j : Int) ∧ l[j]? = some o := by
    rcases idx_range (fun o : Df => decide (o.n = d)) l 0 with q | ⟨j, o, q1, q2, _⟩
    · exact absurd (show defAt l d < 0 by unfold defAt; rw [q]; decide) c1
    · exact ⟨j, o, by unfold defAt; rw [q1]; simp, q2⟩
  have c1' : ¬ ((j : Int) < 0) := by omega
  obtain ⟨r, hr⟩ := ix47 (l := l) (i := (j : Int)) (by omega) (by rw [Int.toNat_natCast]; exact hjo)
  by_cases c2 : o.k = 2
  · by_cases c3 : x = typenameL
    · have e : outOf l d x = ⟨x, stringL, [33], Option.none, true⟩ := by simp [outOf, hj, c1', hjo, c2, c3]
      rw [e]
      simp -implicitDefEqProofs only [wpC_seq, wpC_region, wpC_draw, outX_normal, wpC_cond, wpC_ret, wpC_skip, wpC_exit, wpC_block, wpC_label, wpO_go, wpD_go, wantA_none, gdO_true, gdO_false, gdD_true, gdD_false, goO_q, goO_w, goD_q, goD_new, putA_some, putA_none, opnd, ofVal, ofVal1,
    wpO_nil, wpD_nil, KS_normal, KS_ret, KS_exit, KB_normal, KB_ret, KB_same, layArgs, Fr.at_set, boxO_agg, aop_makeFunc, aop_move, aop_assign, aop_pick, pickO_true, pickO_false, pickO_bool, aop_box, boxO_int, boxO_str, boxO_bool, aop_load, behind_ptr, behind_rop,
    behindO_one, aop_store, aop_index, aop_extract, extractO_0, extractO_1, extractO_2, aop_binOp, bin_add, bin_sub, bin_mul, bin_eql, bin_neq, bin_lss, bin_leq, bin_gtr, bin_geq, bin_seql, bin_sneq, aop_unOp, unO_not, aop_convert, aop_len,
    aop_call, callV_func, aop_slice, decide_true, decide_false, decide_not, wantA_some, yieldA_eq, List.getElem?_toArray, List.getElem?_cons_succ, List.getElem?_cons_zero, Option.bind_some, yieldD_some, wantY_bool, wantY_not, Nat.reduceAdd, reduceIte, Nat.reduceEqDiff,
    Nat.zero_add, Nat.add_zero, beq_self_eq_true, Bool.true_beq, Bool.false_beq, Bool.not_true, Bool.not_false, List.map_cons, List.map_nil, List.append_nil, List.nil_append, List.cons_append, Option.map_some, Option.map_none, Bool.false_eq_true, reduceCtorEq, EndV_normal, EndV_ret, RS_some, resA_tmp, resA_nil, resA_cell, resL_some, resT_some, oneOf_one, oneOf_two, oneOf_none, EndS_normal, EndS_ret, tup_two, int_same, bool_same, str_same, and_self, and_true, true_and, if_true, if_false, aop_buildSlice, List.drop_succ_cons, AH.get_set, AH.get_up, AH.next_set, AH.next_up, next_empty, cellsOf_ow, cellsG, List.length_cons, List.length_nil, List.drop_zero, List.take_succ_cons, List.take_zero, Nat.reduceMul, Nat.le_refl, convG_some, List.all_cons, List.all_nil,
    byteC_int, Bool.and_self, toB_int, List.size_toArray, aop_idx, liveG_cells, storeO_ptr, stoG_int, List.set_cons_zero, List.set_cons_succ, behindO_cells, aop_append, aop_makeSlice, aop_len, liveB_ro, aop_fieldAddr, aop_nilCheck, aop_field, aop_build, KI_normal, KI_ret, KI_exit, al58, goO_known (refFind_c l hs d), hj, c1', hr, fda_rop o54_1, ld3dr, c2, c3, typenameL, goO_known (refOutN_c _ _ _), sz58, st58, outC_len, ld58]
      exact fin _ _ _ _ _ _ rfl
    · simp -implicitDefEqProofs only [wpC_seq, wpC_region, wpC_draw, outX_normal, wpC_cond, wpC_ret, wpC_skip, wpC_exit, wpC_block, wpC_label, wpO_go, wpD_go, wantA_none, gdO_true, gdO_false, gdD_true, gdD_false, goO_q, goO_w, goD_q, goD_new, putA_some, putA_none, opnd, ofVal, ofVal1,
    wpO_nil, wpD_nil, KS_normal, KS_ret, KS_exit, KB_normal, KB_ret, KB_same, layArgs, Fr.at_set, boxO_agg, aop_makeFunc, aop_move, aop_assign, aop_pick, pickO_true, pickO_false, pickO_bool, aop_box, boxO_int, boxO_str, boxO_bool, aop_load, behind_ptr, behind_rop,
    behindO_one, aop_store, aop_index, aop_extract, extractO_0, extractO_1, extractO_2, aop_binOp, bin_add, bin_sub, bin_mul, bin_eql, bin_neq, bin_lss, bin_leq, bin_gtr, bin_geq, bin_seql, bin_sneq, aop_unOp, unO_not, aop_convert, aop_len,
    aop_call, callV_func, aop_slice, decide_true, decide_false, decide_not, wantA_some, yieldA_eq, List.getElem?_toArray, List.getElem?_cons_succ, List.getElem?_cons_zero, Option.bind_some, yieldD_some, wantY_bool, wantY_not, Nat.reduceAdd, reduceIte, Nat.reduceEqDiff,
    Nat.zero_add, Nat.add_zero, beq_self_eq_true, Bool.true_beq, Bool.false_beq, Bool.not_true, Bool.not_false, List.map_cons, List.map_nil, List.append_nil, List.nil_append, List.cons_append, Option.map_some, Option.map_none, Bool.false_eq_true, reduceCtorEq, EndV_normal, EndV_ret, RS_some, resA_tmp, resA_nil, resA_cell, resL_some, resT_some, oneOf_one, oneOf_two, oneOf_none, EndS_normal, EndS_ret, tup_two, int_same, bool_same, str_same, and_self, and_true, true_and, if_true, if_false, aop_buildSlice, List.drop_succ_cons, AH.get_set, AH.get_up, AH.next_set, AH.next_up, next_empty, cellsOf_ow, cellsG, List.length_cons, List.length_nil, List.drop_zero, List.take_succ_cons, List.take_zero, Nat.reduceMul, Nat.le_refl, convG_some, List.all_cons, List.all_nil,
    byteC_int, Bool.and_self, toB_int, List.size_toArray, aop_idx, liveG_cells, storeO_ptr, stoG_int, List.set_cons_zero, List.set_cons_succ, behindO_cells, aop_append, aop_makeSlice, aop_len, liveB_ro, aop_fieldAddr, aop_nilCheck, aop_field, aop_build, KI_normal, KI_ret, KI_exit, al58, goO_known (refFind_c l hs d), hj, c1', hr, fda_rop o54_1, ld3dr, c2, show ¬ (x = [95, 95, 116, 121, 112, 101, 110, 97, 109, 101]) from c3]
      have hlo := ho o (List.mem_of_getElem? hjo)
      refine wpC_loop (invRefO l o (j : Int) x) (k := o.outs.length) ⟨0, by omega, ?_, ?_, ?_, ?_, ?_, ?_, rfl⟩ ?_
      · simp only [Fr.at_set, Nat.reduceEqDiff, reduceIte, reduceCtorEq]
      · simp only [Fr.at_set, Nat.reduceEqDiff, reduceIte, reduceCtorEq]
      · simp only [Fr.at_set, Nat.reduceEqDiff, reduceIte, reduceCtorEq]; try rfl
      · simp only [Fr.at_set, Nat.reduceEqDiff, reduceIte, reduceCtorEq]
      · simp only [Fr.at_set, Nat.reduceEqDiff, reduceIte, reduceCtorEq]; try rfl
      · simp only [AH.get_set, AH.get_up, Nat.reduceEqDiff, if_true, if_false]; try rfl
      rintro k F h' ⟨i, hi, f0, f2, f6, f8, f9, g0, hx⟩
      cases k with
      | zero =>
        have c4 : decide ((i : Int) < (o.outs.length : Int)) = false := decide_eq_false (by omega)
        rw [idx_end _ _ i (by omega)] at hx
        have e : outOf l d x = Fnd.none := by simp [outOf, hj, c1', hjo, c2, c3, ← hx]
        rw [e]
        simp -implicitDefEqProofs only [wpC_seq, wpC_region, wpC_draw, outX_normal, wpC_cond, wpC_ret, wpC_skip, wpC_exit, wpC_block, wpC_label, wpO_go, wpD_go, wantA_none, gdO_true, gdO_false, gdD_true, gdD_false, goO_q, goO_w, goD_q, goD_new, putA_some, putA_none, opnd, ofVal, ofVal1,
    wpO_nil, wpD_nil, KS_normal, KS_ret, KS_exit, KB_normal, KB_ret, KB_same, layArgs, Fr.at_set, boxO_agg, aop_makeFunc, aop_move, aop_assign, aop_pick, pickO_true, pickO_false, pickO_bool, aop_box, boxO_int, boxO_str, boxO_bool, aop_load, behind_ptr, behind_rop,
    behindO_one, aop_store, aop_index, aop_extract, extractO_0, extractO_1, extractO_2, aop_binOp, bin_add, bin_sub, bin_mul, bin_eql, bin_neq, bin_lss, bin_leq, bin_gtr, bin_geq, bin_seql, bin_sneq, aop_unOp, unO_not, aop_convert, aop_len,
    aop_call, callV_func, aop_slice, decide_true, decide_false, decide_not, wantA_some, yieldA_eq, List.getElem?_toArray, List.getElem?_cons_succ, List.getElem?_cons_zero, Option.bind_some, yieldD_some, wantY_bool, wantY_not, Nat.reduceAdd, reduceIte, Nat.reduceEqDiff,
    Nat.zero_add, Nat.add_zero, beq_self_eq_true, Bool.true_beq, Bool.false_beq, Bool.not_true, Bool.not_false, List.map_cons, List.map_nil, List.append_nil, List.nil_append, List.cons_append, Option.map_some, Option.map_none, Bool.false_eq_true, reduceCtorEq, EndV_normal, EndV_ret, RS_some, resA_tmp, resA_nil, resA_cell, resL_some, resT_some, oneOf_one, oneOf_two, oneOf_none, EndS_normal, EndS_ret, tup_two, int_same, bool_same, str_same, and_self, and_true, true_and, if_true, if_false, aop_buildSlice, List.drop_succ_cons, AH.get_set, AH.get_up, AH.next_set, AH.next_up, next_empty, cellsOf_ow, cellsG, List.length_cons, List.length_nil, List.drop_zero, List.take_succ_cons, List.take_zero, Nat.reduceMul, Nat.le_refl, convG_some, List.all_cons, List.all_nil,
    byteC_int, Bool.and_self, toB_int, List.size_toArray, aop_idx, liveG_cells, storeO_ptr, stoG_int, List.set_cons_zero, List.set_cons_succ, behindO_cells, aop_append, aop_makeSlice, aop_len, liveB_ro, aop_fieldAddr, aop_nilCheck, aop_field, aop_build, KI_normal, KI_ret, KI_exit, f0, f2, f6, f8, f9, g0, hr, fda_rop o54_3, ld51dr, ln51, c4, bl58z, sz58, st58, outC_len, ld58]
        exact fin _ _ _ _ _ _ rfl
      | succ k =>
        have c4 : decide ((i : Int) < (o.outs.length : Int)) = true := decide_eq_true (by omega)
        obtain ⟨p, hp⟩ : ∃ p, o.outs[i]? = some p := ⟨o.outs[i], List.getElem?_eq_getElem (by omega)⟩
        obtain ⟨r2, hr2⟩ := ix51 (l := o.outs) (i := (i : Int)) (by omega) (by rw [Int.toNat_natCast]; exact hp)
        rw [idx_drop _ _ i p hp] at hx
        have w := IntWalk.i64_in ((i : Int) + 1) (by omega)
        by_cases hpo : p.n = x
        · rw [if_pos (by simpa using hpo)] at hx
          have e : outOf l d x = ⟨p.n, p.t, p.w, p.args, true⟩ := by
            have : ¬ ((i : Int) < 0) := by omega
            simp [outOf, hj, c1', hjo, c2, c3, ← hx, this, hp]
          rw [e]
          simp -implicitDefEqProofs only [wpC_seq, wpC_region, wpC_draw, outX_normal, wpC_cond, wpC_ret, wpC_skip, wpC_exit, wpC_block, wpC_label, wpO_go, wpD_go, wantA_none, gdO_true, gdO_false, gdD_true, gdD_false, goO_q, goO_w, goD_q, goD_new, putA_some, putA_none, opnd, ofVal, ofVal1,
    wpO_nil, wpD_nil, KS_normal, KS_ret, KS_exit, KB_normal, KB_ret, KB_same, layArgs, Fr.at_set, boxO_agg, aop_makeFunc, aop_move, aop_assign, aop_pick, pickO_true, pickO_false, pickO_bool, aop_box, boxO_int, boxO_str, boxO_bool, aop_load, behind_ptr, behind_rop,
    behindO_one, aop_store, aop_index, aop_extract, extractO_0, extractO_1, extractO_2, aop_binOp, bin_add, bin_sub, bin_mul, bin_eql, bin_neq, bin_lss, bin_leq, bin_gtr, bin_geq, bin_seql, bin_sneq, aop_unOp, unO_not, aop_convert, aop_len,
    aop_call, callV_func, aop_slice, decide_true, decide_false, decide_not, wantA_some, yieldA_eq, List.getElem?_toArray, List.getElem?_cons_succ, List.getElem?_cons_zero, Option.bind_some, yieldD_some, wantY_bool, wantY_not, Nat.reduceAdd, reduceIte, Nat.reduceEqDiff,
    Nat.zero_add, Nat.add_zero, beq_self_eq_true, Bool.true_beq, Bool.false_beq, Bool.not_true, Bool.not_false, List.map_cons, List.map_nil, List.append_nil, List.nil_append, List.cons_append, Option.map_some, Option.map_none, Bool.false_eq_true, reduceCtorEq, EndV_normal, EndV_ret, RS_some, resA_tmp, resA_nil, resA_cell, resL_some, resT_some, oneOf_one, oneOf_two, oneOf_none, EndS_normal, EndS_ret, tup_two, int_same, bool_same, str_same, and_self, and_true, true_and, if_true, if_false, aop_buildSlice, List.drop_succ_cons, AH.get_set, AH.get_up, AH.next_set, AH.next_up, next_empty, cellsOf_ow, cellsG, List.length_cons, List.length_nil, List.drop_zero, List.take_succ_cons, List.take_zero, Nat.reduceMul, Nat.le_refl, convG_some, List.all_cons, List.all_nil,
    byteC_int, Bool.and_self, toB_int, List.size_toArray, aop_idx, liveG_cells, storeO_ptr, stoG_int, List.set_cons_zero, List.set_cons_succ, behindO_cells, aop_append, aop_makeSlice, aop_len, liveB_ro, aop_fieldAddr, aop_nilCheck, aop_field, aop_build, KI_normal, KI_ret, KI_exit, f0, f2, f6, f8, f9, g0, hr, hr2, fda_rop o54_3, ld51dr, ln51, c4, fda_rop o58_0, ld9pr, hpo, ld58r, sz58, st58, outC_len, ld58]
          exact fin _ _ _ _ _ _ (rowO_cl _ _)
        · rw [if_neg (by simpa using hpo)] at hx
          simp -implicitDefEqProofs only [wpC_seq, wpC_region, wpC_draw, outX_normal, wpC_cond, wpC_ret, wpC_skip, wpC_exit, wpC_block, wpC_label, wpO_go, wpD_go, wantA_none, gdO_true, gdO_false, gdD_true, gdD_false, goO_q, goO_w, goD_q, goD_new, putA_some, putA_none, opnd, ofVal, ofVal1,
    wpO_nil, wpD_nil, KS_normal, KS_ret, KS_exit, KB_normal, KB_ret, KB_same, layArgs, Fr.at_set, boxO_agg, aop_makeFunc, aop_move, aop_assign, aop_pick, pickO_true, pickO_false, pickO_bool, aop_box, boxO_int, boxO_str, boxO_bool, aop_load, behind_ptr, behind_rop,
    behindO_one, aop_store, aop_index, aop_extract, extractO_0, extractO_1, extractO_2, aop_binOp, bin_add, bin_sub, bin_mul, bin_eql, bin_neq, bin_lss, bin_leq, bin_gtr, bin_geq, bin_seql, bin_sneq, aop_unOp, unO_not, aop_convert, aop_len,
    aop_call, callV_func, aop_slice, decide_true, decide_false, decide_not, wantA_some, yieldA_eq, List.getElem?_toArray, List.getElem?_cons_succ, List.getElem?_cons_zero, Option.bind_some, yieldD_some, wantY_bool, wantY_not, Nat.reduceAdd, reduceIte, Nat.reduceEqDiff,
    Nat.zero_add, Nat.add_zero, beq_self_eq_true, Bool.true_beq, Bool.false_beq, Bool.not_true, Bool.not_false, List.map_cons, List.map_nil, List.append_nil, List.nil_append, List.cons_append, Option.map_some, Option.map_none, Bool.false_eq_true, reduceCtorEq, EndV_normal, EndV_ret, RS_some, resA_tmp, resA_nil, resA_cell, resL_some, resT_some, oneOf_one, oneOf_two, oneOf_none, EndS_normal, EndS_ret, tup_two, int_same, bool_same, str_same, and_self, and_true, true_and, if_true, if_false, aop_buildSlice, List.drop_succ_cons, AH.get_set, AH.get_up, AH.next_set, AH.next_up, next_empty, cellsOf_ow, cellsG, List.length_cons, List.length_nil, List.drop_zero, List.take_succ_cons, List.take_zero, Nat.reduceMul, Nat.le_refl, convG_some, List.all_cons, List.all_nil,
    byteC_int, Bool.and_self, toB_int, List.size_toArray, aop_idx, liveG_cells, storeO_ptr, stoG_int, List.set_cons_zero, List.set_cons_succ, behindO_cells, aop_append, aop_makeSlice, aop_len, liveB_ro, aop_fieldAddr, aop_nilCheck, aop_field, aop_build, KI_normal, KI_ret, KI_exit, f0, f2, f6, f8, f9, g0, hr, hr2, fda_rop o54_3, ld51dr, ln51, c4, fda_rop o58_0, ld9pr, hpo, w]
          refine ⟨k, by omega, i + 1, by omega, ?_, ?_, ?_, ?_, ?_, ?_, hx⟩
          · simp only [Fr.at_set, Nat.reduceEqDiff, reduceIte, reduceCtorEq, f0]
          · simp only [Fr.at_set, Nat.reduceEqDiff, reduceIte, reduceCtorEq, f2]
          · simp only [Fr.at_set, Nat.reduceEqDiff, reduceIte, reduceCtorEq, f6]
          · simp only [Fr.at_set, Nat.reduceEqDiff, reduceIte, reduceCtorEq, f8]
          · simp only [Fr.at_set, Nat.reduceEqDiff, reduceIte, reduceCtorEq]; try rfl
          · simp only [AH.get_up, g0]
  · have e : outOf l d x = Fnd.none := by simp [outOf, hj, c1', hjo, c2]
    rw [e]
    simp -implicitDefEqProofs only [wpC_seq, wpC_region, wpC_draw, outX_normal, wpC_cond, wpC_ret, wpC_skip, wpC_exit, wpC_block, wpC_label, wpO_go, wpD_go, wantA_none, gdO_true, gdO_false, gdD_true, gdD_false, goO_q, goO_w, goD_q, goD_new, putA_some, putA_none, opnd, ofVal, ofVal1,
    wpO_nil, wpD_nil, KS_normal, KS_ret, KS_exit, KB_normal, KB_ret, KB_same, layArgs, Fr.at_set, boxO_agg, aop_makeFunc, aop_move, aop_assign, aop_pick, pickO_true, pickO_false, pickO_bool, aop_box, boxO_int, boxO_str, boxO_bool, aop_load, behind_ptr, behind_rop,
    behindO_one, aop_store, aop_index, aop_extract, extractO_0, extractO_1, extractO_2, aop_binOp, bin_add, bin_sub, bin_mul, bin_eql, bin_neq, bin_lss, bin_leq, bin_gtr, bin_geq, bin_seql, bin_sneq, aop_unOp, unO_not, aop_convert, aop_len,
    aop_call, callV_func, aop_slice, decide_true, decide_false, decide_not, wantA_some, yieldA_eq, List.getElem?_toArray, List.getElem?_cons_succ, List.getElem?_cons_zero, Option.bind_some, yieldD_some, wantY_bool, wantY_not, Nat.reduceAdd, reduceIte, Nat.reduceEqDiff,
    Nat.zero_add, Nat.add_zero, beq_self_eq_true, Bool.true_beq, Bool.false_beq, Bool.not_true, Bool.not_false, List.map_cons, List.map_nil, List.append_nil, List.nil_append, List.cons_append, Option.map_some, Option.map_none, Bool.false_eq_true, reduceCtorEq, EndV_normal, EndV_ret, RS_some, resA_tmp, resA_nil, resA_cell, resL_some, resT_some, oneOf_one, oneOf_two, oneOf_none, EndS_normal, EndS_ret, tup_two, int_same, bool_same, str_same, and_self, and_true, true_and, if_true, if_false, aop_buildSlice, List.drop_succ_cons, AH.get_set, AH.get_up, AH.next_set, AH.next_up, next_empty, cellsOf_ow, cellsG, List.length_cons, List.length_nil, List.drop_zero, List.take_succ_cons, List.take_zero, Nat.reduceMul, Nat.le_refl, convG_some, List.all_cons, List.all_nil,
    byteC_int, Bool.and_self, toB_int, List.size_toArray, aop_idx, liveG_cells, storeO_ptr, stoG_int, List.set_cons_zero, List.set_cons_succ, behindO_cells, aop_append, aop_makeSlice, aop_len, liveB_ro, aop_fieldAddr, aop_nilCheck, aop_field, aop_build, KI_normal, KI_ret, KI_exit, al58, goO_known (refFind_c l hs d), hj, c1', hr, fda_rop o54_1, ld3dr, c2, bl58z, sz58, st58, outC_len, ld58]
    exact fin _ _ _ _ _ _ rfl
end Go.Proofs.YtcbngkmmmfaaoaaGreatDoor
