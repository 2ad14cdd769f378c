/-
  SCHEMA AND GEN, G7: which field that is, as the program has it; GenFinds.
-/
import Derived.Test.YtcbngkmmmfaaoaaGreatDoorG6
import Derived.Test.YtcbngkmmmfaaoaaGreatDoorC23
import Derived.Test.YtcbngkmmmfaaoaaGreatDoorF1
namespace Go.Proofs.YtcbngkmmmfaaoaaGreatDoor
open Go.RowKit Go.Lib Go.Ac
set_option linter.unusedSimpArgs false
set_option maxRecDepth 100000
variable {mx : Int}

theorem frz_row {dd id n sz : Nat} {E : TypeId} {fz : Bool} {c : List PV} {h : AH} (hg : h.get id = some (.cells E sz fz c)) (hc : c.length = n * sz) (hcl : PV.cleans c = true) : frz (dd + 1) (.ow id (n * sz) 0 n) h = some (.ro c n, h.set id (.cells E sz true c)) := by
  rw [frz, if_neg (by simp [PV.clean])]
  simp only [hg]
  rw [if_pos ⟨hc, by omega⟩, show ((c.drop 0).take (n * sz)) = c by simp [← hc], frzL_clean c _ hcl]
theorem frz_outD {dd id n sz : Nat} {E : TypeId} {fz b : Bool} {c : List PV} {h : AH} (x y z : List UInt8) (hg : h.get id = some (.cells E sz fz c)) (hc : c.length = n * sz) (hcl : PV.cleans c = true) :
    frz (dd + 3) (.tup [.agg [.str x, .str y, .str z, .ow id (n * sz) 0 n], .bool b]) h = some (.tup [.agg [.str x, .str y, .str z, .ro c n], .bool b], h.set id (.cells E sz true c)) := by
  have e1 : ∀ (s : List UInt8) (h : AH), frz (dd + 1) (.str s) h = some (.str s, h) := fun s h => frz_clean h rfl
  have e2 : ∀ (t : Bool) (h : AH), frz (dd + 2) (.bool t) h = some (.bool t, h) := fun s h => frz_clean h rfl
  have e3 : frz (dd + 2) (.agg [.str x, .str y, .str z, .ow id (n * sz) 0 n]) h = some (.agg [.str x, .str y, .str z, .ro c n], h.set id (.cells E sz true c)) := by
    rw [frz, if_neg (by simp [PV.clean, PV.cleans])]
    simp only [frzL, e1, frz_row (dd := dd) hg hc hcl]
  rw [frz, if_neg (by simp [PV.clean, PV.cleans])]
  simp only [frzL, e2, e3]
theorem frz_out {id n : Nat} {E : TypeId} {fz b : Bool} {c : List PV} {h : AH} (x y z : List UInt8) (hg : h.get id = some (.cells E 3 fz c)) (hc : c.length = n * 3) (hcl : PV.cleans c = true) :
    ∃ h'', frz 100 (.tup [.agg (outC x y z (.ow id (n * 3) 0 n)), .bool b]) h = some (.tup [.agg (outC x y z (.ro c n)), .bool b], h'') := ⟨_, frz_outD (dd := 97) x y z hg hc hcl⟩
theorem bl58s (x a b : List UInt8) : bldO Tryz.prog 58 [(0, .str x), (1, .agg [.str a, .str b])] = some (.q (.agg (outC x a b .nls))) := by kernel_rfl
/-- A copy of arguments. -/
def rowK : Option (List Inp) → PV
  | none => .nls
  | some [] => .els
  | some l => rowV Inp.pv l
theorem rowO_arg (l : Option (List Inp)) : ArgR (rowO Inp.pv l) (l.getD []) := by
  match l with
  | none => exact .inr ⟨rfl, .inl rfl⟩
  | some [] => exact .inr ⟨rfl, .inr (.inr rfl)⟩
  | some (_ :: _) => exact .inl rfl
theorem rowK_arg (l : Option (List Inp)) : ArgR (rowK l) (l.getD []) := by
  match l with
  | none => exact .inr ⟨rfl, .inl rfl⟩
  | some [] => exact .inr ⟨rfl, .inr (.inl rfl)⟩
  | some (_ :: _) => exact .inl rfl
/-- As many as a program has room for. -/
def DsFit (l : List Df) : Prop := l.length ≤ 9223372036854775807 ∧ ∀ o ∈ l, o.outs.length ≤ 9223372036854775807 ∧ ∀ p ∈ o.outs, (p.args.getD []).length * 48 ≤ 2 ^ 47
theorem sto58 (n t w : List UInt8) (x y : PV) (id : Nat) (hx : y.cells = [y]) (hg : y.goes = true) : stoG id 4 3 y 1 (some (.cells 58 0 false (outC n t w x))) = some (.w .undef id (.cells 58 0 false (outC n t w y))) := by
  simp only [stoG, hx, hg, outC, List.length_cons, List.length_nil]
  rfl
theorem ld58p (n t w : List UInt8) (x : PV) : loadO Tryz.prog 52 (some (List.drop 3 (outC n t w x))) = some (.q x) := ldo3 n t w x
theorem out_c (l : List Df) (hf : DsFit l) (d x : List UInt8) (h : AH) (fr : Nat) :
    CR Tryz.prog (globM mx) md (.fn 31) [rowV Df.pv l, .str d, .str x] h fr (.val (.tup [.agg (outC (outOf l d x).n (outOf l d x).t (outOf l d x).w (rowK (outOf l d x).args)), .bool (outOf l d x).b])) := by
  have hs := hf.1
  refine CR.frozen (rs := [.cell 6 58, .tmp 7]) Tryz.func31 rfl rfl rfl rfl rfl rfl ?_ h fr
  have fin : ∀ (a b c : List UInt8) (y : PV) (t : Bool) (h : AH), y.clean = true → ∃ h'', frz 100 (.tup [.agg (outC a b c y), .bool t]) h = some (.tup [.agg (outC a b c y), .bool t], h'') := fun a b c y t h hy => ⟨h, frz_clean h (by simp [PV.clean, PV.cleans, outC, hy])⟩
  by_cases c1 : defAt l d < 0
  · have e : outOf l d x = Fnd.none := by simp [outOf, c1]
    rw [e]
    simp -implicitDefEqProofs only [wpC_seq, wpC_region, wpC_draw, outX_normal, wpC_cond, wpC_ret, wpC_skip, wpC_exit, wpC_block, wpC_label, wpO_go, wpD_go, wantA_none, gdO_true, gdO_false, gdD_true, gdD_false, goO_q, goO_w, goD_q, goD_new, putA_some, putA_none, opnd, ofVal, ofVal1,
    wpO_nil, wpD_nil, KS_normal, KS_ret, KS_exit, KB_normal, KB_ret, KB_same, layArgs, Fr.at_set, boxO_agg, aop_makeFunc, aop_move, aop_assign, aop_pick, pickO_true, pickO_false, pickO_bool, aop_box, boxO_int, boxO_str, boxO_bool, aop_load, behind_ptr, behind_rop,
    behindO_one, aop_store, aop_index, aop_extract, extractO_0, extractO_1, extractO_2, aop_binOp, bin_add, bin_sub, bin_mul, bin_eql, bin_neq, bin_lss, bin_leq, bin_gtr, bin_geq, bin_seql, bin_sneq, aop_unOp, unO_not, aop_convert, aop_len,
    aop_call, callV_func, aop_slice, decide_true, decide_false, decide_not, wantA_some, yieldA_eq, List.getElem?_toArray, List.getElem?_cons_succ, List.getElem?_cons_zero, Option.bind_some, yieldD_some, wantY_bool, wantY_not, Nat.reduceAdd, reduceIte, Nat.reduceEqDiff,
    Nat.zero_add, Nat.add_zero, beq_self_eq_true, Bool.true_beq, Bool.false_beq, Bool.not_true, Bool.not_false, List.map_cons, List.map_nil, List.append_nil, List.nil_append, List.cons_append, Option.map_some, Option.map_none, Bool.false_eq_true, reduceCtorEq, EndV_normal, EndV_ret, RS_some, resA_tmp, resA_nil, resA_cell, resL_some, resT_some, oneOf_one, oneOf_two, oneOf_none, EndS_normal, EndS_ret, tup_two, int_same, bool_same, str_same, and_self, and_true, true_and, if_true, if_false, aop_buildSlice, List.drop_succ_cons, AH.get_set, AH.get_up, AH.next_set, AH.next_up, next_empty, cellsOf_ow, cellsG, List.length_cons, List.length_nil, List.drop_zero, List.take_succ_cons, List.take_zero, Nat.reduceMul, Nat.le_refl, convG_some, List.all_cons, List.all_nil,
    byteC_int, Bool.and_self, toB_int, List.size_toArray, aop_idx, liveG_cells, storeO_ptr, stoG_int, List.set_cons_zero, List.set_cons_succ, behindO_cells, aop_append, aop_makeSlice, aop_len, liveB_ro, aop_fieldAddr, aop_nilCheck, aop_field, aop_build, KI_normal, KI_ret, KI_exit, al58, goO_known (find_c l hs d), c1, bl58z, sz58, st58, outC_len, ld58]
    exact fin _ _ _ _ _ _ rfl
  obtain ⟨j, o, hj, hjo⟩ : ∃ (j : Nat) (o : Df), defAt l d = (j : Int) ∧ l[j]? = some o := by
    rcases idx_range (fun o : Df => decide (o.n = d)) l 0 with q | ⟨j, o, q1, q2, _⟩
    · exact absurd (show defAt l d < 0 by unfold defAt; rw [q]; decide) c1
    · exact ⟨j, o, by unfold defAt; rw [q1]; simp, q2⟩
  have c1' : ¬ ((j : Int) < 0) := by omega
  obtain ⟨r, hr⟩ := ix47 (l := l) (i := (j : Int)) (by omega) (by rw [Int.toNat_natCast]; exact hjo)
  by_cases c2 : o.k = 2
  · by_cases c3 : x = typenameL
    · have e : outOf l d x = ⟨x, stringL, [33], Option.none, true⟩ := by simp [outOf, hj, c1', hjo, c2, c3]
      rw [e]
      simp -implicitDefEqProofs only [wpC_seq, wpC_region, wpC_draw, outX_normal, wpC_cond, wpC_ret, wpC_skip, wpC_exit, wpC_block, wpC_label, wpO_go, wpD_go, wantA_none, gdO_true, gdO_false, gdD_true, gdD_false, goO_q, goO_w, goD_q, goD_new, putA_some, putA_none, opnd, ofVal, ofVal1,
    wpO_nil, wpD_nil, KS_normal, KS_ret, KS_exit, KB_normal, KB_ret, KB_same, layArgs, Fr.at_set, boxO_agg, aop_makeFunc, aop_move, aop_assign, aop_pick, pickO_true, pickO_false, pickO_bool, aop_box, boxO_int, boxO_str, boxO_bool, aop_load, behind_ptr, behind_rop,
    behindO_one, aop_store, aop_index, aop_extract, extractO_0, extractO_1, extractO_2, aop_binOp, bin_add, bin_sub, bin_mul, bin_eql, bin_neq, bin_lss, bin_leq, bin_gtr, bin_geq, bin_seql, bin_sneq, aop_unOp, unO_not, aop_convert, aop_len,
    aop_call, callV_func, aop_slice, decide_true, decide_false, decide_not, wantA_some, yieldA_eq, List.getElem?_toArray, List.getElem?_cons_succ, List.getElem?_cons_zero, Option.bind_some, yieldD_some, wantY_bool, wantY_not, Nat.reduceAdd, reduceIte, Nat.reduceEqDiff,
    Nat.zero_add, Nat.add_zero, beq_self_eq_true, Bool.true_beq, Bool.false_beq, Bool.not_true, Bool.not_false, List.map_cons, List.map_nil, List.append_nil, List.nil_append, List.cons_append, Option.map_some, Option.map_none, Bool.false_eq_true, reduceCtorEq, EndV_normal, EndV_ret, RS_some, resA_tmp, resA_nil, resA_cell, resL_some, resT_some, oneOf_one, oneOf_two, oneOf_none, EndS_normal, EndS_ret, tup_two, int_same, bool_same, str_same, and_self, and_true, true_and, if_true, if_false, aop_buildSlice, List.drop_succ_cons, AH.get_set, AH.get_up, AH.next_set, AH.next_up, next_empty, cellsOf_ow, cellsG, List.length_cons, List.length_nil, List.drop_zero, List.take_succ_cons, List.take_zero, Nat.reduceMul, Nat.le_refl, convG_some, List.all_cons, List.all_nil,
    byteC_int, Bool.and_self, toB_int, List.size_toArray, aop_idx, liveG_cells, storeO_ptr, stoG_int, List.set_cons_zero, List.set_cons_succ, behindO_cells, aop_append, aop_makeSlice, aop_len, liveB_ro, aop_fieldAddr, aop_nilCheck, aop_field, aop_build, KI_normal, KI_ret, KI_exit, al58, goO_known (find_c l hs d), hj, c1', hr, fda_rop o54_1, ld3dr, loadO_one ag9 sz9, c2, c3, typenameL, goD_known (genRef_c _ _), bl58s, sz58, st58, outC_len, ld58]
      rw [goD_st (by decide) (by kernel_rfl)]
      simp -implicitDefEqProofs only [wpC_seq, wpC_region, wpC_draw, outX_normal, wpC_cond, wpC_ret, wpC_skip, wpC_exit, wpC_block, wpC_label, wpO_go, wpD_go, wantA_none, gdO_true, gdO_false, gdD_true, gdD_false, goO_q, goO_w, goD_q, goD_new, putA_some, putA_none, opnd, ofVal, ofVal1,
    wpO_nil, wpD_nil, KS_normal, KS_ret, KS_exit, KB_normal, KB_ret, KB_same, layArgs, Fr.at_set, boxO_agg, aop_makeFunc, aop_move, aop_assign, aop_pick, pickO_true, pickO_false, pickO_bool, aop_box, boxO_int, boxO_str, boxO_bool, aop_load, behind_ptr, behind_rop,
    behindO_one, aop_store, aop_index, aop_extract, extractO_0, extractO_1, extractO_2, aop_binOp, bin_add, bin_sub, bin_mul, bin_eql, bin_neq, bin_lss, bin_leq, bin_gtr, bin_geq, bin_seql, bin_sneq, aop_unOp, unO_not, aop_convert, aop_len,
    aop_call, callV_func, aop_slice, decide_true, decide_false, decide_not, wantA_some, yieldA_eq, List.getElem?_toArray, List.getElem?_cons_succ, List.getElem?_cons_zero, Option.bind_some, yieldD_some, wantY_bool, wantY_not, Nat.reduceAdd, reduceIte, Nat.reduceEqDiff,
    Nat.zero_add, Nat.add_zero, beq_self_eq_true, Bool.true_beq, Bool.false_beq, Bool.not_true, Bool.not_false, List.map_cons, List.map_nil, List.append_nil, List.nil_append, List.cons_append, Option.map_some, Option.map_none, Bool.false_eq_true, reduceCtorEq, EndV_normal, EndV_ret, RS_some, resA_tmp, resA_nil, resA_cell, resL_some, resT_some, oneOf_one, oneOf_two, oneOf_none, EndS_normal, EndS_ret, tup_two, int_same, bool_same, str_same, and_self, and_true, true_and, if_true, if_false, aop_buildSlice, List.drop_succ_cons, AH.get_set, AH.get_up, AH.next_set, AH.next_up, next_empty, cellsOf_ow, cellsG, List.length_cons, List.length_nil, List.drop_zero, List.take_succ_cons, List.take_zero, Nat.reduceMul, Nat.le_refl, convG_some, List.all_cons, List.all_nil,
    byteC_int, Bool.and_self, toB_int, List.size_toArray, aop_idx, liveG_cells, storeO_ptr, stoG_int, List.set_cons_zero, List.set_cons_succ, behindO_cells, aop_append, aop_makeSlice, aop_len, liveB_ro, aop_fieldAddr, aop_nilCheck, aop_field, aop_build, KI_normal, KI_ret, KI_exit, sz58, st58, outC_len, ld58]
      exact fin _ _ _ _ _ _ rfl
    · obtain ⟨hlo, hla⟩ := hf.2 o (List.mem_of_getElem? hjo)
      by_cases c4 : outAt o x < 0
      · have e : outOf l d x = Fnd.none := by simp [outOf, hj, c1', hjo, c2, c3, c4]
        rw [e]
        simp -implicitDefEqProofs only [wpC_seq, wpC_region, wpC_draw, outX_normal, wpC_cond, wpC_ret, wpC_skip, wpC_exit, wpC_block, wpC_label, wpO_go, wpD_go, wantA_none, gdO_true, gdO_false, gdD_true, gdD_false, goO_q, goO_w, goD_q, goD_new, putA_some, putA_none, opnd, ofVal, ofVal1,
    wpO_nil, wpD_nil, KS_normal, KS_ret, KS_exit, KB_normal, KB_ret, KB_same, layArgs, Fr.at_set, boxO_agg, aop_makeFunc, aop_move, aop_assign, aop_pick, pickO_true, pickO_false, pickO_bool, aop_box, boxO_int, boxO_str, boxO_bool, aop_load, behind_ptr, behind_rop,
    behindO_one, aop_store, aop_index, aop_extract, extractO_0, extractO_1, extractO_2, aop_binOp, bin_add, bin_sub, bin_mul, bin_eql, bin_neq, bin_lss, bin_leq, bin_gtr, bin_geq, bin_seql, bin_sneq, aop_unOp, unO_not, aop_convert, aop_len,
    aop_call, callV_func, aop_slice, decide_true, decide_false, decide_not, wantA_some, yieldA_eq, List.getElem?_toArray, List.getElem?_cons_succ, List.getElem?_cons_zero, Option.bind_some, yieldD_some, wantY_bool, wantY_not, Nat.reduceAdd, reduceIte, Nat.reduceEqDiff,
    Nat.zero_add, Nat.add_zero, beq_self_eq_true, Bool.true_beq, Bool.false_beq, Bool.not_true, Bool.not_false, List.map_cons, List.map_nil, List.append_nil, List.nil_append, List.cons_append, Option.map_some, Option.map_none, Bool.false_eq_true, reduceCtorEq, EndV_normal, EndV_ret, RS_some, resA_tmp, resA_nil, resA_cell, resL_some, resT_some, oneOf_one, oneOf_two, oneOf_none, EndS_normal, EndS_ret, tup_two, int_same, bool_same, str_same, and_self, and_true, true_and, if_true, if_false, aop_buildSlice, List.drop_succ_cons, AH.get_set, AH.get_up, AH.next_set, AH.next_up, next_empty, cellsOf_ow, cellsG, List.length_cons, List.length_nil, List.drop_zero, List.take_succ_cons, List.take_zero, Nat.reduceMul, Nat.le_refl, convG_some, List.all_cons, List.all_nil,
    byteC_int, Bool.and_self, toB_int, List.size_toArray, aop_idx, liveG_cells, storeO_ptr, stoG_int, List.set_cons_zero, List.set_cons_succ, behindO_cells, aop_append, aop_makeSlice, aop_len, liveB_ro, aop_fieldAddr, aop_nilCheck, aop_field, aop_build, KI_normal, KI_ret, KI_exit, al58, goO_known (find_c l hs d), hj, c1', hr, fda_rop o54_1, ld3dr, loadO_one ag9 sz9, c2, show ¬ (x = [95, 95, 116, 121, 112, 101, 110, 97, 109, 101]) from c3, fda_rop o54_3, ld51dr]
        rw [goO_shared (indexOutp_sh o.outs hlo x _ _ (by simp only [AH.get_set, AH.get_up, Nat.reduceEqDiff, if_false, if_true]))]
        simp -implicitDefEqProofs only [wpC_seq, wpC_region, wpC_draw, outX_normal, wpC_cond, wpC_ret, wpC_skip, wpC_exit, wpC_block, wpC_label, wpO_go, wpD_go, wantA_none, gdO_true, gdO_false, gdD_true, gdD_false, goO_q, goO_w, goD_q, goD_new, putA_some, putA_none, opnd, ofVal, ofVal1,
    wpO_nil, wpD_nil, KS_normal, KS_ret, KS_exit, KB_normal, KB_ret, KB_same, layArgs, Fr.at_set, boxO_agg, aop_makeFunc, aop_move, aop_assign, aop_pick, pickO_true, pickO_false, pickO_bool, aop_box, boxO_int, boxO_str, boxO_bool, aop_load, behind_ptr, behind_rop,
    behindO_one, aop_store, aop_index, aop_extract, extractO_0, extractO_1, extractO_2, aop_binOp, bin_add, bin_sub, bin_mul, bin_eql, bin_neq, bin_lss, bin_leq, bin_gtr, bin_geq, bin_seql, bin_sneq, aop_unOp, unO_not, aop_convert, aop_len,
    aop_call, callV_func, aop_slice, decide_true, decide_false, decide_not, wantA_some, yieldA_eq, List.getElem?_toArray, List.getElem?_cons_succ, List.getElem?_cons_zero, Option.bind_some, yieldD_some, wantY_bool, wantY_not, Nat.reduceAdd, reduceIte, Nat.reduceEqDiff,
    Nat.zero_add, Nat.add_zero, beq_self_eq_true, Bool.true_beq, Bool.false_beq, Bool.not_true, Bool.not_false, List.map_cons, List.map_nil, List.append_nil, List.nil_append, List.cons_append, Option.map_some, Option.map_none, Bool.false_eq_true, reduceCtorEq, EndV_normal, EndV_ret, RS_some, resA_tmp, resA_nil, resA_cell, resL_some, resT_some, oneOf_one, oneOf_two, oneOf_none, EndS_normal, EndS_ret, tup_two, int_same, bool_same, str_same, and_self, and_true, true_and, if_true, if_false, aop_buildSlice, List.drop_succ_cons, AH.get_set, AH.get_up, AH.next_set, AH.next_up, next_empty, cellsOf_ow, cellsG, List.length_cons, List.length_nil, List.drop_zero, List.take_succ_cons, List.take_zero, Nat.reduceMul, Nat.le_refl, convG_some, List.all_cons, List.all_nil,
    byteC_int, Bool.and_self, toB_int, List.size_toArray, aop_idx, liveG_cells, storeO_ptr, stoG_int, List.set_cons_zero, List.set_cons_succ, behindO_cells, aop_append, aop_makeSlice, aop_len, liveB_ro, aop_fieldAddr, aop_nilCheck, aop_field, aop_build, KI_normal, KI_ret, KI_exit, show idx (fun p : Outp => decide (p.n = x)) o.outs 0 = outAt o x from rfl, c4, bl58z, sz58, st58, outC_len, ld58]
        exact fin _ _ _ _ _ _ rfl
      · obtain ⟨i, p, hi, hp⟩ : ∃ (i : Nat) (p : Outp), outAt o x = (i : Int) ∧ o.outs[i]? = some p := by
          rcases idx_range (fun p : Outp => decide (p.n = x)) o.outs 0 with q | ⟨j, p, q1, q2, _⟩
          · exact absurd (show outAt o x < 0 by unfold outAt; rw [q]; decide) c4
          · exact ⟨j, p, by unfold outAt; rw [q1]; simp, q2⟩
        have c4' : ¬ ((i : Int) < 0) := by omega
        obtain ⟨r2, hr2⟩ := ix51 (l := o.outs) (i := (i : Int)) (by omega) (by rw [Int.toNat_natCast]; exact hp)
        have hpa := hla p (List.mem_of_getElem? hp)
        have e : outOf l d x = ⟨p.n, p.t, p.w, p.args, true⟩ := by simp [outOf, hj, c1', hjo, c2, c3, hi, c4', hp]
        rw [e]
        simp -implicitDefEqProofs only [wpC_seq, wpC_region, wpC_draw, outX_normal, wpC_cond, wpC_ret, wpC_skip, wpC_exit, wpC_block, wpC_label, wpO_go, wpD_go, wantA_none, gdO_true, gdO_false, gdD_true, gdD_false, goO_q, goO_w, goD_q, goD_new, putA_some, putA_none, opnd, ofVal, ofVal1,
    wpO_nil, wpD_nil, KS_normal, KS_ret, KS_exit, KB_normal, KB_ret, KB_same, layArgs, Fr.at_set, boxO_agg, aop_makeFunc, aop_move, aop_assign, aop_pick, pickO_true, pickO_false, pickO_bool, aop_box, boxO_int, boxO_str, boxO_bool, aop_load, behind_ptr, behind_rop,
    behindO_one, aop_store, aop_index, aop_extract, extractO_0, extractO_1, extractO_2, aop_binOp, bin_add, bin_sub, bin_mul, bin_eql, bin_neq, bin_lss, bin_leq, bin_gtr, bin_geq, bin_seql, bin_sneq, aop_unOp, unO_not, aop_convert, aop_len,
    aop_call, callV_func, aop_slice, decide_true, decide_false, decide_not, wantA_some, yieldA_eq, List.getElem?_toArray, List.getElem?_cons_succ, List.getElem?_cons_zero, Option.bind_some, yieldD_some, wantY_bool, wantY_not, Nat.reduceAdd, reduceIte, Nat.reduceEqDiff,
    Nat.zero_add, Nat.add_zero, beq_self_eq_true, Bool.true_beq, Bool.false_beq, Bool.not_true, Bool.not_false, List.map_cons, List.map_nil, List.append_nil, List.nil_append, List.cons_append, Option.map_some, Option.map_none, Bool.false_eq_true, reduceCtorEq, EndV_normal, EndV_ret, RS_some, resA_tmp, resA_nil, resA_cell, resL_some, resT_some, oneOf_one, oneOf_two, oneOf_none, EndS_normal, EndS_ret, tup_two, int_same, bool_same, str_same, and_self, and_true, true_and, if_true, if_false, aop_buildSlice, List.drop_succ_cons, AH.get_set, AH.get_up, AH.next_set, AH.next_up, next_empty, cellsOf_ow, cellsG, List.length_cons, List.length_nil, List.drop_zero, List.take_succ_cons, List.take_zero, Nat.reduceMul, Nat.le_refl, convG_some, List.all_cons, List.all_nil,
    byteC_int, Bool.and_self, toB_int, List.size_toArray, aop_idx, liveG_cells, storeO_ptr, stoG_int, List.set_cons_zero, List.set_cons_succ, behindO_cells, aop_append, aop_makeSlice, aop_len, liveB_ro, aop_fieldAddr, aop_nilCheck, aop_field, aop_build, KI_normal, KI_ret, KI_exit, al58, goO_known (find_c l hs d), hj, c1', hr, fda_rop o54_1, ld3dr, loadO_one ag9 sz9, c2, show ¬ (x = [95, 95, 116, 121, 112, 101, 110, 97, 109, 101]) from c3, fda_rop o54_3, ld51dr]
        rw [goO_shared (indexOutp_sh o.outs hlo x _ _ (by simp only [AH.get_set, AH.get_up, Nat.reduceEqDiff, if_false, if_true]))]
        match hpe : p.args with
        | none =>
          simp -implicitDefEqProofs only [wpC_seq, wpC_region, wpC_draw, outX_normal, wpC_cond, wpC_ret, wpC_skip, wpC_exit, wpC_block, wpC_label, wpO_go, wpD_go, wantA_none, gdO_true, gdO_false, gdD_true, gdD_false, goO_q, goO_w, goD_q, goD_new, putA_some, putA_none, opnd, ofVal, ofVal1,
    wpO_nil, wpD_nil, KS_normal, KS_ret, KS_exit, KB_normal, KB_ret, KB_same, layArgs, Fr.at_set, boxO_agg, aop_makeFunc, aop_move, aop_assign, aop_pick, pickO_true, pickO_false, pickO_bool, aop_box, boxO_int, boxO_str, boxO_bool, aop_load, behind_ptr, behind_rop,
    behindO_one, aop_store, aop_index, aop_extract, extractO_0, extractO_1, extractO_2, aop_binOp, bin_add, bin_sub, bin_mul, bin_eql, bin_neq, bin_lss, bin_leq, bin_gtr, bin_geq, bin_seql, bin_sneq, aop_unOp, unO_not, aop_convert, aop_len,
    aop_call, callV_func, aop_slice, decide_true, decide_false, decide_not, wantA_some, yieldA_eq, List.getElem?_toArray, List.getElem?_cons_succ, List.getElem?_cons_zero, Option.bind_some, yieldD_some, wantY_bool, wantY_not, Nat.reduceAdd, reduceIte, Nat.reduceEqDiff,
    Nat.zero_add, Nat.add_zero, beq_self_eq_true, Bool.true_beq, Bool.false_beq, Bool.not_true, Bool.not_false, List.map_cons, List.map_nil, List.append_nil, List.nil_append, List.cons_append, Option.map_some, Option.map_none, Bool.false_eq_true, reduceCtorEq, EndV_normal, EndV_ret, RS_some, resA_tmp, resA_nil, resA_cell, resL_some, resT_some, oneOf_one, oneOf_two, oneOf_none, EndS_normal, EndS_ret, tup_two, int_same, bool_same, str_same, and_self, and_true, true_and, if_true, if_false, aop_buildSlice, List.drop_succ_cons, AH.get_set, AH.get_up, AH.next_set, AH.next_up, next_empty, cellsOf_ow, cellsG, List.length_cons, List.length_nil, List.drop_zero, List.take_succ_cons, List.take_zero, Nat.reduceMul, Nat.le_refl, convG_some, List.all_cons, List.all_nil,
    byteC_int, Bool.and_self, toB_int, List.size_toArray, aop_idx, liveG_cells, storeO_ptr, stoG_int, List.set_cons_zero, List.set_cons_succ, behindO_cells, aop_append, aop_makeSlice, aop_len, liveB_ro, aop_fieldAddr, aop_nilCheck, aop_field, aop_build, KI_normal, KI_ret, KI_exit, show idx (fun p : Outp => decide (p.n = x)) o.outs 0 = outAt o x from rfl, hi, c4', hr, hr2, fda_rop o54_3, ld51dr, ld58r, al58, sz58, sz52, st58, outC_len, ld58, fda_ptr o58_2, ldo3, hpe, rowO, goO_known cloneN_c, sto58 _ _ _ _ .nls _ rfl rfl]
          exact fin _ _ _ _ _ _ rfl
        | some [] =>
          simp -implicitDefEqProofs only [wpC_seq, wpC_region, wpC_draw, outX_normal, wpC_cond, wpC_ret, wpC_skip, wpC_exit, wpC_block, wpC_label, wpO_go, wpD_go, wantA_none, gdO_true, gdO_false, gdD_true, gdD_false, goO_q, goO_w, goD_q, goD_new, putA_some, putA_none, opnd, ofVal, ofVal1,
    wpO_nil, wpD_nil, KS_normal, KS_ret, KS_exit, KB_normal, KB_ret, KB_same, layArgs, Fr.at_set, boxO_agg, aop_makeFunc, aop_move, aop_assign, aop_pick, pickO_true, pickO_false, pickO_bool, aop_box, boxO_int, boxO_str, boxO_bool, aop_load, behind_ptr, behind_rop,
    behindO_one, aop_store, aop_index, aop_extract, extractO_0, extractO_1, extractO_2, aop_binOp, bin_add, bin_sub, bin_mul, bin_eql, bin_neq, bin_lss, bin_leq, bin_gtr, bin_geq, bin_seql, bin_sneq, aop_unOp, unO_not, aop_convert, aop_len,
    aop_call, callV_func, aop_slice, decide_true, decide_false, decide_not, wantA_some, yieldA_eq, List.getElem?_toArray, List.getElem?_cons_succ, List.getElem?_cons_zero, Option.bind_some, yieldD_some, wantY_bool, wantY_not, Nat.reduceAdd, reduceIte, Nat.reduceEqDiff,
    Nat.zero_add, Nat.add_zero, beq_self_eq_true, Bool.true_beq, Bool.false_beq, Bool.not_true, Bool.not_false, List.map_cons, List.map_nil, List.append_nil, List.nil_append, List.cons_append, Option.map_some, Option.map_none, Bool.false_eq_true, reduceCtorEq, EndV_normal, EndV_ret, RS_some, resA_tmp, resA_nil, resA_cell, resL_some, resT_some, oneOf_one, oneOf_two, oneOf_none, EndS_normal, EndS_ret, tup_two, int_same, bool_same, str_same, and_self, and_true, true_and, if_true, if_false, aop_buildSlice, List.drop_succ_cons, AH.get_set, AH.get_up, AH.next_set, AH.next_up, next_empty, cellsOf_ow, cellsG, List.length_cons, List.length_nil, List.drop_zero, List.take_succ_cons, List.take_zero, Nat.reduceMul, Nat.le_refl, convG_some, List.all_cons, List.all_nil,
    byteC_int, Bool.and_self, toB_int, List.size_toArray, aop_idx, liveG_cells, storeO_ptr, stoG_int, List.set_cons_zero, List.set_cons_succ, behindO_cells, aop_append, aop_makeSlice, aop_len, liveB_ro, aop_fieldAddr, aop_nilCheck, aop_field, aop_build, KI_normal, KI_ret, KI_exit, show idx (fun p : Outp => decide (p.n = x)) o.outs 0 = outAt o x from rfl, hi, c4', hr, hr2, fda_rop o54_3, ld51dr, ld58r, al58, sz58, sz52, st58, outC_len, ld58, fda_ptr o58_2, ldo3, hpe, rowO, goO_known cloneE_c, sto58 _ _ _ _ .els _ rfl rfl]
          exact fin _ _ _ _ _ _ rfl
        | some (a :: l') =>
          have hl0 : 0 < (a :: l').length := by simp
          have hlb : (a :: l').length * 48 ≤ 2 ^ 47 := by rw [hpe] at hpa; exact hpa
          simp -implicitDefEqProofs only [wpC_seq, wpC_region, wpC_draw, outX_normal, wpC_cond, wpC_ret, wpC_skip, wpC_exit, wpC_block, wpC_label, wpO_go, wpD_go, wantA_none, gdO_true, gdO_false, gdD_true, gdD_false, goO_q, goO_w, goD_q, goD_new, putA_some, putA_none, opnd, ofVal, ofVal1,
    wpO_nil, wpD_nil, KS_normal, KS_ret, KS_exit, KB_normal, KB_ret, KB_same, layArgs, Fr.at_set, boxO_agg, aop_makeFunc, aop_move, aop_assign, aop_pick, pickO_true, pickO_false, pickO_bool, aop_box, boxO_int, boxO_str, boxO_bool, aop_load, behind_ptr, behind_rop,
    behindO_one, aop_store, aop_index, aop_extract, extractO_0, extractO_1, extractO_2, aop_binOp, bin_add, bin_sub, bin_mul, bin_eql, bin_neq, bin_lss, bin_leq, bin_gtr, bin_geq, bin_seql, bin_sneq, aop_unOp, unO_not, aop_convert, aop_len,
    aop_call, callV_func, aop_slice, decide_true, decide_false, decide_not, wantA_some, yieldA_eq, List.getElem?_toArray, List.getElem?_cons_succ, List.getElem?_cons_zero, Option.bind_some, yieldD_some, wantY_bool, wantY_not, Nat.reduceAdd, reduceIte, Nat.reduceEqDiff,
    Nat.zero_add, Nat.add_zero, beq_self_eq_true, Bool.true_beq, Bool.false_beq, Bool.not_true, Bool.not_false, List.map_cons, List.map_nil, List.append_nil, List.nil_append, List.cons_append, Option.map_some, Option.map_none, Bool.false_eq_true, reduceCtorEq, EndV_normal, EndV_ret, RS_some, resA_tmp, resA_nil, resA_cell, resL_some, resT_some, oneOf_one, oneOf_two, oneOf_none, EndS_normal, EndS_ret, tup_two, int_same, bool_same, str_same, and_self, and_true, true_and, if_true, if_false, aop_buildSlice, List.drop_succ_cons, AH.get_set, AH.get_up, AH.next_set, AH.next_up, next_empty, cellsOf_ow, cellsG, List.length_cons, List.length_nil, List.drop_zero, List.take_succ_cons, List.take_zero, Nat.reduceMul, Nat.le_refl, convG_some, List.all_cons, List.all_nil,
    byteC_int, Bool.and_self, toB_int, List.size_toArray, aop_idx, liveG_cells, storeO_ptr, stoG_int, List.set_cons_zero, List.set_cons_succ, behindO_cells, aop_append, aop_makeSlice, aop_len, liveB_ro, aop_fieldAddr, aop_nilCheck, aop_field, aop_build, KI_normal, KI_ret, KI_exit, show idx (fun p : Outp => decide (p.n = x)) o.outs 0 = outAt o x from rfl, hi, c4', hr, hr2, fda_rop o54_3, ld51dr, ld58r, al58, sz58, sz52, st58, outC_len, ld58, fda_ptr o58_2, ldo3, hpe, rowO, goO_own (v := fun fr => .ow fr ((a :: l').length * 3) 0 (a :: l').length) (cloneR_c (a :: l') hl0 hlb), sto58 _ _ _ _ (.ow _ _ _ _) _ rfl rfl]
          refine frz_out _ _ _ (c := flat Inp.pv (a :: l')) (n := (a :: l').length) (E := 56) (fz := false) ?_ ?_ ?_
          · simp only [AH.get_set, AH.get_up, Nat.reduceEqDiff, if_true, if_false]
          · exact flat_len (f := Inp.pv) (z := 3) (fun _ => rfl) _
          · exact flat_clean Inp.cl _
  · have e : outOf l d x = Fnd.none := by simp [outOf, hj, c1', hjo, c2]
    rw [e]
    simp -implicitDefEqProofs only [wpC_seq, wpC_region, wpC_draw, outX_normal, wpC_cond, wpC_ret, wpC_skip, wpC_exit, wpC_block, wpC_label, wpO_go, wpD_go, wantA_none, gdO_true, gdO_false, gdD_true, gdD_false, goO_q, goO_w, goD_q, goD_new, putA_some, putA_none, opnd, ofVal, ofVal1,
    wpO_nil, wpD_nil, KS_normal, KS_ret, KS_exit, KB_normal, KB_ret, KB_same, layArgs, Fr.at_set, boxO_agg, aop_makeFunc, aop_move, aop_assign, aop_pick, pickO_true, pickO_false, pickO_bool, aop_box, boxO_int, boxO_str, boxO_bool, aop_load, behind_ptr, behind_rop,
    behindO_one, aop_store, aop_index, aop_extract, extractO_0, extractO_1, extractO_2, aop_binOp, bin_add, bin_sub, bin_mul, bin_eql, bin_neq, bin_lss, bin_leq, bin_gtr, bin_geq, bin_seql, bin_sneq, aop_unOp, unO_not, aop_convert, aop_len,
    aop_call, callV_func, aop_slice, decide_true, decide_false, decide_not, wantA_some, yieldA_eq, List.getElem?_toArray, List.getElem?_cons_succ, List.getElem?_cons_zero, Option.bind_some, yieldD_some, wantY_bool, wantY_not, Nat.reduceAdd, reduceIte, Nat.reduceEqDiff,
    Nat.zero_add, Nat.add_zero, beq_self_eq_true, Bool.true_beq, Bool.false_beq, Bool.not_true, Bool.not_false, List.map_cons, List.map_nil, List.append_nil, List.nil_append, List.cons_append, Option.map_some, Option.map_none, Bool.false_eq_true, reduceCtorEq, EndV_normal, EndV_ret, RS_some, resA_tmp, resA_nil, resA_cell, resL_some, resT_some, oneOf_one, oneOf_two, oneOf_none, EndS_normal, EndS_ret, tup_two, int_same, bool_same, str_same, and_self, and_true, true_and, if_true, if_false, aop_buildSlice, List.drop_succ_cons, AH.get_set, AH.get_up, AH.next_set, AH.next_up, next_empty, cellsOf_ow, cellsG, List.length_cons, List.length_nil, List.drop_zero, List.take_succ_cons, List.take_zero, Nat.reduceMul, Nat.le_refl, convG_some, List.all_cons, List.all_nil,
    byteC_int, Bool.and_self, toB_int, List.size_toArray, aop_idx, liveG_cells, storeO_ptr, stoG_int, List.set_cons_zero, List.set_cons_succ, behindO_cells, aop_append, aop_makeSlice, aop_len, liveB_ro, aop_fieldAddr, aop_nilCheck, aop_field, aop_build, KI_normal, KI_ret, KI_exit, al58, goO_known (find_c l hs d), hj, c1', hr, fda_rop o54_1, ld3dr, loadO_one ag9 sz9, c2, bl58z, sz58, st58, outC_len, ld58]
    exact fin _ _ _ _ _ _ rfl
theorem fixed10_c (h : AH) (fr : Nat) : CR Tryz.prog (globM mx) md (.fn 30) [] h fr (.val (.bool true)) := pure_any rfl rfl ⟨2000, fixed10_run⟩ h fr
theorem genFinds_c (l : List Df) (hf : DsFit l) (d x : List UInt8) (h : AH) (fr : Nat) : CR Tryz.prog (globM mx) md (.fn 10) [rowV Df.pv l, .str d, .str x] h fr (.val (.bool true)) := by
  have hs := hf.1
  have hlen : ((outOf l d x).args.getD []).length ≤ 9223372036854775807 := by
    have key : ((outOf l d x).args.getD []).length * 48 ≤ 2 ^ 47 := by
      have z : ((Fnd.none).args.getD []).length * 48 ≤ 2 ^ 47 := by decide
      unfold outOf
      split
      · exact z
      · split
        · exact z
        · rename_i o ho
          split
          · split
            · exact z
            · split
              · exact z
              · split
                · exact z
                · rename_i p hp
                  exact (hf.2 o (List.mem_of_getElem? ho)).2 p (List.mem_of_getElem? hp)
          · exact z
    omega
  refine CR.plain (rs := [.tmp 6]) Tryz.func10 rfl rfl rfl rfl rfl rfl rfl ?_ h fr
  simp -implicitDefEqProofs only [wpC_seq, wpC_region, wpC_draw, outX_normal, wpC_cond, wpC_ret, wpC_skip, wpC_exit, wpC_block, wpC_label, wpO_go, wpD_go, wantA_none, gdO_true, gdO_false, gdD_true, gdD_false, goO_q, goO_w, goD_q, goD_new, putA_some, putA_none, opnd, ofVal, ofVal1,
    wpO_nil, wpD_nil, KS_normal, KS_ret, KS_exit, KB_normal, KB_ret, KB_same, layArgs, Fr.at_set, boxO_agg, aop_makeFunc, aop_move, aop_assign, aop_pick, pickO_true, pickO_false, pickO_bool, aop_box, boxO_int, boxO_str, boxO_bool, aop_load, behind_ptr, behind_rop,
    behindO_one, aop_store, aop_index, aop_extract, extractO_0, extractO_1, extractO_2, aop_binOp, bin_add, bin_sub, bin_mul, bin_eql, bin_neq, bin_lss, bin_leq, bin_gtr, bin_geq, bin_seql, bin_sneq, aop_unOp, unO_not, aop_convert, aop_len,
    aop_call, callV_func, aop_slice, decide_true, decide_false, decide_not, wantA_some, yieldA_eq, List.getElem?_toArray, List.getElem?_cons_succ, List.getElem?_cons_zero, Option.bind_some, yieldD_some, wantY_bool, wantY_not, Nat.reduceAdd, reduceIte, Nat.reduceEqDiff,
    Nat.zero_add, Nat.add_zero, beq_self_eq_true, Bool.true_beq, Bool.false_beq, Bool.not_true, Bool.not_false, List.map_cons, List.map_nil, List.append_nil, List.nil_append, List.cons_append, Option.map_some, Option.map_none, Bool.false_eq_true, reduceCtorEq, EndV_normal, EndV_ret, RS_some, resA_tmp, resA_nil, resA_cell, resL_some, resT_some, oneOf_one, oneOf_two, oneOf_none, EndS_normal, EndS_ret, tup_two, int_same, bool_same, str_same, and_self, and_true, true_and, if_true, if_false, aop_buildSlice, List.drop_succ_cons, AH.get_set, AH.get_up, AH.next_set, AH.next_up, next_empty, cellsOf_ow, cellsG, List.length_cons, List.length_nil, List.drop_zero, List.take_succ_cons, List.take_zero, Nat.reduceMul, Nat.le_refl, convG_some, List.all_cons, List.all_nil,
    byteC_int, Bool.and_self, toB_int, List.size_toArray, aop_idx, liveG_cells, storeO_ptr, stoG_int, List.set_cons_zero, List.set_cons_succ, behindO_cells, aop_append, aop_makeSlice, aop_len, liveB_ro, aop_fieldAddr, aop_nilCheck, aop_field, aop_build, KI_normal, KI_ret, KI_exit, goO_known (out_c l hf d x), goO_known (refOut_c l hs (fun o ho => (hf.2 o ho).1) d x), goO_known fixed10_c, goO_known (find_c l hs d), goO_known (refFind_c l hs d), al58, sz58, st58, outC_len, ld58, bin_beql u4, goO_known (sameOut_c _ _ _ (rowK_arg _) (rowO_arg _) hlen)]
end Go.Proofs.YtcbngkmmmfaaoaaGreatDoor
