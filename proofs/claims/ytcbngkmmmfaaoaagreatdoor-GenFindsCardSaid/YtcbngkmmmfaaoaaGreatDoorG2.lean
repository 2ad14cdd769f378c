/-
  SCHEMA AND GEN, G2: small parts of definitions: made, copied.
-/
import Derived.Test.YtcbngkmmmfaaoaaGreatDoorG1
namespace Go.Proofs.YtcbngkmmmfaaoaaGreatDoor
open Go.RowKit Go.Lib Go.Ac
set_option linter.unusedSimpArgs false
set_option maxRecDepth 100000
variable {mx : Int}

theorem z31 : tyZero Tryz.prog 31 = some [.str [], .str []] := by kernel_rfl
theorem al31 {ρ : Operand → PV} {h : AH} {fr : Nat} {d : Option Tmp} {ty : TypeId} {ps : String} {af : Array Edge} {gu : Option (Nat × Bool)} : aop Tryz.prog ρ h fr ⟨d, .alloc 31, ty, ps, af, gu⟩ = some (.w (.ptr fr 2 0) fr (.cells 31 0 false [.str [], .str []])) := by
  rw [aop_alloc, z31]
  rfl
theorem st31 (a b : List UInt8) (id : Nat) (c : List PV) (hc : c.length = 2) : stoG id 2 0 (.agg [.str a, .str b]) 2 (some (.cells 31 0 false c)) = some (.w .undef id (.cells 31 0 false [.str a, .str b])) := stoG_all id 2 0 31 (.agg [.str a, .str b]) c hc rfl rfl
theorem bl31 (a b : List UInt8) : bldO Tryz.prog 31 [(0, .str a), (1, .str b)] = some (.q (.agg [.str a, .str b])) := by kernel_rfl
theorem genRef_c (a b : List UInt8) (h : AH) (fr : Nat) : CR Tryz.prog (globM mx) md (.fn 67) [.str a, .str b] h fr (.val (.agg [.str a, .str b])) := by
  refine CR.frozen (rs := [.cell 4 31]) Tryz.func67 rfl rfl rfl rfl rfl rfl ?_ h fr
  simp -implicitDefEqProofs only [wpC_seq, wpC_region, wpC_draw, outX_normal, wpC_cond, wpC_ret, wpC_skip, wpC_exit, wpC_block, wpC_label, wpO_go, wpD_go, wantA_none, gdO_true, gdO_false, gdD_true, gdD_false, goO_q, goO_w, goD_q, goD_new, putA_some, putA_none, opnd, ofVal, ofVal1,
    wpO_nil, wpD_nil, KS_normal, KS_ret, KS_exit, KB_normal, KB_ret, KB_same, layArgs, Fr.at_set, boxO_agg, aop_makeFunc, aop_move, aop_assign, aop_pick, pickO_true, pickO_false, pickO_bool, aop_box, boxO_int, boxO_str, boxO_bool, aop_load, behind_ptr, behind_rop,
    behindO_one, aop_store, aop_index, aop_extract, extractO_0, extractO_1, extractO_2, aop_binOp, bin_add, bin_sub, bin_mul, bin_eql, bin_neq, bin_lss, bin_leq, bin_gtr, bin_geq, bin_seql, bin_sneq, aop_unOp, unO_not, aop_convert, aop_len,
    aop_call, callV_func, aop_slice, decide_true, decide_false, decide_not, wantA_some, yieldA_eq, List.getElem?_toArray, List.getElem?_cons_succ, List.getElem?_cons_zero, Option.bind_some, yieldD_some, wantY_bool, wantY_not, Nat.reduceAdd, reduceIte, Nat.reduceEqDiff,
    Nat.zero_add, Nat.add_zero, beq_self_eq_true, Bool.true_beq, Bool.false_beq, Bool.not_true, Bool.not_false, List.map_cons, List.map_nil, List.append_nil, List.nil_append, List.cons_append, Option.map_some, Option.map_none, Bool.false_eq_true, reduceCtorEq, EndV_normal, EndV_ret, RS_some, resA_tmp, resA_nil, resA_cell, resL_some, resT_some, oneOf_one, oneOf_two, oneOf_none, EndS_normal, EndS_ret, tup_two, int_same, bool_same, str_same, and_self, and_true, true_and, if_true, if_false, aop_buildSlice, List.drop_succ_cons, AH.get_set, AH.get_up, AH.next_set, AH.next_up, next_empty, cellsOf_ow, cellsG, List.length_cons, List.length_nil, List.drop_zero, List.take_succ_cons, List.take_zero, Nat.reduceMul, Nat.le_refl, convG_some, List.all_cons, List.all_nil,
    byteC_int, Bool.and_self, toB_int, List.size_toArray, aop_idx, liveG_cells, storeO_ptr, stoG_int, List.set_cons_zero, List.set_cons_succ, behindO_cells, aop_append, aop_makeSlice, aop_len, liveB_ro, aop_fieldAddr, aop_nilCheck, aop_field, aop_build, KI_normal, KI_ret, KI_exit, al31, st31, bl31, sz31, load_agg ag31 sz31]
  exact ⟨_, frz_clean _ rfl⟩
end Go.Proofs.YtcbngkmmmfaaoaaGreatDoor
