/-
  SCHEMA AND GEN, G4: fields compared; the reference's field.
-/
import Derived.Test.YtcbngkmmmfaaoaaGreatDoorG3
namespace Go.Proofs.YtcbngkmmmfaaoaaGreatDoor
open Go.RowKit Go.Lib Go.Ac
set_option linter.unusedSimpArgs false
set_option maxRecDepth 100000
variable {mx : Int}

theorem eqS31 (a b : List UInt8) : eqS Tryz.prog 50 31 [.str a, .str b] [.str a, .str b] = some true := by
  simp [eqS, eqP, eqGo, Tryz.underlying31, u9, show Tryz.prog.stoodInHeld 31 = false by kernel_rfl, sz31]
theorem eq31 (a b : List UInt8) (h : AH) : binO Tryz.prog h .eql 31 (.agg [.str a, .str b]) (.agg [.str a, .str b]) = some (.q (.bool true)) := by
  have : sameV Tryz.prog 31 (.agg [.str a, .str b]) (.agg [.str a, .str b]) = some true := by
    simp only [sameV, Tryz.underlying31, show Tryz.prog.eqGuardType Tryz.prog.depth 31 = false by kernel_rfl, eqS31]
    rfl
  simp [binO, liveB, binV, this]
/-- A field's cells. -/
def outC (n t w : List UInt8) (x : PV) : List PV := [.str n, .str t, .str w, x]
theorem outC_len (n t w : List UInt8) (x : PV) : (outC n t w x).length = 4 := rfl
theorem ldo0 (n t w : List UInt8) (x : PV) : loadO Tryz.prog 9 (some (outC n t w x)) = some (.q (.str n)) := loadO_one ag9 sz9
theorem ldo1 (n t w : List UInt8) (x : PV) : loadO Tryz.prog 31 (some (List.drop 1 (outC n t w x))) = some (.q (.agg [.str t, .str w])) := load_agg (c := List.drop 1 (outC n t w x)) ag31 sz31 (by show 2 ≤ 3; omega)
theorem ldo3 (n t w : List UInt8) (x : PV) : loadO Tryz.prog 52 (some (List.drop 3 (outC n t w x))) = some (.q x) := loadO_one ag52 sz52
theorem sameOut_c (n t w : List UInt8) {x y : PV} {l : List Inp} (hx : ArgR x l) (hy : ArgR y l) (hl : l.length ≤ 9223372036854775807) (h : AH) (fr : Nat) : CR Tryz.prog (globM mx) md (.fn 35) [.agg (outC n t w x), .agg (outC n t w y)] h fr (.val (.bool true)) := by
  refine CR.plain (rs := [.tmp 4]) Tryz.func35 rfl rfl rfl rfl rfl (by simp [PV.cleans, PV.clean, outC, hx.clean, hy.clean]) rfl ?_ h fr
  simp -implicitDefEqProofs only [wpC_seq, wpC_region, wpC_draw, outX_normal, wpC_cond, wpC_ret, wpC_skip, wpC_exit, wpC_block, wpC_label, wpO_go, wpD_go, wantA_none, gdO_true, gdO_false, gdD_true, gdD_false, goO_q, goO_w, goD_q, goD_new, putA_some, putA_none, opnd, ofVal, ofVal1,
    wpO_nil, wpD_nil, KS_normal, KS_ret, KS_exit, KB_normal, KB_ret, KB_same, layArgs, Fr.at_set, boxO_agg, aop_makeFunc, aop_move, aop_assign, aop_pick, pickO_true, pickO_false, pickO_bool, aop_box, boxO_int, boxO_str, boxO_bool, aop_load, behind_ptr, behind_rop,
    behindO_one, aop_store, aop_index, aop_extract, extractO_0, extractO_1, extractO_2, aop_binOp, bin_add, bin_sub, bin_mul, bin_eql, bin_neq, bin_lss, bin_leq, bin_gtr, bin_geq, bin_seql, bin_sneq, aop_unOp, unO_not, aop_convert, aop_len,
    aop_call, callV_func, aop_slice, decide_true, decide_false, decide_not, wantA_some, yieldA_eq, List.getElem?_toArray, List.getElem?_cons_succ, List.getElem?_cons_zero, Option.bind_some, yieldD_some, wantY_bool, wantY_not, Nat.reduceAdd, reduceIte, Nat.reduceEqDiff,
    Nat.zero_add, Nat.add_zero, beq_self_eq_true, Bool.true_beq, Bool.false_beq, Bool.not_true, Bool.not_false, List.map_cons, List.map_nil, List.append_nil, List.nil_append, List.cons_append, Option.map_some, Option.map_none, Bool.false_eq_true, reduceCtorEq, EndV_normal, EndV_ret, RS_some, resA_tmp, resA_nil, resA_cell, resL_some, resT_some, oneOf_one, oneOf_two, oneOf_none, EndS_normal, EndS_ret, tup_two, int_same, bool_same, str_same, and_self, and_true, true_and, if_true, if_false, aop_buildSlice, List.drop_succ_cons, AH.get_set, AH.get_up, AH.next_set, AH.next_up, next_empty, cellsOf_ow, cellsG, List.length_cons, List.length_nil, List.drop_zero, List.take_succ_cons, List.take_zero, Nat.reduceMul, Nat.le_refl, convG_some, List.all_cons, List.all_nil,
    byteC_int, Bool.and_self, toB_int, List.size_toArray, aop_idx, liveG_cells, storeO_ptr, stoG_int, List.set_cons_zero, List.set_cons_succ, behindO_cells, aop_append, aop_makeSlice, aop_len, liveB_ro, aop_fieldAddr, aop_nilCheck, aop_field, aop_build, KI_normal, KI_ret, KI_exit, outC_len, fda_ptr o58_0, fda_ptr o58_1, fda_ptr o58_2, ldo0, ldo1, ldo3, eq31, goO_known (sameIns_c hx hy hl)]
end Go.Proofs.YtcbngkmmmfaaoaaGreatDoor
