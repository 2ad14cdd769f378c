/-
  RUNES, 14: characters' bytes, one behind the other, are a text, and its characters are these (RunesBack).
-/
import Derived.Test.YtohmplfkieaecaaDoorR11
namespace Go.Proofs.YtohmplfkieaecaaDoor
open Go.RowKit Go.Lib Go.Ab
set_option linter.unusedSimpArgs false
set_option maxRecDepth 100000

theorem Chs.valid {l : List UInt8} {a : Nat} {cs : List Int} (h : Chs l a cs) : validD (l.drop a) = true := by
  induction h with
  | done a h1 => rw [List.drop_eq_nil_of_le h1]; rfl
  | step a c cs ho hc hs ih => rw [validD_ok ho, List.drop_drop]; exact ih
theorem Chs.of_flat (l : List UInt8) : ∀ (ks : List Int) (a : Nat), a ≤ l.length → l.drop a = ks.flatMap encodeRune → (∀ c ∈ ks, isD c = true) → Chs l a ks
  | [], a, ha, e, _ => .done a (by
      have := congrArg List.length e
      rw [List.length_drop] at this
      simp at this
      omega)
  | c :: ks, a, ha, e, hk => by
    rw [List.flatMap_cons] at e
    have hc := hk c (by simp)
    obtain ⟨o1, o2⟩ := okL_enc c hc (ks.flatMap encodeRune)
    rw [← e] at o1 o2
    have hp := enc_pos c
    have hl := congrArg List.length e
    rw [List.length_drop, List.length_append] at hl
    rw [isD_iff] at hc
    refine .step a c ks o1 (by rw [o2]; simp only; omega) ?_
    rw [o2]
    refine Chs.of_flat l ks _ (by simp only; omega) ?_ (fun x hx => hk x (by simp [hx]))
    simp only
    rw [← List.drop_drop, e, List.drop_left]
def byteV (b : UInt8) : PV := .int .u8 b.toNat
theorem toB_byteV (bs : List UInt8) : (bs.map byteV).map toB = bs := by
  rw [List.map_map]
  conv => rhs; rw [← List.map_id bs]
  apply List.map_congr_left
  intro b _
  simp [byteV, toB]
theorem conv_back {P : Program} {h : AH} {fr s t e B n : Nat} {bs : List UInt8} (hs : P.underlying s = some (.slice e)) (he : P.underlying e = some (.int .u8)) (ht : P.underlying t = some .string) (hg : h.get B = some (.cells 1 false (bs.map byteV))) (hn : bs.length = n) :
    convV P h fr s t (.ow B n 0 n) = some (.q (.str bs)) := by
  rw [conv_bytes hs he ht, cellsOf_ow, hg, cellsG_all (by simpa using hn), convG_some, toB_byteV, if_pos]
  simp [byteC, byteV]
theorem cells_str {h : AH} (s : List UInt8) : cellsOf h 1 (.str s) = some (s.map byteV, s.length) := rfl
theorem flat_len (ks : List Int) : (ks.flatMap encodeRune).length ≤ 4 * ks.length := by
  induction ks with
  | nil => simp
  | cons c ks ih =>
    have := enc_pos c
    rw [List.flatMap_cons, List.length_append, List.length_cons]
    omega

def inv7 (zs : List Int) (n B K : Nat) (k : Nat) (F : Fr) (h' : AH) : Prop := ∃ (i : Nat) (ks : List Int), i + k = n ∧ ks.length ≤ i ∧ ks = (zs.take i).filter isD ∧ F.at 0 = .ro (zs.map (PV.int .i64)) n ∧ F.at 3 = .ow B (ks.flatMap encodeRune).length 0 (ks.flatMap encodeRune).length ∧ F.at 4 = .ow K ks.length 0 ks.length ∧ F.at 5 = .int .i64 i ∧
  h'.get B = some (.cells 1 false ((ks.flatMap encodeRune).map byteV)) ∧ h'.get K = some (.cells 1 false (ks.map (PV.int .i64))) ∧ B < h'.next ∧ K < h'.next
theorem backLaw_c (zs : List Int) (n : Nat) (hn : zs.length = n) (hl : n ≤ 1048576) (h : AH) (fr : Nat) : CR Tryd.prog glob md 7 [.ro (zs.map (PV.int .i64)) n] h fr (.bool true) none := by
  refine CR.plain (rs := [.tmp 2]) Tryd.func7 rfl rfl rfl rfl rfl (by simp [PV.cleans, PV.clean]) ?_ h fr
  simp -implicitDefEqProofs only [wpC_seq, wpC_region, wpC_draw, wpC_cond, wpC_ret, wpC_skip, wpC_exit, wpC_block, wpC_label, wpO_go, wpQ_go, wantA_none, gdO_true, gdO_false, gdQ_true, gdQ_false, goO_q, goO_w, goQ_q, putA_some, putA_none, opnd, ofVal, ofVal1,
    wpO_nil, wpQ_nil, KN_eq, KQ_eq, KS_normal, KS_ret, KS_exit, KB_normal, KB_ret, KB_same, layArgs, Fr.at_set, aop_move, aop_assign, aop_pick, pickO_true, pickO_false, pickO_bool, aop_box, boxO_int, boxO_str, boxO_bool, aop_load, behind_ptr, behind_rop,
    behindO_one, aop_store, aop_index, aop_extract, extractO_0, extractO_1, extractO_2, aop_binOp, bin_add, bin_sub, bin_mul, bin_eql, bin_neq, bin_lss, bin_leq, bin_gtr, bin_geq, bin_seql, bin_sneq, aop_unOp, unO_not, aop_convert, aop_len,
    aop_call, callV_func, aop_slice, decide_true, decide_false, decide_not, wantA_some, yieldA_eq, List.getElem?_toArray, List.getElem?_cons_succ, List.getElem?_cons_zero, Option.bind_some, yieldD_some, wantY_bool, wantY_not, Nat.reduceAdd, reduceIte, Nat.reduceEqDiff,
    Nat.zero_add, Nat.add_zero, beq_self_eq_true, Bool.true_beq, Bool.false_beq, Bool.not_true, Bool.not_false, List.map_cons, List.map_nil, List.append_nil, List.nil_append, List.cons_append, Option.map_some, Option.map_none, Bool.false_eq_true, reduceCtorEq, EndV_normal, EndV_ret, RV_some, resA_tmp, resA_nil, resT_some, oneOf_one, oneOf_two, tup_two, int_same, bool_same, str_same, and_self, and_true, true_and, if_true, if_false, aop_buildSlice, AH.get_set, AH.get_up, AH.next_set, AH.next_up, next_empty, cellsOf_ow, cellsG, List.length_cons, List.length_nil, List.drop_zero, List.take_succ_cons, List.take_zero, Nat.reduceMul, Nat.le_refl, convG_some, List.all_cons, List.all_nil,
    byteC_int, Bool.and_self, toB_int, List.size_toArray, aop_idx, liveG_cells, storeO_ptr, stoG_int, List.set_cons_zero, List.set_cons_succ, behindO_cells, aop_append, aop_makeSlice, aop_len, liveB_ro, KL_normal, KL_ret, KL_exit, KI_normal, KI_ret, KI_exit, up_set, up_up, build_0 u37 sz5 z5, build_0 u26 sz3 z3]
  refine wpC_loop (inv7 zs n 1 3) (k := n) ⟨0, [], by omega, by simp, by simp, ?_, ?_, ?_, ?_, ?_, ?_, ?_, ?_⟩ ?_
  · simp only [Fr.at_set, Nat.reduceEqDiff, reduceIte, reduceCtorEq]
  · simp only [Fr.at_set, Nat.reduceEqDiff, reduceIte, reduceCtorEq, List.flatMap_nil, List.length_nil]
  · simp only [Fr.at_set, Nat.reduceEqDiff, reduceIte, reduceCtorEq, List.length_nil]
  · simp only [Fr.at_set, Nat.reduceEqDiff, reduceIte, reduceCtorEq]; rfl
  · simp only [AH.get_set, AH.get_up, Nat.reduceEqDiff, reduceIte, reduceCtorEq, List.flatMap_nil, List.map_nil]
  · simp only [AH.get_set, AH.get_up, Nat.reduceEqDiff, reduceIte, reduceCtorEq, List.map_nil]
  · simp only [AH.next_set, AH.next_up, next_empty]; omega
  · simp only [AH.next_set, AH.next_up, next_empty]; omega
  rintro k F h' ⟨i, ks, hi, hkl, hks, f0, f3, f4, f5, gB, gK, nB, nK⟩
  have hfl := flat_len ks
  have hall : ∀ c ∈ ks, isD c = true := by
    intro c hc
    rw [hks] at hc
    exact (List.mem_filter.1 hc).2
  cases k with
  | zero =>
    have c1 : decide ((i : Int) < (n : Int)) = false := decide_eq_false (by omega)
    have hch := Chs.of_flat (ks.flatMap encodeRune) ks 0 (by omega) (by simp) hall
    have hv : validD (ks.flatMap encodeRune) = true := by simpa using hch.valid
    have hcb : ∀ (H : AH) (fr : Nat), H.get 1 = some (.cells 1 false ((ks.flatMap encodeRune).map byteV)) → convV Tryd.prog H fr 37 9 (.ow 1 (ks.flatMap encodeRune).length 0 (ks.flatMap encodeRune).length) = some (.q (.str (ks.flatMap encodeRune))) :=
      fun H fr g => conv_back u37 u5 u9 g rfl
    obtain ⟨S, h1, q1, g1, gk, _, n1⟩ := points_c (ks.flatMap encodeRune) (by omega) hv ks hch (h'.up 12)
    have gK1 : h1.get 3 = some (.cells 1 false (ks.map (PV.int .i64))) := by rw [gk 3 (by rw [AH.next_up]; omega), AH.get_up]; exact gK
    have gB1 : h1.get 1 = some (.cells 1 false ((ks.flatMap encodeRune).map byteV)) := by rw [gk 1 (by rw [AH.next_up]; omega), AH.get_up]; exact gB
    obtain ⟨h2, q2, g2, _⟩ := same_c (.ow S ks.length 0 ks.length) (.ow 3 ks.length 0 ks.length) ks ks (by omega) (h1.up 15) (.inr (.inl ⟨S, false, rfl, by rw [AH.get_up]; exact g1⟩)) (.inr (.inl ⟨3, false, rfl, by rw [AH.get_up]; exact gK1⟩))
    rw [decide_eq_true (show ks = ks from rfl)] at q2
    simp -implicitDefEqProofs only [wpC_seq, wpC_region, wpC_draw, wpC_cond, wpC_ret, wpC_skip, wpC_exit, wpC_block, wpC_label, wpO_go, wpQ_go, wantA_none, gdO_true, gdO_false, gdQ_true, gdQ_false, goO_q, goO_w, goQ_q, putA_some, putA_none, opnd, ofVal, ofVal1,
    wpO_nil, wpQ_nil, KN_eq, KQ_eq, KS_normal, KS_ret, KS_exit, KB_normal, KB_ret, KB_same, layArgs, Fr.at_set, aop_move, aop_assign, aop_pick, pickO_true, pickO_false, pickO_bool, aop_box, boxO_int, boxO_str, boxO_bool, aop_load, behind_ptr, behind_rop,
    behindO_one, aop_store, aop_index, aop_extract, extractO_0, extractO_1, extractO_2, aop_binOp, bin_add, bin_sub, bin_mul, bin_eql, bin_neq, bin_lss, bin_leq, bin_gtr, bin_geq, bin_seql, bin_sneq, aop_unOp, unO_not, aop_convert, aop_len,
    aop_call, callV_func, aop_slice, decide_true, decide_false, decide_not, wantA_some, yieldA_eq, List.getElem?_toArray, List.getElem?_cons_succ, List.getElem?_cons_zero, Option.bind_some, yieldD_some, wantY_bool, wantY_not, Nat.reduceAdd, reduceIte, Nat.reduceEqDiff,
    Nat.zero_add, Nat.add_zero, beq_self_eq_true, Bool.true_beq, Bool.false_beq, Bool.not_true, Bool.not_false, List.map_cons, List.map_nil, List.append_nil, List.nil_append, List.cons_append, Option.map_some, Option.map_none, Bool.false_eq_true, reduceCtorEq, EndV_normal, EndV_ret, RV_some, resA_tmp, resA_nil, resT_some, oneOf_one, oneOf_two, tup_two, int_same, bool_same, str_same, and_self, and_true, true_and, if_true, if_false, aop_buildSlice, AH.get_set, AH.get_up, AH.next_set, AH.next_up, next_empty, cellsOf_ow, cellsG, List.length_cons, List.length_nil, List.drop_zero, List.take_succ_cons, List.take_zero, Nat.reduceMul, Nat.le_refl, convG_some, List.all_cons, List.all_nil,
    byteC_int, Bool.and_self, toB_int, List.size_toArray, aop_idx, liveG_cells, storeO_ptr, stoG_int, List.set_cons_zero, List.set_cons_succ, behindO_cells, aop_append, aop_makeSlice, aop_len, liveB_ro, KL_normal, KL_ret, KL_exit, KI_normal, KI_ret, KI_exit, up_up, f0, f3, f4, f5, len_ro u26, c1]
    rw [hcb _ _ (by simp only [AH.get_up]; exact gB)]
    simp -implicitDefEqProofs only [wpC_seq, wpC_region, wpC_draw, wpC_cond, wpC_ret, wpC_skip, wpC_exit, wpC_block, wpC_label, wpO_go, wpQ_go, wantA_none, gdO_true, gdO_false, gdQ_true, gdQ_false, goO_q, goO_w, goQ_q, putA_some, putA_none, opnd, ofVal, ofVal1,
    wpO_nil, wpQ_nil, KN_eq, KQ_eq, KS_normal, KS_ret, KS_exit, KB_normal, KB_ret, KB_same, layArgs, Fr.at_set, aop_move, aop_assign, aop_pick, pickO_true, pickO_false, pickO_bool, aop_box, boxO_int, boxO_str, boxO_bool, aop_load, behind_ptr, behind_rop,
    behindO_one, aop_store, aop_index, aop_extract, extractO_0, extractO_1, extractO_2, aop_binOp, bin_add, bin_sub, bin_mul, bin_eql, bin_neq, bin_lss, bin_leq, bin_gtr, bin_geq, bin_seql, bin_sneq, aop_unOp, unO_not, aop_convert, aop_len,
    aop_call, callV_func, aop_slice, decide_true, decide_false, decide_not, wantA_some, yieldA_eq, List.getElem?_toArray, List.getElem?_cons_succ, List.getElem?_cons_zero, Option.bind_some, yieldD_some, wantY_bool, wantY_not, Nat.reduceAdd, reduceIte, Nat.reduceEqDiff,
    Nat.zero_add, Nat.add_zero, beq_self_eq_true, Bool.true_beq, Bool.false_beq, Bool.not_true, Bool.not_false, List.map_cons, List.map_nil, List.append_nil, List.nil_append, List.cons_append, Option.map_some, Option.map_none, Bool.false_eq_true, reduceCtorEq, EndV_normal, EndV_ret, RV_some, resA_tmp, resA_nil, resT_some, oneOf_one, oneOf_two, tup_two, int_same, bool_same, str_same, and_self, and_true, true_and, if_true, if_false, aop_buildSlice, AH.get_set, AH.get_up, AH.next_set, AH.next_up, next_empty, cellsOf_ow, cellsG, List.length_cons, List.length_nil, List.drop_zero, List.take_succ_cons, List.take_zero, Nat.reduceMul, Nat.le_refl, convG_some, List.all_cons, List.all_nil,
    byteC_int, Bool.and_self, toB_int, List.size_toArray, aop_idx, liveG_cells, storeO_ptr, stoG_int, List.set_cons_zero, List.set_cons_succ, behindO_cells, aop_append, aop_makeSlice, aop_len, liveB_ro, KL_normal, KL_ret, KL_exit, KI_normal, KI_ret, KI_exit, up_up, f0, f3, f4, f5, goO_shared q1, goO_known fixed_c, goO_shared q2]
    rw [hcb _ _ (by rw [g2, AH.get_up]; exact gB1)]
    simp -implicitDefEqProofs only [wpC_seq, wpC_region, wpC_draw, wpC_cond, wpC_ret, wpC_skip, wpC_exit, wpC_block, wpC_label, wpO_go, wpQ_go, wantA_none, gdO_true, gdO_false, gdQ_true, gdQ_false, goO_q, goO_w, goQ_q, putA_some, putA_none, opnd, ofVal, ofVal1,
    wpO_nil, wpQ_nil, KN_eq, KQ_eq, KS_normal, KS_ret, KS_exit, KB_normal, KB_ret, KB_same, layArgs, Fr.at_set, aop_move, aop_assign, aop_pick, pickO_true, pickO_false, pickO_bool, aop_box, boxO_int, boxO_str, boxO_bool, aop_load, behind_ptr, behind_rop,
    behindO_one, aop_store, aop_index, aop_extract, extractO_0, extractO_1, extractO_2, aop_binOp, bin_add, bin_sub, bin_mul, bin_eql, bin_neq, bin_lss, bin_leq, bin_gtr, bin_geq, bin_seql, bin_sneq, aop_unOp, unO_not, aop_convert, aop_len,
    aop_call, callV_func, aop_slice, decide_true, decide_false, decide_not, wantA_some, yieldA_eq, List.getElem?_toArray, List.getElem?_cons_succ, List.getElem?_cons_zero, Option.bind_some, yieldD_some, wantY_bool, wantY_not, Nat.reduceAdd, reduceIte, Nat.reduceEqDiff,
    Nat.zero_add, Nat.add_zero, beq_self_eq_true, Bool.true_beq, Bool.false_beq, Bool.not_true, Bool.not_false, List.map_cons, List.map_nil, List.append_nil, List.nil_append, List.cons_append, Option.map_some, Option.map_none, Bool.false_eq_true, reduceCtorEq, EndV_normal, EndV_ret, RV_some, resA_tmp, resA_nil, resT_some, oneOf_one, oneOf_two, tup_two, int_same, bool_same, str_same, and_self, and_true, true_and, if_true, if_false, aop_buildSlice, AH.get_set, AH.get_up, AH.next_set, AH.next_up, next_empty, cellsOf_ow, cellsG, List.length_cons, List.length_nil, List.drop_zero, List.take_succ_cons, List.take_zero, Nat.reduceMul, Nat.le_refl, convG_some, List.all_cons, List.all_nil,
    byteC_int, Bool.and_self, toB_int, List.size_toArray, aop_idx, liveG_cells, storeO_ptr, stoG_int, List.set_cons_zero, List.set_cons_succ, behindO_cells, aop_append, aop_makeSlice, aop_len, liveB_ro, KL_normal, KL_ret, KL_exit, KI_normal, KI_ret, KI_exit, up_up, goO_known (runesValid_c (ks.flatMap encodeRune) (by omega)), hv]
  | succ k =>
    have c1 : decide ((i : Int) < (n : Int)) = true := decide_eq_true (by omega)
    have w := IntWalk.i64_in ((i : Int) + 1) (by omega)
    have hilt : i < zs.length := by omega
    have e0 : ((i : Int)).toNat = i := by omega
    obtain ⟨z, hz⟩ : ∃ z, zs[i]? = some z := ⟨zs[i], List.getElem?_eq_getElem hilt⟩
    have hld : loadO Tryd.prog 3 (some ((zs.map (PV.int .i64)).drop i)) = some (.q (.int .i64 z)) := load_drop ag3 sz3 (by rw [List.getElem?_map, hz]; rfl)
    have htk : zs.take (i + 1) = zs.take i ++ [z] := by
      rw [List.take_succ_eq_append_getElem hilt]
      rw [List.getElem?_eq_getElem hilt] at hz
      rw [Option.some.inj hz]
    by_cases hz1 : isD z = true
    · have ep : putD z = (encodeRune z, 0) := by simp [putD, hz1]
      have hfil : (zs.take (i + 1)).filter isD = ks ++ [z] := by
        rw [htk, List.filter_append, ← hks]
        simp [hz1]
      have hpe := enc_pos z
      have haB : ∀ (H : AH) (fr : Nat), H.get 1 = some (.cells 1 false ((ks.flatMap encodeRune).map byteV)) → appO Tryd.prog H fr [.ow 1 (ks.flatMap encodeRune).length 0 (ks.flatMap encodeRune).length, .str (encodeRune z)] [37, 9] =
          some (.w (.ow 1 ((ks.flatMap encodeRune).length + (encodeRune z).length) 0 ((ks.flatMap encodeRune).length + (encodeRune z).length)) (H.set 1 (.cells 1 false ((ks.flatMap encodeRune).map byteV ++ (encodeRune z).map byteV)))) := fun H fr g =>
        app_ow u37 u9 (.inl rfl) i5 rfl g (by simp) (cells_str _) (by omega) (by omega) (by omega)
      have haK : ∀ (H : AH) (fr id : Nat), H.get 3 = some (.cells 1 false (ks.map (PV.int .i64))) → H.get id = some (.cells 1 false [.int .i64 z]) → appO Tryd.prog H fr [.ow 3 ks.length 0 ks.length, .ow id 1 0 1] [26, 26] =
          some (.w (.ow 3 (ks.length + 1) 0 (ks.length + 1)) (H.set 3 (.cells 1 false (ks.map (PV.int .i64) ++ [.int .i64 z])))) := fun H fr id q1 q2 =>
        app_ow u26 u26 (.inr ⟨_, rfl⟩) i3 rfl q1 (by simp) (by rw [cellsOf_ow, q2]; exact cellsG_all rfl) (by omega) (by omega) (by omega)
      have hK : ∀ k, ¬ (3 = h'.next + k) := fun k => by omega
      have hB : ∀ k, ¬ (1 = h'.next + k) := fun k => by omega
      simp -implicitDefEqProofs only [wpC_seq, wpC_region, wpC_draw, wpC_cond, wpC_ret, wpC_skip, wpC_exit, wpC_block, wpC_label, wpO_go, wpQ_go, wantA_none, gdO_true, gdO_false, gdQ_true, gdQ_false, goO_q, goO_w, goQ_q, putA_some, putA_none, opnd, ofVal, ofVal1,
    wpO_nil, wpQ_nil, KN_eq, KQ_eq, KS_normal, KS_ret, KS_exit, KB_normal, KB_ret, KB_same, layArgs, Fr.at_set, aop_move, aop_assign, aop_pick, pickO_true, pickO_false, pickO_bool, aop_box, boxO_int, boxO_str, boxO_bool, aop_load, behind_ptr, behind_rop,
    behindO_one, aop_store, aop_index, aop_extract, extractO_0, extractO_1, extractO_2, aop_binOp, bin_add, bin_sub, bin_mul, bin_eql, bin_neq, bin_lss, bin_leq, bin_gtr, bin_geq, bin_seql, bin_sneq, aop_unOp, unO_not, aop_convert, aop_len,
    aop_call, callV_func, aop_slice, decide_true, decide_false, decide_not, wantA_some, yieldA_eq, List.getElem?_toArray, List.getElem?_cons_succ, List.getElem?_cons_zero, Option.bind_some, yieldD_some, wantY_bool, wantY_not, Nat.reduceAdd, reduceIte, Nat.reduceEqDiff,
    Nat.zero_add, Nat.add_zero, beq_self_eq_true, Bool.true_beq, Bool.false_beq, Bool.not_true, Bool.not_false, List.map_cons, List.map_nil, List.append_nil, List.nil_append, List.cons_append, Option.map_some, Option.map_none, Bool.false_eq_true, reduceCtorEq, EndV_normal, EndV_ret, RV_some, resA_tmp, resA_nil, resT_some, oneOf_one, oneOf_two, tup_two, int_same, bool_same, str_same, and_self, and_true, true_and, if_true, if_false, aop_buildSlice, AH.get_set, AH.get_up, AH.next_set, AH.next_up, next_empty, cellsOf_ow, cellsG, List.length_cons, List.length_nil, List.drop_zero, List.take_succ_cons, List.take_zero, Nat.reduceMul, Nat.le_refl, convG_some, List.all_cons, List.all_nil,
    byteC_int, Bool.and_self, toB_int, List.size_toArray, aop_idx, liveG_cells, storeO_ptr, stoG_int, List.set_cons_zero, List.set_cons_succ, behindO_cells, aop_append, aop_makeSlice, aop_len, liveB_ro, KL_normal, KL_ret, KL_exit, KI_normal, KI_ret, KI_exit, up_set, up_up, Nat.add_assoc h'.next, f0, f3, f4, f5, len_ro u26, c1, ida_ro (n := n) (i := (i : Int)) u26 sz3 (by omega) (by omega), e0, hld, goO_known (put_c z), ep]
      rw [haB _ _ (by simp only [AH.get_up]; exact gB)]
      simp -implicitDefEqProofs only [wpC_seq, wpC_region, wpC_draw, wpC_cond, wpC_ret, wpC_skip, wpC_exit, wpC_block, wpC_label, wpO_go, wpQ_go, wantA_none, gdO_true, gdO_false, gdQ_true, gdQ_false, goO_q, goO_w, goQ_q, putA_some, putA_none, opnd, ofVal, ofVal1,
    wpO_nil, wpQ_nil, KN_eq, KQ_eq, KS_normal, KS_ret, KS_exit, KB_normal, KB_ret, KB_same, layArgs, Fr.at_set, aop_move, aop_assign, aop_pick, pickO_true, pickO_false, pickO_bool, aop_box, boxO_int, boxO_str, boxO_bool, aop_load, behind_ptr, behind_rop,
    behindO_one, aop_store, aop_index, aop_extract, extractO_0, extractO_1, extractO_2, aop_binOp, bin_add, bin_sub, bin_mul, bin_eql, bin_neq, bin_lss, bin_leq, bin_gtr, bin_geq, bin_seql, bin_sneq, aop_unOp, unO_not, aop_convert, aop_len,
    aop_call, callV_func, aop_slice, decide_true, decide_false, decide_not, wantA_some, yieldA_eq, List.getElem?_toArray, List.getElem?_cons_succ, List.getElem?_cons_zero, Option.bind_some, yieldD_some, wantY_bool, wantY_not, Nat.reduceAdd, reduceIte, Nat.reduceEqDiff,
    Nat.zero_add, Nat.add_zero, beq_self_eq_true, Bool.true_beq, Bool.false_beq, Bool.not_true, Bool.not_false, List.map_cons, List.map_nil, List.append_nil, List.nil_append, List.cons_append, Option.map_some, Option.map_none, Bool.false_eq_true, reduceCtorEq, EndV_normal, EndV_ret, RV_some, resA_tmp, resA_nil, resT_some, oneOf_one, oneOf_two, tup_two, int_same, bool_same, str_same, and_self, and_true, true_and, if_true, if_false, aop_buildSlice, AH.get_set, AH.get_up, AH.next_set, AH.next_up, next_empty, cellsOf_ow, cellsG, List.length_cons, List.length_nil, List.drop_zero, List.take_succ_cons, List.take_zero, Nat.reduceMul, Nat.le_refl, convG_some, List.all_cons, List.all_nil,
    byteC_int, Bool.and_self, toB_int, List.size_toArray, aop_idx, liveG_cells, storeO_ptr, stoG_int, List.set_cons_zero, List.set_cons_succ, behindO_cells, aop_append, aop_makeSlice, aop_len, liveB_ro, KL_normal, KL_ret, KL_exit, KI_normal, KI_ret, KI_exit, up_set, up_up, Nat.add_assoc h'.next, f0, f3, f4, f5, ida_ro (n := n) (i := (i : Int)) u26 sz3 (by omega) (by omega), e0, hld, build_1 u26 sz3 z3]
      rw [haK]
      rotate_left
      · simp only [AH.get_set, AH.get_up, hK, Nat.reduceEqDiff, reduceIte, if_false, gK]
      · simp only [AH.get_set, if_true]
      simp -implicitDefEqProofs only [wpC_seq, wpC_region, wpC_draw, wpC_cond, wpC_ret, wpC_skip, wpC_exit, wpC_block, wpC_label, wpO_go, wpQ_go, wantA_none, gdO_true, gdO_false, gdQ_true, gdQ_false, goO_q, goO_w, goQ_q, putA_some, putA_none, opnd, ofVal, ofVal1,
    wpO_nil, wpQ_nil, KN_eq, KQ_eq, KS_normal, KS_ret, KS_exit, KB_normal, KB_ret, KB_same, layArgs, Fr.at_set, aop_move, aop_assign, aop_pick, pickO_true, pickO_false, pickO_bool, aop_box, boxO_int, boxO_str, boxO_bool, aop_load, behind_ptr, behind_rop,
    behindO_one, aop_store, aop_index, aop_extract, extractO_0, extractO_1, extractO_2, aop_binOp, bin_add, bin_sub, bin_mul, bin_eql, bin_neq, bin_lss, bin_leq, bin_gtr, bin_geq, bin_seql, bin_sneq, aop_unOp, unO_not, aop_convert, aop_len,
    aop_call, callV_func, aop_slice, decide_true, decide_false, decide_not, wantA_some, yieldA_eq, List.getElem?_toArray, List.getElem?_cons_succ, List.getElem?_cons_zero, Option.bind_some, yieldD_some, wantY_bool, wantY_not, Nat.reduceAdd, reduceIte, Nat.reduceEqDiff,
    Nat.zero_add, Nat.add_zero, beq_self_eq_true, Bool.true_beq, Bool.false_beq, Bool.not_true, Bool.not_false, List.map_cons, List.map_nil, List.append_nil, List.nil_append, List.cons_append, Option.map_some, Option.map_none, Bool.false_eq_true, reduceCtorEq, EndV_normal, EndV_ret, RV_some, resA_tmp, resA_nil, resT_some, oneOf_one, oneOf_two, tup_two, int_same, bool_same, str_same, and_self, and_true, true_and, if_true, if_false, aop_buildSlice, AH.get_set, AH.get_up, AH.next_set, AH.next_up, next_empty, cellsOf_ow, cellsG, List.length_cons, List.length_nil, List.drop_zero, List.take_succ_cons, List.take_zero, Nat.reduceMul, Nat.le_refl, convG_some, List.all_cons, List.all_nil,
    byteC_int, Bool.and_self, toB_int, List.size_toArray, aop_idx, liveG_cells, storeO_ptr, stoG_int, List.set_cons_zero, List.set_cons_succ, behindO_cells, aop_append, aop_makeSlice, aop_len, liveB_ro, KL_normal, KL_ret, KL_exit, KI_normal, KI_ret, KI_exit, up_set, up_up, Nat.add_assoc h'.next, f0, f3, f4, f5, w]
      refine ⟨k, by omega, i + 1, ks ++ [z], by omega, by rw [List.length_append, List.length_cons, List.length_nil]; omega, hfil.symm, ?_, ?_, ?_, ?_, ?_, ?_, ?_, ?_⟩
      · simp only [Fr.at_set, Nat.reduceEqDiff, reduceIte, reduceCtorEq, f0]
      · simp only [Fr.at_set, Nat.reduceEqDiff, reduceIte, reduceCtorEq, List.flatMap_append, List.flatMap_cons, List.flatMap_nil, List.append_nil, List.length_append]
      · simp only [Fr.at_set, Nat.reduceEqDiff, reduceIte, reduceCtorEq, List.length_append, List.length_cons, List.length_nil]
      · simp only [Fr.at_set, Nat.reduceEqDiff, reduceIte, reduceCtorEq]; rfl
      · simp only [AH.get_set, hB, Nat.reduceEqDiff, reduceIte, if_true, if_false, List.flatMap_append, List.flatMap_cons, List.flatMap_nil, List.append_nil, List.map_append]
      · simp only [AH.get_set, if_true, List.map_append, List.map_cons, List.map_nil]
      · simp only [AH.next_set, AH.next_up]; omega
      · simp only [AH.next_set, AH.next_up]; omega
    · have ep : putD z = ([], 10) := by simp [putD, hz1]
      have hfil : (zs.take (i + 1)).filter isD = ks := by
        rw [htk, List.filter_append, ← hks]
        simp [hz1]
      simp -implicitDefEqProofs only [wpC_seq, wpC_region, wpC_draw, wpC_cond, wpC_ret, wpC_skip, wpC_exit, wpC_block, wpC_label, wpO_go, wpQ_go, wantA_none, gdO_true, gdO_false, gdQ_true, gdQ_false, goO_q, goO_w, goQ_q, putA_some, putA_none, opnd, ofVal, ofVal1,
    wpO_nil, wpQ_nil, KN_eq, KQ_eq, KS_normal, KS_ret, KS_exit, KB_normal, KB_ret, KB_same, layArgs, Fr.at_set, aop_move, aop_assign, aop_pick, pickO_true, pickO_false, pickO_bool, aop_box, boxO_int, boxO_str, boxO_bool, aop_load, behind_ptr, behind_rop,
    behindO_one, aop_store, aop_index, aop_extract, extractO_0, extractO_1, extractO_2, aop_binOp, bin_add, bin_sub, bin_mul, bin_eql, bin_neq, bin_lss, bin_leq, bin_gtr, bin_geq, bin_seql, bin_sneq, aop_unOp, unO_not, aop_convert, aop_len,
    aop_call, callV_func, aop_slice, decide_true, decide_false, decide_not, wantA_some, yieldA_eq, List.getElem?_toArray, List.getElem?_cons_succ, List.getElem?_cons_zero, Option.bind_some, yieldD_some, wantY_bool, wantY_not, Nat.reduceAdd, reduceIte, Nat.reduceEqDiff,
    Nat.zero_add, Nat.add_zero, beq_self_eq_true, Bool.true_beq, Bool.false_beq, Bool.not_true, Bool.not_false, List.map_cons, List.map_nil, List.append_nil, List.nil_append, List.cons_append, Option.map_some, Option.map_none, Bool.false_eq_true, reduceCtorEq, EndV_normal, EndV_ret, RV_some, resA_tmp, resA_nil, resT_some, oneOf_one, oneOf_two, tup_two, int_same, bool_same, str_same, and_self, and_true, true_and, if_true, if_false, aop_buildSlice, AH.get_set, AH.get_up, AH.next_set, AH.next_up, next_empty, cellsOf_ow, cellsG, List.length_cons, List.length_nil, List.drop_zero, List.take_succ_cons, List.take_zero, Nat.reduceMul, Nat.le_refl, convG_some, List.all_cons, List.all_nil,
    byteC_int, Bool.and_self, toB_int, List.size_toArray, aop_idx, liveG_cells, storeO_ptr, stoG_int, List.set_cons_zero, List.set_cons_succ, behindO_cells, aop_append, aop_makeSlice, aop_len, liveB_ro, KL_normal, KL_ret, KL_exit, KI_normal, KI_ret, KI_exit, up_set, up_up, Nat.add_assoc h'.next, f0, f3, f4, f5, len_ro u26, c1, ida_ro (n := n) (i := (i : Int)) u26 sz3 (by omega) (by omega), e0, hld, goO_known (put_c z), ep, show ¬ ((10 : Int) = 0) by decide, w]
      refine ⟨k, by omega, i + 1, ks, by omega, by omega, hfil.symm, ?_, ?_, ?_, ?_, ?_, ?_, ?_, ?_⟩
      · simp only [Fr.at_set, Nat.reduceEqDiff, reduceIte, reduceCtorEq, f0]
      · simp only [Fr.at_set, Nat.reduceEqDiff, reduceIte, reduceCtorEq, f3]
      · simp only [Fr.at_set, Nat.reduceEqDiff, reduceIte, reduceCtorEq, f4]
      · simp only [Fr.at_set, Nat.reduceEqDiff, reduceIte, reduceCtorEq]; rfl
      · simp only [AH.get_up, gB]
      · simp only [AH.get_up, gK]
      · simp only [AH.next_up]; omega
      · simp only [AH.next_up]; omega
end Go.Proofs.YtohmplfkieaecaaDoor
