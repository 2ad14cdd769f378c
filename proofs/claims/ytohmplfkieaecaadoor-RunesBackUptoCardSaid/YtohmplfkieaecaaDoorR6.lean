/-
  RUNES, 6: texts: valid ones, what is ahead of the first that begins no source character (RunesAhead), a text with bytes behind it (RunesJoin).
-/
import Derived.Test.YtohmplfkieaecaaDoorR5
namespace Go.Proofs.YtohmplfkieaecaaDoor
open Go.RowKit Go.Lib Go.Ab
set_option linter.unusedSimpArgs false
set_option maxRecDepth 100000

theorem runesValid_c (l : List UInt8) (hl : l.length ≤ 9223372036854775807) (h : AH) (fr : Nat) : CR Tryd.prog glob md 15 [.str l] h fr (.bool (validD l)) none := by
  refine CR.plain (rs := [.tmp 2]) Tryd.func15 rfl rfl rfl rfl rfl rfl ?_ h fr
  simp -implicitDefEqProofs only [wpC_seq, wpC_region, wpC_draw, wpC_cond, wpC_ret, wpC_skip, wpC_exit, wpC_block, wpC_label, wpO_go, wpQ_go, wantA_none, gdO_true, gdO_false, gdQ_true, gdQ_false, goO_q, goO_w, goQ_q, putA_some, putA_none, opnd, ofVal, ofVal1,
    wpO_nil, wpQ_nil, KN_eq, KQ_eq, KS_normal, KS_ret, KS_exit, KB_normal, KB_ret, KB_same, layArgs, Fr.at_set, aop_move, aop_assign, aop_pick, pickO_true, pickO_false, pickO_bool, aop_box, boxO_int, boxO_str, boxO_bool, aop_load, behind_ptr, behind_rop,
    behindO_one, aop_store, aop_index, aop_extract, extractO_0, extractO_1, extractO_2, aop_binOp, bin_add, bin_sub, bin_mul, bin_eql, bin_neq, bin_lss, bin_leq, bin_gtr, bin_geq, bin_seql, bin_sneq, aop_unOp, unO_not, aop_convert, aop_len,
    aop_call, callV_func, aop_slice, decide_true, decide_false, decide_not, wantA_some, yieldA_eq, List.getElem?_toArray, List.getElem?_cons_succ, List.getElem?_cons_zero, Option.bind_some, yieldD_some, wantY_bool, wantY_not, Nat.reduceAdd, reduceIte, Nat.reduceEqDiff,
    Nat.zero_add, Nat.add_zero, beq_self_eq_true, Bool.true_beq, Bool.false_beq, Bool.not_true, Bool.not_false, List.map_cons, List.map_nil, List.append_nil, List.nil_append, List.cons_append, Option.map_some, Option.map_none, Bool.false_eq_true, reduceCtorEq, EndV_normal, EndV_ret, RV_some, resA_tmp, resA_nil, resT_some, oneOf_one, oneOf_two, tup_two, int_same, bool_same, str_same, and_self, and_true, true_and, if_true, if_false, goO_known (valid_c l hl)]

/-! ### One character, and what is behind it -/
/-- A character begins here. -/
def okL (d : List UInt8) : Prop := d ≠ [] ∧ ¬ ((decodeL d).1 = 65533 ∧ (decodeL d).2 = 1)
theorem okL_split {d : List UInt8} (h : okL d) : isD ((decodeL d).1 : Int) = true ∧ d = encodeRune ((decodeL d).1 : Int) ++ d.drop (decodeL d).2 ∧ (encodeRune ((decodeL d).1 : Int)).length = (decodeL d).2 := by
  have e := encode_decode d h.1 h.2
  refine ⟨(refN_good d h.1 h.2).2, ?_, ?_⟩
  · conv => lhs; rw [← List.take_append_drop (decodeL d).2 d]
    rw [e]
  · rw [e, List.length_take, Nat.min_eq_left (decodeL_le d h.1)]
theorem okL_enc (c : Int) (hc : isD c = true) (t : List UInt8) : okL (encodeRune c ++ t) ∧ decodeL (encodeRune c ++ t) = (c.toNat, (encodeRune c).length) := by
  have h1 := dec_enc c hc t
  have h2 := enc_pos c
  refine ⟨⟨?_, ?_⟩, h1⟩
  · intro e
    have := congrArg List.length e
    rw [List.length_append, List.length_nil] at this
    omega
  · rw [h1]
    rintro ⟨k1, k2⟩
    simp only at k1 k2
    rw [isD_iff] at hc
    have := enc_two c (by omega)
    omega
theorem runeD_ok {l : List UInt8} {a : Int} (h : (runeD l a).2 ≠ 0) : okL (l.drop a.toNat) ∧ runeD l a = (((decodeL (l.drop a.toNat)).1 : Int), ((decodeL (l.drop a.toNat)).2 : Int)) := by
  have hp := runeD_pos l a h
  have hne : l.drop a.toNat ≠ [] := by
    intro e
    have := congrArg List.length e
    rw [List.length_drop, List.length_nil] at this
    omega
  unfold runeD at h ⊢
  rw [if_neg (by omega)] at h ⊢
  split at h
  · simp at h
  · rename_i h2
    rw [if_neg h2]
    exact ⟨⟨hne, h2⟩, rfl⟩
theorem runeD_of_ok {l : List UInt8} {a : Int} (h0 : 0 ≤ a) (h1 : a < l.length) (h : okL (l.drop a.toNat)) : runeD l a = (((decodeL (l.drop a.toNat)).1 : Int), ((decodeL (l.drop a.toNat)).2 : Int)) := by
  unfold runeD
  rw [if_neg (by omega), if_neg h.2]
theorem runeD_bad {l : List UInt8} {a : Int} (h0 : 0 ≤ a) (h1 : a < l.length) (h : ¬ okL (l.drop a.toNat)) : runeD l a = (0, 0) := by
  have hne : l.drop a.toNat ≠ [] := by
    intro e
    have := congrArg List.length e
    rw [List.length_drop, List.length_nil] at this
    omega
  unfold runeD
  rw [if_neg (by omega), if_pos]
  exact Classical.byContradiction fun q => h ⟨hne, q⟩
theorem validD_ok {d : List UInt8} (h : okL d) : validD d = validD (d.drop (decodeL d).2) := by rw [validD_step d h.1, if_neg h.2]
theorem validD_bad {d : List UInt8} (hne : d ≠ []) (h : ¬ okL d) : validD d = false := by
  rw [validD_step d hne, if_pos]
  exact Classical.byContradiction fun q => h ⟨hne, q⟩
/-- What is cut off behind a character leaves it. -/
theorem okL_take {d : List UInt8} (h : okL d) {m : Nat} (hm : (decodeL d).2 ≤ m) : okL (d.take m) ∧ decodeL (d.take m) = decodeL d := by
  obtain ⟨h1, h2, h3⟩ := okL_split h
  have e : d.take m = encodeRune ((decodeL d).1 : Int) ++ (d.drop (decodeL d).2).take (m - (decodeL d).2) := by
    conv => lhs; rw [h2]
    rw [List.take_append, List.take_of_length_le (by omega), h3]
  obtain ⟨k1, k2⟩ := okL_enc _ h1 ((d.drop (decodeL d).2).take (m - (decodeL d).2))
  rw [e]
  refine ⟨k1, ?_⟩
  rw [k2, h3]
  rfl
theorem okL_app {d : List UInt8} (h : okL d) (t : List UInt8) : okL (d ++ t) ∧ decodeL (d ++ t) = decodeL d := by
  obtain ⟨h1, h2, h3⟩ := okL_split h
  have e : d ++ t = encodeRune ((decodeL d).1 : Int) ++ (d.drop (decodeL d).2 ++ t) := by
    conv => lhs; rw [h2]
    rw [List.append_assoc]
  obtain ⟨k1, k2⟩ := okL_enc _ h1 (d.drop (decodeL d).2 ++ t)
  rw [e]
  refine ⟨k1, ?_⟩
  rw [k2, h3]
  rfl

/-! ### Ahead of what begins no source character -/
theorem Src.zero {l : List UInt8} {a x y : Int} (h : Src l a x y) (h0 : 0 ≤ a) : y = 0 → x = 0 ∧ validD (l.drop a.toNat) = true := by
  induction h with
  | done a x y h1 ex ey =>
    intro _
    refine ⟨ex, ?_⟩
    rw [List.drop_eq_nil_of_le (by omega)]
    rfl
  | bad => intro e; omega
  | none => intro e; omega
  | step a x y h1 h2 h3 h4 ih =>
    intro e
    obtain ⟨k1, k2⟩ := runeD_ok h2
    have hp := runeD_pos l a h2
    obtain ⟨e1, e2⟩ := ih (by omega) e
    refine ⟨e1, ?_⟩
    rw [validD_ok k1, List.drop_drop]
    have : (a + (runeD l a).2).toNat = a.toNat + (decodeL (l.drop a.toNat)).2 := by
      rw [k2]
      simp only
      omega
    rw [← this]
    exact e2
theorem Src.ten {l : List UInt8} {a x y : Int} (h : Src l a x y) (h0 : 0 ≤ a) : y ≠ 0 → y = 10 ∧ a ≤ x ∧ x < l.length ∧ Src (l.take x.toNat) a 0 0 := by
  induction h with
  | done a x y h1 ex ey => intro e; exact absurd ey e
  | bad a x y h1 h2 ex ey => exact fun _ => ⟨ey, by omega, by omega, .done a 0 0 (by rw [List.length_take]; omega) rfl rfl⟩
  | none a x y h1 h2 h3 ex ey => exact fun _ => ⟨ey, by omega, by omega, .done a 0 0 (by rw [List.length_take]; omega) rfl rfl⟩
  | step a x y h1 h2 h3 h4 ih =>
    intro e
    obtain ⟨k1, k2⟩ := runeD_ok h2
    have hp := runeD_pos l a h2
    obtain ⟨e1, e2, e3, e4⟩ := ih (by omega) e
    have e5 : (l.take x.toNat).drop a.toNat = (l.drop a.toNat).take (x.toNat - a.toNat) := by rw [List.drop_take]
    have hw : (runeD l a).2 = ((decodeL (l.drop a.toNat)).2 : Int) := by rw [k2]
    obtain ⟨o1, o2⟩ := okL_take k1 (m := x.toNat - a.toNat) (by omega)
    rw [← e5] at o1 o2
    have e6 : runeD (l.take x.toNat) a = runeD l a := by rw [runeD_of_ok h0 (by rw [List.length_take]; omega) o1, o2, k2]
    exact ⟨e1, by omega, e3, .step a 0 0 (by rw [List.length_take]; omega) (by rw [e6]; exact h2) (by rw [e6]; exact h3) (by rw [e6]; exact e4)⟩

theorem aheadLaw_c (l : List UInt8) (hl : l.length ≤ 140737488351232) (h : AH) (fr : Nat) : CR Tryd.prog glob md 11 [.str l] h fr (.bool true) none := by
  obtain ⟨x, y, hs⟩ := Src.ex l l.length 0 (by omega) (by omega)
  refine CR.plain (rs := [.tmp 2]) Tryd.func11 rfl rfl rfl rfl rfl rfl ?_ h fr
  by_cases hy : y = 0
  · obtain ⟨e1, e2⟩ := hs.zero (Int.le_refl 0) hy
    subst hy
    subst e1
    rw [Int.toNat_zero, List.drop_zero] at e2
    have c1 : ¬ ((l.length : Int) < 0) := by omega
    simp -implicitDefEqProofs only [wpC_seq, wpC_region, wpC_draw, wpC_cond, wpC_ret, wpC_skip, wpC_exit, wpC_block, wpC_label, wpO_go, wpQ_go, wantA_none, gdO_true, gdO_false, gdQ_true, gdQ_false, goO_q, goO_w, goQ_q, putA_some, putA_none, opnd, ofVal, ofVal1,
    wpO_nil, wpQ_nil, KN_eq, KQ_eq, KS_normal, KS_ret, KS_exit, KB_normal, KB_ret, KB_same, layArgs, Fr.at_set, aop_move, aop_assign, aop_pick, pickO_true, pickO_false, pickO_bool, aop_box, boxO_int, boxO_str, boxO_bool, aop_load, behind_ptr, behind_rop,
    behindO_one, aop_store, aop_index, aop_extract, extractO_0, extractO_1, extractO_2, aop_binOp, bin_add, bin_sub, bin_mul, bin_eql, bin_neq, bin_lss, bin_leq, bin_gtr, bin_geq, bin_seql, bin_sneq, aop_unOp, unO_not, aop_convert, aop_len,
    aop_call, callV_func, aop_slice, decide_true, decide_false, decide_not, wantA_some, yieldA_eq, List.getElem?_toArray, List.getElem?_cons_succ, List.getElem?_cons_zero, Option.bind_some, yieldD_some, wantY_bool, wantY_not, Nat.reduceAdd, reduceIte, Nat.reduceEqDiff,
    Nat.zero_add, Nat.add_zero, beq_self_eq_true, Bool.true_beq, Bool.false_beq, Bool.not_true, Bool.not_false, List.map_cons, List.map_nil, List.append_nil, List.nil_append, List.cons_append, Option.map_some, Option.map_none, Bool.false_eq_true, reduceCtorEq, EndV_normal, EndV_ret, RV_some, resA_tmp, resA_nil, resT_some, oneOf_one, oneOf_two, tup_two, int_same, bool_same, str_same, and_self, and_true, true_and, if_true, if_false, goO_known (source22_c l hl 0 0 hs), goO_known fixed_c, len_str u9, c1, goO_known (runesValid_c l (by omega)), e2, show ¬ ((0 : Int) < 0) by decide]
  · obtain ⟨e1, e2, e3, e4⟩ := hs.ten (Int.le_refl 0) hy
    obtain ⟨_, e6⟩ := e4.zero (Int.le_refl 0) rfl
    rw [Int.toNat_zero, List.drop_zero] at e6
    have hl' : (l.take x.toNat).length ≤ 140737488351232 := by rw [List.length_take]; omega
    subst e1
    have c1 : ¬ (x < 0) := by omega
    have c2 : ¬ ((l.length : Int) < x) := by omega
    simp -implicitDefEqProofs only [wpC_seq, wpC_region, wpC_draw, wpC_cond, wpC_ret, wpC_skip, wpC_exit, wpC_block, wpC_label, wpO_go, wpQ_go, wantA_none, gdO_true, gdO_false, gdQ_true, gdQ_false, goO_q, goO_w, goQ_q, putA_some, putA_none, opnd, ofVal, ofVal1,
    wpO_nil, wpQ_nil, KN_eq, KQ_eq, KS_normal, KS_ret, KS_exit, KB_normal, KB_ret, KB_same, layArgs, Fr.at_set, aop_move, aop_assign, aop_pick, pickO_true, pickO_false, pickO_bool, aop_box, boxO_int, boxO_str, boxO_bool, aop_load, behind_ptr, behind_rop,
    behindO_one, aop_store, aop_index, aop_extract, extractO_0, extractO_1, extractO_2, aop_binOp, bin_add, bin_sub, bin_mul, bin_eql, bin_neq, bin_lss, bin_leq, bin_gtr, bin_geq, bin_seql, bin_sneq, aop_unOp, unO_not, aop_convert, aop_len,
    aop_call, callV_func, aop_slice, decide_true, decide_false, decide_not, wantA_some, yieldA_eq, List.getElem?_toArray, List.getElem?_cons_succ, List.getElem?_cons_zero, Option.bind_some, yieldD_some, wantY_bool, wantY_not, Nat.reduceAdd, reduceIte, Nat.reduceEqDiff,
    Nat.zero_add, Nat.add_zero, beq_self_eq_true, Bool.true_beq, Bool.false_beq, Bool.not_true, Bool.not_false, List.map_cons, List.map_nil, List.append_nil, List.nil_append, List.cons_append, Option.map_some, Option.map_none, Bool.false_eq_true, reduceCtorEq, EndV_normal, EndV_ret, RV_some, resA_tmp, resA_nil, resT_some, oneOf_one, oneOf_two, tup_two, int_same, bool_same, str_same, and_self, and_true, true_and, if_true, if_false, goO_known (source22_c l hl x 10 hs), goO_known fixed_c, len_str u9, c1, c2, e3, show ¬ ((10 : Int) = 0) by decide, slice_to u9 e2 (show x ≤ l.length by omega), goO_known (source22_c (l.take x.toNat) hl' 0 0 e4),
      goO_known (runesValid_c (l.take x.toNat) (by omega)), e6]

/-! ### Bytes behind a text -/
theorem validD_append : ∀ (k : Nat) (s t : List UInt8), s.length ≤ k → validD s = true → validD (s ++ t) = validD t
  | 0, s, t, hk, _ => by
    obtain rfl : s = [] := List.eq_nil_of_length_eq_zero (by omega)
    rfl
  | k + 1, s, t, hk, hv => by
    by_cases hne : s = []
    · subst hne; rfl
    · by_cases ho : okL s
      · have hw := decodeL_width s
        have hle := decodeL_le s hne
        obtain ⟨o1, o2⟩ := okL_app ho t
        rw [validD_ok ho] at hv
        rw [validD_ok o1, o2, List.drop_append_of_le_length hle]
        exact validD_append k _ t (by rw [List.length_drop]; have := List.length_pos_iff.2 hne; omega) hv
      · rw [validD_bad hne ho] at hv
        simp at hv
/-- Within a character's bytes none begins. -/
theorem enc_inner (c : Int) (hc : isD c = true) (i : Nat) (h0 : 0 < i) (h1 : i < (encodeRune c).length) : 128 ≤ ((encodeRune c).getD i 0).toNat ∧ ((encodeRune c).getD i 0).toNat < 192 := by
  rw [isD_iff] at hc
  by_cases c1 : c < 128
  · simp only [encodeRune, encodeRuneZ_one (show 0 ≤ c by omega) (show c ≤ 127 by omega), List.map_cons, List.map_nil, List.length_cons, List.length_nil] at h1
    omega
  by_cases c2 : c < 2048
  · simp only [encodeRune, encodeRuneZ_two (show 128 ≤ c by omega) (show c ≤ 2047 by omega), List.map_cons, List.map_nil, List.length_cons, List.length_nil] at h1 ⊢
    have e1 := ofN (128 + c % 64) (by omega)
    match i, h0, h1 with
    | 1, _, _ => simp only [List.getD_cons_succ, List.getD_cons_zero]; omega
    | i + 2, _, h1 => omega
  by_cases c3 : c < 65536
  · simp only [encodeRune, encodeRuneZ_three (r := c) (by omega), List.map_cons, List.map_nil, List.length_cons, List.length_nil] at h1 ⊢
    have e1 := ofN (128 + c / 64 % 64) (by omega)
    have e2 := ofN (128 + c % 64) (by omega)
    match i, h0, h1 with
    | 1, _, _ => simp only [List.getD_cons_succ, List.getD_cons_zero]; omega
    | 2, _, _ => simp only [List.getD_cons_succ, List.getD_cons_zero]; omega
    | i + 3, _, h1 => omega
  · simp only [encodeRune, encodeRuneZ_four (r := c) (by omega) (by omega), List.map_cons, List.map_nil, List.length_cons, List.length_nil] at h1 ⊢
    have e1 := ofN (128 + c / 4096 % 64) (by omega)
    have e2 := ofN (128 + c / 64 % 64) (by omega)
    have e3 := ofN (128 + c % 64) (by omega)
    match i, h0, h1 with
    | 1, _, _ => simp only [List.getD_cons_succ, List.getD_cons_zero]; omega
    | 2, _, _ => simp only [List.getD_cons_succ, List.getD_cons_zero]; omega
    | 3, _, _ => simp only [List.getD_cons_succ, List.getD_cons_zero]; omega
    | i + 4, _, h1 => omega
theorem notOk_inner {d : List UInt8} (h : 128 ≤ (d.getD 0 0).toNat ∧ (d.getD 0 0).toNat < 192) : ¬ okL d := by
  rintro ⟨_, h2⟩
  apply h2
  rw [decodeL_N]
  generalize (d.getD 0 0).toNat = b0 at *
  have : decodeN d.length b0 (d.getD 1 0).toNat (d.getD 2 0).toNat (d.getD 3 0).toNat = (65533, 1) := by
    unfold decodeN
    rw [if_neg (by omega), if_neg (by omega), if_neg (by omega), if_neg (by omega)]
  rw [this]
  exact ⟨rfl, rfl⟩
/-- What begins within a text is the same with any bytes behind it. -/
theorem okL_within : ∀ (k : Nat) (s t : List UInt8) (i : Nat), s.length ≤ k → validD s = true → i < s.length → (okL (s.drop i) ∨ (¬ okL (s.drop i) ∧ ¬ okL ((s ++ t).drop i)))
  | 0, s, t, i, hk, _, hi => by omega
  | k + 1, s, t, i, hk, hv, hi => by
    have hne : s ≠ [] := by intro e; subst e; simp at hi
    by_cases ho : okL s
    · have hw := decodeL_width s
      have hle := decodeL_le s hne
      obtain ⟨h1, h2, h3⟩ := okL_split ho
      by_cases hi2 : (decodeL s).2 ≤ i
      · rw [validD_ok ho] at hv
        have ih := okL_within k (s.drop (decodeL s).2) t (i - (decodeL s).2) (by rw [List.length_drop]; omega) hv (by rw [List.length_drop]; omega)
        rw [← List.drop_append_of_le_length hle, List.drop_drop, List.drop_drop, show (decodeL s).2 + (i - (decodeL s).2) = i by omega] at ih
        exact ih
      · by_cases hi0 : i = 0
        · subst hi0
          exact .inl ho
        · right
          have hb := enc_inner _ h1 i (by omega) (by omega)
          have g : ∀ u : List UInt8, ((encodeRune ((decodeL s).1 : Int) ++ u).drop i).getD 0 0 = (encodeRune ((decodeL s).1 : Int)).getD i 0 := by
            intro u
            simp only [List.getD_eq_getElem?_getD, List.getElem?_drop, Nat.add_zero]
            rw [List.getElem?_append_left (by omega)]
          constructor
          · apply notOk_inner
            rw [h2, g]
            exact hb
          · apply notOk_inner
            rw [h2, List.append_assoc, g]
            exact hb
    · rw [validD_bad hne ho] at hv
      simp at hv
theorem runeD_within (s t : List UInt8) (a : Int) (hv : validD s = true) (h0 : 0 ≤ a) (h1 : a < s.length) : runeD (s ++ t) a = runeD s a := by
  have hd : (s ++ t).drop a.toNat = s.drop a.toNat ++ t := List.drop_append_of_le_length (by omega)
  rcases okL_within s.length s t a.toNat (Nat.le_refl _) hv (by omega) with h | ⟨h, h'⟩
  · obtain ⟨o1, o2⟩ := okL_app h t
    rw [← hd] at o1 o2
    rw [runeD_of_ok h0 h1 h, runeD_of_ok h0 (by rw [List.length_append]; omega) o1, o2]
  · rw [runeD_bad h0 h1 h, runeD_bad h0 (by rw [List.length_append]; omega) h']

theorem bin_bneq {P : Program} {h : AH} {t : TypeId} {a b : Bool} (hu : P.underlying t = some .bool) : binO P h .neq t (.bool a) (.bool b) = some (.q (.bool (!(a == b)))) := by
  simp [binO, liveB, binV, sameV, hu]
theorem joinLaw_c (s t : List UInt8) (hs : s.length ≤ 140737488351232) (ht : t.length ≤ 140737488351232) (a : Int) (h : AH) (fr : Nat) : CR Tryd.prog glob md 8 [.str s, .str t, .int .i64 a] h fr (.bool true) none := by
  refine CR.plain (rs := [.tmp 6]) Tryd.func8 rfl rfl rfl rfl rfl rfl ?_ h fr
  have hst : (s ++ t).length ≤ 9223372036854775807 := by rw [List.length_append]; omega
  cases hv : validD s with
  | false => simp -implicitDefEqProofs only [wpC_seq, wpC_region, wpC_draw, wpC_cond, wpC_ret, wpC_skip, wpC_exit, wpC_block, wpC_label, wpO_go, wpQ_go, wantA_none, gdO_true, gdO_false, gdQ_true, gdQ_false, goO_q, goO_w, goQ_q, putA_some, putA_none, opnd, ofVal, ofVal1,
    wpO_nil, wpQ_nil, KN_eq, KQ_eq, KS_normal, KS_ret, KS_exit, KB_normal, KB_ret, KB_same, layArgs, Fr.at_set, aop_move, aop_assign, aop_pick, pickO_true, pickO_false, pickO_bool, aop_box, boxO_int, boxO_str, boxO_bool, aop_load, behind_ptr, behind_rop,
    behindO_one, aop_store, aop_index, aop_extract, extractO_0, extractO_1, extractO_2, aop_binOp, bin_add, bin_sub, bin_mul, bin_eql, bin_neq, bin_lss, bin_leq, bin_gtr, bin_geq, bin_seql, bin_sneq, aop_unOp, unO_not, aop_convert, aop_len,
    aop_call, callV_func, aop_slice, decide_true, decide_false, decide_not, wantA_some, yieldA_eq, List.getElem?_toArray, List.getElem?_cons_succ, List.getElem?_cons_zero, Option.bind_some, yieldD_some, wantY_bool, wantY_not, Nat.reduceAdd, reduceIte, Nat.reduceEqDiff,
    Nat.zero_add, Nat.add_zero, beq_self_eq_true, Bool.true_beq, Bool.false_beq, Bool.not_true, Bool.not_false, List.map_cons, List.map_nil, List.append_nil, List.nil_append, List.cons_append, Option.map_some, Option.map_none, Bool.false_eq_true, reduceCtorEq, EndV_normal, EndV_ret, RV_some, resA_tmp, resA_nil, resT_some, oneOf_one, oneOf_two, tup_two, int_same, bool_same, str_same, and_self, and_true, true_and, if_true, if_false, goO_known fixed_c, goO_known (runesValid_c s (by omega)), hv]
  | true =>
    have hj := validD_append s.length s t (Nat.le_refl _) hv
    by_cases c1 : a < 0
    · simp -implicitDefEqProofs only [wpC_seq, wpC_region, wpC_draw, wpC_cond, wpC_ret, wpC_skip, wpC_exit, wpC_block, wpC_label, wpO_go, wpQ_go, wantA_none, gdO_true, gdO_false, gdQ_true, gdQ_false, goO_q, goO_w, goQ_q, putA_some, putA_none, opnd, ofVal, ofVal1,
    wpO_nil, wpQ_nil, KN_eq, KQ_eq, KS_normal, KS_ret, KS_exit, KB_normal, KB_ret, KB_same, layArgs, Fr.at_set, aop_move, aop_assign, aop_pick, pickO_true, pickO_false, pickO_bool, aop_box, boxO_int, boxO_str, boxO_bool, aop_load, behind_ptr, behind_rop,
    behindO_one, aop_store, aop_index, aop_extract, extractO_0, extractO_1, extractO_2, aop_binOp, bin_add, bin_sub, bin_mul, bin_eql, bin_neq, bin_lss, bin_leq, bin_gtr, bin_geq, bin_seql, bin_sneq, aop_unOp, unO_not, aop_convert, aop_len,
    aop_call, callV_func, aop_slice, decide_true, decide_false, decide_not, wantA_some, yieldA_eq, List.getElem?_toArray, List.getElem?_cons_succ, List.getElem?_cons_zero, Option.bind_some, yieldD_some, wantY_bool, wantY_not, Nat.reduceAdd, reduceIte, Nat.reduceEqDiff,
    Nat.zero_add, Nat.add_zero, beq_self_eq_true, Bool.true_beq, Bool.false_beq, Bool.not_true, Bool.not_false, List.map_cons, List.map_nil, List.append_nil, List.nil_append, List.cons_append, Option.map_some, Option.map_none, Bool.false_eq_true, reduceCtorEq, EndV_normal, EndV_ret, RV_some, resA_tmp, resA_nil, resT_some, oneOf_one, oneOf_two, tup_two, int_same, bool_same, str_same, and_self, and_true, true_and, if_true, if_false, goO_known fixed_c, goO_known (runesValid_c s (by omega)), goO_known (runesValid_c t (by omega)), goO_known (runesValid_c (s ++ t) hst), hv, hj, bin_sadd (show s.length + t.length ≤ 9223372036854775807 by omega), bin_bneq u4, c1]
    by_cases c2 : (s.length : Int) ≤ a
    · simp -implicitDefEqProofs only [wpC_seq, wpC_region, wpC_draw, wpC_cond, wpC_ret, wpC_skip, wpC_exit, wpC_block, wpC_label, wpO_go, wpQ_go, wantA_none, gdO_true, gdO_false, gdQ_true, gdQ_false, goO_q, goO_w, goQ_q, putA_some, putA_none, opnd, ofVal, ofVal1,
    wpO_nil, wpQ_nil, KN_eq, KQ_eq, KS_normal, KS_ret, KS_exit, KB_normal, KB_ret, KB_same, layArgs, Fr.at_set, aop_move, aop_assign, aop_pick, pickO_true, pickO_false, pickO_bool, aop_box, boxO_int, boxO_str, boxO_bool, aop_load, behind_ptr, behind_rop,
    behindO_one, aop_store, aop_index, aop_extract, extractO_0, extractO_1, extractO_2, aop_binOp, bin_add, bin_sub, bin_mul, bin_eql, bin_neq, bin_lss, bin_leq, bin_gtr, bin_geq, bin_seql, bin_sneq, aop_unOp, unO_not, aop_convert, aop_len,
    aop_call, callV_func, aop_slice, decide_true, decide_false, decide_not, wantA_some, yieldA_eq, List.getElem?_toArray, List.getElem?_cons_succ, List.getElem?_cons_zero, Option.bind_some, yieldD_some, wantY_bool, wantY_not, Nat.reduceAdd, reduceIte, Nat.reduceEqDiff,
    Nat.zero_add, Nat.add_zero, beq_self_eq_true, Bool.true_beq, Bool.false_beq, Bool.not_true, Bool.not_false, List.map_cons, List.map_nil, List.append_nil, List.nil_append, List.cons_append, Option.map_some, Option.map_none, Bool.false_eq_true, reduceCtorEq, EndV_normal, EndV_ret, RV_some, resA_tmp, resA_nil, resT_some, oneOf_one, oneOf_two, tup_two, int_same, bool_same, str_same, and_self, and_true, true_and, if_true, if_false, goO_known fixed_c, goO_known (runesValid_c s (by omega)), goO_known (runesValid_c t (by omega)), goO_known (runesValid_c (s ++ t) hst), hv, hj, bin_sadd (show s.length + t.length ≤ 9223372036854775807 by omega), bin_bneq u4, c1, c2, len_str u9]
    · have hr := runeD_within s t a hv (by omega) (by omega)
      simp -implicitDefEqProofs only [wpC_seq, wpC_region, wpC_draw, wpC_cond, wpC_ret, wpC_skip, wpC_exit, wpC_block, wpC_label, wpO_go, wpQ_go, wantA_none, gdO_true, gdO_false, gdQ_true, gdQ_false, goO_q, goO_w, goQ_q, putA_some, putA_none, opnd, ofVal, ofVal1,
    wpO_nil, wpQ_nil, KN_eq, KQ_eq, KS_normal, KS_ret, KS_exit, KB_normal, KB_ret, KB_same, layArgs, Fr.at_set, aop_move, aop_assign, aop_pick, pickO_true, pickO_false, pickO_bool, aop_box, boxO_int, boxO_str, boxO_bool, aop_load, behind_ptr, behind_rop,
    behindO_one, aop_store, aop_index, aop_extract, extractO_0, extractO_1, extractO_2, aop_binOp, bin_add, bin_sub, bin_mul, bin_eql, bin_neq, bin_lss, bin_leq, bin_gtr, bin_geq, bin_seql, bin_sneq, aop_unOp, unO_not, aop_convert, aop_len,
    aop_call, callV_func, aop_slice, decide_true, decide_false, decide_not, wantA_some, yieldA_eq, List.getElem?_toArray, List.getElem?_cons_succ, List.getElem?_cons_zero, Option.bind_some, yieldD_some, wantY_bool, wantY_not, Nat.reduceAdd, reduceIte, Nat.reduceEqDiff,
    Nat.zero_add, Nat.add_zero, beq_self_eq_true, Bool.true_beq, Bool.false_beq, Bool.not_true, Bool.not_false, List.map_cons, List.map_nil, List.append_nil, List.nil_append, List.cons_append, Option.map_some, Option.map_none, Bool.false_eq_true, reduceCtorEq, EndV_normal, EndV_ret, RV_some, resA_tmp, resA_nil, resT_some, oneOf_one, oneOf_two, tup_two, int_same, bool_same, str_same, and_self, and_true, true_and, if_true, if_false, goO_known fixed_c, goO_known (runesValid_c s (by omega)), goO_known (runesValid_c t (by omega)), goO_known (runesValid_c (s ++ t) hst), hv, hj, bin_sadd (show s.length + t.length ≤ 9223372036854775807 by omega), bin_bneq u4, c1, c2, len_str u9,
        goO_known (rune_c s (by omega) a), goO_known (rune_c (s ++ t) hst a), hr]
end Go.Proofs.YtohmplfkieaecaaDoor
