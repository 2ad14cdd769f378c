/-
  JOINED TEXTS (Q17): what this law wants beyond the shared ones.
-/
import Derived.Test.YtcbngkmmmfaaoaaGreatDoorM12
import Derived.Test.YtcbngkmmmfaaoaaGreatDoorM6
set_option linter.unusedVariables false
set_option linter.unusedSimpArgs false
/-
  SCHEMAS THAT MAY BE, Q17: SchemaBack.
-/
namespace Go.Proofs.YtcbngkmmmfaaoaaGreatDoor
open Go.RowKit Go.Lib Go.Ac
set_option linter.unusedSimpArgs false
set_option maxRecDepth 100000
variable {mx : Int}
theorem fixed9_c (h : AH) (fr : Nat) : CR Tryz.prog (globM mx) md (.fn 14) [] h fr (.val (.bool true)) := pure_any rfl rfl ⟨2000, fixed09_run⟩ h fr
def invO (s : Sc) (k : Nat) (F : Fr) (h : AH) : Prop := ∃ i : Nat, k + i = s.os.length ∧ F.at 1 = .ptr 0 2 0 ∧ F.at 3 = .int .i64 i ∧ h.get 0 = some (.cells 25 0 false s.pv)
def invI (s : Sc) (i n : Nat) (k : Nat) (F : Fr) (h : AH) : Prop := ∃ j : Nat, k + j = n ∧ F.at 1 = .ptr 0 2 0 ∧ F.at 3 = .int .i64 i ∧ F.at 4 = .int .i64 j ∧ h.get 0 = some (.cells 25 0 false s.pv)
theorem schemaBack_c {s : Sc} (hs : s.fits) (hm : s.small) (h : AH) (fr : Nat) : CR Tryz.prog (globM mx) md (.fn 5) [.agg s.pv] h fr (.val (.bool true)) := by
  refine CR.plain (rs := [.tmp 2]) Tryz.func5 rfl rfl rfl rfl rfl rfl rfl ?_ h fr
  by_cases c1 : checkV mx s = 0
  · have ok := check_ok c1
    simp -implicitDefEqProofs only [wpC_seq, rowsA, if_true, if_false, opnd, ofVal, ofVal1, layArgs, Nat.reduceAdd, reduceIte, Nat.reduceEqDiff, reduceCtorEq, rowsB, cellsG, Nat.reduceMul, Sc.len, Ob.len, En.len, Fld.len, fda_ptr o25_0, fda_ptr o25_1, fda_ptr o33_0, fda_ptr o33_1, fda_ptr o33_2, fda_ptr o33_3, fda_ptr o31_0, fda_ptr o31_1, fda_ptr o41_0, fda_ptr o41_1, fda_ptr o45_0, fda_ptr o45_1, fda_rop o25_0, fda_rop o25_1, fda_rop o33_0, fda_rop o33_1, fda_rop o33_2, fda_rop o33_3, fda_rop o31_0, fda_rop o31_1, fda_rop o41_0, fda_rop o41_1, fda_rop o45_0, fda_rop o45_1,
    ld25, ld33, ld41, ld45, ld33r, ld41r, ld45r, ld22, ld23, ld9o, ld9or, ld39o, ld39or, ld9e, ld9er, ld43e, ld43er, ld9f0, ld9f0r, ld9f1, ld9f1r, ld9f2, ld9f2r, ld9f3, ld9f3r, ld9f4, ld9f4r, ld31f, ln22, ln23, ln39, ln43, List.drop_drop, goO_known fixed9_c, ld25 s, goO_known (check_s hs hm), c1]
    refine wpC_loop (invO s) (k := s.os.length) ⟨0, by omega, ?_, ?_, ?_⟩ ?_
    · simp only [Fr.at_set, Nat.reduceEqDiff, reduceIte, reduceCtorEq]; try rfl
    · simp only [Fr.at_set, Nat.reduceEqDiff, reduceIte, reduceCtorEq]; rfl
    · simp only [AH.get_set, AH.get_up, if_true]
    rintro k F h1 ⟨i, ik, f1, f3, g⟩
    cases k with
    | zero =>
      have c2 : ¬ ((i : Int) < (s.os.length : Int)) := by omega
      simp -implicitDefEqProofs only [wpC_seq, rowsA, if_true, if_false, opnd, ofVal, ofVal1, layArgs, Nat.reduceAdd, reduceIte, Nat.reduceEqDiff, reduceCtorEq, rowsB, cellsG, Nat.reduceMul, Sc.len, Ob.len, En.len, Fld.len, fda_ptr o25_0, fda_ptr o25_1, fda_ptr o33_0, fda_ptr o33_1, fda_ptr o33_2, fda_ptr o33_3, fda_ptr o31_0, fda_ptr o31_1, fda_ptr o41_0, fda_ptr o41_1, fda_ptr o45_0, fda_ptr o45_1, fda_rop o25_0, fda_rop o25_1, fda_rop o33_0, fda_rop o33_1, fda_rop o33_2, fda_rop o33_3, fda_rop o31_0, fda_rop o31_1, fda_rop o41_0, fda_rop o41_1, fda_rop o45_0, fda_rop o45_1,
    ld25, ld33, ld41, ld45, ld33r, ld41r, ld45r, ld22, ld23, ld9o, ld9or, ld39o, ld39or, ld9e, ld9er, ld43e, ld43er, ld9f0, ld9f0r, ld9f1, ld9f1r, ld9f2, ld9f2r, ld9f3, ld9f3r, ld9f4, ld9f4r, ld31f, ln22, ln23, ln39, ln43, List.drop_drop, f1, f3, g, c2]
    | succ k =>
      have c2 : (i : Int) < (s.os.length : Int) := by omega
      obtain ⟨o, ho⟩ : ∃ o, s.os[i]? = some o := ⟨s.os[i], List.getElem?_eq_getElem (by omega)⟩
      obtain ⟨r, hr⟩ := ix22 (l := s.os) (i := (i : Int)) (by omega) (by rw [Int.toNat_natCast]; exact ho)
      have hob := obj_c (mx := mx) hs o.n
      rw [ok.objs ho] at hob
      simp -implicitDefEqProofs only [wpC_seq, rowsA, if_true, if_false, opnd, ofVal, ofVal1, layArgs, Nat.reduceAdd, reduceIte, Nat.reduceEqDiff, reduceCtorEq, rowsB, cellsG, Nat.reduceMul, Sc.len, Ob.len, En.len, Fld.len, fda_ptr o25_0, fda_ptr o25_1, fda_ptr o33_0, fda_ptr o33_1, fda_ptr o33_2, fda_ptr o33_3, fda_ptr o31_0, fda_ptr o31_1, fda_ptr o41_0, fda_ptr o41_1, fda_ptr o45_0, fda_ptr o45_1, fda_rop o25_0, fda_rop o25_1, fda_rop o33_0, fda_rop o33_1, fda_rop o33_2, fda_rop o33_3, fda_rop o31_0, fda_rop o31_1, fda_rop o41_0, fda_rop o41_1, fda_rop o45_0, fda_rop o45_1,
    ld25, ld33, ld41, ld45, ld33r, ld41r, ld45r, ld22, ld23, ld9o, ld9or, ld39o, ld39or, ld9e, ld9er, ld43e, ld43er, ld9f0, ld9f0r, ld9f1, ld9f1r, ld9f2, ld9f2r, ld9f3, ld9f3r, ld9f4, ld9f4r, ld31f, ln22, ln23, ln39, ln43, List.drop_drop, f1, f3, g, c2, hr, ld25 s, goD_known hob]
      refine wpC_loop (invI s i o.fs.length) (k := o.fs.length) ⟨0, by omega, ?_, ?_, ?_, ?_⟩ ?_
      · simp only [Fr.at_set, Nat.reduceEqDiff, reduceIte, reduceCtorEq, f1]
      · simp only [Fr.at_set, Nat.reduceEqDiff, reduceIte, reduceCtorEq, f3]
      · simp only [Fr.at_set, Nat.reduceEqDiff, reduceIte, reduceCtorEq]; rfl
      · simp only [AH.get_up]; exact g
      clear f1 f3 g
      rintro k2 F h2 ⟨j, jk, f1, f3, f4, g⟩
      cases k2 with
      | zero =>
        have c3 : ¬ ((j : Int) < (o.fs.length : Int)) := by omega
        have w := IntWalk.i64_in ((i : Int) + 1) (by have := hs.1; omega)
        simp -implicitDefEqProofs only [wpC_seq, rowsA, if_true, if_false, opnd, ofVal, ofVal1, layArgs, Nat.reduceAdd, reduceIte, Nat.reduceEqDiff, reduceCtorEq, rowsB, cellsG, Nat.reduceMul, Sc.len, Ob.len, En.len, Fld.len, fda_ptr o25_0, fda_ptr o25_1, fda_ptr o33_0, fda_ptr o33_1, fda_ptr o33_2, fda_ptr o33_3, fda_ptr o31_0, fda_ptr o31_1, fda_ptr o41_0, fda_ptr o41_1, fda_ptr o45_0, fda_ptr o45_1, fda_rop o25_0, fda_rop o25_1, fda_rop o33_0, fda_rop o33_1, fda_rop o33_2, fda_rop o33_3, fda_rop o31_0, fda_rop o31_1, fda_rop o41_0, fda_rop o41_1, fda_rop o45_0, fda_rop o45_1,
    ld25, ld33, ld41, ld45, ld33r, ld41r, ld45r, ld22, ld23, ld9o, ld9or, ld39o, ld39or, ld9e, ld9er, ld43e, ld43er, ld9f0, ld9f0r, ld9f1, ld9f1r, ld9f2, ld9f2r, ld9f3, ld9f3r, ld9f4, ld9f4r, ld31f, ln22, ln23, ln39, ln43, List.drop_drop, f1, f3, f4, g, hr, c3, w]
        refine ⟨k, by omega, i + 1, by omega, ?_, ?_, ?_⟩
        · simp only [Fr.at_set, Nat.reduceEqDiff, reduceIte, reduceCtorEq, f1]
        · simp only [Fr.at_set, Nat.reduceEqDiff, reduceIte, reduceCtorEq]; rfl
        · simp only [AH.get_up]; exact g
      | succ k2 =>
        have c3 : (j : Int) < (o.fs.length : Int) := by omega
        obtain ⟨f, hf⟩ : ∃ f, o.fs[j]? = some f := ⟨o.fs[j], List.getElem?_eq_getElem (by omega)⟩
        obtain ⟨r2, hr2⟩ := ix39 (l := o.fs) (i := (j : Int)) (by omega) (by rw [Int.toNat_natCast]; exact hf)
        simp -implicitDefEqProofs only [wpC_seq, rowsA, if_true, if_false, opnd, ofVal, ofVal1, layArgs, Nat.reduceAdd, reduceIte, Nat.reduceEqDiff, reduceCtorEq, rowsB, cellsG, Nat.reduceMul, Sc.len, Ob.len, En.len, Fld.len, fda_ptr o25_0, fda_ptr o25_1, fda_ptr o33_0, fda_ptr o33_1, fda_ptr o33_2, fda_ptr o33_3, fda_ptr o31_0, fda_ptr o31_1, fda_ptr o41_0, fda_ptr o41_1, fda_ptr o45_0, fda_ptr o45_1, fda_rop o25_0, fda_rop o25_1, fda_rop o33_0, fda_rop o33_1, fda_rop o33_2, fda_rop o33_3, fda_rop o31_0, fda_rop o31_1, fda_rop o41_0, fda_rop o41_1, fda_rop o45_0, fda_rop o45_1,
    ld25, ld33, ld41, ld45, ld33r, ld41r, ld45r, ld22, ld23, ld9o, ld9or, ld39o, ld39or, ld9e, ld9er, ld43e, ld43er, ld9f0, ld9f0r, ld9f1, ld9f1r, ld9f2, ld9f2r, ld9f3, ld9f3r, ld9f4, ld9f4r, ld31f, ln22, ln23, ln39, ln43, List.drop_drop, f1, f3, f4, g, hr, hr2, c3, al33, sz33, st33, ld25 s, ld33, goD_known (edge_c hs f), goD_known (back_c hs i j)]
        have hom := List.mem_of_getElem? ho
        have hfm := List.mem_of_getElem? hf
        have hpr := ok.edge_prop hom hfm
        have w2 := IntWalk.i64_in ((j : Int) + 1) (by have := hs.2.2 o hom; omega)
        have fin : ∀ (F' : Fr) (h' : AH), F'.at 1 = .ptr 0 2 0 → F'.at 3 = .int .i64 i → F'.at 4 = .int .i64 ((j : Int) + 1) → h'.get 0 = some (.cells 25 0 false s.pv) → ∃ k', k' < k2 + 1 ∧ invI s i o.fs.length k' F' h' := fun F' h' a1 a2 a3 a4 => ⟨k2, by omega, j + 1, by omega, a1, a2, a3, a4⟩
        have bk : f.inv = [] → backOf s i j = -1 := by
          intro e
          unfold backOf
          rw [if_neg (by omega), Int.toNat_natCast, ho]
          simp only
          rw [if_neg (by omega), Int.toNat_natCast, hf]
          simp only [e, if_true]
          split <;> rfl
        have i0 : f.inv = [] → propB s f = true ∨ 0 ≤ edgeOf s f := fun _ => by cases hp : propB s f with
          | true => exact .inl rfl
          | false =>
            rw [hp] at hpr
            exact .inr (by have := hpr.symm; simp at this; omega)
        have lm1 : ¬ ((0 : Int) ≤ -1) := by decide
        have neg : propB s f = true → edgeOf s f < 0 ∧ f.inv = [] := fun hp => by
          rw [hp] at hpr
          have h1 : edgeOf s f < 0 := by simpa using hpr.symm
          refine ⟨h1, ?_⟩
          apply Classical.byContradiction
          intro ci
          obtain ⟨j1, m1, q1, q2, q3⟩ := ok.back_back ho hf ci
          omega
        have pos : propB s f = false → ¬ (edgeOf s f < 0) := fun hp => by
          rw [hp] at hpr
          simpa using hpr.symm
        cases cs : scalar f.t with
        | true =>
          obtain ⟨c4, ci⟩ := neg (by simp [propB, cs])
          simp -implicitDefEqProofs only [wpC_seq, rowsA, if_true, if_false, opnd, ofVal, ofVal1, layArgs, Nat.reduceAdd, reduceIte, Nat.reduceEqDiff, reduceCtorEq, rowsB, cellsG, Nat.reduceMul, Sc.len, Ob.len, En.len, Fld.len, fda_ptr o25_0, fda_ptr o25_1, fda_ptr o33_0, fda_ptr o33_1, fda_ptr o33_2, fda_ptr o33_3, fda_ptr o31_0, fda_ptr o31_1, fda_ptr o41_0, fda_ptr o41_1, fda_ptr o45_0, fda_ptr o45_1, fda_rop o25_0, fda_rop o25_1, fda_rop o33_0, fda_rop o33_1, fda_rop o33_2, fda_rop o33_3, fda_rop o31_0, fda_rop o31_1, fda_rop o41_0, fda_rop o41_1, fda_rop o45_0, fda_rop o45_1,
    ld25, ld33, ld41, ld45, ld33r, ld41r, ld45r, ld22, ld23, ld9o, ld9or, ld39o, ld39or, ld9e, ld9er, ld43e, ld43er, ld9f0, ld9f0r, ld9f1, ld9f1r, ld9f2, ld9f2r, ld9f3, ld9f3r, ld9f4, ld9f4r, ld31f, ln22, ln23, ln39, ln43, List.drop_drop, f1, f3, f4, g, goO_known (scalar_c f.t), goO_known (enm_c hs f.t), lm1, w2, bin_bneq u4, Bool.bne_true, Bool.bne_false, bne_self_eq_false, cs, c4, bk ci, ci]
          refine fin _ _ ?_ ?_ ?_ ?_
          · simp only [Fr.at_set, Nat.reduceEqDiff, reduceIte, reduceCtorEq, f1]
          · simp only [Fr.at_set, Nat.reduceEqDiff, reduceIte, reduceCtorEq, f3]
          · simp only [Fr.at_set, Nat.reduceEqDiff, reduceIte, reduceCtorEq]
          · simp only [AH.get_set, AH.get_up, g]
            rw [if_neg (by omega), if_neg (by omega)]
        | false =>
          by_cases ce : 0 ≤ enmAt s f.t
          · obtain ⟨c4, ci⟩ := neg (by simp [propB, cs, ce])
            simp -implicitDefEqProofs only [wpC_seq, rowsA, if_true, if_false, opnd, ofVal, ofVal1, layArgs, Nat.reduceAdd, reduceIte, Nat.reduceEqDiff, reduceCtorEq, rowsB, cellsG, Nat.reduceMul, Sc.len, Ob.len, En.len, Fld.len, fda_ptr o25_0, fda_ptr o25_1, fda_ptr o33_0, fda_ptr o33_1, fda_ptr o33_2, fda_ptr o33_3, fda_ptr o31_0, fda_ptr o31_1, fda_ptr o41_0, fda_ptr o41_1, fda_ptr o45_0, fda_ptr o45_1, fda_rop o25_0, fda_rop o25_1, fda_rop o33_0, fda_rop o33_1, fda_rop o33_2, fda_rop o33_3, fda_rop o31_0, fda_rop o31_1, fda_rop o41_0, fda_rop o41_1, fda_rop o45_0, fda_rop o45_1,
    ld25, ld33, ld41, ld45, ld33r, ld41r, ld45r, ld22, ld23, ld9o, ld9or, ld39o, ld39or, ld9e, ld9er, ld43e, ld43er, ld9f0, ld9f0r, ld9f1, ld9f1r, ld9f2, ld9f2r, ld9f3, ld9f3r, ld9f4, ld9f4r, ld31f, ln22, ln23, ln39, ln43, List.drop_drop, f1, f3, f4, g, goO_known (scalar_c f.t), goO_known (enm_c hs f.t), lm1, w2, bin_bneq u4, Bool.bne_true, Bool.bne_false, bne_self_eq_false, cs, ce, c4, bk ci, ci]
            refine fin _ _ ?_ ?_ ?_ ?_
            · simp only [Fr.at_set, Nat.reduceEqDiff, reduceIte, reduceCtorEq, f1]
            · simp only [Fr.at_set, Nat.reduceEqDiff, reduceIte, reduceCtorEq, f3]
            · simp only [Fr.at_set, Nat.reduceEqDiff, reduceIte, reduceCtorEq]
            · simp only [AH.get_set, AH.get_up, g]
              rw [if_neg (by omega), if_neg (by omega)]
          · have c4 := pos (by simp [propB, cs, ce])
            by_cases ci : f.inv = []
            · skip
              simp -implicitDefEqProofs only [wpC_seq, rowsA, if_true, if_false, opnd, ofVal, ofVal1, layArgs, Nat.reduceAdd, reduceIte, Nat.reduceEqDiff, reduceCtorEq, rowsB, cellsG, Nat.reduceMul, Sc.len, Ob.len, En.len, Fld.len, fda_ptr o25_0, fda_ptr o25_1, fda_ptr o33_0, fda_ptr o33_1, fda_ptr o33_2, fda_ptr o33_3, fda_ptr o31_0, fda_ptr o31_1, fda_ptr o41_0, fda_ptr o41_1, fda_ptr o45_0, fda_ptr o45_1, fda_rop o25_0, fda_rop o25_1, fda_rop o33_0, fda_rop o33_1, fda_rop o33_2, fda_rop o33_3, fda_rop o31_0, fda_rop o31_1, fda_rop o41_0, fda_rop o41_1, fda_rop o45_0, fda_rop o45_1,
    ld25, ld33, ld41, ld45, ld33r, ld41r, ld45r, ld22, ld23, ld9o, ld9or, ld39o, ld39or, ld9e, ld9er, ld43e, ld43er, ld9f0, ld9f0r, ld9f1, ld9f1r, ld9f2, ld9f2r, ld9f3, ld9f3r, ld9f4, ld9f4r, ld31f, ln22, ln23, ln39, ln43, List.drop_drop, f1, f3, f4, g, goO_known (scalar_c f.t), goO_known (enm_c hs f.t), lm1, w2, bin_bneq u4, Bool.bne_true, Bool.bne_false, bne_self_eq_false, cs, ce, c4, bk ci, ci]
              refine fin _ _ ?_ ?_ ?_ ?_
              · simp only [Fr.at_set, Nat.reduceEqDiff, reduceIte, reduceCtorEq, f1]
              · simp only [Fr.at_set, Nat.reduceEqDiff, reduceIte, reduceCtorEq, f3]
              · simp only [Fr.at_set, Nat.reduceEqDiff, reduceIte, reduceCtorEq]
              · simp only [AH.get_set, AH.get_up, g]
                rw [if_neg (by omega), if_neg (by omega)]
            · obtain ⟨j1, m1, q1, q2, q3⟩ := ok.back_back ho hf ci
              have lm2 : (0 : Int) ≤ (m1 : Int) := by omega
              have lm3 : ¬ ((j1 : Int) < 0) := by omega
              rw [q1] at c4
              simp -implicitDefEqProofs only [wpC_seq, rowsA, if_true, if_false, opnd, ofVal, ofVal1, layArgs, Nat.reduceAdd, reduceIte, Nat.reduceEqDiff, reduceCtorEq, rowsB, cellsG, Nat.reduceMul, Sc.len, Ob.len, En.len, Fld.len, fda_ptr o25_0, fda_ptr o25_1, fda_ptr o33_0, fda_ptr o33_1, fda_ptr o33_2, fda_ptr o33_3, fda_ptr o31_0, fda_ptr o31_1, fda_ptr o41_0, fda_ptr o41_1, fda_ptr o45_0, fda_ptr o45_1, fda_rop o25_0, fda_rop o25_1, fda_rop o33_0, fda_rop o33_1, fda_rop o33_2, fda_rop o33_3, fda_rop o31_0, fda_rop o31_1, fda_rop o41_0, fda_rop o41_1, fda_rop o45_0, fda_rop o45_1,
    ld25, ld33, ld41, ld45, ld33r, ld41r, ld45r, ld22, ld23, ld9o, ld9or, ld39o, ld39or, ld9e, ld9er, ld43e, ld43er, ld9f0, ld9f0r, ld9f1, ld9f1r, ld9f2, ld9f2r, ld9f3, ld9f3r, ld9f4, ld9f4r, ld31f, ln22, ln23, ln39, ln43, List.drop_drop, f1, f3, f4, g, goO_known (scalar_c f.t), goO_known (enm_c hs f.t), lm1, w2, bin_bneq u4, Bool.bne_true, Bool.bne_false, bne_self_eq_false, cs, ce, lm3, ci, q1, q2, lm2, goO_known (back_c hs (j1 : Int) (m1 : Int)), q3]
              refine fin _ _ ?_ ?_ ?_ ?_
              · simp only [Fr.at_set, Nat.reduceEqDiff, reduceIte, reduceCtorEq, f1]
              · simp only [Fr.at_set, Nat.reduceEqDiff, reduceIte, reduceCtorEq, f3]
              · simp only [Fr.at_set, Nat.reduceEqDiff, reduceIte, reduceCtorEq]
              · simp only [AH.get_set, AH.get_up, g]
                rw [if_neg (by omega), if_neg (by omega)]
  · simp -implicitDefEqProofs only [wpC_seq, rowsA, if_true, if_false, opnd, ofVal, ofVal1, layArgs, Nat.reduceAdd, reduceIte, Nat.reduceEqDiff, reduceCtorEq, rowsB, cellsG, Nat.reduceMul, Sc.len, Ob.len, En.len, Fld.len, fda_ptr o25_0, fda_ptr o25_1, fda_ptr o33_0, fda_ptr o33_1, fda_ptr o33_2, fda_ptr o33_3, fda_ptr o31_0, fda_ptr o31_1, fda_ptr o41_0, fda_ptr o41_1, fda_ptr o45_0, fda_ptr o45_1, fda_rop o25_0, fda_rop o25_1, fda_rop o33_0, fda_rop o33_1, fda_rop o33_2, fda_rop o33_3, fda_rop o31_0, fda_rop o31_1, fda_rop o41_0, fda_rop o41_1, fda_rop o45_0, fda_rop o45_1,
    ld25, ld33, ld41, ld45, ld33r, ld41r, ld45r, ld22, ld23, ld9o, ld9or, ld39o, ld39or, ld9e, ld9er, ld43e, ld43er, ld9f0, ld9f0r, ld9f1, ld9f1r, ld9f2, ld9f2r, ld9f3, ld9f3r, ld9f4, ld9f4r, ld31f, ln22, ln23, ln39, ln43, List.drop_drop, goO_known fixed9_c, ld25 s, goO_known (check_s hs hm), c1]
end Go.Proofs.YtcbngkmmmfaaoaaGreatDoor
