/-
  JOINED TEXTS (U6 U7): what this law wants beyond the shared ones.
-/
import Derived.Test.YtcbngkmmmfaaoaaGreatDoorX1RowSchemaChecks
import Derived.Test.YtcbngkmmmfaaoaaGreatDoorM11
import Derived.Test.YtcbngkmmmfaaoaaGreatDoorM6
set_option linter.unusedVariables false
set_option linter.unusedSimpArgs false
namespace Go.Proofs.YtcbngkmmmfaaoaaGreatDoor
open Go.RowKit Go.Lib Go.Ac
set_option linter.unusedSimpArgs false
set_option maxRecDepth 100000
variable {mx : Int}
theorem many9_eq (s : Sc) : many9 s = enoughB (s.os.map Ob.raw) (s.es.map En.raw) := by
  have e1 : (s.os.map Ob.raw).all (fun o => betw o.k 1 12) = s.os.all (fun o => betw o.fs.length 1 12) := by rw [List.all_map]; rfl
  have e2 : (s.es.map En.raw).all (fun o => betw o.k 1 16) = s.es.all (fun o => betw o.ws.length 1 16) := by rw [List.all_map]; rfl
  have e3 : betw s.os.length 1 8 = (decide (1 ≤ s.os.length) && decide (s.os.length ≤ 8)) := rfl
  unfold many9 enoughB
  rw [e1, e2, List.length_map, List.length_map, e3]
  cases s.os.all (fun o => betw o.fs.length 1 12) <;> cases s.es.all (fun o => betw o.ws.length 1 16) <;> cases decide (1 ≤ s.os.length) <;> cases decide (s.os.length ≤ 8) <;> cases decide (s.es.length ≤ 8) <;> rfl
theorem take_all_eq {α : Type} {q : α → Bool} {L : List α} {i : Nat} {o : α} (ho : L[i]? = some o) : (L.take (i + 1)).all q = ((L.take i).all q && q o) := by
  rw [List.take_add_one, ho, List.all_append]
  simp
def eR (c : Int) (b : Bool) : Int := if b then 0 else c
def inv6o (s : Sc) (q : Ob → Fld → Bool) (r c : Int) (k : Nat) (F : Fr) (h : AH) : Prop := ∃ i : Nat, k + i = s.os.length ∧ F.at 1 = .ptr 0 2 0 ∧ F.at 3 = .int .i64 (eR c ((s.os.take i).all fun o => o.fs.all (q o))) ∧ F.at 4 = .int .i64 r ∧ F.at 5 = .int .i64 i ∧ h.get 0 = some (.cells 25 0 false s.pv) ∧ 1 ≤ h.next
def inv6f (s : Sc) (q : Ob → Fld → Bool) (r c : Int) (i : Nat) (o : Ob) (k : Nat) (F : Fr) (h : AH) : Prop := ∃ j : Nat, k + j = o.fs.length ∧ F.at 1 = .ptr 0 2 0 ∧ F.at 3 = .int .i64 (eR c ((s.os.take i).all (fun o => o.fs.all (q o)) && (o.fs.take j).all (q o))) ∧ F.at 4 = .int .i64 r ∧ F.at 5 = .int .i64 i ∧ F.at 6 = .int .i64 j ∧ h.get 0 = some (.cells 25 0 false s.pv) ∧ 1 ≤ h.next
def inv6r (s : Sc) (k : Nat) (F : Fr) (h : AH) : Prop := ∃ r : Nat, k + r = 7 ∧ 4 ≤ r ∧ F.at 1 = .ptr 0 2 0 ∧ F.at 3 = .int .i64 0 ∧ F.at 4 = .int .i64 r ∧ h.get 0 = some (.cells 25 0 false s.pv) ∧ 1 ≤ h.next ∧ (4 < r → (s.os.all fun o => o.fs.all (typedB s)) = true) ∧ (5 < r → (s.os.all fun o => o.fs.all (searchB s)) = true) ∧ (6 < r → (s.os.all fun o => o.fs.all (backB s o)) = true)
set_option maxHeartbeats 2000000 in
theorem check9_c {s : Sc} (hs : s.fits) (hm : s.small) (h : AH) (fr : Nat) : CR Tryz.prog (globM mx) md (.fn 16) [.agg s.pv] h fr (.val (.int .i64 (checkV mx s))) := by
  refine CR.plain (rs := [.tmp 2]) Tryz.func16 rfl rfl rfl rfl rfl rfl rfl ?_ h fr
  have k1 := many9_c (mx := mx) hs (fun e he => (hm.2 e he).2.1)
  have k2 := names9_c (mx := mx) hs hm
  rw [many9_eq] at k1
  unfold checkV checkN
  cases c1 : enoughB (s.os.map Ob.raw) (s.es.map En.raw) with
  | false =>
    rw [c1] at k1
    simp -implicitDefEqProofs only [wpC_seq, rowsA, if_true, if_false, opnd, ofVal, ofVal1, layArgs, Nat.reduceAdd, reduceIte, Nat.reduceEqDiff, reduceCtorEq, rowsB, cellsG, Nat.reduceMul, rowsS, List.drop_drop, goO_known k1]
  | true =>
  have k3 := once9_c (mx := mx) (enough_of c1)
  have en := enough_of c1
  rw [c1] at k1
  cases c2 : namedB mx s with
  | false => simp -implicitDefEqProofs only [wpC_seq, rowsA, if_true, if_false, opnd, ofVal, ofVal1, layArgs, Nat.reduceAdd, reduceIte, Nat.reduceEqDiff, reduceCtorEq, rowsB, cellsG, Nat.reduceMul, rowsS, List.drop_drop, goO_known k1, goO_known k2, c2]
  | true =>
  cases c3 : onceB s with
  | false => simp -implicitDefEqProofs only [wpC_seq, rowsA, if_true, if_false, opnd, ofVal, ofVal1, layArgs, Nat.reduceAdd, reduceIte, Nat.reduceEqDiff, reduceCtorEq, rowsB, cellsG, Nat.reduceMul, rowsS, List.drop_drop, goO_known k1, goO_known k2, goO_known k3, c2, c3]
  | true =>
  simp -implicitDefEqProofs only [wpC_seq, rowsA, if_true, if_false, opnd, ofVal, ofVal1, layArgs, Nat.reduceAdd, reduceIte, Nat.reduceEqDiff, reduceCtorEq, rowsB, cellsG, Nat.reduceMul, rowsS, List.drop_drop, goO_known k1, goO_known k2, goO_known k3, c2, c3]
  refine wpC_loop (inv6r s) (k := 3) ⟨4, by omega, by omega, ?_, ?_, ?_, ?_, ?_, by omega, by omega, by omega⟩ ?_
  · simp only [Fr.at_set, Nat.reduceEqDiff, reduceIte]
  · simp only [Fr.at_set, Nat.reduceEqDiff, reduceIte]
  · simp only [Fr.at_set, Nat.reduceEqDiff, reduceIte]; rfl
  · simp only [AH.get_up, AH.get_set, if_true]
  · simp only [AH.next_up, AH.next_set]; omega
  rintro k F h ⟨r, kr, r4, f1, f3, f4, g0, hn, p4, p5, p6⟩
  have hr : r = 4 ∨ r = 5 ∨ r = 6 ∨ r = 7 := by omega
  rcases hr with rfl | rfl | rfl | rfl
  · have w1 := IntWalk.i64_in (((4 : Nat) : Int) + 1) (by decide)
    have b0 : ((4 : Nat) : Int) ≤ 6 := by decide
    have b4 : decide (((4 : Nat) : Int) = 4) = true := by decide
    have b5 : decide (((4 : Nat) : Int) = 5) = false := by decide
    have b6 : decide (((4 : Nat) : Int) = 6) = false := by decide
    simp -implicitDefEqProofs only [wpC_seq, rowsA, if_true, if_false, opnd, ofVal, ofVal1, layArgs, Nat.reduceAdd, reduceIte, Nat.reduceEqDiff, reduceCtorEq, rowsB, cellsG, Nat.reduceMul, f3, f4, b0]
    refine wpC_loop (inv6o s (fun _ f => typedB s f) ((4 : Nat) : Int) 93) (k := s.os.length) ⟨0, by omega, ?_, ?_, ?_, ?_, ?_, ?_⟩ ?_
    · simp only [Fr.at_set, Nat.reduceEqDiff, reduceIte, f1]
    · simp only [Fr.at_set, Nat.reduceEqDiff, reduceIte, f3]; rfl
    · simp only [Fr.at_set, Nat.reduceEqDiff, reduceIte, f4]
    · simp only [Fr.at_set, Nat.reduceEqDiff, reduceIte]; rfl
    · simp only [AH.get_up]; exact g0
    · simp only [AH.next_up]; omega
    clear f1 f3 f4 g0 hn
    rintro k1 F h ⟨i, ki, f1, f3, f4, f5, g0, hn⟩
    cases k1 with
    | zero =>
      have c0 : ¬ ((i : Int) < (s.os.length : Int)) := by omega
      rw [List.take_of_length_le (by omega)] at f3
      cases d1 : s.os.all (fun o => o.fs.all ((fun _ f => typedB s f) o)) with
      | false =>
        have e0 : eR 93 false = 93 := rfl
        rw [d1, e0] at f3
        have ne : ¬ ((93 : Int) = 0) := by decide
        simp -implicitDefEqProofs only [wpC_seq, rowsA, if_true, if_false, opnd, ofVal, ofVal1, layArgs, Nat.reduceAdd, reduceIte, Nat.reduceEqDiff, reduceCtorEq, rowsB, cellsG, Nat.reduceMul, rowsS, List.drop_drop, f1, f3, f4, f5, g0, c0, ne, if_true, if_false, show (s.os.all fun o => o.fs.all (typedB s)) = false from d1]
      | true =>
        have e0 : eR 93 true = 0 := rfl
        rw [d1, e0] at f3
        simp -implicitDefEqProofs only [wpC_seq, rowsA, if_true, if_false, opnd, ofVal, ofVal1, layArgs, Nat.reduceAdd, reduceIte, Nat.reduceEqDiff, reduceCtorEq, rowsB, cellsG, Nat.reduceMul, rowsS, List.drop_drop, f1, f3, f4, f5, g0, c0, w1]
        refine ⟨k - 1, by omega, 5, by omega, by omega, ?_, ?_, ?_, ?_, ?_, ?_, ?_, ?_⟩
        · simp only [Fr.at_set, Nat.reduceEqDiff, reduceIte, f1]
        · simp only [Fr.at_set, Nat.reduceEqDiff, reduceIte, f3]
        · simp only [Fr.at_set, Nat.reduceEqDiff, reduceIte]; rfl
        · simp only [AH.get_up]; exact g0
        · simp only [AH.next_up]; omega
        · exact fun _ => d1
        · exact fun q => absurd q (by omega)
        · exact fun q => absurd q (by omega)
    | succ k1 =>
      have c0 : (i : Int) < (s.os.length : Int) := by omega
      obtain ⟨o, ho⟩ : ∃ o, s.os[i]? = some o := ⟨_, List.getElem?_eq_getElem (show i < s.os.length by omega)⟩
      have hom := List.mem_of_getElem? ho
      obtain ⟨t, ht⟩ := ix22 (l := s.os) (i := (i : Int)) (by omega) (by rw [Int.toNat_natCast]; exact ho)
      have w := IntWalk.i64_in ((i : Int) + 1) (by have := en.2.1; omega)
      simp -implicitDefEqProofs only [wpC_seq, rowsA, if_true, if_false, opnd, ofVal, ofVal1, layArgs, Nat.reduceAdd, reduceIte, Nat.reduceEqDiff, reduceCtorEq, rowsB, cellsG, Nat.reduceMul, rowsS, List.drop_drop, f1, f3, f4, f5, g0, c0]
      refine wpC_loop (inv6f s (fun _ f => typedB s f) ((4 : Nat) : Int) 93 i o) (k := o.fs.length) ⟨0, by omega, ?_, ?_, ?_, ?_, ?_, ?_, ?_⟩ ?_
      · simp only [Fr.at_set, Nat.reduceEqDiff, reduceIte, f1]
      · simp only [Fr.at_set, Nat.reduceEqDiff, reduceIte, f3, List.take_zero, List.all_nil, Bool.and_true]
      · simp only [Fr.at_set, Nat.reduceEqDiff, reduceIte, f4]
      · simp only [Fr.at_set, Nat.reduceEqDiff, reduceIte, f5]
      · simp only [Fr.at_set, Nat.reduceEqDiff, reduceIte]; rfl
      · simp only [AH.get_up]; exact g0
      · simp only [AH.next_up]; omega
      clear f1 f3 f4 f5 g0 hn
      rintro k2 F h ⟨j, kj, f1, f3, f4, f5, f6, g0, hn⟩
      cases k2 with
      | zero =>
        have cj : ¬ ((j : Int) < (o.fs.length : Int)) := by omega
        rw [List.take_of_length_le (show o.fs.length ≤ j by omega)] at f3
        simp -implicitDefEqProofs only [wpC_seq, rowsA, if_true, if_false, opnd, ofVal, ofVal1, layArgs, Nat.reduceAdd, reduceIte, Nat.reduceEqDiff, reduceCtorEq, rowsB, cellsG, Nat.reduceMul, rowsS, List.drop_drop, f1, f3, f4, f5, f6, g0, ht, cj, w]
        refine ⟨k1, by omega, i + 1, by omega, ?_, ?_, ?_, ?_, ?_, ?_⟩
        · simp only [Fr.at_set, Nat.reduceEqDiff, reduceIte, f1]
        · simp only [Fr.at_set, Nat.reduceEqDiff, reduceIte, f3]
          rw [take_all_eq ho]
        · simp only [Fr.at_set, Nat.reduceEqDiff, reduceIte, f4]
        · simp only [Fr.at_set, Nat.reduceEqDiff, reduceIte]; rfl
        · simp only [AH.get_up]; exact g0
        · simp only [AH.next_up]; omega
      | succ k2 =>
        have cj : (j : Int) < (o.fs.length : Int) := by omega
        obtain ⟨f, hf⟩ : ∃ f, o.fs[j]? = some f := ⟨_, List.getElem?_eq_getElem (show j < o.fs.length by omega)⟩
        have hfm := List.mem_of_getElem? hf
        obtain ⟨t2, ht2⟩ := ix39 (l := o.fs) (i := (j : Int)) (by omega) (by rw [Int.toNat_natCast]; exact hf)
        have w2 := IntWalk.i64_in ((j : Int) + 1) (by have := (en.2.2.2.1 o hom).2; omega)
        have nx : ∀ (F' : Fr) (h' : AH), F'.at 1 = F.at 1 → F'.at 3 = .int .i64 (eR 93 ((s.os.take i).all (fun o => o.fs.all ((fun _ f => typedB s f) o)) && ((o.fs.take j).all ((fun _ f => typedB s f) o) && typedB s f))) → F'.at 4 = F.at 4 → F'.at 5 = F.at 5 → F'.at 6 = .int .i64 ((j : Int) + 1) → h'.get 0 = h.get 0 → h.next ≤ h'.next → ∃ k', k' < k2 + 1 ∧ inv6f s (fun _ f => typedB s f) ((4 : Nat) : Int) 93 i o k' F' h' := fun F' h' q1 q3 q4 q5 q6 qg qn => ⟨k2, by omega, j + 1, by omega, q1.trans f1, by rw [q3, take_all_eq hf], q4.trans f4, q5.trans f5, q6, qg.trans g0, by omega⟩
        have kk := kind9_c (mx := mx) hs f
        cases d : typedB s f with
        | true =>
          simp -implicitDefEqProofs only [wpC_seq, rowsA, if_true, if_false, opnd, ofVal, ofVal1, layArgs, Nat.reduceAdd, reduceIte, Nat.reduceEqDiff, reduceCtorEq, rowsB, cellsG, Nat.reduceMul, rowsS, List.drop_drop, f1, f3, f4, f5, f6, g0, ht, cj, ht2, al33, sz33, st33, b4, b5, b6, goO_known kk, d, w2]
          exact nx _ _ (by simp only [Fr.at_set, Nat.reduceEqDiff, reduceIte, f1]) (by simp only [Fr.at_set, Nat.reduceEqDiff, reduceIte, f3, d, Bool.and_true]) (by simp only [Fr.at_set, Nat.reduceEqDiff, reduceIte, f4]) (by simp only [Fr.at_set, Nat.reduceEqDiff, reduceIte, f5]) (by simp only [Fr.at_set, Nat.reduceEqDiff, reduceIte]) (by simp only [AH.get_up, AH.get_set]; rw [if_neg (by omega), if_neg (by omega)]) (by simp only [AH.next_up, AH.next_set]; omega)
        | false =>
          simp -implicitDefEqProofs only [wpC_seq, rowsA, if_true, if_false, opnd, ofVal, ofVal1, layArgs, Nat.reduceAdd, reduceIte, Nat.reduceEqDiff, reduceCtorEq, rowsB, cellsG, Nat.reduceMul, rowsS, List.drop_drop, f1, f3, f4, f5, f6, g0, ht, cj, ht2, al33, sz33, st33, b4, b5, b6, goO_known kk, d, w2]
          exact nx _ _ (by simp only [Fr.at_set, Nat.reduceEqDiff, reduceIte, f1]) (by simp only [Fr.at_set, Nat.reduceEqDiff, reduceIte, d, Bool.and_false]; rfl) (by simp only [Fr.at_set, Nat.reduceEqDiff, reduceIte, f4]) (by simp only [Fr.at_set, Nat.reduceEqDiff, reduceIte, f5]) (by simp only [Fr.at_set, Nat.reduceEqDiff, reduceIte]) (by simp only [AH.get_up, AH.get_set]; rw [if_neg (by omega), if_neg (by omega)]) (by simp only [AH.next_up, AH.next_set]; omega)
  · have w1 := IntWalk.i64_in (((5 : Nat) : Int) + 1) (by decide)
    have b0 : ((5 : Nat) : Int) ≤ 6 := by decide
    have b4 : decide (((5 : Nat) : Int) = 4) = false := by decide
    have b5 : decide (((5 : Nat) : Int) = 5) = true := by decide
    have b6 : decide (((5 : Nat) : Int) = 6) = false := by decide
    simp -implicitDefEqProofs only [wpC_seq, rowsA, if_true, if_false, opnd, ofVal, ofVal1, layArgs, Nat.reduceAdd, reduceIte, Nat.reduceEqDiff, reduceCtorEq, rowsB, cellsG, Nat.reduceMul, f3, f4, b0]
    refine wpC_loop (inv6o s (fun _ f => searchB s f) ((5 : Nat) : Int) 94) (k := s.os.length) ⟨0, by omega, ?_, ?_, ?_, ?_, ?_, ?_⟩ ?_
    · simp only [Fr.at_set, Nat.reduceEqDiff, reduceIte, f1]
    · simp only [Fr.at_set, Nat.reduceEqDiff, reduceIte, f3]; rfl
    · simp only [Fr.at_set, Nat.reduceEqDiff, reduceIte, f4]
    · simp only [Fr.at_set, Nat.reduceEqDiff, reduceIte]; rfl
    · simp only [AH.get_up]; exact g0
    · simp only [AH.next_up]; omega
    clear f1 f3 f4 g0 hn
    rintro k1 F h ⟨i, ki, f1, f3, f4, f5, g0, hn⟩
    cases k1 with
    | zero =>
      have c0 : ¬ ((i : Int) < (s.os.length : Int)) := by omega
      rw [List.take_of_length_le (by omega)] at f3
      cases d1 : s.os.all (fun o => o.fs.all ((fun _ f => searchB s f) o)) with
      | false =>
        have e0 : eR 94 false = 94 := rfl
        rw [d1, e0] at f3
        have ne : ¬ ((94 : Int) = 0) := by decide
        simp -implicitDefEqProofs only [wpC_seq, rowsA, if_true, if_false, opnd, ofVal, ofVal1, layArgs, Nat.reduceAdd, reduceIte, Nat.reduceEqDiff, reduceCtorEq, rowsB, cellsG, Nat.reduceMul, rowsS, List.drop_drop, f1, f3, f4, f5, g0, c0, ne, p4 (by omega), show (s.os.all fun o => o.fs.all (searchB s)) = false from d1]
      | true =>
        have e0 : eR 94 true = 0 := rfl
        rw [d1, e0] at f3
        simp -implicitDefEqProofs only [wpC_seq, rowsA, if_true, if_false, opnd, ofVal, ofVal1, layArgs, Nat.reduceAdd, reduceIte, Nat.reduceEqDiff, reduceCtorEq, rowsB, cellsG, Nat.reduceMul, rowsS, List.drop_drop, f1, f3, f4, f5, g0, c0, w1]
        refine ⟨k - 1, by omega, 6, by omega, by omega, ?_, ?_, ?_, ?_, ?_, ?_, ?_, ?_⟩
        · simp only [Fr.at_set, Nat.reduceEqDiff, reduceIte, f1]
        · simp only [Fr.at_set, Nat.reduceEqDiff, reduceIte, f3]
        · simp only [Fr.at_set, Nat.reduceEqDiff, reduceIte]; rfl
        · simp only [AH.get_up]; exact g0
        · simp only [AH.next_up]; omega
        · exact fun _ => p4 (by omega)
        · exact fun q => d1
        · exact fun q => absurd q (by omega)
    | succ k1 =>
      have c0 : (i : Int) < (s.os.length : Int) := by omega
      obtain ⟨o, ho⟩ : ∃ o, s.os[i]? = some o := ⟨_, List.getElem?_eq_getElem (show i < s.os.length by omega)⟩
      have hom := List.mem_of_getElem? ho
      obtain ⟨t, ht⟩ := ix22 (l := s.os) (i := (i : Int)) (by omega) (by rw [Int.toNat_natCast]; exact ho)
      have w := IntWalk.i64_in ((i : Int) + 1) (by have := en.2.1; omega)
      simp -implicitDefEqProofs only [wpC_seq, rowsA, if_true, if_false, opnd, ofVal, ofVal1, layArgs, Nat.reduceAdd, reduceIte, Nat.reduceEqDiff, reduceCtorEq, rowsB, cellsG, Nat.reduceMul, rowsS, List.drop_drop, f1, f3, f4, f5, g0, c0]
      refine wpC_loop (inv6f s (fun _ f => searchB s f) ((5 : Nat) : Int) 94 i o) (k := o.fs.length) ⟨0, by omega, ?_, ?_, ?_, ?_, ?_, ?_, ?_⟩ ?_
      · simp only [Fr.at_set, Nat.reduceEqDiff, reduceIte, f1]
      · simp only [Fr.at_set, Nat.reduceEqDiff, reduceIte, f3, List.take_zero, List.all_nil, Bool.and_true]
      · simp only [Fr.at_set, Nat.reduceEqDiff, reduceIte, f4]
      · simp only [Fr.at_set, Nat.reduceEqDiff, reduceIte, f5]
      · simp only [Fr.at_set, Nat.reduceEqDiff, reduceIte]; rfl
      · simp only [AH.get_up]; exact g0
      · simp only [AH.next_up]; omega
      clear f1 f3 f4 f5 g0 hn
      rintro k2 F h ⟨j, kj, f1, f3, f4, f5, f6, g0, hn⟩
      cases k2 with
      | zero =>
        have cj : ¬ ((j : Int) < (o.fs.length : Int)) := by omega
        rw [List.take_of_length_le (show o.fs.length ≤ j by omega)] at f3
        simp -implicitDefEqProofs only [wpC_seq, rowsA, if_true, if_false, opnd, ofVal, ofVal1, layArgs, Nat.reduceAdd, reduceIte, Nat.reduceEqDiff, reduceCtorEq, rowsB, cellsG, Nat.reduceMul, rowsS, List.drop_drop, f1, f3, f4, f5, f6, g0, ht, cj, w]
        refine ⟨k1, by omega, i + 1, by omega, ?_, ?_, ?_, ?_, ?_, ?_⟩
        · simp only [Fr.at_set, Nat.reduceEqDiff, reduceIte, f1]
        · simp only [Fr.at_set, Nat.reduceEqDiff, reduceIte, f3]
          rw [take_all_eq ho]
        · simp only [Fr.at_set, Nat.reduceEqDiff, reduceIte, f4]
        · simp only [Fr.at_set, Nat.reduceEqDiff, reduceIte]; rfl
        · simp only [AH.get_up]; exact g0
        · simp only [AH.next_up]; omega
      | succ k2 =>
        have cj : (j : Int) < (o.fs.length : Int) := by omega
        obtain ⟨f, hf⟩ : ∃ f, o.fs[j]? = some f := ⟨_, List.getElem?_eq_getElem (show j < o.fs.length by omega)⟩
        have hfm := List.mem_of_getElem? hf
        obtain ⟨t2, ht2⟩ := ix39 (l := o.fs) (i := (j : Int)) (by omega) (by rw [Int.toNat_natCast]; exact hf)
        have w2 := IntWalk.i64_in ((j : Int) + 1) (by have := (en.2.2.2.1 o hom).2; omega)
        have nx : ∀ (F' : Fr) (h' : AH), F'.at 1 = F.at 1 → F'.at 3 = .int .i64 (eR 94 ((s.os.take i).all (fun o => o.fs.all ((fun _ f => searchB s f) o)) && ((o.fs.take j).all ((fun _ f => searchB s f) o) && searchB s f))) → F'.at 4 = F.at 4 → F'.at 5 = F.at 5 → F'.at 6 = .int .i64 ((j : Int) + 1) → h'.get 0 = h.get 0 → h.next ≤ h'.next → ∃ k', k' < k2 + 1 ∧ inv6f s (fun _ f => searchB s f) ((5 : Nat) : Int) 94 i o k' F' h' := fun F' h' q1 q3 q4 q5 q6 qg qn => ⟨k2, by omega, j + 1, by omega, q1.trans f1, by rw [q3, take_all_eq hf], q4.trans f4, q5.trans f5, q6, qg.trans g0, by omega⟩
        have kk := refEdge_c (mx := mx) hs f
        have kl : loadO Tryz.prog 4 (some (List.drop 3 f.pv)) = some (.q (.bool f.s)) := loadO_one ag4 sz4
        cases d : f.s with
        | false =>
          have e : searchB s f = true := by rw [searchB, d]; rfl
          simp -implicitDefEqProofs only [wpC_seq, rowsA, if_true, if_false, opnd, ofVal, ofVal1, layArgs, Nat.reduceAdd, reduceIte, Nat.reduceEqDiff, reduceCtorEq, rowsB, cellsG, Nat.reduceMul, rowsS, List.drop_drop, f1, f3, f4, f5, f6, g0, ht, cj, ht2, al33, sz33, st33, b4, b5, b6, kl, d, w2]
          exact nx _ _ (by simp only [Fr.at_set, Nat.reduceEqDiff, reduceIte, f1]) (by simp only [Fr.at_set, Nat.reduceEqDiff, reduceIte, f3, e, Bool.and_true]) (by simp only [Fr.at_set, Nat.reduceEqDiff, reduceIte, f4]) (by simp only [Fr.at_set, Nat.reduceEqDiff, reduceIte, f5]) (by simp only [Fr.at_set, Nat.reduceEqDiff, reduceIte]) (by simp only [AH.get_up, AH.get_set]; rw [if_neg (by omega), if_neg (by omega)]) (by simp only [AH.next_up, AH.next_set]; omega)
        | true =>
          by_cases d2 : 0 ≤ edgeOf s f
          · have e : searchB s f = false := by rw [searchB, d, decide_eq_false (by omega)]; rfl
            simp -implicitDefEqProofs only [wpC_seq, rowsA, if_true, if_false, opnd, ofVal, ofVal1, layArgs, Nat.reduceAdd, reduceIte, Nat.reduceEqDiff, reduceCtorEq, rowsB, cellsG, Nat.reduceMul, rowsS, List.drop_drop, f1, f3, f4, f5, f6, g0, ht, cj, ht2, al33, sz33, st33, b4, b5, b6, kl, d, d2, goO_known kk, w2]
            exact nx _ _ (by simp only [Fr.at_set, Nat.reduceEqDiff, reduceIte, f1]) (by simp only [Fr.at_set, Nat.reduceEqDiff, reduceIte, e, Bool.and_false]; rfl) (by simp only [Fr.at_set, Nat.reduceEqDiff, reduceIte, f4]) (by simp only [Fr.at_set, Nat.reduceEqDiff, reduceIte, f5]) (by simp only [Fr.at_set, Nat.reduceEqDiff, reduceIte]) (by simp only [AH.get_up, AH.get_set]; rw [if_neg (by omega), if_neg (by omega)]) (by simp only [AH.next_up, AH.next_set]; omega)
          · have e : searchB s f = true := by rw [searchB, d, decide_eq_true (by omega)]; rfl
            simp -implicitDefEqProofs only [wpC_seq, rowsA, if_true, if_false, opnd, ofVal, ofVal1, layArgs, Nat.reduceAdd, reduceIte, Nat.reduceEqDiff, reduceCtorEq, rowsB, cellsG, Nat.reduceMul, rowsS, List.drop_drop, f1, f3, f4, f5, f6, g0, ht, cj, ht2, al33, sz33, st33, b4, b5, b6, kl, d, d2, goO_known kk, w2]
            exact nx _ _ (by simp only [Fr.at_set, Nat.reduceEqDiff, reduceIte, f1]) (by simp only [Fr.at_set, Nat.reduceEqDiff, reduceIte, f3, e, Bool.and_true]) (by simp only [Fr.at_set, Nat.reduceEqDiff, reduceIte, f4]) (by simp only [Fr.at_set, Nat.reduceEqDiff, reduceIte, f5]) (by simp only [Fr.at_set, Nat.reduceEqDiff, reduceIte]) (by simp only [AH.get_up, AH.get_set]; rw [if_neg (by omega), if_neg (by omega)]) (by simp only [AH.next_up, AH.next_set]; omega)
  · have w1 := IntWalk.i64_in (((6 : Nat) : Int) + 1) (by decide)
    have b0 : ((6 : Nat) : Int) ≤ 6 := by decide
    have b4 : decide (((6 : Nat) : Int) = 4) = false := by decide
    have b5 : decide (((6 : Nat) : Int) = 5) = false := by decide
    have b6 : decide (((6 : Nat) : Int) = 6) = true := by decide
    simp -implicitDefEqProofs only [wpC_seq, rowsA, if_true, if_false, opnd, ofVal, ofVal1, layArgs, Nat.reduceAdd, reduceIte, Nat.reduceEqDiff, reduceCtorEq, rowsB, cellsG, Nat.reduceMul, f3, f4, b0]
    refine wpC_loop (inv6o s (fun o f => backB s o f) ((6 : Nat) : Int) 95) (k := s.os.length) ⟨0, by omega, ?_, ?_, ?_, ?_, ?_, ?_⟩ ?_
    · simp only [Fr.at_set, Nat.reduceEqDiff, reduceIte, f1]
    · simp only [Fr.at_set, Nat.reduceEqDiff, reduceIte, f3]; rfl
    · simp only [Fr.at_set, Nat.reduceEqDiff, reduceIte, f4]
    · simp only [Fr.at_set, Nat.reduceEqDiff, reduceIte]; rfl
    · simp only [AH.get_up]; exact g0
    · simp only [AH.next_up]; omega
    clear f1 f3 f4 g0 hn
    rintro k1 F h ⟨i, ki, f1, f3, f4, f5, g0, hn⟩
    cases k1 with
    | zero =>
      have c0 : ¬ ((i : Int) < (s.os.length : Int)) := by omega
      rw [List.take_of_length_le (by omega)] at f3
      cases d1 : s.os.all (fun o => o.fs.all ((fun o f => backB s o f) o)) with
      | false =>
        have e0 : eR 95 false = 95 := rfl
        rw [d1, e0] at f3
        have ne : ¬ ((95 : Int) = 0) := by decide
        simp -implicitDefEqProofs only [wpC_seq, rowsA, if_true, if_false, opnd, ofVal, ofVal1, layArgs, Nat.reduceAdd, reduceIte, Nat.reduceEqDiff, reduceCtorEq, rowsB, cellsG, Nat.reduceMul, rowsS, List.drop_drop, f1, f3, f4, f5, g0, c0, ne, p4 (by omega), p5 (by omega), show (s.os.all fun o => o.fs.all (backB s o)) = false from d1]
      | true =>
        have e0 : eR 95 true = 0 := rfl
        rw [d1, e0] at f3
        simp -implicitDefEqProofs only [wpC_seq, rowsA, if_true, if_false, opnd, ofVal, ofVal1, layArgs, Nat.reduceAdd, reduceIte, Nat.reduceEqDiff, reduceCtorEq, rowsB, cellsG, Nat.reduceMul, rowsS, List.drop_drop, f1, f3, f4, f5, g0, c0, w1]
        refine ⟨k - 1, by omega, 7, by omega, by omega, ?_, ?_, ?_, ?_, ?_, ?_, ?_, ?_⟩
        · simp only [Fr.at_set, Nat.reduceEqDiff, reduceIte, f1]
        · simp only [Fr.at_set, Nat.reduceEqDiff, reduceIte, f3]
        · simp only [Fr.at_set, Nat.reduceEqDiff, reduceIte]; rfl
        · simp only [AH.get_up]; exact g0
        · simp only [AH.next_up]; omega
        · exact fun _ => p4 (by omega)
        · exact fun q => p5 (by omega)
        · exact fun q => d1
    | succ k1 =>
      have c0 : (i : Int) < (s.os.length : Int) := by omega
      obtain ⟨o, ho⟩ : ∃ o, s.os[i]? = some o := ⟨_, List.getElem?_eq_getElem (show i < s.os.length by omega)⟩
      have hom := List.mem_of_getElem? ho
      obtain ⟨t, ht⟩ := ix22 (l := s.os) (i := (i : Int)) (by omega) (by rw [Int.toNat_natCast]; exact ho)
      have w := IntWalk.i64_in ((i : Int) + 1) (by have := en.2.1; omega)
      simp -implicitDefEqProofs only [wpC_seq, rowsA, if_true, if_false, opnd, ofVal, ofVal1, layArgs, Nat.reduceAdd, reduceIte, Nat.reduceEqDiff, reduceCtorEq, rowsB, cellsG, Nat.reduceMul, rowsS, List.drop_drop, f1, f3, f4, f5, g0, c0]
      refine wpC_loop (inv6f s (fun o f => backB s o f) ((6 : Nat) : Int) 95 i o) (k := o.fs.length) ⟨0, by omega, ?_, ?_, ?_, ?_, ?_, ?_, ?_⟩ ?_
      · simp only [Fr.at_set, Nat.reduceEqDiff, reduceIte, f1]
      · simp only [Fr.at_set, Nat.reduceEqDiff, reduceIte, f3, List.take_zero, List.all_nil, Bool.and_true]
      · simp only [Fr.at_set, Nat.reduceEqDiff, reduceIte, f4]
      · simp only [Fr.at_set, Nat.reduceEqDiff, reduceIte, f5]
      · simp only [Fr.at_set, Nat.reduceEqDiff, reduceIte]; rfl
      · simp only [AH.get_up]; exact g0
      · simp only [AH.next_up]; omega
      clear f1 f3 f4 f5 g0 hn
      rintro k2 F h ⟨j, kj, f1, f3, f4, f5, f6, g0, hn⟩
      cases k2 with
      | zero =>
        have cj : ¬ ((j : Int) < (o.fs.length : Int)) := by omega
        rw [List.take_of_length_le (show o.fs.length ≤ j by omega)] at f3
        simp -implicitDefEqProofs only [wpC_seq, rowsA, if_true, if_false, opnd, ofVal, ofVal1, layArgs, Nat.reduceAdd, reduceIte, Nat.reduceEqDiff, reduceCtorEq, rowsB, cellsG, Nat.reduceMul, rowsS, List.drop_drop, f1, f3, f4, f5, f6, g0, ht, cj, w]
        refine ⟨k1, by omega, i + 1, by omega, ?_, ?_, ?_, ?_, ?_, ?_⟩
        · simp only [Fr.at_set, Nat.reduceEqDiff, reduceIte, f1]
        · simp only [Fr.at_set, Nat.reduceEqDiff, reduceIte, f3]
          rw [take_all_eq ho]
        · simp only [Fr.at_set, Nat.reduceEqDiff, reduceIte, f4]
        · simp only [Fr.at_set, Nat.reduceEqDiff, reduceIte]; rfl
        · simp only [AH.get_up]; exact g0
        · simp only [AH.next_up]; omega
      | succ k2 =>
        have cj : (j : Int) < (o.fs.length : Int) := by omega
        obtain ⟨f, hf⟩ : ∃ f, o.fs[j]? = some f := ⟨_, List.getElem?_eq_getElem (show j < o.fs.length by omega)⟩
        have hfm := List.mem_of_getElem? hf
        obtain ⟨t2, ht2⟩ := ix39 (l := o.fs) (i := (j : Int)) (by omega) (by rw [Int.toNat_natCast]; exact hf)
        have w2 := IntWalk.i64_in ((j : Int) + 1) (by have := (en.2.2.2.1 o hom).2; omega)
        have nx : ∀ (F' : Fr) (h' : AH), F'.at 1 = F.at 1 → F'.at 3 = .int .i64 (eR 95 ((s.os.take i).all (fun o => o.fs.all ((fun o f => backB s o f) o)) && ((o.fs.take j).all ((fun o f => backB s o f) o) && backB s o f))) → F'.at 4 = F.at 4 → F'.at 5 = F.at 5 → F'.at 6 = .int .i64 ((j : Int) + 1) → h'.get 0 = h.get 0 → h.next ≤ h'.next → ∃ k', k' < k2 + 1 ∧ inv6f s (fun o f => backB s o f) ((6 : Nat) : Int) 95 i o k' F' h' := fun F' h' q1 q3 q4 q5 q6 qg qn => ⟨k2, by omega, j + 1, by omega, q1.trans f1, by rw [q3, take_all_eq hf], q4.trans f4, q5.trans f5, q6, qg.trans g0, by omega⟩
        have kk := back9_c (mx := mx) hs o f
        cases d : backB s o f with
        | true =>
          simp -implicitDefEqProofs only [wpC_seq, rowsA, if_true, if_false, opnd, ofVal, ofVal1, layArgs, Nat.reduceAdd, reduceIte, Nat.reduceEqDiff, reduceCtorEq, rowsB, cellsG, Nat.reduceMul, rowsS, List.drop_drop, f1, f3, f4, f5, f6, g0, ht, cj, ht2, al33, sz33, st33, b4, b5, b6, goD_known kk, d, w2]
          exact nx _ _ (by simp only [Fr.at_set, Nat.reduceEqDiff, reduceIte, f1]) (by simp only [Fr.at_set, Nat.reduceEqDiff, reduceIte, f3, d, Bool.and_true]) (by simp only [Fr.at_set, Nat.reduceEqDiff, reduceIte, f4]) (by simp only [Fr.at_set, Nat.reduceEqDiff, reduceIte, f5]) (by simp only [Fr.at_set, Nat.reduceEqDiff, reduceIte]) (by simp only [AH.get_up, AH.get_set]; rw [if_neg (by omega), if_neg (by omega)]) (by simp only [AH.next_up, AH.next_set]; omega)
        | false =>
          simp -implicitDefEqProofs only [wpC_seq, rowsA, if_true, if_false, opnd, ofVal, ofVal1, layArgs, Nat.reduceAdd, reduceIte, Nat.reduceEqDiff, reduceCtorEq, rowsB, cellsG, Nat.reduceMul, rowsS, List.drop_drop, f1, f3, f4, f5, f6, g0, ht, cj, ht2, al33, sz33, st33, b4, b5, b6, goD_known kk, d, w2]
          exact nx _ _ (by simp only [Fr.at_set, Nat.reduceEqDiff, reduceIte, f1]) (by simp only [Fr.at_set, Nat.reduceEqDiff, reduceIte, d, Bool.and_false]; rfl) (by simp only [Fr.at_set, Nat.reduceEqDiff, reduceIte, f4]) (by simp only [Fr.at_set, Nat.reduceEqDiff, reduceIte, f5]) (by simp only [Fr.at_set, Nat.reduceEqDiff, reduceIte]) (by simp only [AH.get_up, AH.get_set]; rw [if_neg (by omega), if_neg (by omega)]) (by simp only [AH.next_up, AH.next_set]; omega)
  · have b0 : ¬ (((7 : Nat) : Int) ≤ 6) := by decide
    simp -implicitDefEqProofs only [wpC_seq, rowsA, if_true, if_false, opnd, ofVal, ofVal1, layArgs, Nat.reduceAdd, reduceIte, Nat.reduceEqDiff, reduceCtorEq, rowsB, cellsG, Nat.reduceMul, f3, f4, b0, p4 (by omega), p5 (by omega), p6 (by omega)]
end Go.Proofs.YtcbngkmmmfaaoaaGreatDoor
namespace Go.Proofs.YtcbngkmmmfaaoaaGreatDoor
open Go.RowKit Go.Lib Go.Ac
set_option linter.unusedSimpArgs false
set_option maxRecDepth 100000
variable {mx : Int}
theorem fixed9u_c (h : AH) (fr : Nat) : CR Tryz.prog (globM mx) md (.fn 14) [] h fr (.val (.bool true)) := pure_any rfl rfl ⟨2000, fixed09_run⟩ h fr
theorem schemaChecks_c {s : Sc} (hs : s.fits) (hm : s.small) (h : AH) (fr : Nat) : CR Tryz.prog (globM mx) md (.fn 3) [.agg s.pv] h fr (.val (.bool true)) := by
  refine CR.plain (rs := [.tmp 2]) Tryz.func3 rfl rfl rfl rfl rfl rfl rfl ?_ h fr
  simp -implicitDefEqProofs only [wpC_seq, rowsA, if_true, if_false, opnd, ofVal, ofVal1, layArgs, Nat.reduceAdd, reduceIte, Nat.reduceEqDiff, reduceCtorEq, rowsB, cellsG, Nat.reduceMul, rowsS, List.drop_drop, goD_known fixed9u_c, goD_known (check_s (mx := mx) hs hm), goD_known (check9_c (mx := mx) hs hm), decide_true]
end Go.Proofs.YtcbngkmmmfaaoaaGreatDoor
