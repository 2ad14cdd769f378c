/-
  JOINED TEXTS (L7 L8 L9 L9b L10 L11 L12): a pure machine for the model's code, its soundness, and what the program's functions come to.
-/
import Derived.Test.YtcbngkmmmfaaoaaGreatDoorM8
import Derived.Lib.ReplaceLaws
set_option linter.unusedVariables false
set_option linter.unusedSimpArgs false
namespace Go.Proofs.YtcbngkmmmfaaoaaGreatDoor
open Go.RowKit Go.Lib Go.Ac
set_option linter.unusedSimpArgs false
set_option maxRecDepth 100000
variable {mx : Int}
theorem idxL_lt (c : Int) : ∀ (l : List UInt8) (i : Nat), idxL c l i < (i : Int) + l.length ∨ l = []
  | [], _ => .inr rfl
  | b :: l, i => by
    refine .inl ?_
    rw [idxL]
    split
    · simp only [List.length_cons]; omega
    · rcases idxL_lt c l (i + 1) with h | h
      · simp only [List.length_cons]; omega
      · subst h; simp only [idxL, List.length_cons]; omega
theorem byte_sub {s : List UInt8} {b i : Nat} (hi : i < 4) (hb : b + 4 ≤ s.length) : byteAt ((s.drop b).take 4) (i : Nat) = byteAt s ((b + i : Nat) : Int) := by
  unfold byteAt
  rw [Int.toNat_natCast, Int.toNat_natCast, List.getD_eq_getElem?_getD, List.getD_eq_getElem?_getD, List.getElem?_take, if_pos hi, List.getElem?_drop]
section
variable {R : Nat} {s : List UInt8} {a f n : Int} {h : AH}
def EscA (R : Nat) (s : List UInt8) (a f n : Int) (h : AH) (c : Int) (F : Fr) (h' : AH) : Prop := a < s.length ∧ F.at 0 = .ptr R 4 0 ∧ F.at 3 = .int .u8 c ∧ 0 ≤ c ∧ c < 256 ∧ Eqv h' (h.set R (rd s (a + 1) f n))
def EscB (R : Nat) (s : List UInt8) (a f n : Int) (h : AH) (F : Fr) (h' : AH) : Prop := a + 5 ≤ s.length ∧ F.at 0 = .ptr R 4 0 ∧ Eqv h' (h.set R (rd s (a + 1) f n))
def EscC (R : Nat) (s : List UInt8) (a f n : Int) (h : AH) (F : Fr) (h' : AH) : Prop := (∀ i : Nat, i < 4 → inB (byteAt s (a + 1 + i)) hexL = true) ∧ F.at 0 = .ptr R 4 0 ∧ Eqv h' (h.set R (rd s (a + 1) f n))
def invEsc (R : Nat) (s : List UInt8) (a f n : Int) (h : AH) (k : Nat) (F : Fr) (h' : AH) : Prop := ∃ i : Nat, k + i = 4 ∧ (∀ j : Nat, j < i → inB (byteAt s (a + 1 + j)) hexL = true) ∧ F.at 56 = .int .i64 i ∧ F.at 0 = .ptr R 4 0 ∧ Eqv h' (h.set R (rd s (a + 1) f n))
def EscD (R : Nat) (s : List UInt8) (a f n : Int) (h : AH) (c : Int) (F : Fr) (h' : AH) : Prop := F.at 0 = .ptr R 4 0 ∧ F.at 3 = .int .u8 c ∧ Eqv h' (h.set R (rd s (a + 1) f n))
def EscGood (v : PV) (_ : Int) : Prop := ∃ x, v = .str x ∧ x.length ≤ 4
set_option maxHeartbeats 4000000 in
theorem escape_sc (g : h.get R = some (rd s a f n)) (ha : 0 ≤ a) (hb : a ≤ s.length) (hl : s.length ≤ 16384) : SC Tryz.prog (globM mx) md (.fn 192) [.ptr R 4 0] h (Part R s a f n h EscGood) := by
  refine SC.body (rs := [.tmp 2]) Tryz.func192 rfl rfl rfl rfl rfl ?_
  have gu : ∀ {h' : AH} {a' : Int}, Eqv h' (h.set R (rd s a' f n)) → h'.get R = some (rd s a' f n) := fun e => by rw [e.1, AH.get_set_same]
  have pan : ∀ {h' : AH} {a' : Int} {e : Int}, Eqv h' (h.set R (rd s a' f n)) → a ≤ a' → a' ≤ s.length → e ≠ 0 → Part R s a f n h EscGood true (wrongV f e) h' := fun q l m e0 => ⟨_, q, l, m, fun e => (by cases e), fun _ => ⟨_, e0, rfl⟩⟩
  rw [wpC_seq]; simp -implicitDefEqProofs only [rowsA, if_true, if_false, opnd, ofVal, ofVal1, layArgs, Nat.reduceAdd, reduceIte, Nat.reduceEqDiff, reduceCtorEq, rowsB, cellsG, Nat.reduceMul, up_up]
  -- the sign
  refine wpC_then (fun F h' => F.at 0 = .ptr R 4 0 ∧ (∃ c, F.at 3 = .int .u8 c ∧ 0 ≤ c ∧ c < 256) ∧ Eqv h' (h.set R (rd s a f n))) ?_ ?_
  · simp -implicitDefEqProofs only [rowsA, if_true, if_false, opnd, ofVal, ofVal1, layArgs, Nat.reduceAdd, reduceIte, Nat.reduceEqDiff, reduceCtorEq, rowsB, cellsG, Nat.reduceMul, rowsR]
    refine goO_val (peek_v (a := a) 0 (by rw [AH.get_up]; exact g) (by omega) (by omega) (by omega)) ?_
    rintro v1 h1 ⟨rfl, e1⟩
    simp -implicitDefEqProofs only [rowsA, if_true, if_false, opnd, ofVal, ofVal1, layArgs, Nat.reduceAdd, reduceIte, Nat.reduceEqDiff, reduceCtorEq, rowsB, cellsG, Nat.reduceMul, rowsR]
    refine ⟨⟨_, rfl, ?_⟩, ?_⟩
    · split
      · exact byteAt_range _ _
      · exact ⟨by omega, by omega⟩
    · exact (e1.ofUp).trans (Eqv.same g)
  rintro F h1 ⟨f0, ⟨c, f3, r1, r2⟩, e1⟩
  have g1 := gu e1
  rw [rd_eq] at g1
  refine wpC_then (fun F h' => a < s.length ∧ F.at 0 = .ptr R 4 0 ∧ F.at 3 = .int .u8 c ∧ Eqv h' (h.set R (rd s a f n))) ?_ ?_
  · simp -implicitDefEqProofs only [rowsA, if_true, if_false, opnd, ofVal, ofVal1, layArgs, Nat.reduceAdd, reduceIte, Nat.reduceEqDiff, reduceCtorEq, rowsB, cellsG, Nat.reduceMul, rowsR, f0, g1]
    refine goD_sc (must_sc (a := a) _ _ (by simp only [AH.get_up]; exact gu e1)) (by kernel_rfl) (.inl (by kernel_rfl)) ?_ ?_
    · intro v2 h2 hq
      generalize hG : wpD _ _ _ _ _ _ _ _ _ _ _ = G
      obtain ⟨e2, hb2, _, _⟩ := hq
      have c1 : a < (s.length : Int) := by
        apply Decidable.byContradiction
        intro q
        rw [decide_eq_false q] at hb2
        cases hb2
      have E2 := e2.trans (e1.up _)
      subst hG
      simp -implicitDefEqProofs only [rowsA, if_true, if_false, opnd, ofVal, ofVal1, layArgs, Nat.reduceAdd, reduceIte, Nat.reduceEqDiff, reduceCtorEq, rowsB, cellsG, Nat.reduceMul, rowsR]
      exact ⟨c1, by simp only [Fr.at_set, Nat.reduceEqDiff, reduceIte, reduceCtorEq, f0], by simp only [Fr.at_set, Nat.reduceEqDiff, reduceIte, reduceCtorEq, f3], E2⟩
    · intro v2 h2 hq
      generalize hG : outX _ _ = G
      obtain ⟨e2, _, _, q2⟩ := hq
      obtain rfl := q2 rfl
      have E2 := e2.trans (e1.up _)
      subst hG
      simp -implicitDefEqProofs only [rowsR]
      exact pan E2 (by omega) hb (by decide)
  rintro F h2 ⟨c1, f0, f3, e2⟩
  have g2 := gu e2
  rw [rd_eq] at g2
  have w1 := IntWalk.i64_in (a + 1) (by omega)
  refine wpC_then (EscA R s a f n h c) ?_ ?_
  · simp -implicitDefEqProofs only [rowsA, if_true, if_false, opnd, ofVal, ofVal1, layArgs, Nat.reduceAdd, reduceIte, Nat.reduceEqDiff, reduceCtorEq, rowsB, cellsG, Nat.reduceMul, rowsR, f0, g2, w1]
    exact ⟨c1, by simp only [Fr.at_set, Nat.reduceEqDiff, reduceIte, reduceCtorEq, f0], by simp only [Fr.at_set, Nat.reduceEqDiff, reduceIte, reduceCtorEq, f3], r1, r2, ((e2.up _).set _ _).ss⟩
  rintro F h3 ⟨_, f0, f3, _, _, e3⟩
  have g3 := gu e3
  rw [rd_eq] at g3
  -- one of the eight signs
  refine wpC_then (EscD R s a f n h c) ?_ ?_
  · have hi := idxL_lt c [34, 92, 47, 98, 102, 110, 114, 116] 0
    have hi2 : idxL c [34, 92, 47, 98, 102, 110, 114, 116] 0 < 8 := by
      rcases hi with hi | hi
      · simp only [List.length_cons, List.length_nil] at hi; exact hi
      · cases hi
    clear hi
    have hk := idxb_c (mx := mx) [34, 92, 47, 98, 102, 110, 114, 116] c r1 r2
    generalize idxL c [34, 92, 47, 98, 102, 110, 114, 116] 0 = i at hk hi2
    by_cases c2 : 0 ≤ i
    · have w2 := IntWalk.i64_in (i + 1) (by omega)
      simp -implicitDefEqProofs only [wpC_seq, rowsA, if_true, if_false, opnd, ofVal, ofVal1, layArgs, Nat.reduceAdd, reduceIte, Nat.reduceEqDiff, reduceCtorEq, rowsB, cellsG, Nat.reduceMul, rowsR, f0, f3, goO_known hk, c2, w2]
      rw [slice_both u9 c2 (by omega) (by show i + 1 ≤ 8; omega)]
      simp -implicitDefEqProofs only [wpC_seq, rowsA, if_true, if_false, opnd, ofVal, ofVal1, layArgs, Nat.reduceAdd, reduceIte, Nat.reduceEqDiff, reduceCtorEq, rowsB, cellsG, Nat.reduceMul, rowsR]
      refine ⟨a + 1, e3.up _, by omega, by omega, fun _ => ⟨_, rfl, ?_⟩, fun q => (by cases q)⟩
      rw [List.length_take]
      omega
    · simp -implicitDefEqProofs only [wpC_seq, rowsA, if_true, if_false, opnd, ofVal, ofVal1, layArgs, Nat.reduceAdd, reduceIte, Nat.reduceEqDiff, reduceCtorEq, rowsB, cellsG, Nat.reduceMul, rowsR, f0, f3, goO_known hk, c2]
      exact ⟨by simp only [Fr.at_set, Nat.reduceEqDiff, reduceIte, reduceCtorEq, f0], by simp only [Fr.at_set, Nat.reduceEqDiff, reduceIte, reduceCtorEq, f3], e3.up _⟩
  rintro F h3 ⟨f0, f3, e3⟩
  have g3 := gu e3
  rw [rd_eq] at g3
  -- four more bytes
  refine wpC_then (EscB R s a f n h) ?_ ?_
  · have w2 := IntWalk.i64_in ((s.length : Int) - (a + 1)) (by omega)
    by_cases c2 : c = 117
    · simp -implicitDefEqProofs only [rowsA, if_true, if_false, opnd, ofVal, ofVal1, layArgs, Nat.reduceAdd, reduceIte, Nat.reduceEqDiff, reduceCtorEq, rowsB, cellsG, Nat.reduceMul, rowsR, f0, f3, g3, decide_eq_true c2, w2]
      refine goD_sc (must_sc (a := a + 1) _ _ (by simp only [AH.get_up]; exact gu e3)) (by kernel_rfl) (.inl (by kernel_rfl)) ?_ ?_
      · intro v4 h4 hq
        generalize hG : wpD _ _ _ _ _ _ _ _ _ _ _ = G
        obtain ⟨e4, hb4, _, _⟩ := hq
        have c3 : 4 ≤ (s.length : Int) - (a + 1) := by
          apply Decidable.byContradiction
          intro q
          rw [decide_eq_false q] at hb4
          cases hb4
        have E4 := e4.trans (e3.up _)
        subst hG
        simp -implicitDefEqProofs only [rowsA, if_true, if_false, opnd, ofVal, ofVal1, layArgs, Nat.reduceAdd, reduceIte, Nat.reduceEqDiff, reduceCtorEq, rowsB, cellsG, Nat.reduceMul, rowsR]
        exact ⟨by omega, by simp only [Fr.at_set, Nat.reduceEqDiff, reduceIte, reduceCtorEq, f0], E4⟩
      · intro v4 h4 hq
        generalize hG : outX _ _ = G
        obtain ⟨e4, _, _, q4⟩ := hq
        obtain rfl := q4 rfl
        have E4 := e4.trans (e3.up _)
        subst hG
        simp -implicitDefEqProofs only [rowsR]
        exact pan E4 (by omega) (by omega) (by decide)
    · simp -implicitDefEqProofs only [rowsA, if_true, if_false, opnd, ofVal, ofVal1, layArgs, Nat.reduceAdd, reduceIte, Nat.reduceEqDiff, reduceCtorEq, rowsB, cellsG, Nat.reduceMul, rowsR, f0, f3, g3, c2]
      refine goD_sc (must_sc (a := a + 1) _ _ (by simp only [AH.get_up]; exact gu e3)) (by kernel_rfl) (.inl (by kernel_rfl)) ?_ ?_
      · intro v4 h4 hq
        generalize hG : wpD _ _ _ _ _ _ _ _ _ _ _ = G
        have hb4 := hq.2.1
        cases hb4
      · intro v4 h4 hq
        generalize hG : outX _ _ = G
        obtain ⟨e4, _, _, q4⟩ := hq
        obtain rfl := q4 rfl
        have E4 := e4.trans (e3.up _)
        subst hG
        simp -implicitDefEqProofs only [rowsR]
        exact pan E4 (by omega) (by omega) (by decide)
  rintro F h4 ⟨c4, f0, e4⟩
  -- all of base sixteen
  refine wpC_then (EscC R s a f n h) ?_ ?_
  · simp -implicitDefEqProofs only [wpC_seq, rowsA, if_true, if_false, opnd, ofVal, ofVal1, layArgs, Nat.reduceAdd, reduceIte, Nat.reduceEqDiff, reduceCtorEq, rowsB, cellsG, Nat.reduceMul, rowsR]
    refine wpC_loop (invEsc R s a f n h) (k := 4) ⟨0, rfl, fun j hj => absurd hj (by omega), ?_, ?_, e4.up _⟩ ?_
    · simp only [Fr.at_set, Nat.reduceEqDiff, reduceIte, reduceCtorEq]; rfl
    · simp only [Fr.at_set, Nat.reduceEqDiff, reduceIte, reduceCtorEq, f0]
    rintro k F h5 ⟨i, ik, hi, f56, f0, e5⟩
    have g5 := gu e5
    rw [rd_eq] at g5
    cases k with
    | zero =>
      have c5 : ¬ ((i : Int) < 4) := by omega
      simp -implicitDefEqProofs only [wpC_seq, rowsA, if_true, if_false, opnd, ofVal, ofVal1, layArgs, Nat.reduceAdd, reduceIte, Nat.reduceEqDiff, reduceCtorEq, rowsB, cellsG, Nat.reduceMul, rowsR, f56, c5]
      exact ⟨fun j hj => hi j (by omega), by simp only [Fr.at_set, Nat.reduceEqDiff, reduceIte, reduceCtorEq, f0], e5.up _⟩
    | succ k =>
      have c5 : (i : Int) < 4 := by omega
      have w2 := IntWalk.i64_in (a + 1 + (i : Int)) (by omega)
      have w3 := IntWalk.i64_in ((i : Int) + 1) (by omega)
      have c6 : a + 1 + (i : Int) < s.length := by omega
      cases c7 : inB (byteAt s (a + 1 + i)) hexL with
      | true =>
        simp -implicitDefEqProofs only [wpC_seq, rowsA, if_true, if_false, opnd, ofVal, ofVal1, layArgs, Nat.reduceAdd, reduceIte, Nat.reduceEqDiff, reduceCtorEq, rowsB, cellsG, Nat.reduceMul, rowsR, f56, f0, g5, c5, w2, ixs (show (0 : Int) ≤ a + 1 + i by omega) c6, goD_known (idxB_c _ s (a + 1 + i)), inB_eq, show inB (byteAt s (a + 1 + i)) [48, 49, 50, 51, 52, 53, 54, 55, 56, 57, 97, 98, 99, 100, 101, 102, 65, 66, 67, 68, 69, 70] = true from c7]
        refine goD_sc (must_sc (a := a + 1) _ _ (by simp only [AH.get_up]; exact gu e5)) (by kernel_rfl) (.inl (by kernel_rfl)) ?_ ?_
        · intro v6 h6 hq
          generalize hG : wpD _ _ _ _ _ _ _ _ _ _ _ = G
          obtain ⟨e6, _, _, _⟩ := hq
          have E6 := e6.trans (e5.up _)
          subst hG
          simp -implicitDefEqProofs only [wpC_seq, rowsA, if_true, if_false, opnd, ofVal, ofVal1, layArgs, Nat.reduceAdd, reduceIte, Nat.reduceEqDiff, reduceCtorEq, rowsB, cellsG, Nat.reduceMul, rowsR, f56, w3]
          refine ⟨k, by omega, i + 1, by omega, ?_, ?_, ?_, E6.up _⟩
          · intro j hj
            by_cases q : j = i
            · rw [q]; exact c7
            · exact hi j (by omega)
          · simp only [Fr.at_set, Nat.reduceEqDiff, reduceIte, reduceCtorEq]; rfl
          · simp only [Fr.at_set, Nat.reduceEqDiff, reduceIte, reduceCtorEq, f0]
        · intro v6 h6 hq
          generalize hG : outX _ _ = G
          have := hq.2.1
          cases this
      | false =>
        simp -implicitDefEqProofs only [wpC_seq, rowsA, if_true, if_false, opnd, ofVal, ofVal1, layArgs, Nat.reduceAdd, reduceIte, Nat.reduceEqDiff, reduceCtorEq, rowsB, cellsG, Nat.reduceMul, rowsR, f56, f0, g5, c5, w2, ixs (show (0 : Int) ≤ a + 1 + i by omega) c6, goD_known (idxB_c _ s (a + 1 + i)), inB_eq, show inB (byteAt s (a + 1 + i)) [48, 49, 50, 51, 52, 53, 54, 55, 56, 57, 97, 98, 99, 100, 101, 102, 65, 66, 67, 68, 69, 70] = false from c7]
        refine goD_sc (must_sc (a := a + 1) _ _ (by simp only [AH.get_up]; exact gu e5)) (by kernel_rfl) (.inl (by kernel_rfl)) ?_ ?_
        · intro v6 h6 hq
          generalize hG : wpD _ _ _ _ _ _ _ _ _ _ _ = G
          have := hq.2.1
          cases this
        · intro v6 h6 hq
          generalize hG : outX _ _ = G
          obtain ⟨e6, _, _, q6⟩ := hq
          obtain rfl := q6 rfl
          have E6 := e6.trans (e5.up _)
          subst hG
          simp -implicitDefEqProofs only [rowsR]
          exact pan E6 (by omega) (by omega) (by decide)
  rintro F h5 ⟨hx, f0, e5⟩
  have g5 := gu e5
  rw [rd_eq] at g5
  obtain ⟨m, hm⟩ : ∃ m : Nat, (m : Int) = a + 1 := ⟨(a + 1).toNat, by omega⟩
  have hsl : ((s.drop m).take 4).length = 4 := by rw [List.length_take, List.length_drop]; omega
  have hpu := pu_c (mx := mx) ((s.drop m).take 4) hsl (fun i hi => by rw [byte_sub hi (by omega), show ((m + i : Nat) : Int) = a + 1 + i by omega]; exact hx i hi)
  obtain ⟨p1, p2, _⟩ := puV_range (s := (s.drop m).take 4) (fun i hi => by rw [byte_sub hi (by omega), show ((m + i : Nat) : Int) = a + 1 + i by omega]; exact hx i hi)
  generalize puV ((s.drop m).take 4) 4 = q at hpu p1 p2
  have w2 := IntWalk.i64_in ((m : Int) + 4) (by omega)
  have w3 := IntWalk.i64_in q (by omega)
  rw [← hm] at e5 g5
  obtain ⟨x, e, hxl, hput⟩ := put_c (mx := mx) q p1 p2
  obtain ⟨x3, hx3, h3c⟩ := three_c (mx := mx) q
  have hsb : ∀ h : AH, (if liveB h (.str s) && sizeB Tryz.prog h 9 (.str s) then (sliceV Tryz.prog 9 (.str s) (some (.int .i64 (m : Int))) (some (.int .i64 ((m : Int) + 4))) none).map OR.q else none) = some (.q (.str ((s.drop m).take 4))) := fun h => by
    rw [slice_both u9 (by omega) (by omega) (by omega)]
    rw [show ((m : Int) + 4).toNat - ((m : Int)).toNat = 4 by omega, Int.toNat_natCast]
  by_cases c8 : e = 0
  · simp -implicitDefEqProofs only [wpC_seq, rowsA, if_true, if_false, opnd, ofVal, ofVal1, layArgs, Nat.reduceAdd, reduceIte, Nat.reduceEqDiff, reduceCtorEq, rowsB, cellsG, Nat.reduceMul, rowsR, f0, g5, w2, hsb, goD_known hpu, conv_int u137 u3, w3, goO_known hput, decide_eq_true c8]
    exact ⟨(m : Int) + 4, ((e5.up _).set _ _).ss, by omega, by omega, fun _ => ⟨_, rfl, hxl⟩, fun q => (by cases q)⟩
  · simp -implicitDefEqProofs only [wpC_seq, rowsA, if_true, if_false, opnd, ofVal, ofVal1, layArgs, Nat.reduceAdd, reduceIte, Nat.reduceEqDiff, reduceCtorEq, rowsB, cellsG, Nat.reduceMul, rowsR, f0, g5, w2, hsb, goD_known hpu, conv_int u137 u3, w3, goO_known hput, c8, goO_known h3c]
    exact ⟨(m : Int) + 4, ((e5.up _).set _ _).ss, by omega, by omega, fun _ => ⟨_, rfl, hx3⟩, fun q => (by cases q)⟩
end
end Go.Proofs.YtcbngkmmmfaaoaaGreatDoor
namespace Go.Proofs.YtcbngkmmmfaaoaaGreatDoor
open Go.RowKit Go.Lib Go.Ac
set_option linter.unusedSimpArgs false
set_option maxRecDepth 100000
variable {mx : Int}
structure TS (h h' : AH) (R B : Nat) (s : List UInt8) (a f n : Int) (l : List UInt8) : Prop where
  rd : h'.get R = some (rd s a f n)
  kp : Kp h h' R
  bl : Bld h' B l
  rn : R < h.next
  bn : h.next ≤ B
section
variable {h h' h'' : AH} {R B : Nat} {s l : List UInt8} {a a' f f' n n' : Int}
theorem TS.up (t : TS h h' R B s a f n l) (m : Nat) : TS h (h'.up m) R B s a f n l := ⟨by rw [AH.get_up]; exact t.rd, t.kp.trans (Kp.ofEqv R ((Eqv.refl h').up m)), t.bl.eqv ((Eqv.refl h').up m), t.rn, t.bn⟩
theorem TS.eqv (t : TS h h' R B s a f n l) (e : Eqv h'' h') : TS h h'' R B s a f n l := ⟨by rw [e.1]; exact t.rd, t.kp.trans (Kp.ofEqv R e), t.bl.eqv e, t.rn, t.bn⟩
theorem TS.to (t : TS h h' R B s a f n l) (e : Eqv h'' (h'.set R (Go.Proofs.YtcbngkmmmfaaoaaGreatDoor.rd s a' f' n'))) : TS h h'' R B s a' f' n' l := ⟨by rw [e.1, AH.get_set_same], t.kp.trans (Kp.ofSet e), (t.bl.set ⟨_, t.rd, rfl⟩ (by have := t.rn; have := t.bn; omega)).eqv e, t.rn, t.bn⟩
theorem TS.wr {l' : List UInt8} (t : TS h h' R B s a f n l) (b : Bld h'' B l') (k : Kp h' h'' B) : TS h h'' R B s a f n l' := by
  have h1 := t.rn
  have h2 := t.bn
  have h3 := t.kp.1
  refine ⟨k.2 R _ (by omega) t.rd (by omega) rfl, ⟨Nat.le_trans h3 k.1, fun j o hj q m z => k.2 j o (by omega) (t.kp.2 j o hj q m z) (by omega) z⟩, b, h1, h2⟩
def TextQ (R : Nat) (s : List UInt8) (a f n : Int) (h : AH) (b : Bool) (v : PV) (h' : AH) : Prop :=
  ∃ a', h'.get R = some (rd s a' f n) ∧ Kp h h' R ∧ a ≤ a' ∧ a' ≤ s.length ∧ (b = false → ∃ x, v = .str x) ∧ (b = true → ∃ e, e ≠ 0 ∧ v = wrongV f e)
def invText (R B : Nat) (s : List UInt8) (a f n : Int) (h : AH) (k : Nat) (F : Fr) (h' : AH) : Prop :=
  ∃ a' l, (k : Int) + a' = s.length ∧ a ≤ a' ∧ F.at 0 = .ptr R 4 0 ∧ F.at 3 = .ptr B 2 0 ∧ TS h h' R B s a' f n l ∧ (l.length : Int) ≤ 4 * a'
theorem al185 {ρ : Operand → PV} {h : AH} {fr : Nat} {d : Option Tmp} {ty : TypeId} {ps : String} {af : Array Edge} {gu : Option (Nat × Bool)} : aop Tryz.prog ρ h fr ⟨d, .alloc 185, ty, ps, af, gu⟩ = some (.w (.ptr fr 2 0) fr (.cells 185 0 false [.npt, .nls])) := by
  rw [aop_alloc, z185]
  rfl
set_option maxHeartbeats 4000000 in
theorem text_sc (g : h.get R = some (rd s a f n)) (hR : R < h.next) (ha : 0 ≤ a) (hb : a < s.length) (hl : s.length ≤ 16384) : SC Tryz.prog (globM mx) md (.fn 180) [.ptr R 4 0] h (TextQ R s a f n h) := by
  refine SC.body (rs := [.tmp 2]) Tryz.func180 rfl rfl rfl rfl rfl ?_
  have w1 := IntWalk.i64_in (a + 1) (by omega)
  have hne : ∀ i, (R = h.next + i) = False := fun i => by simp only [eq_iff_iff, iff_false]; omega
  have hne' : ∀ i, (h.next + i = R) = False := fun i => by simp only [eq_iff_iff, iff_false]; omega
  have g' := g
  rw [rd_eq] at g'
  have T0 : ∀ m, TS h (((h.up m).set (h.next + 1) (.cells 185 0 false [.npt, .nls])).set R (rd s (a + 1) f n)) R (h.next + 1) s (a + 1) f n [] ∨ m < 2 := fun m => by
    by_cases hm : m < 2
    · exact .inr hm
    refine .inl ⟨by rw [AH.get_set_same], ⟨by simp only [AH.next_set, AH.next_up]; omega, fun j o hj q z _ => ?_⟩, ?_, hR, by omega⟩
    · simp only [AH.get_set, AH.get_up, z, if_false, show ¬ (j = h.next + 1) by omega]
      exact q
    · exact ⟨.npt, .nls, by simp only [AH.get_set, hne', if_false, if_true], .inl rfl, by simp only [AH.next_set, AH.next_up]; omega, .inl ⟨rfl, rfl⟩⟩
  simp -implicitDefEqProofs only [wpC_seq, rowsA, if_true, if_false, opnd, ofVal, ofVal1, layArgs, Nat.reduceAdd, reduceIte, Nat.reduceEqDiff, reduceCtorEq, rowsB, cellsG, Nat.reduceMul, rowsR, al185, g', hne, w1]
  refine wpC_loop (invText R (h.next + 1) s a f n h) (k := (s.length - (a + 1)).toNat) ⟨a + 1, [], by omega, by omega, ?_, ?_, (T0 10).resolve_right (by omega), by simp; omega⟩ ?_
  · simp only [Fr.at_set, Nat.reduceEqDiff, reduceIte, reduceCtorEq]
  · simp only [Fr.at_set, Nat.reduceEqDiff, reduceIte, reduceCtorEq]; try rfl
  clear T0 w1
  generalize h.next + 1 = B at *
  rintro k F h1 ⟨a1, l, ik, l1, f0, f3, T1, hlen⟩
  have g1 := T1.rd
  rw [rd_eq] at g1
  have pan : ∀ {h' : AH} {a' : Int} {l : List UInt8} {e : Int}, TS h h' R B s a' f n l → a ≤ a' → a' ≤ s.length → e ≠ 0 → TextQ R s a f n h true (wrongV f e) h' := fun t q1 q2 q3 => ⟨_, t.rd, t.kp, q1, q2, fun q => (by cases q), fun _ => ⟨_, q3, rfl⟩⟩
  simp -implicitDefEqProofs only [wpC_seq, rowsA, if_true, if_false, opnd, ofVal, ofVal1, layArgs, Nat.reduceAdd, reduceIte, Nat.reduceEqDiff, reduceCtorEq, rowsB, cellsG, Nat.reduceMul, rowsR, f0, f3, g1]
  refine goO_val (source_v (a := a1) (f := f) (n := n) (s := s) (by simp only [AH.get_up]; exact T1.rd) hl) ?_
  intro v2 h2 hq
  generalize hG : wpO _ _ _ _ _ _ _ _ _ _ _ = G
  obtain ⟨c, b, rfl, q2⟩ := hq
  rcases q2 with ⟨rfl, e2⟩ | ⟨k2, rfl, k21, _, k22, e2⟩
  · have T2 := T1.eqv (e2.ofUp)
    subst hG
    simp -implicitDefEqProofs only [wpC_seq, rowsA, if_true, if_false, opnd, ofVal, ofVal1, layArgs, Nat.reduceAdd, reduceIte, Nat.reduceEqDiff, reduceCtorEq, rowsB, cellsG, Nat.reduceMul, rowsR, f0, f3]
    refine goO_sc (must_sc (a := a1) _ _ (by simp only [AH.get_up]; exact T2.rd)) ?_ ?_
    · intro v3 h3 hq
      generalize hG : wpO _ _ _ _ _ _ _ _ _ _ _ = G
      have := hq.2.1
      cases this
    · intro v3 h3 hq
      generalize hG : outX _ _ = G
      obtain ⟨e3, _, _, q3⟩ := hq
      obtain rfl := q3 rfl
      have T3 := T2.eqv (e3.ofUp)
      subst hG
      simp -implicitDefEqProofs only [rowsR]
      exact pan T3 (by omega) (by omega) (by decide)
  · have T2 := (T1.up 12).to (a' := a1 + k2) (f' := f) (n' := n) (h'' := h2) e2
    by_cases c1 : c = 10
    · subst hG
      simp -implicitDefEqProofs only [wpC_seq, rowsA, if_true, if_false, opnd, ofVal, ofVal1, layArgs, Nat.reduceAdd, reduceIte, Nat.reduceEqDiff, reduceCtorEq, rowsB, cellsG, Nat.reduceMul, rowsR, f0, f3, decide_eq_true c1]
      refine goO_sc (must_sc (a := a1 + k2) _ _ (by simp only [AH.get_up]; exact T2.rd)) ?_ ?_
      · intro v3 h3 hq
        generalize hG : wpO _ _ _ _ _ _ _ _ _ _ _ = G
        have := hq.2.1
        cases this
      · intro v3 h3 hq
        generalize hG : outX _ _ = G
        obtain ⟨e3, _, _, q3⟩ := hq
        obtain rfl := q3 rfl
        have T3 := T2.eqv (e3.ofUp)
        subst hG
        simp -implicitDefEqProofs only [rowsR]
        exact pan T3 (by omega) (by omega) (by decide)
    by_cases c2 : c = 13
    · subst hG
      simp -implicitDefEqProofs only [wpC_seq, rowsA, if_true, if_false, opnd, ofVal, ofVal1, layArgs, Nat.reduceAdd, reduceIte, Nat.reduceEqDiff, reduceCtorEq, rowsB, cellsG, Nat.reduceMul, rowsR, f0, f3, c1, decide_eq_true c2]
      refine goO_sc (must_sc (a := a1 + k2) _ _ (by simp only [AH.get_up]; exact T2.rd)) ?_ ?_
      · intro v3 h3 hq
        generalize hG : wpO _ _ _ _ _ _ _ _ _ _ _ = G
        have := hq.2.1
        cases this
      · intro v3 h3 hq
        generalize hG : outX _ _ = G
        obtain ⟨e3, _, _, q3⟩ := hq
        obtain rfl := q3 rfl
        have T3 := T2.eqv (e3.ofUp)
        subst hG
        simp -implicitDefEqProofs only [rowsR]
        exact pan T3 (by omega) (by omega) (by decide)
    subst hG
    simp -implicitDefEqProofs only [wpC_seq, rowsA, if_true, if_false, opnd, ofVal, ofVal1, layArgs, Nat.reduceAdd, reduceIte, Nat.reduceEqDiff, reduceCtorEq, rowsB, cellsG, Nat.reduceMul, rowsR, f0, f3, c1, c2]
    refine goO_sc (must_sc (a := a1 + k2) _ _ (by simp only [AH.get_up]; exact T2.rd)) ?_ ?_
    · intro v3 h3 hq
      generalize hG : wpO _ _ _ _ _ _ _ _ _ _ _ = G
      obtain ⟨e3, _, _, _⟩ := hq
      have T3 := T2.eqv (e3.ofUp)
      have g3 := T3.rd
      rw [rd_eq] at g3
      obtain ⟨j, ij⟩ : ∃ j : Nat, (j : Int) + (a1 + k2) = s.length := ⟨(s.length - (a1 + k2)).toNat, by omega⟩
      by_cases c3 : c = 34
      · subst hG
        simp -implicitDefEqProofs only [wpC_seq, rowsA, if_true, if_false, opnd, ofVal, ofVal1, layArgs, Nat.reduceAdd, reduceIte, Nat.reduceEqDiff, reduceCtorEq, rowsB, cellsG, Nat.reduceMul, rowsR, f0, f3, decide_eq_true c3]
        refine goO_val (string_v (T3.up _).bl (by omega)) ?_
        intro v4 h4 hq
        generalize hG : wpO _ _ _ _ _ _ _ _ _ _ _ = G
        obtain ⟨rfl, k4⟩ := hq
        have k5 : Kp h h4 R := by
          have := (T3.up 3).kp.1
          exact ⟨by have := k4.1; simp only [AH.next_up] at this ⊢; have := T3.kp.1; omega, fun x o hx q m z => k4.2 x o (by simp only [AH.next_up]; have := T3.kp.1; omega) (by rw [AH.get_up]; exact T3.kp.2 x o hx q m z) (by have := T3.bn; omega) z⟩
        have g4 : h4.get R = some (rd s (a1 + k2) f n) := k4.2 R _ (by simp only [AH.next_up]; have := T3.kp.1; omega) (by rw [AH.get_up]; exact T3.rd) (by have := T3.bn; omega) rfl
        subst hG
        simp -implicitDefEqProofs only [wpC_seq, rowsA, if_true, if_false, opnd, ofVal, ofVal1, layArgs, Nat.reduceAdd, reduceIte, Nat.reduceEqDiff, reduceCtorEq, rowsB, cellsG, Nat.reduceMul, rowsR]
        exact ⟨a1 + k2, g4, k5, by omega, by omega, fun _ => ⟨_, rfl⟩, fun q => (by cases q)⟩
      · by_cases c4 : c = 92
        · subst hG
          simp -implicitDefEqProofs only [wpC_seq, rowsA, if_true, if_false, opnd, ofVal, ofVal1, layArgs, Nat.reduceAdd, reduceIte, Nat.reduceEqDiff, reduceCtorEq, rowsB, cellsG, Nat.reduceMul, rowsR, f0, f3, c3, decide_eq_true c4]
          refine goO_sc (escape_sc (a := a1 + k2) (f := f) (n := n) (s := s) (by simp only [AH.get_up]; exact T3.rd) (by omega) (by omega) hl) ?_ ?_
          · intro v5 h5 hq
            generalize hG : wpO _ _ _ _ _ _ _ _ _ _ _ = G
            obtain ⟨a5, e5, l5, m5, q5, _⟩ := hq
            obtain ⟨x, rfl, hx⟩ := q5 rfl
            have T5 := (T3.up _).to e5
            subst hG
            simp -implicitDefEqProofs only [wpC_seq, rowsA, if_true, if_false, opnd, ofVal, ofVal1, layArgs, Nat.reduceAdd, reduceIte, Nat.reduceEqDiff, reduceCtorEq, rowsB, cellsG, Nat.reduceMul, rowsR, f0, f3]
            refine goO_val (write_v x (T5.up 0).bl (by omega)) ?_
            intro v6 h6 hq
            generalize hG : wpO _ _ _ _ _ _ _ _ _ _ _ = G
            obtain ⟨b6, k6⟩ := hq
            have T6 := (T5.up 0).wr b6 k6
            obtain ⟨j, ij⟩ : ∃ j : Nat, (j : Int) + a5 = s.length := ⟨(s.length - a5).toNat, by omega⟩
            subst hG
            simp -implicitDefEqProofs only [wpC_seq, rowsA, if_true, if_false, opnd, ofVal, ofVal1, layArgs, Nat.reduceAdd, reduceIte, Nat.reduceEqDiff, reduceCtorEq, rowsB, cellsG, Nat.reduceMul, rowsR]
            refine ⟨j, by omega, a5, l ++ x, ij, by omega, ?_, ?_, T6, ?_⟩
            · simp only [Fr.at_set, Nat.reduceEqDiff, reduceIte, reduceCtorEq, f0]
            · simp only [Fr.at_set, Nat.reduceEqDiff, reduceIte, reduceCtorEq, f3]
            · rw [List.length_append]; omega
          · intro v5 h5 hq
            generalize hG : outX _ _ = G
            obtain ⟨a5, e5, l5, m5, _, q5⟩ := hq
            obtain ⟨e, e0, rfl⟩ := q5 rfl
            have T5 := (T3.up _).to e5
            subst hG
            simp -implicitDefEqProofs only [rowsR]
            exact pan T5 (by omega) (by omega) e0
        · subst hG
          have hsb : ∀ h : AH, (if liveB h (.str s) && sizeB Tryz.prog h 9 (.str s) then (sliceV Tryz.prog 9 (.str s) (some (.int .i64 a1)) (some (.int .i64 (a1 + k2))) none).map OR.q else none) = some (.q (.str ((s.drop a1.toNat).take ((a1 + k2).toNat - a1.toNat)))) := fun h => slice_both u9 (by omega) (by omega) (by omega)
          simp -implicitDefEqProofs only [wpC_seq, rowsA, if_true, if_false, opnd, ofVal, ofVal1, layArgs, Nat.reduceAdd, reduceIte, Nat.reduceEqDiff, reduceCtorEq, rowsB, cellsG, Nat.reduceMul, rowsR, f0, f3, g3, c3, c4, hsb]
          refine goD_val (write_v _ (T3.up _).bl ?_) (by kernel_rfl) ?_
          · rw [List.length_take]; omega
          intro v6 h6 hq
          generalize hG : wpD _ _ _ _ _ _ _ _ _ _ _ = G
          obtain ⟨b6, k6⟩ := hq
          have T6 := (T3.up _).wr b6 k6
          subst hG
          simp -implicitDefEqProofs only [wpC_seq, rowsA, if_true, if_false, opnd, ofVal, ofVal1, layArgs, Nat.reduceAdd, reduceIte, Nat.reduceEqDiff, reduceCtorEq, rowsB, cellsG, Nat.reduceMul, rowsR]
          refine ⟨j, by omega, a1 + k2, _, ij, by omega, ?_, ?_, T6, ?_⟩
          · simp only [Fr.at_set, Nat.reduceEqDiff, reduceIte, reduceCtorEq, f0]
          · simp only [Fr.at_set, Nat.reduceEqDiff, reduceIte, reduceCtorEq, f3]
          · rw [List.length_append, List.length_take]; omega
    · intro v3 h3 hq
      generalize hG : outX _ _ = G
      have := hq.2.1
      cases this
end
end Go.Proofs.YtcbngkmmmfaaoaaGreatDoor
namespace Go.Proofs.YtcbngkmmmfaaoaaGreatDoor
open Go.RowKit Go.Lib Go.Ac
set_option linter.unusedSimpArgs false
set_option maxRecDepth 100000
variable {mx : Int}

theorem replaceK_len (old new : List UInt8) (hn : new.length ≤ old.length) : ∀ (k : Nat) (s : List UInt8), (Lib.replaceK old new k s).length ≤ s.length
  | 0, s => Nat.le_refl _
  | k + 1, s => by
    unfold Lib.replaceK
    split
    · exact Nat.le_refl _
    · rename_i c
      have h1 := Lib.index_ge s old
      have h2 : ¬ Lib.index s old = -1 := fun e => c (beq_iff_eq.2 e)
      have h3 := Lib.index_room s old (by omega)
      have h4 := replaceK_len old new hn k (s.drop ((Lib.index s old).toNat + old.length))
      simp only [List.length_append, List.length_take, List.length_drop] at h4 ⊢
      omega
theorem replaceAll_len (s old new : List UInt8) (hn : new.length ≤ old.length) : (Lib.replaceAll s old new).length ≤ s.length := by
  unfold Lib.replaceAll Lib.replace
  split
  · exact Nat.le_refl _
  · exact replaceK_len old new hn _ s
theorem splitB_len (sep : ByteArray) : ∀ (k : Nat) (s : ByteArray), ∀ x ∈ Lib.splitB sep 0 k s, x.size ≤ s.size
  | 0, s, x, hx => by
    rw [Lib.splitB_zero] at hx
    rw [List.mem_singleton.1 hx]
    exact Nat.le_refl _
  | k + 1, s, x, hx => by
    unfold Lib.splitB at hx
    split at hx
    · rw [List.mem_singleton.1 hx]
      exact Nat.le_refl _
    · rcases List.mem_cons.1 hx with rfl | hx
      · simp only [ByteArray.size_extract]; omega
      · have := splitB_len sep k _ x hx
        simp only [ByteArray.size_extract] at this
        omega

def Rws (h : AH) (B m : Nat) : Prop := B < h.next ∧ m ≤ 100001 ∧ ∃ L : List (List UInt8), h.get B = some (.cells 9 1 false (L.map PV.str)) ∧ L.length = m ∧ ∀ x ∈ L, x.length ≤ 100000
theorem repl_c (s t r : List UInt8) (h1 : s.length ≤ 1048576) (h2 : 1 ≤ t.length) (h3 : r.length ≤ 1) (h : AH) (fr : Nat) : CR Tryz.prog (globM mx) md (.fn 204) [.str s, .str t, .str r] h fr (.val (.str (Lib.replaceAll s t r))) :=
  CR.lib (F := replF) rfl (by simp only [replF, replG, h1, h2, h3, and_self, if_true, Option.map_some])
theorem trim_c (s t : List UInt8) (h1 : t.length < 1000) (h2 : t.all (fun b => decide (b.toNat < 128)) = true) (h : AH) (fr : Nat) : CR Tryz.prog (globM mx) md (.fn 206) [.str s, .str t] h fr (.val (.str (Lib.trimLeftS s t))) :=
  CR.lib (F := trimF) rfl (by simp only [trimF, trimG, h1, h2, and_self, if_true, Option.map_some])
theorem split_c (s : List UInt8) (hs : s.length ≤ 100000) : ∃ L : List (List UInt8), L ≠ [] ∧ L.length ≤ 100001 ∧ (∀ x ∈ L, x.length ≤ 100000) ∧
    ∀ (h : AH) (fr : Nat), CR Tryz.prog (globM mx) md (.fn 205) [.str s, .str [10]] h fr (.new (.ow fr L.length 0 L.length) (.cells 9 1 false (L.map PV.str))) := by
  have hsz : (⟨s.toArray⟩ : ByteArray).size = s.length := by simp [ByteArray.size]
  have h1 := Lib.splitB_all (⟨[10].toArray⟩ : ByteArray) (by decide) 0 _ (⟨s.toArray⟩ : ByteArray) rfl
  have h2 := splitB_len (⟨[10].toArray⟩ : ByteArray) (Lib.countB ⟨s.toArray⟩ ⟨[10].toArray⟩) (⟨s.toArray⟩ : ByteArray)
  have h3 := Lib.countB_mul_le (⟨[10].toArray⟩ : ByteArray) (by decide) _ (⟨s.toArray⟩ : ByteArray) (Nat.le_refl _)
  have h4 : (⟨[10].toArray⟩ : ByteArray).size = 1 := by decide
  have h5 : ∀ (h : AH) (fr : Nat), CR Tryz.prog (globM mx) md (.fn 205) [.str s, .str [10]] h fr _ := fun h fr => CR.lib (F := splitF) rfl (by
    simp only [splitF]
    rw [if_pos ⟨by omega, by decide⟩])
  rw [h4, hsz] at h3
  rw [hsz] at h2
  generalize Lib.splitB (⟨[10].toArray⟩ : ByteArray) 0 (Lib.countB ⟨s.toArray⟩ ⟨[10].toArray⟩) ⟨s.toArray⟩ = L at h1 h2 h5
  refine ⟨L.map fun b => b.data.toList, ?_, ?_, ?_, fun h fr => ?_⟩
  · intro e
    rw [List.map_eq_nil_iff.1 e, List.length_nil] at h1
    omega
  · rw [List.length_map]; omega
  · intro x hx
    obtain ⟨b, hb, rfl⟩ := List.mem_map.1 hx
    have := h2 b hb
    rw [← Lib.size_eq]
    omega
  · have := h5 h fr
    rw [List.length_map, List.map_map]
    exact this
theorem cleans_strs (L : List (List UInt8)) : PV.cleans (L.map PV.str) = true := by
  induction L with
  | nil => rfl
  | cons x L ih => rw [List.map_cons, PV.cleans, ih]; rfl
theorem lines_c (s : List UInt8) (hs : s.length ≤ 100000) : ∃ L : List (List UInt8), L ≠ [] ∧ L.length ≤ 100001 ∧ (∀ x ∈ L, x.length ≤ 100000) ∧
    ∀ (h : AH) (fr : Nat), CR Tryz.prog (globM mx) md (.fn 196) [.str s] h fr (.new (.ow fr L.length 0 L.length) (.cells 9 1 false (L.map PV.str))) := by
  have l1 := replaceAll_len s [13, 10] [10] (by decide)
  have l2 := replaceAll_len (Lib.replaceAll s [13, 10] [10]) [13] [10] (by decide)
  have c1 := repl_c (mx := mx) s [13, 10] [10] (by omega) (by decide) (by decide)
  have c2 := repl_c (mx := mx) (Lib.replaceAll s [13, 10] [10]) [13] [10] (by omega) (by decide) (by decide)
  obtain ⟨L, h1, h2, h3, h4⟩ := split_c (mx := mx) (Lib.replaceAll (Lib.replaceAll s [13, 10] [10]) [13] [10]) (by omega)
  refine ⟨L, h1, h2, h3, fun h fr => ?_⟩
  have key : CR Tryz.prog (globM mx) md (.fn 196) [.str s] h fr (.new (.ow fr (L.length * 1) 0 L.length) (.cells 9 1 false (L.map PV.str))) → CR Tryz.prog (globM mx) md (.fn 196) [.str s] h fr (.new (.ow fr L.length 0 L.length) (.cells 9 1 false (L.map PV.str))) := fun q => by rwa [Nat.mul_one] at q
  refine key (CR.own Tryz.func196 rfl rfl rfl rfl (ends_of (rs := [.tmp 2]) (Q := fun u h' => ∃ id, u = .ow id L.length 0 L.length ∧ h'.get id = some (.cells 9 1 false (L.map PV.str))) rfl rfl ?_ ?_) h fr)
  · rintro u h' ⟨id, rfl, hg⟩
    exact ⟨id, h', _, h', _, by rw [Nat.mul_one], hg, by rw [List.length_map, Nat.mul_one], frzL_clean _ _ (cleans_strs L), ⟨_, hg⟩, rfl⟩
  · simp -implicitDefEqProofs only [wpC_seq, rowsA, if_true, if_false, opnd, ofVal, ofVal1, layArgs, Nat.reduceAdd, reduceIte, Nat.reduceEqDiff, reduceCtorEq, rowsB, cellsG, Nat.reduceMul, goO_known c1, goO_known c2, goO_own (v := fun fr => .ow fr L.length 0 L.length) h4]
    exact ⟨_, rfl, by simp only [AH.get_set, if_true]⟩

def indL (s : List UInt8) : Int := s.length - (Lib.trimLeftS s [32, 9]).length
theorem indL_range (s : List UInt8) : 0 ≤ indL s ∧ indL s ≤ s.length := by
  unfold indL Lib.trimLeftS
  have := (List.dropWhile_suffix (l := s) (List.contains [32, 9] ·)).length_le
  omega
theorem indent_c (s : List UInt8) (hs : s.length ≤ 100000) (h : AH) (fr : Nat) : CR Tryz.prog (globM mx) md (.fn 197) [.str s] h fr (.val (.int .i64 (indL s))) := by
  have c1 := trim_c (mx := mx) s [32, 9] (by decide) (by decide)
  have r := indL_range s
  have w := IntWalk.i64_in (indL s) (by omega)
  unfold indL at w
  refine CR.plain (rs := [.tmp 2]) Tryz.func197 rfl rfl rfl rfl rfl rfl rfl ?_ h fr
  simp -implicitDefEqProofs only [wpC_seq, rowsA, if_true, if_false, opnd, ofVal, ofVal1, layArgs, Nat.reduceAdd, reduceIte, Nat.reduceEqDiff, reduceCtorEq, rowsB, cellsG, Nat.reduceMul, len_str u9, goO_known c1, w]
  rfl
end Go.Proofs.YtcbngkmmmfaaoaaGreatDoor
namespace Go.Proofs.YtcbngkmmmfaaoaaGreatDoor
open Go.RowKit Go.Lib Go.Ac
set_option linter.unusedSimpArgs false
set_option maxRecDepth 100000
variable {mx : Int}

theorem u43s : Tryz.prog.underlying 43 = some (.slice 9) := by kernel_rfl
def slG (tot : Nat) (x : Option OR) : Option AO → Option OR
  | some (.cells _ 1 _ c) => if c.length = tot then x else none
  | _ => none
theorem slG_cells (tot : Nat) (x : Option OR) (E : TypeId) (fz : Bool) (c : List PV) : slG tot x (some (.cells E 1 fz c)) = if c.length = tot then x else none := rfl
theorem slG_eq (h : AH) (id tot off n : Nat) (x : Option OR) : (if liveB h (.ow id tot off n) && sizeB Tryz.prog h 43 (.ow id tot off n) then x else none) = slG tot x (h.get id) := by
  unfold slG
  cases hg : h.get id with
  | none => simp [liveB, sizeB, hg]
  | some o =>
    cases o with
    | cells E sz fz c =>
      simp only [liveB, sizeB, hg, u43s, sz9]
      by_cases e : sz = 1
      · subst e
        simp
      · have e' : ¬ (1 = sz) := fun q => e q.symm
        simp only [Option.some.injEq, e', decide_false, Bool.and_false, Bool.false_eq_true, if_false]
        split
        · rename_i q; cases q; exact absurd rfl e
        · rfl
    | _ => simp [liveB, sizeB, hg]
theorem slF1 (id tot off : Nat) : (sliceV Tryz.prog 43 (.ow id tot off 1) (some (.int .i64 1)) none none).map OR.q = some (.q (.ro [] 0)) := by
  simp [sliceV, u43s, sz9, boundD, bound]
theorem slF2 (id tot off k : Nat) : (sliceV Tryz.prog 43 (.ow id tot off (k + 2)) (some (.int .i64 1)) none none).map OR.q = some (.q (.ow id tot (off + 1) (k + 1))) := by
  simp only [sliceV, u43s, sz9, boundD, bound, Option.bind_some]
  rw [if_pos (by omega), Option.bind_some, if_neg (by simp)]
  rfl
theorem slT1 (id tot off : Nat) : (sliceV Tryz.prog 43 (.ow id tot off 1) none (some (.int .i64 0)) none).map OR.q = some (.q (.ro [] 0)) := by
  simp [sliceV, u43s, sz9, boundD, bound]
theorem slT2 (id tot off k : Nat) : (sliceV Tryz.prog 43 (.ow id tot off (k + 2)) none (some (.int .i64 ((k : Int) + 1))) none).map OR.q = some (.q (.ow id tot off (k + 1))) := by
  simp only [sliceV, u43s, sz9, boundD, bound, Option.bind_some]
  rw [if_pos (by omega), Option.bind_some, show ((k : Int) + 1).toNat = k + 1 by omega, if_neg (by omega)]
  simp
theorem slT1' (id tot off : Nat) : (sliceV Tryz.prog 43 (.ow id tot off (0 + 1)) none (some (.int .i64 ((0 : Nat) : Int))) none).map OR.q = some (.q (.ro [] 0)) := slT1 id tot off
theorem slT2' (id tot off k : Nat) : (sliceV Tryz.prog 43 (.ow id tot off (k + 1 + 1)) none (some (.int .i64 ((k + 1 : Nat) : Int))) none).map OR.q = some (.q (.ow id tot off (k + 1))) := by rw [← slT2 id tot off k]; rfl
theorem ida43 {h : AH} {id tot off n i : Nat} (h1 : i < n) : idaO Tryz.prog h 43 (.ow id tot off n) (.int .i64 (i : Int)) = if liveG tot (h.get id) then some (.q (.ptr id tot (off + i))) else none := by
  rw [ida_ow u43s sz9 (by omega) (by omega), Int.toNat_natCast]
theorem ida43z {h : AH} {id tot off n : Nat} (h1 : 0 < n) : idaO Tryz.prog h 43 (.ow id tot off n) (.int .i64 0) = if liveG tot (h.get id) then some (.q (.ptr id tot off)) else none := ida43 (i := 0) h1
theorem ld9L {L : List (List UInt8)} {i : Nat} (hi : i < L.length) : loadO Tryz.prog 9 (some ((L.map PV.str).drop i)) = some (.q (.str (L.getD i []))) :=
  load_drop ag9 sz9 (by rw [List.getElem?_map, List.getElem?_eq_getElem hi, List.getD_eq_getElem?_getD, List.getElem?_eq_getElem hi]; rfl)
theorem getD_len {L : List (List UInt8)} (hL : ∀ x ∈ L, x.length ≤ 100000) (i : Nat) : (L.getD i []).length ≤ 100000 := by
  rw [List.getD_eq_getElem?_getD]
  cases h : L[i]? with
  | none => simp
  | some x => exact hL x (List.mem_of_getElem? h)
theorem stoL {L : List (List UInt8)} {i : Nat} (hi : i < L.length) (id : Nat) (x : List UInt8) : stoG id L.length i (.str x) 1 (some (.cells 9 1 false (L.map PV.str))) = some (.w .undef id (.cells 9 1 false ((L.set i x).map PV.str))) := by
  have e : PV.goes (.str x) = true := rfl
  simp only [stoG, List.length_map, e, PV.cells, List.length_singleton, true_and]
  rw [if_pos (by omega), splice_one _ _ _ (by rw [List.length_map]; exact hi), List.map_set]
theorem strsOf_map : ∀ L : List (List UInt8), strsOf (L.map PV.str) = some L
  | [] => rfl
  | x :: L => by rw [List.map_cons, strsOf, strsOf_map L]; rfl
theorem lens_le (L : List (List UInt8)) (hL : ∀ x ∈ L, x.length ≤ 100000) : Lib.lens L ≤ L.length * 100000 := by
  induction L with
  | nil => simp [Lib.lens]
  | cons x L ih =>
    have h1 := hL x List.mem_cons_self
    have h2 := ih fun y hy => hL y (List.mem_cons_of_mem _ hy)
    simp only [Lib.lens, List.map_cons, List.sum_cons, List.length_cons] at h2 ⊢
    rw [Nat.succ_mul]
    omega
def Vw (B m k : Nat) (v : PV) : Prop := (v = .ro [] 0 ∧ k = 0) ∨ ∃ off, v = .ow B m off k ∧ off + k ≤ m ∧ 0 < k
theorem join_v {v : PV} {B m k : Nat} {h : AH} (hv : Vw B m k v) (hr : Rws h B m) : ∃ v' h', (∀ fr, CR Tryz.prog (globM mx) md (.fn 198) [v, .str [10]] h fr (.sh v' h')) ∧ ∃ x, v' = .str x := by
  obtain ⟨_, hm, L, g, rfl, hL⟩ := hr
  rcases hv with ⟨rfl, _⟩ | ⟨off, rfl, hk, h0⟩
  · exact ⟨_, h, fun fr => CR.lib (F := joinF) rfl rfl, [], rfl⟩
  · have hsub : strsOf (((L.map PV.str).drop off).take k) = some ((L.drop off).take k) := by
      rw [← List.map_drop, ← List.map_take]
      exact strsOf_map _
    have hl : (Lib.join ((L.drop off).take k) [10]).length ≤ 140737488355328 := by
      have hlen : ((L.drop off).take k).length ≤ 100001 := by rw [List.length_take, List.length_drop]; omega
      have hall : ∀ x ∈ (L.drop off).take k, x.length ≤ 100000 := fun x hx => hL x (List.mem_of_mem_drop (List.mem_of_mem_take hx))
      generalize (L.drop off).take k = M at hlen hall
      cases M with
      | nil => simp [Lib.join_nil]
      | cons x M =>
        rw [Lib.join_length]
        have h1 := lens_le _ hall
        have h2 : (x :: M).length * 100000 ≤ 100001 * 100000 := Nat.mul_le_mul_right _ hlen
        simp only [List.length_cons, List.length_nil] at hlen ⊢
        omega
    exact ⟨_, h, fun fr => CR.lib (F := joinF) rfl (by
      simp only [joinF, g, hsub]
      rw [if_pos ⟨by rw [List.length_map], trivial, hk, by omega, hl⟩]), _, rfl⟩
theorem Rws.up {h : AH} {B m : Nat} (n : Nat) (r : Rws h B m) : Rws (h.up n) B m := by
  obtain ⟨a, b, L, g, c⟩ := r
  exact ⟨by rw [AH.next_up]; omega, b, L, by rw [AH.get_up]; exact g, c⟩
def BlkA (F : Fr) (h : AH) : Prop := ∃ B m, F.at 3 = .ow B m 0 m ∧ 0 < m ∧ Rws h B m
def BlkC (B m : Nat) (F : Fr) (h : AH) : Prop := (∃ c, F.at 4 = .int .i64 c ∧ -1 ≤ c ∧ c ≤ 100000) ∧ F.at 3 = .ow B m 0 m ∧ Rws h B m
def BlkD (B m : Nat) (F : Fr) (h : AH) : Prop := F.at 3 = .ow B m 0 m ∧ Rws h B m
def BlkE (B m : Nat) (F : Fr) (h : AH) : Prop := ∃ k, Vw B m k (F.at 3) ∧ Rws h B m
def invA (B m k12 : Nat) (k : Nat) (F : Fr) (h : AH) : Prop := ∃ (i : Nat) (c : Int), k + i = k12 ∧ F.at 14 = .int .i64 i ∧ F.at 4 = .int .i64 c ∧ -1 ≤ c ∧ c ≤ 100000 ∧ F.at 3 = .ow B m 0 m ∧ F.at 13 = .int .i64 k12 ∧ (k12 = 0 ∨ F.at 12 = .ow B m 1 k12) ∧ Rws h B m
def invB (B m : Nat) (c : Int) (k : Nat) (F : Fr) (h : AH) : Prop := ∃ i : Nat, k + i = m ∧ F.at 8 = .int .i64 i ∧ F.at 4 = .int .i64 c ∧ F.at 3 = .ow B m 0 m ∧ Rws h B m
def invE (B m : Nat) (k : Nat) (F : Fr) (h : AH) : Prop := Vw B m k (F.at 3) ∧ Rws h B m
set_option maxHeartbeats 4000000 in
theorem block_c (l : List UInt8) (hl : l.length ≤ 100000) : ∃ x, ∀ (h : AH) (fr : Nat), CR Tryz.prog (globM mx) md (.fn 190) [.str l] h fr (.val (.str x)) := by
  obtain ⟨L, hL0, hL1, hL2, hlc⟩ := lines_c (mx := mx) l hl
  have key := CR.some (P := Tryz.prog) (G := globM mx) (md := md) (k := 190) (args := [.str l]) (Q := fun v => ∃ x : List UInt8, v = .str x) (rs := [.tmp 2]) Tryz.func190 rfl rfl rfl rfl rfl rfl ?_
  · obtain ⟨v, ⟨x, rfl⟩, _, h2⟩ := key
    exact ⟨x, h2⟩
  rw [wpC_seq]; simp -implicitDefEqProofs only [rowsA, if_true, if_false, opnd, ofVal, ofVal1, layArgs, Nat.reduceAdd, reduceIte, Nat.reduceEqDiff, reduceCtorEq, rowsB, cellsG, Nat.reduceMul, up_up]
  refine wpC_then BlkA ?_ ?_
  · simp -implicitDefEqProofs only [rowsA, if_true, if_false, opnd, ofVal, ofVal1, layArgs, Nat.reduceAdd, reduceIte, Nat.reduceEqDiff, reduceCtorEq, rowsB, cellsG, Nat.reduceMul, rowsR, goO_own (v := fun fr => .ow fr L.length 0 L.length) hlc]
    refine ⟨_, L.length, by simp only [Fr.at_set, Nat.reduceEqDiff, reduceIte, reduceCtorEq]; rfl, List.length_pos_iff.2 hL0, ?_, hL1, L, by simp only [AH.get_set, AH.get_up, if_true], rfl, hL2⟩
    simp only [AH.next_set, AH.next_up]; omega
  rintro F h1 ⟨B, m, f3, hm, r1⟩
  rw [wpC_seq]; simp -implicitDefEqProofs only [rowsA, if_true, if_false, opnd, ofVal, ofVal1, layArgs, Nat.reduceAdd, reduceIte, Nat.reduceEqDiff, reduceCtorEq, rowsB, cellsG, Nat.reduceMul, up_up]
  -- how deep all of them stand
  refine wpC_then (BlkC B m) ?_ ?_
  · have hsl : ∀ h : AH, h.get B = h1.get B → ∃ v, slG m ((sliceV Tryz.prog 43 (.ow B m 0 m) (some (.int .i64 1)) none none).map OR.q) (h.get B) = some (.q v) ∧ lenO Tryz.prog [v] [43] = some (.q (.int .i64 ((m - 1 : Nat) : Int))) ∧ (m - 1 = 0 ∨ v = .ow B m 1 (m - 1)) := by
      intro h hh
      obtain ⟨_, _, L, g, rfl, _⟩ := r1
      rw [hh, g, slG_cells, if_pos (by rw [List.length_map])]
      generalize L.length = m at *
      match m, hm with
      | 1, _ => exact ⟨_, slF1 B 1 0, len_ro u43s, .inl rfl⟩
      | m + 2, _ => exact ⟨_, slF2 B (m + 2) 0 m, len_ow u43s, .inr rfl⟩
    obtain ⟨v, q1, q2, q3⟩ := hsl (h1.up 3) (by rw [AH.get_up])
    obtain ⟨k12, hk⟩ : ∃ k12, k12 + 1 = m := ⟨m - 1, by omega⟩
    rw [show m - 1 = k12 by omega] at q2 q3
    rw [AH.get_up] at q1
    simp -implicitDefEqProofs only [wpC_seq, rowsA, if_true, if_false, opnd, ofVal, ofVal1, layArgs, Nat.reduceAdd, reduceIte, Nat.reduceEqDiff, reduceCtorEq, rowsB, cellsG, Nat.reduceMul, rowsR, f3, slG_eq, q1, q2]
    refine wpC_loop (invA B m k12) (k := k12) ⟨0, -1, by omega, ?_, ?_, by omega, by omega, ?_, ?_, ?_, r1.up _⟩ ?_
    · simp only [Fr.at_set, Nat.reduceEqDiff, reduceIte, reduceCtorEq]; rfl
    · simp only [Fr.at_set, Nat.reduceEqDiff, reduceIte, reduceCtorEq]
    · simp only [Fr.at_set, Nat.reduceEqDiff, reduceIte, reduceCtorEq, f3]
    · simp only [Fr.at_set, Nat.reduceEqDiff, reduceIte, reduceCtorEq]
    · simp only [Fr.at_set, Nat.reduceEqDiff, reduceIte, reduceCtorEq]; exact q3
    clear q1 q2 q3
    rintro k F h2 ⟨i, c, ik, f14, f4, c1, c2, f3, f13, f12, r2⟩
    cases k with
    | zero =>
      have d1 : ¬ ((i : Int) < (k12 : Int)) := by omega
      simp -implicitDefEqProofs only [wpC_seq, rowsA, if_true, if_false, opnd, ofVal, ofVal1, layArgs, Nat.reduceAdd, reduceIte, Nat.reduceEqDiff, reduceCtorEq, rowsB, cellsG, Nat.reduceMul, rowsR, f14, f13, d1]
      exact ⟨⟨c, by simp only [Fr.at_set, Nat.reduceEqDiff, reduceIte, reduceCtorEq, f4], c1, c2⟩, by simp only [Fr.at_set, Nat.reduceEqDiff, reduceIte, reduceCtorEq, f3], r2.up _⟩
    | succ k =>
      have d1 : (i : Int) < (k12 : Int) := by omega
      have d2 : i < k12 := by omega
      have f12' := f12.resolve_left (by omega)
      have r3 := r2
      obtain ⟨_, hm2, L2, g, hLm, hL⟩ := r2
      subst hLm
      have hx := getD_len hL (1 + i)
      have g1 : 1 + i < L2.length := by omega
      have hin := indent_c (mx := mx) (L2.getD (1 + i) []) hx
      have hir := indL_range (L2.getD (1 + i) [])
      have hxl : ((L2.getD (1 + i) []).length : Int) ≤ 100000 := by omega
      have w3 := IntWalk.i64_in ((i : Int) + 1) (by omega)
      simp -implicitDefEqProofs only [wpC_seq, rowsA, if_true, if_false, opnd, ofVal, ofVal1, layArgs, Nat.reduceAdd, reduceIte, Nat.reduceEqDiff, reduceCtorEq, rowsB, cellsG, Nat.reduceMul, rowsR, f14, f13, d1, f12', ida43 d2, g, List.length_map, ld9L g1, goO_known hin, len_str u9]
      generalize (L2.getD (1 + i) []).length = xl at hir hxl hx
      generalize indL (L2.getD (1 + i) []) = x at hir
      clear hin
      have fin : ∀ (c' : Int) {F' : Fr} {n1 : Nat}, -1 ≤ c' → c' ≤ 100000 → F'.at 4 = .int .i64 c' → F'.at 3 = .ow B L2.length 0 L2.length → F'.at 13 = .int .i64 k12 → F'.at 12 = .ow B L2.length 1 k12 → F'.at 14 = .int .i64 ((i + 1 : Nat) : Int) → invA B L2.length k12 k F' (h2.up n1) := fun c' F' n1 z1 z2 z3 z4 z5 z6 z7 => ⟨i + 1, c', by omega, z7, z3, z1, z2, z4, z5, .inr z6, r3.up _⟩
      by_cases e1 : x < (xl : Int)
      · by_cases e2 : c < 0
        · simp -implicitDefEqProofs only [wpC_seq, rowsA, if_true, if_false, opnd, ofVal, ofVal1, layArgs, Nat.reduceAdd, reduceIte, Nat.reduceEqDiff, reduceCtorEq, rowsB, cellsG, Nat.reduceMul, rowsR, f4, e1, e2, f14, w3]
          exact ⟨k, by omega, fin x (by omega) (by omega) (by simp only [Fr.at_set, Nat.reduceEqDiff, reduceIte, reduceCtorEq]) (by simp only [Fr.at_set, Nat.reduceEqDiff, reduceIte, reduceCtorEq, f3]) (by simp only [Fr.at_set, Nat.reduceEqDiff, reduceIte, reduceCtorEq, f13]) (by simp only [Fr.at_set, Nat.reduceEqDiff, reduceIte, reduceCtorEq, f12']) (by simp only [Fr.at_set, Nat.reduceEqDiff, reduceIte, reduceCtorEq]; rfl)⟩
        · by_cases e3 : x < c
          · simp -implicitDefEqProofs only [wpC_seq, rowsA, if_true, if_false, opnd, ofVal, ofVal1, layArgs, Nat.reduceAdd, reduceIte, Nat.reduceEqDiff, reduceCtorEq, rowsB, cellsG, Nat.reduceMul, rowsR, f4, e1, e2, e3, f14, w3]
            exact ⟨k, by omega, fin x (by omega) (by omega) (by simp only [Fr.at_set, Nat.reduceEqDiff, reduceIte, reduceCtorEq]) (by simp only [Fr.at_set, Nat.reduceEqDiff, reduceIte, reduceCtorEq, f3]) (by simp only [Fr.at_set, Nat.reduceEqDiff, reduceIte, reduceCtorEq, f13]) (by simp only [Fr.at_set, Nat.reduceEqDiff, reduceIte, reduceCtorEq, f12']) (by simp only [Fr.at_set, Nat.reduceEqDiff, reduceIte, reduceCtorEq]; rfl)⟩
          · simp -implicitDefEqProofs only [wpC_seq, rowsA, if_true, if_false, opnd, ofVal, ofVal1, layArgs, Nat.reduceAdd, reduceIte, Nat.reduceEqDiff, reduceCtorEq, rowsB, cellsG, Nat.reduceMul, rowsR, f4, e1, e2, e3, f14, w3]
            exact ⟨k, by omega, fin c c1 c2 (by simp only [Fr.at_set, Nat.reduceEqDiff, reduceIte, reduceCtorEq, f4]) (by simp only [Fr.at_set, Nat.reduceEqDiff, reduceIte, reduceCtorEq, f3]) (by simp only [Fr.at_set, Nat.reduceEqDiff, reduceIte, reduceCtorEq, f13]) (by simp only [Fr.at_set, Nat.reduceEqDiff, reduceIte, reduceCtorEq, f12']) (by simp only [Fr.at_set, Nat.reduceEqDiff, reduceIte, reduceCtorEq]; rfl)⟩
      · simp -implicitDefEqProofs only [wpC_seq, rowsA, if_true, if_false, opnd, ofVal, ofVal1, layArgs, Nat.reduceAdd, reduceIte, Nat.reduceEqDiff, reduceCtorEq, rowsB, cellsG, Nat.reduceMul, rowsR, f4, e1, f14, w3]
        exact ⟨k, by omega, fin c c1 c2 (by simp only [Fr.at_set, Nat.reduceEqDiff, reduceIte, reduceCtorEq, f4]) (by simp only [Fr.at_set, Nat.reduceEqDiff, reduceIte, reduceCtorEq, f3]) (by simp only [Fr.at_set, Nat.reduceEqDiff, reduceIte, reduceCtorEq, f13]) (by simp only [Fr.at_set, Nat.reduceEqDiff, reduceIte, reduceCtorEq, f12']) (by simp only [Fr.at_set, Nat.reduceEqDiff, reduceIte, reduceCtorEq]; rfl)⟩
  clear hlc
  rintro F h2 ⟨⟨c, f4, c1, c2⟩, f3, r2⟩
  -- that much off each of them
  refine wpC_then (BlkD B m) ?_ ?_
  · simp -implicitDefEqProofs only [wpC_seq, rowsA, if_true, if_false, opnd, ofVal, ofVal1, layArgs, Nat.reduceAdd, reduceIte, Nat.reduceEqDiff, reduceCtorEq, rowsB, cellsG, Nat.reduceMul, rowsR, f3]
    refine wpC_loop (invB B m c) (k := m - 1) ⟨1, by omega, ?_, ?_, ?_, r2.up _⟩ ?_
    · simp only [Fr.at_set, Nat.reduceEqDiff, reduceIte, reduceCtorEq]; rfl
    · simp only [Fr.at_set, Nat.reduceEqDiff, reduceIte, reduceCtorEq, f4]
    · simp only [Fr.at_set, Nat.reduceEqDiff, reduceIte, reduceCtorEq, f3]
    clear f4 f3 r2
    rintro k F h3 ⟨i, ik, f8, f4, f3, r3⟩
    cases k with
    | zero =>
      have d1 : ¬ ((i : Int) < (m : Int)) := by omega
      simp -implicitDefEqProofs only [wpC_seq, rowsA, if_true, if_false, opnd, ofVal, ofVal1, layArgs, Nat.reduceAdd, reduceIte, Nat.reduceEqDiff, reduceCtorEq, rowsB, cellsG, Nat.reduceMul, rowsR, f8, f4, f3, d1, len_ow u43s]
      exact ⟨by simp only [Fr.at_set, Nat.reduceEqDiff, reduceIte, reduceCtorEq, f3], r3.up _⟩
    | succ k =>
      have d1 : (i : Int) < (m : Int) := by omega
      have d2 : i < m := by omega
      by_cases d3 : c > 0
      · have r4 := r3
        obtain ⟨hB, hm3, L3, g, hLm, hL⟩ := r3
        subst hLm
        have hx := getD_len hL i
        have w3 := IntWalk.i64_in ((i : Int) + 1) (by omega)
        have m1 : 0 ≤ min c ((L3.getD i []).length : Int) := by omega
        have m2 : min c ((L3.getD i []).length : Int) ≤ ((L3.getD i []).length : Int) := by omega
        simp -implicitDefEqProofs only [wpC_seq, rowsA, if_true, if_false, opnd, ofVal, ofVal1, layArgs, Nat.reduceAdd, reduceIte, Nat.reduceEqDiff, reduceCtorEq, rowsB, cellsG, Nat.reduceMul, rowsR, f8, f4, f3, d1, d3, len_ow u43s, ida43 d2, g, List.length_map, ld9L d2, len_str u9, aop_minO, mm_min, slice_from u9 m1 m2, sz9, stoL d2]
        rw [goD_st (by omega) (by kernel_rfl)]
        simp -implicitDefEqProofs only [wpC_seq, rowsA, if_true, if_false, opnd, ofVal, ofVal1, layArgs, Nat.reduceAdd, reduceIte, Nat.reduceEqDiff, reduceCtorEq, rowsB, cellsG, Nat.reduceMul, rowsR, f8, w3]
        refine ⟨k, by omega, i + 1, by omega, ?_, ?_, ?_, ?_⟩
        · simp only [Fr.at_set, Nat.reduceEqDiff, reduceIte, reduceCtorEq]; rfl
        · simp only [Fr.at_set, Nat.reduceEqDiff, reduceIte, reduceCtorEq, f4]
        · simp only [Fr.at_set, Nat.reduceEqDiff, reduceIte, reduceCtorEq, f3]
        · refine ⟨by simp only [AH.next_up, AH.next_set]; omega, hm3, L3.set i ((L3.getD i []).drop (min c ((L3.getD i []).length : Int)).toNat), by simp only [AH.get_set, AH.get_up, if_true], by rw [List.length_set], fun x hx' => ?_⟩
          rcases List.mem_or_eq_of_mem_set hx' with q | rfl
          · exact hL x q
          · rw [List.length_drop]; omega
      · simp -implicitDefEqProofs only [wpC_seq, rowsA, if_true, if_false, opnd, ofVal, ofVal1, layArgs, Nat.reduceAdd, reduceIte, Nat.reduceEqDiff, reduceCtorEq, rowsB, cellsG, Nat.reduceMul, rowsR, f8, f4, f3, d1, d3, len_ow u43s]
        exact ⟨by simp only [Fr.at_set, Nat.reduceEqDiff, reduceIte, reduceCtorEq, f3], r3.up _⟩
  clear f4 f3 r1 r2 c1 c2
  rintro F h3 ⟨f3, r3⟩
  -- no blank lines at the front
  refine wpC_then (BlkE B m) ?_ ?_
  · refine wpC_loop (invE B m) (k := m) ⟨?_, r3⟩ ?_
    · exact .inr ⟨0, f3, by omega, hm⟩
    clear f3 r3
    rintro k F h4 ⟨hv, r4⟩
    rcases hv with ⟨f3, rfl⟩ | ⟨off, f3, hk, h0⟩
    · simp -implicitDefEqProofs only [wpC_seq, rowsA, if_true, if_false, opnd, ofVal, ofVal1, layArgs, Nat.reduceAdd, reduceIte, Nat.reduceEqDiff, reduceCtorEq, rowsB, cellsG, Nat.reduceMul, rowsR, f3, len_ro u43s, Int.natCast_zero, Int.lt_irrefl, gt_iff_lt]
      exact ⟨0, .inl ⟨by simp only [Fr.at_set, Nat.reduceEqDiff, reduceIte, reduceCtorEq, f3], rfl⟩, r4.up _⟩
    · have r5 := r4
      obtain ⟨hB, hm4, L4, g, hLm, hL⟩ := r4
      subst hLm
      have hx := getD_len hL off
      have g1 : off < L4.length := by omega
      have hin := indent_c (mx := mx) (L4.getD off []) hx
      have d1 : (k : Int) > 0 := by omega
      by_cases e1 : indL (L4.getD off []) = ((L4.getD off []).length : Int)
      · obtain rfl | ⟨k', rfl⟩ : k = 1 ∨ ∃ k', k = k' + 2 := by
          by_cases q : k = 1
          · exact .inl q
          · exact .inr ⟨k - 2, by omega⟩
        · simp -implicitDefEqProofs only [wpC_seq, rowsA, if_true, if_false, opnd, ofVal, ofVal1, layArgs, Nat.reduceAdd, reduceIte, Nat.reduceEqDiff, reduceCtorEq, rowsB, cellsG, Nat.reduceMul, rowsR, f3, len_ow u43s, d1, ida43z h0, g, List.length_map, ld9L g1, goD_known hin, len_str u9, decide_eq_true e1, slG_eq, slG_cells, slF1]
          exact ⟨0, by omega, .inl ⟨by simp only [Fr.at_set, Nat.reduceEqDiff, reduceIte, reduceCtorEq], rfl⟩, r5.up _⟩
        · simp -implicitDefEqProofs only [wpC_seq, rowsA, if_true, if_false, opnd, ofVal, ofVal1, layArgs, Nat.reduceAdd, reduceIte, Nat.reduceEqDiff, reduceCtorEq, rowsB, cellsG, Nat.reduceMul, rowsR, f3, len_ow u43s, d1, ida43z h0, g, List.length_map, ld9L g1, goD_known hin, len_str u9, decide_eq_true e1, slG_eq, slG_cells, slF2]
          exact ⟨k' + 1, by omega, .inr ⟨off + 1, by simp only [Fr.at_set, Nat.reduceEqDiff, reduceIte, reduceCtorEq], by omega, by omega⟩, r5.up _⟩
      · simp -implicitDefEqProofs only [wpC_seq, rowsA, if_true, if_false, opnd, ofVal, ofVal1, layArgs, Nat.reduceAdd, reduceIte, Nat.reduceEqDiff, reduceCtorEq, rowsB, cellsG, Nat.reduceMul, rowsR, f3, len_ow u43s, d1, ida43z h0, g, List.length_map, ld9L g1, goD_known hin, len_str u9, e1]
        exact ⟨k, .inr ⟨off, by simp only [Fr.at_set, Nat.reduceEqDiff, reduceIte, reduceCtorEq, f3], hk, h0⟩, r5.up _⟩
  clear f3 r3
  rintro F h4 ⟨k, hv, r4⟩
  -- nor at the end
  refine wpC_then (BlkE B m) ?_ ?_
  · refine wpC_loop (invE B m) (k := k) ⟨hv, r4⟩ ?_
    clear hv r4
    rintro k F h4 ⟨hv, r4⟩
    rcases hv with ⟨f3, rfl⟩ | ⟨off, f3, hk, h0⟩
    · simp -implicitDefEqProofs only [wpC_seq, rowsA, if_true, if_false, opnd, ofVal, ofVal1, layArgs, Nat.reduceAdd, reduceIte, Nat.reduceEqDiff, reduceCtorEq, rowsB, cellsG, Nat.reduceMul, rowsR, f3, len_ro u43s, Int.natCast_zero, Int.lt_irrefl, gt_iff_lt]
      exact ⟨0, .inl ⟨by simp only [Fr.at_set, Nat.reduceEqDiff, reduceIte, reduceCtorEq, f3], rfl⟩, r4.up _⟩
    · have r5 := r4
      obtain ⟨hB, hm4, L4, g, hLm, hL⟩ := r4
      subst hLm
      obtain ⟨j, rfl⟩ : ∃ j, k = j + 1 := ⟨k - 1, by omega⟩
      have hx := getD_len hL (off + j)
      have g1 : off + j < L4.length := by omega
      have hin := indent_c (mx := mx) (L4.getD (off + j) []) hx
      have d1 : ((j + 1 : Nat) : Int) > 0 := by omega
      have d2 : j < j + 1 := by omega
      have w3 : IntKind.i64.wrap (((j + 1 : Nat) : Int) - 1) = (j : Int) := by rw [IntWalk.i64_in (((j + 1 : Nat) : Int) - 1) (by omega)]; omega
      by_cases e1 : indL (L4.getD (off + j) []) = ((L4.getD (off + j) []).length : Int)
      · obtain rfl | ⟨j', rfl⟩ : j = 0 ∨ ∃ j', j = j' + 1 := by
          by_cases q : j = 0
          · exact .inl q
          · exact .inr ⟨j - 1, by omega⟩
        · rw [Nat.add_zero] at hx g1 hin e1
          simp -implicitDefEqProofs only [wpC_seq, rowsA, if_true, if_false, opnd, ofVal, ofVal1, layArgs, Nat.reduceAdd, reduceIte, Nat.reduceEqDiff, reduceCtorEq, rowsB, cellsG, Nat.reduceMul, rowsR, f3, len_ow u43s, d1, w3, ida43 d2, g, List.length_map, ld9L g1, goD_known hin, len_str u9, decide_eq_true e1, slG_eq, slG_cells, slT1']
          exact ⟨0, by omega, .inl ⟨by simp only [Fr.at_set, Nat.reduceEqDiff, reduceIte, reduceCtorEq], rfl⟩, r5.up _⟩
        · simp -implicitDefEqProofs only [wpC_seq, rowsA, if_true, if_false, opnd, ofVal, ofVal1, layArgs, Nat.reduceAdd, reduceIte, Nat.reduceEqDiff, reduceCtorEq, rowsB, cellsG, Nat.reduceMul, rowsR, f3, len_ow u43s, d1, w3, ida43 d2, g, List.length_map, ld9L g1, goD_known hin, len_str u9, decide_eq_true e1, slG_eq, slG_cells, slT2']
          exact ⟨j' + 1, by omega, .inr ⟨off, by simp only [Fr.at_set, Nat.reduceEqDiff, reduceIte, reduceCtorEq], by omega, by omega⟩, r5.up _⟩
      · simp -implicitDefEqProofs only [wpC_seq, rowsA, if_true, if_false, opnd, ofVal, ofVal1, layArgs, Nat.reduceAdd, reduceIte, Nat.reduceEqDiff, reduceCtorEq, rowsB, cellsG, Nat.reduceMul, rowsR, f3, len_ow u43s, d1, w3, ida43 d2, g, List.length_map, ld9L g1, goD_known hin, len_str u9, e1]
        exact ⟨j + 1, .inr ⟨off, by simp only [Fr.at_set, Nat.reduceEqDiff, reduceIte, reduceCtorEq, f3], hk, h0⟩, r5.up _⟩
  clear hv r4
  rintro F h5 ⟨k, hv, r5⟩
  simp -implicitDefEqProofs only [wpC_seq, rowsA, if_true, if_false, opnd, ofVal, ofVal1, layArgs, Nat.reduceAdd, reduceIte, Nat.reduceEqDiff, reduceCtorEq, rowsB, cellsG, Nat.reduceMul, rowsR]
  refine goO_val (join_v hv (r5.up _)) ?_
  rintro v6 h6 ⟨x, rfl⟩
  simp -implicitDefEqProofs only [wpC_seq, rowsA, if_true, if_false, opnd, ofVal, ofVal1, layArgs, Nat.reduceAdd, reduceIte, Nat.reduceEqDiff, reduceCtorEq, rowsB, cellsG, Nat.reduceMul, rowsR]
  exact ⟨⟨x, rfl⟩, rfl⟩
end Go.Proofs.YtcbngkmmmfaaoaaGreatDoor
namespace Go.Proofs.YtcbngkmmmfaaoaaGreatDoor
open Go.RowKit Go.Lib Go.Ac
set_option linter.unusedSimpArgs false
set_option maxRecDepth 100000
variable {mx : Int}
section
variable {h : AH} {R : Nat} {s : List UInt8} {a f n : Int}
theorem TS.kp2 {h' h'' : AH} {B : Nat} {l : List UInt8} (t : TS h h' R B s a f n l) (k : Kp h' h'' B) : Kp h h'' R ∧ h''.get R = some (Go.Proofs.YtcbngkmmmfaaoaaGreatDoor.rd s a f n) := by
  have h1 := t.rn
  have h2 := t.bn
  have h3 := t.kp.1
  exact ⟨⟨Nat.le_trans h3 k.1, fun j o hj q m z => k.2 j o (by omega) (t.kp.2 j o hj q m z) (by omega) z⟩, k.2 R _ (by omega) t.rd (by omega) rfl⟩
set_option maxHeartbeats 4000000 in
theorem block_sc (g : h.get R = some (rd s a f n)) (hR : R < h.next) (ha : 0 ≤ a) (hb : a + 3 ≤ s.length) (hl : s.length ≤ 16384) : SC Tryz.prog (globM mx) md (.fn 179) [.ptr R 4 0] h (TextQ R s a f n h) := by
  refine SC.body (rs := [.tmp 2]) Tryz.func179 rfl rfl rfl rfl rfl ?_
  have w1 := IntWalk.i64_in (a + 3) (by omega)
  have hne : ∀ i, (R = h.next + i) = False := fun i => by simp only [eq_iff_iff, iff_false]; omega
  have hne' : ∀ i, (h.next + i = R) = False := fun i => by simp only [eq_iff_iff, iff_false]; omega
  have g' := g
  rw [rd_eq] at g'
  have T0 : ∀ m, TS h (((h.up m).set (h.next + 1) (.cells 185 0 false [.npt, .nls])).set R (rd s (a + 3) f n)) R (h.next + 1) s (a + 3) f n [] ∨ m < 2 := fun m => by
    by_cases hm : m < 2
    · exact .inr hm
    refine .inl ⟨by rw [AH.get_set_same], ⟨by simp only [AH.next_set, AH.next_up]; omega, fun j o hj q z _ => ?_⟩, ?_, hR, by omega⟩
    · simp only [AH.get_set, AH.get_up, z, if_false, show ¬ (j = h.next + 1) by omega]
      exact q
    · exact ⟨.npt, .nls, by simp only [AH.get_set, hne', if_false, if_true], .inl rfl, by simp only [AH.next_set, AH.next_up]; omega, .inl ⟨rfl, rfl⟩⟩
  simp -implicitDefEqProofs only [wpC_seq, rowsA, if_true, if_false, opnd, ofVal, ofVal1, layArgs, Nat.reduceAdd, reduceIte, Nat.reduceEqDiff, reduceCtorEq, rowsB, cellsG, Nat.reduceMul, rowsR, al185, g', hne, w1]
  refine wpC_loop (invText R (h.next + 1) s a f n h) (k := (s.length - (a + 3)).toNat) ⟨a + 3, [], by omega, by omega, ?_, ?_, (T0 10).resolve_right (by omega), by simp; omega⟩ ?_
  · simp only [Fr.at_set, Nat.reduceEqDiff, reduceIte, reduceCtorEq]
  · simp only [Fr.at_set, Nat.reduceEqDiff, reduceIte, reduceCtorEq]; try rfl
  clear T0 w1
  generalize h.next + 1 = B at *
  rintro k F h1 ⟨a1, l, ik, l1, f0, f3, T1, hlen⟩
  have pan : ∀ {h' : AH} {a' : Int} {l : List UInt8} {e : Int}, TS h h' R B s a' f n l → a ≤ a' → a' ≤ s.length → e ≠ 0 → TextQ R s a f n h true (wrongV f e) h' := fun t q1 q2 q3 => ⟨_, t.rd, t.kp, q1, q2, fun q => (by cases q), fun _ => ⟨_, q3, rfl⟩⟩
  simp -implicitDefEqProofs only [wpC_seq, rowsA, if_true, if_false, opnd, ofVal, ofVal1, layArgs, Nat.reduceAdd, reduceIte, Nat.reduceEqDiff, reduceCtorEq, rowsB, cellsG, Nat.reduceMul, rowsR, f0]
  refine goO_val (has_v (a := a1) (f := f) (n := n) (s := s) [92, 34, 34, 34] (by simp only [AH.get_up]; exact T1.rd) (by omega) (by omega)) ?_
  intro v2 h2 hq
  generalize hG : wpO _ _ _ _ _ _ _ _ _ _ _ = G
  obtain ⟨rfl, e2⟩ := hq
  have T2 := T1.eqv (e2.ofUp)
  cases c1 : hasP (s.drop a1.toNat) [92, 34, 34, 34] with
  | true =>
    obtain ⟨_, c2⟩ := hasP_first (by omega) c1
    simp only [List.length_cons, List.length_nil] at c2
    subst hG
    simp -implicitDefEqProofs only [wpC_seq, rowsA, if_true, if_false, opnd, ofVal, ofVal1, layArgs, Nat.reduceAdd, reduceIte, Nat.reduceEqDiff, reduceCtorEq, rowsB, cellsG, Nat.reduceMul, rowsR, c1, f0, f3]
    refine goO_val (write_v [34, 34, 34] (T2.up _).bl (by simp only [List.length_cons, List.length_nil]; omega)) ?_
    intro v6 h6 hq
    generalize hG : wpO _ _ _ _ _ _ _ _ _ _ _ = G
    obtain ⟨b6, k6⟩ := hq
    have T6 := (T2.up _).wr b6 k6
    have g6 := T6.rd
    rw [rd_eq] at g6
    have w6 := IntWalk.i64_in (a1 + 4) (by omega)
    obtain ⟨j, ij⟩ : ∃ j : Nat, (j : Int) + (a1 + 4) = s.length := ⟨(s.length - (a1 + 4)).toNat, by omega⟩
    subst hG
    simp -implicitDefEqProofs only [wpC_seq, rowsA, if_true, if_false, opnd, ofVal, ofVal1, layArgs, Nat.reduceAdd, reduceIte, Nat.reduceEqDiff, reduceCtorEq, rowsB, cellsG, Nat.reduceMul, rowsR, f0, g6, w6]
    refine ⟨j, by omega, a1 + 4, l ++ [34, 34, 34], ij, by omega, ?_, ?_, (T6.up 8).to (Eqv.refl _), ?_⟩
    · simp only [Fr.at_set, Nat.reduceEqDiff, reduceIte, reduceCtorEq, f0]
    · simp only [Fr.at_set, Nat.reduceEqDiff, reduceIte, reduceCtorEq, f3]
    · rw [List.length_append]; simp only [List.length_cons, List.length_nil]; omega
  | false =>
    subst hG
    simp -implicitDefEqProofs only [wpC_seq, rowsA, if_true, if_false, opnd, ofVal, ofVal1, layArgs, Nat.reduceAdd, reduceIte, Nat.reduceEqDiff, reduceCtorEq, rowsB, cellsG, Nat.reduceMul, rowsR, c1, f0, f3]
    refine goO_val (has_v (a := a1) (f := f) (n := n) (s := s) [34, 34, 34] (by simp only [AH.get_up]; exact T2.rd) (by omega) (by omega)) ?_
    intro v3 h3 hq
    generalize hG : wpO _ _ _ _ _ _ _ _ _ _ _ = G
    obtain ⟨rfl, e3⟩ := hq
    have T3 := T2.eqv (e3.ofUp)
    cases c2 : hasP (s.drop a1.toNat) [34, 34, 34] with
    | true =>
      obtain ⟨_, c3⟩ := hasP_first (by omega) c2
      simp only [List.length_cons, List.length_nil] at c3
      have g3 := T3.rd
      rw [rd_eq] at g3
      have w3 := IntWalk.i64_in (a1 + 3) (by omega)
      have T4 : TS h ((h3.up 11).set R (rd s (a1 + 3) f n)) R B s (a1 + 3) f n l := (T3.up 11).to (Eqv.refl _)
      obtain ⟨x, hx⟩ := block_c (mx := mx) l (by omega)
      subst hG
      simp -implicitDefEqProofs only [wpC_seq, rowsA, if_true, if_false, opnd, ofVal, ofVal1, layArgs, Nat.reduceAdd, reduceIte, Nat.reduceEqDiff, reduceCtorEq, rowsB, cellsG, Nat.reduceMul, rowsR, c2, f0, f3, g3, w3]
      rw [rd_eq] at T4
      refine goO_val (string_v T4.bl (by omega)) ?_
      intro v5 h5 hq
      generalize hG : wpO _ _ _ _ _ _ _ _ _ _ _ = G
      obtain ⟨rfl, k4⟩ := hq
      obtain ⟨k5, g5⟩ := T4.kp2 k4
      subst hG
      simp -implicitDefEqProofs only [wpC_seq, rowsA, if_true, if_false, opnd, ofVal, ofVal1, layArgs, Nat.reduceAdd, reduceIte, Nat.reduceEqDiff, reduceCtorEq, rowsB, cellsG, Nat.reduceMul, rowsR, goO_known hx]
      exact ⟨a1 + 3, g5, k5, by omega, by omega, fun _ => ⟨_, rfl⟩, fun q => (by cases q)⟩
    | false =>
      have g3 := T3.rd
      rw [rd_eq] at g3
      subst hG
      simp -implicitDefEqProofs only [wpC_seq, rowsA, if_true, if_false, opnd, ofVal, ofVal1, layArgs, Nat.reduceAdd, reduceIte, Nat.reduceEqDiff, reduceCtorEq, rowsB, cellsG, Nat.reduceMul, rowsR, c2, f0, f3, g3]
      refine goO_val (source_v (a := a1) (f := f) (n := n) (s := s) (by simp only [AH.get_up]; exact T3.rd) hl) ?_
      intro v4 h4 hq
      generalize hG : wpO _ _ _ _ _ _ _ _ _ _ _ = G
      obtain ⟨c, b, rfl, q2⟩ := hq
      rcases q2 with ⟨rfl, e4⟩ | ⟨k2, rfl, k21, _, k22, e4⟩
      · have T4 := T3.eqv (e4.ofUp)
        subst hG
        simp -implicitDefEqProofs only [wpC_seq, rowsA, if_true, if_false, opnd, ofVal, ofVal1, layArgs, Nat.reduceAdd, reduceIte, Nat.reduceEqDiff, reduceCtorEq, rowsB, cellsG, Nat.reduceMul, rowsR, f0, f3]
        refine goO_sc (must_sc (a := a1) _ _ (by simp only [AH.get_up]; exact T4.rd)) ?_ ?_
        · intro v5 h5 hq
          generalize hG : wpO _ _ _ _ _ _ _ _ _ _ _ = G
          have := hq.2.1
          cases this
        · intro v5 h5 hq
          generalize hG : outX _ _ = G
          obtain ⟨e5, _, _, q5⟩ := hq
          obtain rfl := q5 rfl
          have T5 := T4.eqv (e5.ofUp)
          subst hG
          simp -implicitDefEqProofs only [rowsR]
          exact pan T5 (by omega) (by omega) (by decide)
      · have T4 := (T3.up _).to (a' := a1 + k2) (f' := f) (n' := n) (h'' := h4) e4
        have hsb : ∀ h : AH, (if liveB h (.str s) && sizeB Tryz.prog h 9 (.str s) then (sliceV Tryz.prog 9 (.str s) (some (.int .i64 a1)) (some (.int .i64 (a1 + k2))) none).map OR.q else none) = some (.q (.str ((s.drop a1.toNat).take ((a1 + k2).toNat - a1.toNat)))) := fun h => slice_both u9 (by omega) (by omega) (by omega)
        subst hG
        simp -implicitDefEqProofs only [wpC_seq, rowsA, if_true, if_false, opnd, ofVal, ofVal1, layArgs, Nat.reduceAdd, reduceIte, Nat.reduceEqDiff, reduceCtorEq, rowsB, cellsG, Nat.reduceMul, rowsR, f0, f3]
        refine goO_sc (must_sc (a := a1 + k2) _ _ (by simp only [AH.get_up]; exact T4.rd)) ?_ ?_
        · intro v5 h5 hq
          generalize hG : wpO _ _ _ _ _ _ _ _ _ _ _ = G
          obtain ⟨e5, _, _, _⟩ := hq
          have T5 := T4.eqv (e5.ofUp)
          have g5 := T5.rd
          rw [rd_eq] at g5
          obtain ⟨j, ij⟩ : ∃ j : Nat, (j : Int) + (a1 + k2) = s.length := ⟨(s.length - (a1 + k2)).toNat, by omega⟩
          subst hG
          simp -implicitDefEqProofs only [wpC_seq, rowsA, if_true, if_false, opnd, ofVal, ofVal1, layArgs, Nat.reduceAdd, reduceIte, Nat.reduceEqDiff, reduceCtorEq, rowsB, cellsG, Nat.reduceMul, rowsR, f0, f3, g5, hsb]
          refine goD_val (write_v _ (T5.up _).bl ?_) (by kernel_rfl) ?_
          · rw [List.length_take]; omega
          intro v6 h6 hq
          generalize hG : wpD _ _ _ _ _ _ _ _ _ _ _ = G
          obtain ⟨b6, k6⟩ := hq
          have T6 := (T5.up _).wr b6 k6
          subst hG
          simp -implicitDefEqProofs only [wpC_seq, rowsA, if_true, if_false, opnd, ofVal, ofVal1, layArgs, Nat.reduceAdd, reduceIte, Nat.reduceEqDiff, reduceCtorEq, rowsB, cellsG, Nat.reduceMul, rowsR]
          refine ⟨j, by omega, a1 + k2, _, ij, by omega, ?_, ?_, T6, ?_⟩
          · simp only [Fr.at_set, Nat.reduceEqDiff, reduceIte, reduceCtorEq, f0]
          · simp only [Fr.at_set, Nat.reduceEqDiff, reduceIte, reduceCtorEq, f3]
          · rw [List.length_append, List.length_take]; omega
        · intro v5 h5 hq
          generalize hG : outX _ _ = G
          have := hq.2.1
          cases this
end
end Go.Proofs.YtcbngkmmmfaaoaaGreatDoor
namespace Go.Proofs.YtcbngkmmmfaaoaaGreatDoor
open Go.RowKit Go.Lib Go.Ac
set_option linter.unusedSimpArgs false
set_option maxRecDepth 100000
variable {mx : Int}
theorem lt04 : ((0 : Nat) < 4) = True := by simp
theorem z125 : tyZero Tryz.prog 125 = some [.int .i64 0, .str [], .int .i64 0, .int .i64 0] := by kernel_rfl
theorem sz125 : tySz Tryz.prog 125 = some 4 := by kernel_rfl
theorem ag125 : tyAgg Tryz.prog 125 = some true := by kernel_rfl
theorem o125_0 : offOf Tryz.prog 125 0 = some 0 := by kernel_rfl
theorem o125_1 : offOf Tryz.prog 125 1 = some 1 := by kernel_rfl
theorem o125_2 : offOf Tryz.prog 125 2 = some 2 := by kernel_rfl
theorem o125_3 : offOf Tryz.prog 125 3 = some 3 := by kernel_rfl
def tkC (k : Int) (t : List UInt8) (x y : Int) : List PV := [.int .i64 k, .str t, .int .i64 x, .int .i64 y]
def tk (k : Int) (t : List UInt8) (x y : Int) : AO := .cells 125 0 false (tkC k t x y)
theorem tk_eq (k : Int) (t : List UInt8) (x y : Int) : tk k t x y = .cells 125 0 false [.int .i64 k, .str t, .int .i64 x, .int .i64 y] := rfl
theorem al125 {ρ : Operand → PV} {h : AH} {fr : Nat} {d : Option Tmp} {ty : TypeId} {ps : String} {af : Array Edge} {gu : Option (Nat × Bool)} : aop Tryz.prog ρ h fr ⟨d, .alloc 125, ty, ps, af, gu⟩ = some (.w (.ptr fr 4 0) fr (.cells 125 0 false [.int .i64 0, .str [], .int .i64 0, .int .i64 0])) := by
  rw [aop_alloc, z125]
  rfl
theorem ld125 (a b c d : PV) : loadO Tryz.prog 125 (some [a, b, c, d]) = some (.q (.agg [a, b, c, d])) := load_agg ag125 sz125 (Nat.le_refl _)
theorem st125' (a b c d : PV) (id : Nat) (e : Int) (t : List UInt8) (x y : Int) : stoG id 4 0 (.agg [.int .i64 e, .str t, .int .i64 x, .int .i64 y]) 4 (some (.cells 125 0 false [a, b, c, d])) = some (.w .undef id (.cells 125 0 false [.int .i64 e, .str t, .int .i64 x, .int .i64 y])) :=
  stoG_all id 4 0 125 (.agg (tkC e t x y)) _ rfl rfl rfl
theorem stT1 (id : Nat) (a b c d : PV) (x : List UInt8) : stoG id 4 1 (.str x) 1 (some (.cells 125 0 false [a, b, c, d])) = some (.w .undef id (.cells 125 0 false [a, .str x, c, d])) := rfl
theorem stT2 (id : Nat) (a b c d : PV) (x : Int) : stoG id 4 2 (.int .i64 x) 1 (some (.cells 125 0 false [a, b, c, d])) = some (.w .undef id (.cells 125 0 false [a, b, .int .i64 x, d])) := rfl
theorem stT3 (id : Nat) (a b c d : PV) (x : Int) : stoG id 4 3 (.int .i64 x) 1 (some (.cells 125 0 false [a, b, c, d])) = some (.w .undef id (.cells 125 0 false [a, b, c, .int .i64 x])) := rfl
structure TK (h h' : AH) (R B : Nat) (s : List UInt8) (a f n k : Int) (t : List UInt8) (x y : Int) : Prop where
  rd : h'.get R = some (rd s a f n)
  tk : h'.get B = some (tk k t x y)
  kp : Kp h h' R
  rn : R < h.next
  bn : h.next ≤ B
  bs : B < h'.next
section
variable {h h' h'' : AH} {R B : Nat} {s t t' : List UInt8} {a a' f f' n n' k k' x x' y y' : Int}
theorem TK.up (T : TK h h' R B s a f n k t x y) (m : Nat) : TK h (h'.up m) R B s a f n k t x y := ⟨by rw [AH.get_up]; exact T.rd, by rw [AH.get_up]; exact T.tk, T.kp.trans (Kp.ofEqv R ((Eqv.refl h').up m)), T.rn, T.bn, by rw [AH.next_up]; have := T.bs; omega⟩
theorem TK.eqv (T : TK h h' R B s a f n k t x y) (e : Eqv h'' h') : TK h h'' R B s a f n k t x y := ⟨by rw [e.1]; exact T.rd, by rw [e.1]; exact T.tk, T.kp.trans (Kp.ofEqv R e), T.rn, T.bn, by have := T.bs; have := e.2; omega⟩
theorem TK.to (T : TK h h' R B s a f n k t x y) (e : Eqv h'' (h'.set R (Go.Proofs.YtcbngkmmmfaaoaaGreatDoor.rd s a' f' n'))) : TK h h'' R B s a' f' n' k t x y := by
  have h1 := T.rn
  have h2 := T.bn
  exact ⟨by rw [e.1, AH.get_set_same], by rw [e.1, AH.get_set_ne _ _ _ _ (by omega)]; exact T.tk, T.kp.trans (Kp.ofSet e), h1, h2, by have := T.bs; have := e.2; rw [AH.next_set] at this; omega⟩
theorem TK.kq (T : TK h h' R B s a f n k t x y) (g : h''.get R = some (Go.Proofs.YtcbngkmmmfaaoaaGreatDoor.rd s a' f' n')) (q : Kp h' h'' R) : TK h h'' R B s a' f' n' k t x y := by
  have h1 := T.rn
  have h2 := T.bn
  exact ⟨g, q.2 B _ T.bs T.tk (by omega) rfl, T.kp.trans q, h1, h2, Nat.lt_of_lt_of_le T.bs q.1⟩
theorem TK.st (T : TK h h' R B s a f n k t x y) : TK h (h'.set B (Go.Proofs.YtcbngkmmmfaaoaaGreatDoor.tk k' t' x' y')) R B s a f n k' t' x' y' := by
  have h1 := T.rn
  have h2 := T.bn
  exact ⟨by rw [AH.get_set_ne _ _ _ _ (by omega)]; exact T.rd, by rw [AH.get_set_same], ⟨by rw [AH.next_set]; exact T.kp.1, fun j o hj q m z => by rw [AH.get_set_ne _ _ _ _ (by omega)]; exact T.kp.2 j o hj q m z⟩, h1, h2, by rw [AH.next_set]; exact T.bs⟩
def TokQ (R : Nat) (s : List UInt8) (a f n : Int) (h : AH) (b : Bool) (v : PV) (h' : AH) : Prop :=
  ∃ a' n', h'.get R = some (rd s a' f n') ∧ Kp h h' R ∧ a ≤ a' ∧ a' ≤ s.length ∧ (b = false → n < 2048 ∧ n' = n + 1 ∧ ∃ k t, v = .agg [.int .i64 k, .str t, .int .i64 a, .int .i64 a'] ∧ TokP s k a a') ∧ (b = true → (isLet (byteAt s a) → ¬ n < 2048) ∧ ∃ e, e ≠ 0 ∧ v = wrongV f e)
def TokZ (R B : Nat) (s : List UInt8) (a f n : Int) (h : AH) (F : Fr) (h' : AH) : Prop := F.at 0 = .ptr R 4 0 ∧ F.at 2 = .ptr B 4 0 ∧ n < 2048 ∧ TK h h' R B s a f n 0 [] 0 0
def TokY (R B : Nat) (s : List UInt8) (a f n : Int) (h : AH) (F : Fr) (h' : AH) : Prop := F.at 0 = .ptr R 4 0 ∧ F.at 2 = .ptr B 4 0 ∧ n < 2048 ∧ TK h h' R B s a f (n + 1) 0 [] 0 0
def TokA (R B : Nat) (s : List UInt8) (a f n : Int) (h : AH) (F : Fr) (h' : AH) : Prop := F.at 0 = .ptr R 4 0 ∧ F.at 2 = .ptr B 4 0 ∧ n < 2048 ∧ TK h h' R B s a f (n + 1) 0 [] a 0
def TokB (R B : Nat) (s : List UInt8) (a f n : Int) (h : AH) (F : Fr) (h' : AH) : Prop := F.at 0 = .ptr R 4 0 ∧ F.at 2 = .ptr B 4 0 ∧ ∃ a' k t, a ≤ a' ∧ a' ≤ s.length ∧ TK h h' R B s a' f (n + 1) k t a 0 ∧ TokP s k a a'
def TokC (R B : Nat) (s : List UInt8) (a f n : Int) (h : AH) (F : Fr) (h' : AH) : Prop := F.at 0 = .ptr R 4 0 ∧ F.at 2 = .ptr B 4 0 ∧ ∃ a' k t, a ≤ a' ∧ a' ≤ s.length ∧ TK h h' R B s a' f (n + 1) k t a a' ∧ TokP s k a a'
set_option maxHeartbeats 1000000 in
theorem token_sc (g : h.get R = some (rd s a f n)) (hR : R < h.next) (ha : 0 ≤ a) (hb : a < s.length) (hl : s.length ≤ 16384) (hn : 0 ≤ n) : SC Tryz.prog (globM mx) md (.fn 167) [.ptr R 4 0] h (TokQ R s a f n h) := by
  refine SC.body (rs := [.cell 2 125]) Tryz.func167 rfl rfl rfl rfl rfl ?_
  have pan : ∀ {h' : AH} {B : Nat} {a' n' k x y e : Int} {t : List UInt8}, TK h h' R B s a' f n' k t x y → a ≤ a' → a' ≤ s.length → (isLet (byteAt s a) → ¬ n < 2048) → e ≠ 0 → TokQ R s a f n h true (wrongV f e) h' := fun T q1 q2 ql q3 => ⟨_, _, T.rd, T.kp, q1, q2, fun q => (by cases q), fun _ => ⟨ql, _, q3, rfl⟩⟩
  have hne : ∀ i, (R = h.next + i) = False := fun i => by simp only [eq_iff_iff, iff_false]; omega
  have hne' : ∀ i, (h.next + i = R) = False := fun i => by simp only [eq_iff_iff, iff_false]; omega
  have hne0 : (h.next = R) = False := by simp only [eq_iff_iff, iff_false]; omega
  have hne1 : (R = h.next) = False := by simp only [eq_iff_iff, iff_false]; omega
  have g' := g
  rw [rd_eq] at g'
  have T0 : ∀ m, 1 ≤ m → TK h ((h.up m).set h.next (tk 0 [] 0 0)) R h.next s a f n 0 [] 0 0 := fun m hm => by
    refine ⟨by rw [AH.get_set_ne _ _ _ _ (by omega), AH.get_up]; exact g, by rw [AH.get_set_same], ⟨by rw [AH.next_set, AH.next_up]; omega, fun j o hj q m z => by rw [AH.get_set_ne _ _ _ _ (by omega), AH.get_up]; exact q⟩, hR, Nat.le_refl _, by rw [AH.next_set, AH.next_up]; omega⟩
  rw [wpC_seq]; simp -implicitDefEqProofs only [rowsA, if_true, if_false, opnd, ofVal, ofVal1, layArgs, Nat.reduceAdd, reduceIte, Nat.reduceEqDiff, reduceCtorEq, rowsB, cellsG, Nat.reduceMul, up_up, al125]
  refine wpC_then (TokZ R h.next s a f n h) ?_ ?_
  · simp -implicitDefEqProofs only [rowsA, if_true, if_false, opnd, ofVal, ofVal1, layArgs, Nat.reduceAdd, reduceIte, Nat.reduceEqDiff, reduceCtorEq, rowsB, cellsG, Nat.reduceMul, rowsR, g', hne0, hne1]
    refine goO_sc (must_sc (a := a) (f := f) (n := n) (s := s) _ _ (T0 8 (by decide)).rd) ?_ ?_
    · intro v2 h2 hq
      generalize hG : wpO _ _ _ _ _ _ _ _ _ _ _ = G
      obtain ⟨e2, hb2, _, _⟩ := hq
      have c1 : n < 2048 := by
        apply Decidable.byContradiction
        intro q
        rw [decide_eq_false q] at hb2
        cases hb2
      have T2 := (T0 8 (by decide)).eqv e2
      subst hG
      simp -implicitDefEqProofs only [rowsA, if_true, if_false, opnd, ofVal, ofVal1, layArgs, Nat.reduceAdd, reduceIte, Nat.reduceEqDiff, reduceCtorEq, rowsB, cellsG, Nat.reduceMul, rowsR]
      exact ⟨by simp only [Fr.at_set, layArgs, Nat.reduceEqDiff, reduceIte, reduceCtorEq], by simp only [Fr.at_set, Nat.reduceEqDiff, reduceIte, reduceCtorEq], c1, T2⟩
    · intro v2 h2 hq
      generalize hG : outX _ _ = G
      obtain ⟨e2, hb2, _, q2⟩ := hq
      obtain rfl := q2 rfl
      have T2 := (T0 8 (by decide)).eqv e2
      have c1 : ¬ n < 2048 := fun q => by
        rw [decide_eq_true q] at hb2
        cases hb2
      subst hG
      simp -implicitDefEqProofs only [rowsR]
      exact pan T2 (by omega) (by omega) (fun _ => c1) (by decide)
  clear T0 hne hne' hne0 hne1 g' hR
  generalize h.next = B
  rintro F h2 ⟨f0, f2, hn2, T2⟩
  have hRB : (R = B) = False := by simp only [eq_iff_iff, iff_false]; have := T2.rn; have := T2.bn; omega
  have hBR : (B = R) = False := by simp only [eq_iff_iff, iff_false]; have := T2.rn; have := T2.bn; omega
  refine wpC_then (TokY R B s a f n h) ?_ ?_
  · have g2 := T2.rd
    rw [rd_eq] at g2
    have w := IntWalk.i64_in (n + 1) (by omega)
    simp -implicitDefEqProofs only [rowsA, if_true, if_false, opnd, ofVal, ofVal1, layArgs, Nat.reduceAdd, reduceIte, Nat.reduceEqDiff, reduceCtorEq, rowsB, cellsG, Nat.reduceMul, rowsR, f0, f2, g2, w]
    exact ⟨by simp only [Fr.at_set, Nat.reduceEqDiff, reduceIte, reduceCtorEq, f0], by simp only [Fr.at_set, Nat.reduceEqDiff, reduceIte, reduceCtorEq, f2], hn2, (T2.up 8).to (Eqv.refl _)⟩
  rintro F h3 ⟨f0, f2, _, T3⟩
  refine wpC_then (TokA R B s a f n h) ?_ ?_
  · have g3 := T3.rd
    have b3 := T3.tk
    rw [rd_eq] at g3
    rw [tk_eq] at b3
    simp -implicitDefEqProofs only [rowsA, if_true, if_false, opnd, ofVal, ofVal1, layArgs, Nat.reduceAdd, reduceIte, Nat.reduceEqDiff, reduceCtorEq, rowsB, cellsG, Nat.reduceMul, rowsR, fda_ptr o125_2, stT2, f0, f2, g3, b3, hRB, hBR]
    exact ⟨by simp only [Fr.at_set, Nat.reduceEqDiff, reduceIte, reduceCtorEq, f0], by simp only [Fr.at_set, Nat.reduceEqDiff, reduceIte, reduceCtorEq, f2], hn2, (T3.up 6).st⟩
  rintro F h3 ⟨f0, f2, _, T3⟩
  have g3 := T3.rd
  have b3 := T3.tk
  rw [rd_eq] at g3
  rw [tk_eq] at b3
  refine wpC_then (TokB R B s a f n h) ?_ ?_
  · rw [wpC_seq]
    simp -implicitDefEqProofs only [wpC_seq, rowsA, if_true, if_false, opnd, ofVal, ofVal1, layArgs, Nat.reduceAdd, reduceIte, Nat.reduceEqDiff, reduceCtorEq, rowsB, cellsG, Nat.reduceMul, rowsR, f0, g3, ixs ha hb]
    refine goO_val (has_v (a := a) (f := f) (n := n + 1) (s := s) [46, 46, 46] (by simp only [AH.get_up]; exact T3.rd) (by omega) (by omega)) ?_
    intro v4 h4 hq
    generalize hG : wpO _ _ _ _ _ _ _ _ _ _ _ = G
    obtain ⟨rfl, e4⟩ := hq
    have T4 := T3.eqv e4.ofUp
    clear T3 g3 b3 e4
    have g4 := T4.rd
    have b4 := T4.tk
    rw [rd_eq] at g4
    rw [tk_eq] at b4
    have fin : ∀ {F : Fr} {h' : AH} {a' k : Int} {t : List UInt8}, F.at 0 = .ptr R 4 0 → F.at 2 = .ptr B 4 0 → a ≤ a' → a' ≤ s.length → TK h h' R B s a' f (n + 1) k t a 0 → TokP s k a a' → TokB R B s a f n h F h' := fun q1 q2 q3 q4 q5 q6 => ⟨q1, q2, _, _, _, q3, q4, q5, q6⟩
    have noP : ∀ {k a' : Int}, ¬ isLet (byteAt s a) → k ≠ 1 → TokP s k a a' := fun h1 h2 => ⟨fun q => absurd q h1, fun q => absurd q h2⟩
    cases c1 : hasP (s.drop a.toNat) [46, 46, 46] with
    | true =>
      obtain ⟨cb, c2⟩ := hasP_first (by omega) c1
      have hnl : ¬ isLet (byteAt s a) := fun q => (isLet_not2 q).2 cb
      simp only [List.length_cons, List.length_nil] at c2
      have w := IntWalk.i64_in (a + 3) (by omega)
      subst hG
      simp -implicitDefEqProofs only [wpC_seq, rowsA, if_true, if_false, opnd, ofVal, ofVal1, layArgs, Nat.reduceAdd, reduceIte, Nat.reduceEqDiff, reduceCtorEq, rowsB, cellsG, Nat.reduceMul, rowsR, c1, f0, f2, g4, w]
      exact fin (by simp only [Fr.at_set, Nat.reduceEqDiff, reduceIte, reduceCtorEq, f0]) (by simp only [Fr.at_set, Nat.reduceEqDiff, reduceIte, reduceCtorEq, f2]) (by omega) (by omega) ((T4.up 8).to (Eqv.refl _)) (noP hnl (by decide))
    | false =>
    subst hG
    simp -implicitDefEqProofs only [wpC_seq, rowsA, if_true, if_false, opnd, ofVal, ofVal1, layArgs, Nat.reduceAdd, reduceIte, Nat.reduceEqDiff, reduceCtorEq, rowsB, cellsG, Nat.reduceMul, rowsR, c1, f0, f2, goO_known (idxB_c _ s a), inB_eq]
    cases c2 : inB (byteAt s a) [33, 36, 38, 40, 41, 58, 61, 64, 91, 93, 123, 124, 125] with
    | true =>
      have w := IntWalk.i64_in (a + 1) (by omega)
      have hnl : ¬ isLet (byteAt s a) := fun q => by
        rw [(isLet_not2 q).1] at c2
        cases c2
      simp -implicitDefEqProofs only [wpC_seq, rowsA, if_true, if_false, opnd, ofVal, ofVal1, layArgs, Nat.reduceAdd, reduceIte, Nat.reduceEqDiff, reduceCtorEq, rowsB, cellsG, Nat.reduceMul, rowsR, f0, f2, g4, w]
      exact fin (by simp only [Fr.at_set, Nat.reduceEqDiff, reduceIte, reduceCtorEq, f0]) (by simp only [Fr.at_set, Nat.reduceEqDiff, reduceIte, reduceCtorEq, f2]) (by omega) (by omega) ((T4.up _).to (Eqv.refl _)) (noP hnl (by decide))
    | false =>
    simp -implicitDefEqProofs only [wpC_seq, rowsA, if_true, if_false, opnd, ofVal, ofVal1, layArgs, Nat.reduceAdd, reduceIte, Nat.reduceEqDiff, reduceCtorEq, rowsB, cellsG, Nat.reduceMul, rowsR, f0, f2, goO_known (idxB_c _ s a), inB_eq]
    cases c3 : inB (byteAt s a) [95, 97, 98, 99, 100, 101, 102, 103, 104, 105, 106, 107, 108, 109, 110, 111, 112, 113, 114, 115, 116, 117, 118, 119, 120, 121, 122, 65, 66, 67, 68, 69, 70, 71, 72, 73, 74, 75, 76, 77, 78, 79, 80, 81, 82, 83, 84, 85, 86, 87, 88, 89, 90] with
    | true =>
      have T5 : ∀ m, TK h ((h4.up m).set B (.cells 125 0 false [.int .i64 1, .str [], .int .i64 a, .int .i64 0])) R B s a f (n + 1) 1 [] a 0 := fun m => (T4.up m).st
      simp -implicitDefEqProofs only [wpC_seq, rowsA, if_true, if_false, opnd, ofVal, ofVal1, layArgs, Nat.reduceAdd, reduceIte, Nat.reduceEqDiff, reduceCtorEq, rowsB, cellsG, Nat.reduceMul, rowsR, f0, f2, fda_ptr o125_0, b4, lt04]
      refine goO_val (run_v (a := a) (f := f) (n := n + 1) (s := s) _ (by exact (T5 _).rd) ha (by omega) hl) ?_
      intro v6 h6 hq
      generalize hG : wpO _ _ _ _ _ _ _ _ _ _ _ = G
      obtain ⟨k6, hk6, rfl, e6, m6⟩ := hq
      have T6 := (T5 _).to e6
      subst hG
      simp -implicitDefEqProofs only [wpC_seq, rowsA, if_true, if_false, opnd, ofVal, ofVal1, layArgs, Nat.reduceAdd, reduceIte, Nat.reduceEqDiff, reduceCtorEq, rowsB, cellsG, Nat.reduceMul, rowsR]
      exact fin (by simp only [Fr.at_set, Nat.reduceEqDiff, reduceIte, reduceCtorEq, f0]) (by simp only [Fr.at_set, Nat.reduceEqDiff, reduceIte, reduceCtorEq, f2]) (by omega) (by omega) T6 ⟨fun _ => ⟨rfl, by rw [hk6]; rfl⟩, fun _ => c3⟩
    | false =>
    have hnl : ¬ isLet (byteAt s a) := fun q => by
      have e : inB (byteAt s a) lettersL = false := c3
      rw [isLet, e] at q
      cases q
    by_cases c4 : byteAt s a = 45
    · simp -implicitDefEqProofs only [wpC_seq, rowsA, if_true, if_false, opnd, ofVal, ofVal1, layArgs, Nat.reduceAdd, reduceIte, Nat.reduceEqDiff, reduceCtorEq, rowsB, cellsG, Nat.reduceMul, rowsR, f0, f2, decide_eq_true c4]
      refine goO_sc (number_sc (a := a) (f := f) (n := n + 1) (s := s) (by simp only [AH.get_up]; exact T4.rd) ha (by omega) hl) ?_ ?_
      · intro v6 h6 hq
        generalize hG : wpO _ _ _ _ _ _ _ _ _ _ _ = G
        obtain ⟨a6, e6, l6, m6, q6, _⟩ := hq
        have T6 := (T4.up _).to e6
        have b6 := T6.tk
        rw [tk_eq] at b6
        obtain ⟨kd, rfl, hkd⟩ : ∃ kd, v6 = .int .i64 kd ∧ kd ≠ 1 := by
          rcases q6 rfl with rfl | rfl
          · exact ⟨_, rfl, by decide⟩
          · exact ⟨_, rfl, by decide⟩
        subst hG
        simp -implicitDefEqProofs only [wpC_seq, rowsA, if_true, if_false, opnd, ofVal, ofVal1, layArgs, Nat.reduceAdd, reduceIte, Nat.reduceEqDiff, reduceCtorEq, rowsB, cellsG, Nat.reduceMul, rowsR, f0, f2, fda_ptr o125_0, b6, lt04]
        exact fin (by simp only [Fr.at_set, Nat.reduceEqDiff, reduceIte, reduceCtorEq, f0]) (by simp only [Fr.at_set, Nat.reduceEqDiff, reduceIte, reduceCtorEq, f2]) l6 m6 T6.st (noP hnl hkd)
      · intro v6 h6 hq
        generalize hG : outX _ _ = G
        obtain ⟨a6, e6, l6, m6, _, q6⟩ := hq
        obtain ⟨e, e0, rfl⟩ := q6 rfl
        have T6 := (T4.up _).to e6
        subst hG
        simp -implicitDefEqProofs only [rowsR]
        exact pan T6 l6 m6 (fun q => absurd q hnl) e0
    cases c5 : inB (byteAt s a) [48, 49, 50, 51, 52, 53, 54, 55, 56, 57] with
    | true =>
      simp -implicitDefEqProofs only [wpC_seq, rowsA, if_true, if_false, opnd, ofVal, ofVal1, layArgs, Nat.reduceAdd, reduceIte, Nat.reduceEqDiff, reduceCtorEq, rowsB, cellsG, Nat.reduceMul, rowsR, f0, f2, c4, goO_known (idxB_c _ s a), inB_eq, c5]
      refine goO_sc (number_sc (a := a) (f := f) (n := n + 1) (s := s) (by simp only [AH.get_up]; exact T4.rd) ha (by omega) hl) ?_ ?_
      · intro v6 h6 hq
        generalize hG : wpO _ _ _ _ _ _ _ _ _ _ _ = G
        obtain ⟨a6, e6, l6, m6, q6, _⟩ := hq
        have T6 := (T4.up _).to e6
        have b6 := T6.tk
        rw [tk_eq] at b6
        obtain ⟨kd, rfl, hkd⟩ : ∃ kd, v6 = .int .i64 kd ∧ kd ≠ 1 := by
          rcases q6 rfl with rfl | rfl
          · exact ⟨_, rfl, by decide⟩
          · exact ⟨_, rfl, by decide⟩
        subst hG
        simp -implicitDefEqProofs only [wpC_seq, rowsA, if_true, if_false, opnd, ofVal, ofVal1, layArgs, Nat.reduceAdd, reduceIte, Nat.reduceEqDiff, reduceCtorEq, rowsB, cellsG, Nat.reduceMul, rowsR, f0, f2, fda_ptr o125_0, b6, lt04]
        exact fin (by simp only [Fr.at_set, Nat.reduceEqDiff, reduceIte, reduceCtorEq, f0]) (by simp only [Fr.at_set, Nat.reduceEqDiff, reduceIte, reduceCtorEq, f2]) l6 m6 T6.st (noP hnl hkd)
      · intro v6 h6 hq
        generalize hG : outX _ _ = G
        obtain ⟨a6, e6, l6, m6, _, q6⟩ := hq
        obtain ⟨e, e0, rfl⟩ := q6 rfl
        have T6 := (T4.up _).to e6
        subst hG
        simp -implicitDefEqProofs only [rowsR]
        exact pan T6 l6 m6 (fun q => absurd q hnl) e0
    | false =>
    simp -implicitDefEqProofs only [wpC_seq, rowsA, if_true, if_false, opnd, ofVal, ofVal1, layArgs, Nat.reduceAdd, reduceIte, Nat.reduceEqDiff, reduceCtorEq, rowsB, cellsG, Nat.reduceMul, rowsR, f0, f2, c4, goO_known (idxB_c _ s a), inB_eq, c5]
    refine goO_val (has_v (a := a) (f := f) (n := n + 1) (s := s) [34, 34, 34] (by simp only [AH.get_up]; exact T4.rd) (by omega) (by omega)) ?_
    intro v6 h6 hq
    generalize hG : wpO _ _ _ _ _ _ _ _ _ _ _ = G
    obtain ⟨rfl, e6⟩ := hq
    have T6 := (T4.up _).eqv e6
    cases c6 : hasP (s.drop a.toNat) [34, 34, 34] with
    | true =>
      obtain ⟨_, c7⟩ := hasP_first (by omega) c6
      simp only [List.length_cons, List.length_nil] at c7
      subst hG
      simp -implicitDefEqProofs only [wpC_seq, rowsA, if_true, if_false, opnd, ofVal, ofVal1, layArgs, Nat.reduceAdd, reduceIte, Nat.reduceEqDiff, reduceCtorEq, rowsB, cellsG, Nat.reduceMul, rowsR, c6, f0, f2]
      refine goO_sc (block_sc (a := a) (f := f) (n := n + 1) (s := s) (by simp only [AH.get_up]; exact T6.rd) (by simp only [AH.next_up]; have := T6.rn; have := T6.bn; have := T6.bs; omega) ha (by omega) hl) ?_ ?_
      · intro v7 h7 hq
        generalize hG : wpO _ _ _ _ _ _ _ _ _ _ _ = G
        obtain ⟨a7, g7, k7, l7, m7, q7, _⟩ := hq
        obtain ⟨x, rfl⟩ := q7 rfl
        have T7 := (T6.up _).kq g7 k7
        have b7 := T7.tk
        rw [tk_eq] at b7
        subst hG
        simp -implicitDefEqProofs only [wpC_seq, rowsA, if_true, if_false, opnd, ofVal, ofVal1, layArgs, Nat.reduceAdd, reduceIte, Nat.reduceEqDiff, reduceCtorEq, rowsB, cellsG, Nat.reduceMul, rowsR, f0, f2, fda_ptr o125_0, fda_ptr o125_1, b7, lt04, sz9, stT1]
        exact fin (by simp only [Fr.at_set, Nat.reduceEqDiff, reduceIte, reduceCtorEq, f0]) (by simp only [Fr.at_set, Nat.reduceEqDiff, reduceIte, reduceCtorEq, f2]) l7 m7 (T7.st.st) (noP hnl (by decide))
      · intro v7 h7 hq
        generalize hG : outX _ _ = G
        obtain ⟨a7, g7, k7, l7, m7, _, q7⟩ := hq
        obtain ⟨e, e0, rfl⟩ := q7 rfl
        have T7 := (T6.up _).kq g7 k7
        subst hG
        simp -implicitDefEqProofs only [rowsR]
        exact pan T7 l7 m7 (fun q => absurd q hnl) e0
    | false =>
    by_cases c7 : byteAt s a = 34
    · subst hG
      simp -implicitDefEqProofs only [wpC_seq, rowsA, if_true, if_false, opnd, ofVal, ofVal1, layArgs, Nat.reduceAdd, reduceIte, Nat.reduceEqDiff, reduceCtorEq, rowsB, cellsG, Nat.reduceMul, rowsR, c6, f0, f2, decide_eq_true c7]
      refine goO_sc (text_sc (a := a) (f := f) (n := n + 1) (s := s) (by simp only [AH.get_up]; exact T6.rd) (by simp only [AH.next_up]; have := T6.rn; have := T6.bn; have := T6.bs; omega) ha (by omega) hl) ?_ ?_
      · intro v7 h7 hq
        generalize hG : wpO _ _ _ _ _ _ _ _ _ _ _ = G
        obtain ⟨a7, g7, k7, l7, m7, q7, _⟩ := hq
        obtain ⟨x, rfl⟩ := q7 rfl
        have T7 := (T6.up _).kq g7 k7
        have b7 := T7.tk
        rw [tk_eq] at b7
        subst hG
        simp -implicitDefEqProofs only [wpC_seq, rowsA, if_true, if_false, opnd, ofVal, ofVal1, layArgs, Nat.reduceAdd, reduceIte, Nat.reduceEqDiff, reduceCtorEq, rowsB, cellsG, Nat.reduceMul, rowsR, f0, f2, fda_ptr o125_0, fda_ptr o125_1, b7, lt04, sz9, stT1]
        exact fin (by simp only [Fr.at_set, Nat.reduceEqDiff, reduceIte, reduceCtorEq, f0]) (by simp only [Fr.at_set, Nat.reduceEqDiff, reduceIte, reduceCtorEq, f2]) l7 m7 (T7.st.st) (noP hnl (by decide))
      · intro v7 h7 hq
        generalize hG : outX _ _ = G
        obtain ⟨a7, g7, k7, l7, m7, _, q7⟩ := hq
        obtain ⟨e, e0, rfl⟩ := q7 rfl
        have T7 := (T6.up _).kq g7 k7
        subst hG
        simp -implicitDefEqProofs only [rowsR]
        exact pan T7 l7 m7 (fun q => absurd q hnl) e0
    · subst hG
      simp -implicitDefEqProofs only [wpC_seq, rowsA, if_true, if_false, opnd, ofVal, ofVal1, layArgs, Nat.reduceAdd, reduceIte, Nat.reduceEqDiff, reduceCtorEq, rowsB, cellsG, Nat.reduceMul, rowsR, c6, f0, f2, c7]
      refine goO_sc (must_sc (a := a) (f := f) (n := n + 1) (s := s) _ _ (by simp only [AH.get_up]; exact T6.rd)) ?_ ?_
      · intro v7 h7 hq
        generalize hG : wpO _ _ _ _ _ _ _ _ _ _ _ = G
        have := hq.2.1
        cases this
      · intro v7 h7 hq
        generalize hG : outX _ _ = G
        obtain ⟨e7, _, _, q7⟩ := hq
        obtain rfl := q7 rfl
        have T7 := (T6.up _).eqv e7
        subst hG
        simp -implicitDefEqProofs only [rowsR]
        exact pan T7 (by omega) (by omega) (fun q => absurd q hnl) (by decide)
  clear T3 g3 b3
  rintro F h4 ⟨f0, f2, a', k, t, l4, m4, T4, tp⟩
  have g4 := T4.rd
  have b4 := T4.tk
  rw [rd_eq] at g4
  rw [tk_eq] at b4
  refine wpC_then (TokC R B s a f n h) ?_ ?_
  · simp -implicitDefEqProofs only [rowsA, if_true, if_false, opnd, ofVal, ofVal1, layArgs, Nat.reduceAdd, reduceIte, Nat.reduceEqDiff, reduceCtorEq, rowsB, cellsG, Nat.reduceMul, rowsR, fda_ptr o125_3, stT3, f0, f2, g4, b4, hRB, hBR]
    exact ⟨by simp only [Fr.at_set, Nat.reduceEqDiff, reduceIte, reduceCtorEq, f0], by simp only [Fr.at_set, Nat.reduceEqDiff, reduceIte, reduceCtorEq, f2], a', k, t, l4, m4, (T4.up 6).st, tp⟩
  clear T4 g4 b4 tp t k l4 m4 a'
  rintro F h4 ⟨f0, f2, a', k, t, l4, m4, T4, tp⟩
  have g4 := T4.rd
  have b4 := T4.tk
  rw [rd_eq] at g4
  rw [tk_eq] at b4
  have hbs := T4.bs
  refine wpC_then (TokC R B s a f n h) ?_ ?_
  · by_cases c1 : k = 4
    · simp -implicitDefEqProofs only [wpC_seq, rowsA, if_true, if_false, opnd, ofVal, ofVal1, layArgs, Nat.reduceAdd, reduceIte, Nat.reduceEqDiff, reduceCtorEq, rowsB, cellsG, Nat.reduceMul, rowsR, fda_ptr o125_0, f0, f2, b4, decide_eq_true c1]
      exact ⟨by simp only [Fr.at_set, Nat.reduceEqDiff, reduceIte, reduceCtorEq, f0], by simp only [Fr.at_set, Nat.reduceEqDiff, reduceIte, reduceCtorEq, f2], a', k, t, l4, m4, T4.up _, tp⟩
    · have hsb : ∀ h : AH, (if liveB h (.str s) && sizeB Tryz.prog h 9 (.str s) then (sliceV Tryz.prog 9 (.str s) (some (.int .i64 a)) (some (.int .i64 a')) none).map OR.q else none) = some (.q (.str ((s.drop a.toNat).take (a'.toNat - a.toNat)))) := fun h => slice_both u9 ha l4 m4
      simp -implicitDefEqProofs only [wpC_seq, rowsA, if_true, if_false, opnd, ofVal, ofVal1, layArgs, Nat.reduceAdd, reduceIte, Nat.reduceEqDiff, reduceCtorEq, rowsB, cellsG, Nat.reduceMul, rowsR, fda_ptr o125_0, fda_ptr o125_1, fda_ptr o125_2, fda_ptr o125_3, f0, f2, b4, g4, c1, hsb, sz9, stT1]
      rw [goD_st (by omega) (by kernel_rfl)]
      simp -implicitDefEqProofs only [wpC_seq, rowsA, if_true, if_false, opnd, ofVal, ofVal1, layArgs, Nat.reduceAdd, reduceIte, Nat.reduceEqDiff, reduceCtorEq, rowsB, cellsG, Nat.reduceMul, rowsR]
      exact ⟨by simp only [Fr.at_set, Nat.reduceEqDiff, reduceIte, reduceCtorEq, f0], by simp only [Fr.at_set, Nat.reduceEqDiff, reduceIte, reduceCtorEq, f2], a', k, _, l4, m4, (T4.up _).st, tp⟩
  clear T4 g4 b4 tp t k l4 m4 a' hbs
  rintro F h4 ⟨f0, f2, a', k, t, l4, m4, T4, tp⟩
  have b4 := T4.tk
  rw [tk_eq] at b4
  simp -implicitDefEqProofs only [wpC_seq, rowsA, if_true, if_false, opnd, ofVal, ofVal1, layArgs, Nat.reduceAdd, reduceIte, Nat.reduceEqDiff, reduceCtorEq, rowsB, cellsG, Nat.reduceMul, rowsR, f0, f2, b4, ld125, sz125, st125']
  exact ⟨a', n + 1, ((T4.up 2).st (k' := k) (t' := t) (x' := a) (y' := a')).rd, ((T4.up 2).st (k' := k) (t' := t) (x' := a) (y' := a')).kp, l4, m4, fun _ => ⟨hn2, rfl, k, t, rfl, tp⟩, fun q => (by cases q)⟩
end
end Go.Proofs.YtcbngkmmmfaaoaaGreatDoor
namespace Go.Proofs.YtcbngkmmmfaaoaaGreatDoor
open Go.RowKit Go.Lib Go.Ac
set_option linter.unusedSimpArgs false
set_option linter.unusedVariables false
set_option maxRecDepth 100000
variable {mx : Int}

theorem ag150 : tyAgg Tryz.prog 150 = some false := by kernel_rfl
theorem sz150 : tySz Tryz.prog 150 = some 1 := by kernel_rfl
theorem u121 : Tryz.prog.underlying 121 = some (.slice 125) := by kernel_rfl
theorem i125 : (Tryz.prog.info? 125).map (fun i => (i.size, i.bytes, i.zero.map (·.cells.size))) = some (4, 40, some 4) := by kernel_rfl
structure Tkn where
  k : Int
  t : List UInt8
  x : Int
  y : Int
def Tkn.pv (o : Tkn) : List PV := [.int .i64 o.k, .str o.t, .int .i64 o.x, .int .i64 o.y]
theorem flat_snoc {α : Type} (f : α → List PV) (x : α) : ∀ l : List α, flat f (l ++ [x]) = flat f l ++ f x
  | [] => by simp [flat]
  | y :: l => by rw [List.cons_append, flat, flat, flat_snoc f x l, List.append_assoc]
theorem tk_len (l : List Tkn) : (flat Tkn.pv l).length = l.length * 4 := flat_len (f := Tkn.pv) (z := 4) (fun _ => rfl) l
theorem ap121n (h : AH) (fr id : Nat) (c : List PV) (fz : Bool) (hg : h.get id = some (.cells 125 4 fz c)) (hc : c.length = 4) : appO Tryz.prog h fr [.nls, .ow id 4 0 1] [121, 121] = some (.w (.ow fr 4 0 1) fr (.cells 125 4 false c)) := by
  cases hi : Tryz.prog.info? 125 with
  | none => have := i125; rw [hi] at this; simp at this
  | some i =>
    have e := i125
    rw [hi] at e
    simp only [Option.map_some, Option.some.injEq, Prod.mk.injEq] at e
    obtain ⟨e1, e2, e3⟩ := e
    obtain ⟨z, hz, hzs⟩ := Option.map_eq_some_iff.1 e3
    have hx : Ac.cellsOf h 4 (.ow id 4 0 1) = some (c, 1) := by
      simp only [Ac.cellsOf, hg]
      rw [if_pos ⟨hc, trivial, by omega⟩, List.drop_zero, List.take_of_length_le (by omega)]
    simp only [appO, u121, appendV, hi, hz, e1, hzs, e2, hx]
    rfl
theorem ap121 (h : AH) (fr id L m : Nat) (c d : List PV) (fz : Bool) (hL : h.get L = some (.cells 125 4 false d)) (hd : d.length = m * 4) (hg : h.get id = some (.cells 125 4 fz c)) (hc : c.length = 4) (hm : m ≤ 2048) :
    appO Tryz.prog h fr [.ow L (m * 4) 0 m, .ow id 4 0 1] [121, 121] = some (.w (.ow L ((m + 1) * 4) 0 (m + 1)) L (.cells 125 4 false (d ++ c))) := by
  cases hi : Tryz.prog.info? 125 with
  | none => have := i125; rw [hi] at this; simp at this
  | some i =>
    have e := i125
    rw [hi] at e
    simp only [Option.map_some, Option.some.injEq, Prod.mk.injEq] at e
    obtain ⟨e1, e2, e3⟩ := e
    obtain ⟨z, hz, hzs⟩ := Option.map_eq_some_iff.1 e3
    have hx : Ac.cellsOf h 4 (.ow id 4 0 1) = some (c, 1) := by
      simp only [Ac.cellsOf, hg]
      rw [if_pos ⟨hc, trivial, by omega⟩, List.drop_zero, List.take_of_length_le (by omega)]
    simp only [appO, u121, appendV, hi, hz, e1, hzs, e2, hx, hL]
    rw [if_neg (by decide), if_neg (by omega), if_neg (by decide), if_pos ⟨trivial, trivial, trivial, trivial, trivial, by omega, by omega⟩, Nat.add_mul, Nat.one_mul]
def HdT (s : List UInt8) (t : Tkn) : Prop := TokP s t.k t.x t.y ∧ 0 ≤ t.x ∧ t.x < s.length ∧ (isLet (byteAt s 0) → t.x = 0)
def HdL (s : List UInt8) (ts : List Tkn) : Prop := ∀ t ts', ts = t :: ts' → HdT s t
def TL (s : List UInt8) (h' : AH) (l T M : Nat) : Prop := ∃ ts : List Tkn, (ts.length = M ∧ HdL s ts) ∧ ((ts = [] ∧ h'.get T = some (.cells 121 0 false [.nls])) ∨
  ∃ L, l + 1 < L ∧ L < h'.next ∧ 0 < ts.length ∧ h'.get T = some (.cells 121 0 false [.ow L (ts.length * 4) 0 ts.length]) ∧ h'.get L = some (.cells 125 4 false (flat Tkn.pv ts)))
structure AL (ob : AO) (R C T T3 T4 l : Nat) (s : List UInt8) (h' : AH) (a f n : Int) (M : Nat) : Prop where
  o1 : T < R
  o2 : T3 < R
  o3 : T4 < R
  o4 : R < C
  o5 : C < l
  o6 : l + 1 < h'.next
  rd : h'.get R = some (rd s a f n)
  cc : h'.get C = some (.cells 150 0 false [.ptr R 4 0])
  t3 : h'.get T3 = some (.cells 3 0 false [.int .i64 0])
  t4 : h'.get T4 = some (.cells 27 0 false [.int .i64 0])
  lo : h'.get l = some ob
  dm : h'.get (l + 1) = some (.defr true)
  nb : nb ob = true
  tl : TL s h' l T M
section
variable {ob : AO} {R C T T3 T4 l : Nat} {s : List UInt8} {h h' : AH} {a a' f f' n n' : Int} {M : Nat}
theorem AL.eqv (A : AL ob R C T T3 T4 l s h a f n M) (e : Eqv h' h) : AL ob R C T T3 T4 l s h' a f n M := by
  refine ⟨A.o1, A.o2, A.o3, A.o4, A.o5, Nat.lt_of_lt_of_le A.o6 e.2, by rw [e.1]; exact A.rd, by rw [e.1]; exact A.cc, by rw [e.1]; exact A.t3, by rw [e.1]; exact A.t4, by rw [e.1]; exact A.lo, by rw [e.1]; exact A.dm, A.nb, ?_⟩
  obtain ⟨ts, h1, h2⟩ := A.tl
  refine ⟨ts, h1, ?_⟩
  rcases h2 with ⟨q, g⟩ | ⟨L, q1, q2, q3, q4, q5⟩
  · exact .inl ⟨q, by rw [e.1]; exact g⟩
  · exact .inr ⟨L, q1, Nat.lt_of_lt_of_le q2 e.2, q3, by rw [e.1]; exact q4, by rw [e.1]; exact q5⟩
theorem AL.up (A : AL ob R C T T3 T4 l s h a f n M) (m : Nat) : AL ob R C T T3 T4 l s (h.up m) a f n M := A.eqv ((Eqv.refl h).up m)
theorem AL.kq (A : AL ob R C T T3 T4 l s h a f n M) (g : h'.get R = some (Go.Proofs.YtcbngkmmmfaaoaaGreatDoor.rd s a' f' n')) (q : Kp h h' R) : AL ob R C T T3 T4 l s h' a' f' n' M := by
  have o1 := A.o1; have o2 := A.o2; have o3 := A.o3; have o4 := A.o4; have o5 := A.o5; have o6 := A.o6
  refine ⟨o1, o2, o3, o4, o5, Nat.lt_of_lt_of_le o6 q.1, g, q.2 _ _ (by omega) A.cc (by omega) rfl, q.2 _ _ (by omega) A.t3 (by omega) rfl, q.2 _ _ (by omega) A.t4 (by omega) rfl, q.2 _ _ (by omega) A.lo (by omega) A.nb, q.2 _ _ (by omega) A.dm (by omega) rfl, A.nb, ?_⟩
  obtain ⟨ts, h1, h2⟩ := A.tl
  refine ⟨ts, h1, ?_⟩
  rcases h2 with ⟨q', g⟩ | ⟨L, q1, q2, q3, q4, q5⟩
  · exact .inl ⟨q', q.2 _ _ (by omega) g (by omega) rfl⟩
  · exact .inr ⟨L, q1, Nat.lt_of_lt_of_le q2 q.1, q3, q.2 _ _ (by omega) q4 (by omega) rfl, q.2 _ _ q2 q5 (by omega) rfl⟩
theorem AL.to (A : AL ob R C T T3 T4 l s h a f n M) (e : Eqv h' (h.set R (Go.Proofs.YtcbngkmmmfaaoaaGreatDoor.rd s a' f' n'))) : AL ob R C T T3 T4 l s h' a' f' n' M :=
  A.kq (by rw [e.1, AH.get_set_same]) (Kp.ofSet e)
def Rnd (mx : Int) (ob : AO) (R C T T3 T4 l : Nat) (s : List UInt8) : Prop := ∀ (h : AH) (a f n : Int) (M : Nat) (k : Int) (t : List UInt8) (x y : Int), AL ob R C T T3 T4 l s h a f n M → M < 2048 → (M = 0 → HdT s ⟨k, t, x, y⟩) →
  ∃ v h2, (∀ fr, CR Tryz.prog (globM mx) md (.yl l) [.agg [.int .i64 k, .str t, .int .i64 x, .int .i64 y]] h fr (.sh v h2)) ∧ v = .bool true ∧ AL ob R C T T3 T4 l s h2 a f n (M + 1)
def AllQ (ob : AO) (R C T T3 T4 l : Nat) (s : List UInt8) (b : Bool) (v : PV) (h' : AH) : Prop := ∃ a f n M, AL ob R C T T3 T4 l s h' a f n M ∧ (b = false → v = .tup [] ∧ (full s → M = 1)) ∧ (b = true → ¬ full s ∧ ∃ x e, e ≠ 0 ∧ v = wrongV x e)
def invAll (ob : AO) (R C T T3 T4 l : Nat) (s : List UInt8) (k : Nat) (F : Fr) (h' : AH) : Prop :=
  ∃ (a f n : Int) (M : Nat), (k : Int) + n = 2048 ∧ ((M : Int) = n ∧ (M = 0 → a = 0) ∧ (full s → M = 0 ∨ (M = 1 ∧ a = s.length))) ∧ 0 ≤ a ∧ a ≤ s.length ∧ F.at 0 = .yld l ∧ F.at 1 = .ptr C 1 0 ∧ AL ob R C T T3 T4 l s h' a f n M
set_option maxHeartbeats 1000000 in
theorem all1_sc (hr : Rnd mx ob R C T T3 T4 l s) (A : AL ob R C T T3 T4 l s h 0 0 0 0) (hl : s.length ≤ 16384) : SC Tryz.prog (globM mx) md (.fn 165) [.yld l, .ptr C 1 0] h (AllQ ob R C T T3 T4 l s) := by
  refine SC.body (rs := []) Tryz.func165 rfl rfl rfl rfl rfl ?_
  rw [wpC_block]
  refine wpC_loop (invAll ob R C T T3 T4 l s) (k := 2048) ⟨0, 0, 0, 0, by omega, ⟨by omega, fun _ => rfl, fun _ => .inl rfl⟩, by omega, by omega, ?_, ?_, A⟩ ?_
  · simp only [layArgs, Fr.at_set, Nat.reduceEqDiff, reduceIte, reduceCtorEq]
  · simp only [layArgs, Fr.at_set, Nat.reduceEqDiff, reduceIte, reduceCtorEq]
  clear A
  rintro k F h1 ⟨a, f, n, M, ik, ⟨hM, hM0, hMf⟩, ha, hb, f0, f1, A1⟩
  have c1 := A1.cc
  simp -implicitDefEqProofs only [wpC_seq, rowsA, if_true, if_false, opnd, ofVal, ofVal1, layArgs, Nat.reduceAdd, reduceIte, Nat.reduceEqDiff, reduceCtorEq, rowsB, cellsG, Nat.reduceMul, rowsR, f1, c1, loadO_one ag150 sz150]
  refine goO_sc (ignored_sc (a := a) (f := f) (n := n) (s := s) (by simp only [AH.get_up]; exact A1.rd) ha hb hl) ?_ ?_
  · intro v2 h2 hq
    generalize hG : wpO _ _ _ _ _ _ _ _ _ _ _ = G
    obtain ⟨a2, f2, e2, l2, m2, _, _, hlet⟩ := hq
    have h20 : M = 0 → isLet (byteAt s 0) → 0 < s.length → a2 = 0 := fun q1 q2 q3 => by
      have := hM0 q1
      subst this
      exact (hlet (by omega) q2).2.1
    have A2 := (A1.up _).to e2
    have c2 := A2.cc
    have r2 := A2.rd
    rw [rd_eq] at r2
    have o4 := A2.o4
    have o5 := A2.o5
    have o6 := A2.o6
    have hRC : (C = R) = False := by simp only [eq_iff_iff, iff_false]; omega
    subst hG
    simp -implicitDefEqProofs only [wpC_seq, rowsA, if_true, if_false, opnd, ofVal, ofVal1, layArgs, Nat.reduceAdd, reduceIte, Nat.reduceEqDiff, reduceCtorEq, rowsB, cellsG, Nat.reduceMul, rowsR, f1, c2, r2, loadO_one ag150 sz150]
    rw [goD_st (by omega) (by kernel_rfl)]
    have A3 : ∀ m, AL ob R C T T3 T4 l s ((h2.up m).set R (.cells 152 0 false [.str s, .int .i64 a2, .int .i64 a2, .int .i64 n])) a2 a2 n M := fun m => (A2.up m).to (Eqv.refl _)
    by_cases d1 : a2 = (s.length : Int)
    · simp -implicitDefEqProofs only [wpC_seq, rowsA, if_true, if_false, opnd, ofVal, ofVal1, layArgs, Nat.reduceAdd, reduceIte, Nat.reduceEqDiff, reduceCtorEq, rowsB, cellsG, Nat.reduceMul, rowsR, f1, c2, r2, loadO_one ag150 sz150, hRC, decide_eq_true d1]
      refine ⟨_, _, _, _, A3 _, fun _ => ⟨rfl, fun q => ?_⟩, fun q => (by cases q)⟩
      rcases hMf q with q1 | ⟨q1, _⟩
      · have := h20 q1 q.2.1 q.1
        have := q.1
        omega
      · exact q1
    · simp -implicitDefEqProofs only [wpC_seq, rowsA, if_true, if_false, opnd, ofVal, ofVal1, layArgs, Nat.reduceAdd, reduceIte, Nat.reduceEqDiff, reduceCtorEq, rowsB, cellsG, Nat.reduceMul, rowsR, f0, f1, c2, r2, loadO_one ag150 sz150, hRC, d1]
      refine goD_sc (token_sc (a := a2) (f := a2) (n := n) (s := s) (by exact (A3 _).rd) (by simp only [AH.next_set, AH.next_up]; omega) (by omega) (by omega) hl (by omega)) (by kernel_rfl) (.inl (by kernel_rfl)) ?_ ?_
      · intro v4 h4 hq
        generalize hG : wpD _ _ _ _ _ _ _ _ _ _ _ = G
        obtain ⟨a4, n4, g4, k4, l4, m4, q4, _⟩ := hq
        obtain ⟨q5, rfl, kd, t, rfl, tp⟩ := q4 rfl
        have A4 := (A3 _).kq g4 k4
        subst hG
        simp -implicitDefEqProofs only [wpC_seq, rowsA, if_true, if_false, opnd, ofVal, ofVal1, layArgs, Nat.reduceAdd, reduceIte, Nat.reduceEqDiff, reduceCtorEq, rowsB, cellsG, Nat.reduceMul, rowsR, f0, callV_yld]
        refine goD_val (hr _ _ _ _ _ _ _ _ _ A4 (by omega) fun q => ⟨tp, by show 0 ≤ a2; omega, by show a2 < _; omega, fun q2 => h20 q q2 (by omega)⟩) (by kernel_rfl) ?_
        intro v5 h5 hq
        generalize hG : wpD _ _ _ _ _ _ _ _ _ _ _ = G
        obtain ⟨rfl, A5⟩ := hq
        subst hG
        simp -implicitDefEqProofs only [wpC_seq, rowsA, if_true, if_false, opnd, ofVal, ofVal1, layArgs, Nat.reduceAdd, reduceIte, Nat.reduceEqDiff, reduceCtorEq, rowsB, cellsG, Nat.reduceMul, rowsR]
        obtain ⟨k', hk'⟩ : ∃ k', k = k' + 1 := ⟨k - 1, by omega⟩
        refine ⟨k', by omega, a4, a2, n + 1, M + 1, by omega, ⟨by omega, fun q => absurd q (by omega), fun q => .inr ?_⟩, by omega, m4, by simp only [Fr.at_set, Nat.reduceEqDiff, reduceIte, reduceCtorEq, f0], by simp only [Fr.at_set, Nat.reduceEqDiff, reduceIte, reduceCtorEq, f1], A5⟩
        rcases hMf q with q1 | ⟨_, q1⟩
        · have e0 := h20 q1 q.2.1 q.1
          subst e0
          have := (tp.1 q.2.1).2
          have := q.2.2
          exact ⟨by omega, by omega⟩
        · omega
      · intro v4 h4 hq
        generalize hG : outX _ _ = G
        obtain ⟨a4, n4, g4, k4, l4, m4, _, q4⟩ := hq
        obtain ⟨hl2, e, e0, rfl⟩ := q4 rfl
        have A4 := (A3 _).kq g4 k4
        subst hG
        simp -implicitDefEqProofs only [rowsR]
        refine ⟨_, _, _, _, A4, fun q => (by cases q), fun _ => ⟨fun q => ?_, _, _, e0, rfl⟩⟩
        rcases hMf q with q1 | ⟨_, q1⟩
        · have e0 := h20 q1 q.2.1 q.1
          subst e0
          exact hl2 q.2.1 (by omega)
        · omega
  · intro v2 h2 hq
    generalize hG : outX _ _ = G
    obtain ⟨a2, f2, e2, l2, m2, _, q2, hlet⟩ := hq
    obtain ⟨hal, x, e, e0, rfl⟩ := q2 rfl
    have A2 := (A1.up _).to e2
    subst hG
    simp -implicitDefEqProofs only [rowsR]
    refine ⟨_, _, _, _, A2, fun q => (by cases q), fun _ => ⟨fun q => ?_, _, _, e0, rfl⟩⟩
    rcases hMf q with q1 | ⟨_, q1⟩
    · have := hM0 q1
      subst this
      have := (hlet hal q.2.1).1
      cases this
    · omega
end
end Go.Proofs.YtcbngkmmmfaaoaaGreatDoor
