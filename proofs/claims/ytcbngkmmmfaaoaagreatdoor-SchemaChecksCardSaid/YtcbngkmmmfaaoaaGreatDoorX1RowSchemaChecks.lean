/-
  JOINED TEXTS (T9 T10 T11 U1 U2 U3 U4 U5): what this law wants beyond the shared ones.
-/
import Derived.Test.YtcbngkmmmfaaoaaGreatDoorX0RowSchemaChecks
import Derived.Test.YtcbngkmmmfaaoaaGreatDoorM10
import Derived.Test.YtcbngkmmmfaaoaaGreatDoorM15
import Derived.Test.YtcbngkmmmfaaoaaGreatDoorM11
set_option linter.unusedVariables false
set_option linter.unusedSimpArgs false
namespace Go.Ac
theorem wpC_gen2 {P : Program} {G : Glob} {md : FuncId → Md} {nt : Option Nat} {c : Code} {f : Fr} {h : AH} {Q : EX → Fr → AH → Prop} (I : Fr → AH → Prop) (hI : I f h) (H : ∀ F h, I F h → wpC P G md nt c F h Q) : wpC P G md nt c f h Q := H f h hI
end Go.Ac
namespace Go.Proofs.YtcbngkmmmfaaoaaGreatDoor
open Go.RowKit Go.Lib Go.Ac
set_option linter.unusedSimpArgs false
set_option maxRecDepth 100000
variable {mx : Int}
theorem bl125 (a b : Int) : bldO Tryz.prog 125 [(2, .int .i64 a), (3, .int .i64 b)] = some (.q (.agg [.int .i64 0, .str [], .int .i64 a, .int .i64 b])) := by kernel_rfl
theorem bl125z : bldO Tryz.prog 125 [] = some (.q (.agg [.int .i64 0, .str [], .int .i64 0, .int .i64 0])) := by kernel_rfl
def OnV (s : List UInt8) (a : Int) (v : PV) : Prop := ∃ (k : Int) (t : List UInt8) (x y e : Int), v = .tup [.agg [.int .i64 k, .str t, .int .i64 x, .int .i64 y], .int .i64 e] ∧ (e = 0 → x = a ∧ a < y ∧ y ≤ s.length ∧ TokP s k a y) ∧ (isLet (byteAt s a) → e = 0)
structure OnS (s : List UInt8) (a : Int) (F : Fr) (h : AH) (k : Int) (t : List UInt8) (y : Int) : Prop where
  f0 : F.at 0 = .str s
  f1 : F.at 1 = .int .i64 a
  f4 : F.at 4 = .ptr 0 4 0
  f6 : F.at 6 = .ptr 6 4 0
  g0 : h.get 0 = some (.cells 125 0 false [.int .i64 0, .str [], .int .i64 0, .int .i64 0])
  g6 : h.get 6 = some (.cells 125 0 false [.int .i64 k, .str t, .int .i64 a, .int .i64 y])
def OnI (s : List UInt8) (a : Int) (F : Fr) (h : AH) : Prop := ∃ (k : Int) (t : List UInt8) (y : Int), OnS s a F h k t y ∧ a < y ∧ y ≤ s.length ∧ TokP s k a y
def invOn (s : List UInt8) (a : Nat) (k : Nat) (F : Fr) (h : AH) : Prop := ∃ y : Nat, k + y = s.length ∧ a < y ∧ OnS s a F h 1 [] y ∧ y + runLen (lettersL ++ digitsL) (s.drop y) = a + nameLen s a
set_option maxHeartbeats 40000000 in
theorem rOne_c (s : List UInt8) (hl : s.length ≤ 16384) {a : Int} (ha : 0 ≤ a) (hb : a < s.length) : ∃ v, OnV s a v ∧ v.clean = true ∧ ∀ (h : AH) (fr : Nat), CR Tryz.prog (globM mx) md (.fn 152) [.str s, .int .i64 a] h fr (.val v) := by
  obtain ⟨a, rfl⟩ : ∃ n : Nat, a = (n : Int) := ⟨a.toNat, by omega⟩
  refine CR.some (Q := OnV s a) (rs := [.cell 4 125, .tmp 5]) Tryz.func152 rfl rfl rfl rfl rfl rfl ?_
  have no : ¬ isLet (byteAt s a) → ∀ e, e ≠ 0 → OnV s a (.tup [.agg [.int .i64 0, .str [], .int .i64 0, .int .i64 0], .int .i64 e]) := fun q e he => ⟨_, _, _, _, e, rfl, fun q' => absurd q' he, fun q' => absurd q' q⟩
  have noP : ∀ {k y : Int}, ¬ isLet (byteAt s a) → k ≠ 1 → TokP s k a y := fun h1 h2 => ⟨fun q => absurd q h1, fun q => absurd q h2⟩
  have ix := ixs (s := s) (a := (a : Int)) (by omega) hb
  have w := IntWalk.i64_in ((a : Int) + 1) (by omega)
  rw [wpC_seq]; simp -implicitDefEqProofs only [rowsA, if_true, if_false, opnd, ofVal, ofVal1, layArgs, Nat.reduceAdd, reduceIte, Nat.reduceEqDiff, reduceCtorEq, rowsB, cellsG, Nat.reduceMul, al125]
  rw [wpC_seq]; simp -implicitDefEqProofs only [rowsA, if_true, if_false, opnd, ofVal, ofVal1, layArgs, Nat.reduceAdd, reduceIte, Nat.reduceEqDiff, reduceCtorEq, rowsB, cellsG, Nat.reduceMul, al125, w, bl125, sz125, st125']
  rw [wpC_seq]; simp -implicitDefEqProofs only [rowsA, if_true, if_false, opnd, ofVal, ofVal1, layArgs, Nat.reduceAdd, reduceIte, Nat.reduceEqDiff, reduceCtorEq, rowsB, cellsG, Nat.reduceMul, ix]
  rw [wpC_seq]; simp -implicitDefEqProofs only [rowsA, if_true, if_false, opnd, ofVal, ofVal1, layArgs, Nat.reduceAdd, reduceIte, Nat.reduceEqDiff, reduceCtorEq, rowsB, cellsG, Nat.reduceMul]
  refine wpC_gen2 (fun F h => OnS s a F h 0 [] (a + 1) ∧ F.at 7 = .int .u8 (byteAt s a) ∧ F.at 8 = .bool true) ⟨⟨?_, ?_, ?_, ?_, ?_, ?_⟩, ?_, ?_⟩ ?_
  · simp only [Fr.at_set, Nat.reduceEqDiff, reduceIte]
  · simp only [Fr.at_set, Nat.reduceEqDiff, reduceIte]
  · simp only [Fr.at_set, Nat.reduceEqDiff, reduceIte]
  · simp only [Fr.at_set, Nat.reduceEqDiff, reduceIte]
  · simp only [AH.get_up, AH.get_set, Nat.reduceEqDiff, if_true, if_false]
  · simp only [AH.get_up, AH.get_set, Nat.reduceEqDiff, if_true, if_false]
  · simp only [Fr.at_set, Nat.reduceEqDiff, reduceIte]
  · simp only [Fr.at_set, Nat.reduceEqDiff, reduceIte]
  rintro F h ⟨⟨f0, f1, f4, f6, g0, g6⟩, f7, f8⟩
  refine wpC_then (OnI s a) ?_ ?_
  · cases c1 : letR (byteAt s a) with
    | true =>
      have hL := (isLet_R s a).2 c1
      simp -implicitDefEqProofs only [wpC_seq, rowsA, if_true, if_false, opnd, ofVal, ofVal1, layArgs, Nat.reduceAdd, reduceIte, Nat.reduceEqDiff, reduceCtorEq, rowsB, cellsG, Nat.reduceMul, rowsR, f0, f1, f4, f6, f7, f8, g0, g6, fda_ptr o125_0, fda_ptr o125_1, fda_ptr o125_3, sz3, sz9, sz125, Nat.reduceLT, bl125z, st125', stT1, ld125, EndS_normal, EndS_ret, RS_some, goO_known (rLetter_c _), c1]
      have hrd := runLen_drop (lettersL ++ digitsL) s a (by omega)
      rw [if_pos (by
        obtain ⟨m, hm⟩ := byte_fin s a
        have := (let_eq m).2
        rw [← hm, c1, Bool.true_or] at this
        exact of_decide_eq_true this)] at hrd
      have hnl : nameLen s a = runLen (lettersL ++ digitsL) (s.drop a) := by unfold nameLen; rw [Int.toNat_natCast]
      refine wpC_loop (invOn s a) (k := s.length - (a + 1)) ⟨a + 1, by omega, by omega, ⟨?_, ?_, ?_, ?_, ?_, ?_⟩, by omega⟩ ?_
      · simp only [Fr.at_set, Nat.reduceEqDiff, reduceIte, f0]
      · simp only [Fr.at_set, Nat.reduceEqDiff, reduceIte, f1]
      · simp only [Fr.at_set, Nat.reduceEqDiff, reduceIte, f4]
      · simp only [Fr.at_set, Nat.reduceEqDiff, reduceIte, f6]
      · simp only [AH.get_up, AH.get_set, Nat.reduceEqDiff, if_true, if_false]; exact g0
      · simp only [AH.get_up, AH.get_set, Nat.reduceEqDiff, if_true, if_false]; rfl
      clear f0 f1 f4 f6 g0 g6 f7 f8
      rintro k F h ⟨y, ky, ay, ⟨f0, f1, f4, f6, g0, g6⟩, hy⟩
      have wy := IntWalk.i64_in ((y : Int) + 1) (by omega)
      have kA := rAt_c (mx := mx) s (a := (y : Int)) (by omega)
      have out : ∀ (F' : Fr) (h' : AH), runLen (lettersL ++ digitsL) (s.drop y) = 0 → F'.at 0 = F.at 0 → F'.at 1 = F.at 1 → F'.at 4 = F.at 4 → F'.at 6 = F.at 6 → h'.get 0 = h.get 0 → h'.get 6 = h.get 6 → OnI s a F' h' := fun F' h' r q0 q1 q4 q6 p0 p6 => ⟨1, [], y, ⟨q0.trans f0, q1.trans f1, q4.trans f4, q6.trans f6, p0.trans g0, p6.trans g6⟩, by omega, by omega, fun _ => ⟨rfl, by omega⟩, fun _ => hL⟩
      have in_ : y < s.length → (letR (bz s y) || digR (bz s y)) = true → runLen (lettersL ++ digitsL) (s.drop y) = runLen (lettersL ++ digitsL) (s.drop (y + 1)) + 1 := fun q1 q2 => by
        rw [runLen_drop _ s y q1, if_pos]
        rw [bz, if_pos (by omega)] at q2
        obtain ⟨m, hm⟩ := byte_fin s y
        have := (let_eq m).2
        rw [← hm, q2] at this
        exact of_decide_eq_true this
      have no_ : (letR (bz s y) || digR (bz s y)) = false → runLen (lettersL ++ digitsL) (s.drop y) = 0 := fun q2 => by
        by_cases q1 : y < s.length
        · rw [runLen_drop _ s y q1, if_neg]
          rw [bz, if_pos (by omega)] at q2
          obtain ⟨m, hm⟩ := byte_fin s y
          have := (let_eq m).2
          rw [← hm, q2] at this
          exact of_decide_eq_false this
        · rw [List.drop_eq_nil_of_le (by omega)]
          rfl
      have lt : (letR (bz s y) || digR (bz s y)) = true → y < s.length := fun q => by
        apply Decidable.byContradiction
        intro q1
        rw [bz, if_neg (by omega)] at q
        cases q
      have nx : ∀ (F' : Fr) (h' : AH), (letR (bz s y) || digR (bz s y)) = true → F'.at 0 = F.at 0 → F'.at 1 = F.at 1 → F'.at 4 = F.at 4 → F'.at 6 = F.at 6 → h'.get 0 = h.get 0 → h'.get 6 = some (.cells 125 0 false [.int .i64 1, .str [], .int .i64 a, .int .i64 ((y : Int) + 1)]) → ∃ k', k' < k ∧ invOn s a k' F' h' := fun F' h' r q0 q1 q4 q6 p0 p6 => by
        have := lt r
        have := in_ this r
        exact ⟨k - 1, by omega, y + 1, by omega, by omega, ⟨q0.trans f0, q1.trans f1, q4.trans f4, q6.trans f6, p0.trans g0, p6⟩, by omega⟩
      cases e1 : letR (bz s y) with
      | true =>
        simp -implicitDefEqProofs only [wpC_seq, rowsA, if_true, if_false, opnd, ofVal, ofVal1, layArgs, Nat.reduceAdd, reduceIte, Nat.reduceEqDiff, reduceCtorEq, rowsB, cellsG, Nat.reduceMul, rowsR, f0, f1, f4, f6, g0, g6, fda_ptr o125_3, loadO_one ag3 sz3, goO_known kA, goO_known (rLetter_c _), e1, wy, sz3, Nat.reduceLT]
        exact nx _ _ (by rw [e1]; rfl) (by simp only [Fr.at_set, Nat.reduceEqDiff, reduceIte]) (by simp only [Fr.at_set, Nat.reduceEqDiff, reduceIte]) (by simp only [Fr.at_set, Nat.reduceEqDiff, reduceIte]) (by simp only [Fr.at_set, Nat.reduceEqDiff, reduceIte]) (by simp only [AH.get_up, AH.get_set, Nat.reduceEqDiff, if_true, if_false]) (by simp only [AH.get_up, AH.get_set, Nat.reduceEqDiff, if_true, if_false])
      | false =>
        cases e2 : digR (bz s y) with
        | true =>
          simp -implicitDefEqProofs only [wpC_seq, rowsA, if_true, if_false, opnd, ofVal, ofVal1, layArgs, Nat.reduceAdd, reduceIte, Nat.reduceEqDiff, reduceCtorEq, rowsB, cellsG, Nat.reduceMul, rowsR, f0, f1, f4, f6, g0, g6, fda_ptr o125_3, loadO_one ag3 sz3, goO_known kA, goO_known (rLetter_c _), goO_known (rDigit_c _), e1, e2, wy, sz3, Nat.reduceLT]
          exact nx _ _ (by rw [e1, e2]; rfl) (by simp only [Fr.at_set, Nat.reduceEqDiff, reduceIte]) (by simp only [Fr.at_set, Nat.reduceEqDiff, reduceIte]) (by simp only [Fr.at_set, Nat.reduceEqDiff, reduceIte]) (by simp only [Fr.at_set, Nat.reduceEqDiff, reduceIte]) (by simp only [AH.get_up, AH.get_set, Nat.reduceEqDiff, if_true, if_false]) (by simp only [AH.get_up, AH.get_set, Nat.reduceEqDiff, if_true, if_false])
        | false =>
          simp -implicitDefEqProofs only [wpC_seq, rowsA, if_true, if_false, opnd, ofVal, ofVal1, layArgs, Nat.reduceAdd, reduceIte, Nat.reduceEqDiff, reduceCtorEq, rowsB, cellsG, Nat.reduceMul, rowsR, f0, f1, f4, f6, g0, g6, fda_ptr o125_3, loadO_one ag3 sz3, goO_known kA, goO_known (rLetter_c _), goO_known (rDigit_c _), e1, e2]
          exact out _ _ (no_ (by rw [e1, e2]; rfl)) (by simp only [Fr.at_set, Nat.reduceEqDiff, reduceIte]) (by simp only [Fr.at_set, Nat.reduceEqDiff, reduceIte]) (by simp only [Fr.at_set, Nat.reduceEqDiff, reduceIte]) (by simp only [Fr.at_set, Nat.reduceEqDiff, reduceIte]) (by simp only [AH.get_up]) (by simp only [AH.get_up])
    | false =>
    have nl : ¬ isLet (byteAt s a) := fun q => by
      rw [(isLet_R s a).1 q] at c1
      cases c1
    by_cases c2 : byteAt s a = 45 ∨ digR (byteAt s a) = true
    · obtain ⟨e, k, ok, ⟨e1, e2, e3, e4⟩, kn⟩ := rNumber_c (mx := mx) s hl (a := (a : Int)) (by omega) (by omega)
      have c3 : (decide (byteAt s a = 45) = true ∧ True) ∨ (decide (byteAt s a = 45) = false ∧ digR (byteAt s a) = true) := by
        by_cases q : byteAt s a = 45
        · exact .inl ⟨decide_eq_true q, trivial⟩
        · exact .inr ⟨decide_eq_false q, c2.resolve_left q⟩
      rcases c3 with ⟨c3, c4⟩ | ⟨c3, c4⟩
      · cases ok with
        | false =>
          simp -implicitDefEqProofs only [wpC_seq, rowsA, if_true, if_false, opnd, ofVal, ofVal1, layArgs, Nat.reduceAdd, reduceIte, Nat.reduceEqDiff, reduceCtorEq, rowsB, cellsG, Nat.reduceMul, rowsR, f0, f1, f4, f6, f7, f8, g0, g6, fda_ptr o125_0, fda_ptr o125_1, fda_ptr o125_3, sz3, sz9, sz125, Nat.reduceLT, bl125z, st125', stT1, ld125, EndS_normal, EndS_ret, RS_some, goO_known (rLetter_c _), goO_known (rDigit_c _), goO_known kn, c1, c3, c4]
          exact ⟨no nl 51 (by decide), rfl⟩
        | true =>
          simp -implicitDefEqProofs only [wpC_seq, rowsA, if_true, if_false, opnd, ofVal, ofVal1, layArgs, Nat.reduceAdd, reduceIte, Nat.reduceEqDiff, reduceCtorEq, rowsB, cellsG, Nat.reduceMul, rowsR, f0, f1, f4, f6, f7, f8, g0, g6, fda_ptr o125_0, fda_ptr o125_1, fda_ptr o125_3, sz3, sz9, sz125, Nat.reduceLT, bl125z, st125', stT1, ld125, EndS_normal, EndS_ret, RS_some, goO_known (rLetter_c _), goO_known (rDigit_c _), goO_known kn, c1, c3, c4]
          exact ⟨k, [], e, ⟨(by simp only [Fr.at_set, Nat.reduceEqDiff, reduceIte, f0]), (by simp only [Fr.at_set, Nat.reduceEqDiff, reduceIte, f1]), (by simp only [Fr.at_set, Nat.reduceEqDiff, reduceIte, f4]), (by simp only [Fr.at_set, Nat.reduceEqDiff, reduceIte, f6]), (by simp only [AH.get_up, AH.get_set, Nat.reduceEqDiff, if_true, if_false]; exact g0), (by simp only [AH.get_up, AH.get_set, Nat.reduceEqDiff, if_true, if_false])⟩, e3 rfl, e2, noP nl (by omega)⟩
      · cases ok with
        | false =>
          simp -implicitDefEqProofs only [wpC_seq, rowsA, if_true, if_false, opnd, ofVal, ofVal1, layArgs, Nat.reduceAdd, reduceIte, Nat.reduceEqDiff, reduceCtorEq, rowsB, cellsG, Nat.reduceMul, rowsR, f0, f1, f4, f6, f7, f8, g0, g6, fda_ptr o125_0, fda_ptr o125_1, fda_ptr o125_3, sz3, sz9, sz125, Nat.reduceLT, bl125z, st125', stT1, ld125, EndS_normal, EndS_ret, RS_some, goO_known (rLetter_c _), goO_known (rDigit_c _), goO_known kn, c1, c3, c4]
          exact ⟨no nl 51 (by decide), rfl⟩
        | true =>
          simp -implicitDefEqProofs only [wpC_seq, rowsA, if_true, if_false, opnd, ofVal, ofVal1, layArgs, Nat.reduceAdd, reduceIte, Nat.reduceEqDiff, reduceCtorEq, rowsB, cellsG, Nat.reduceMul, rowsR, f0, f1, f4, f6, f7, f8, g0, g6, fda_ptr o125_0, fda_ptr o125_1, fda_ptr o125_3, sz3, sz9, sz125, Nat.reduceLT, bl125z, st125', stT1, ld125, EndS_normal, EndS_ret, RS_some, goO_known (rLetter_c _), goO_known (rDigit_c _), goO_known kn, c1, c3, c4]
          exact ⟨k, [], e, ⟨(by simp only [Fr.at_set, Nat.reduceEqDiff, reduceIte, f0]), (by simp only [Fr.at_set, Nat.reduceEqDiff, reduceIte, f1]), (by simp only [Fr.at_set, Nat.reduceEqDiff, reduceIte, f4]), (by simp only [Fr.at_set, Nat.reduceEqDiff, reduceIte, f6]), (by simp only [AH.get_up, AH.get_set, Nat.reduceEqDiff, if_true, if_false]; exact g0), (by simp only [AH.get_up, AH.get_set, Nat.reduceEqDiff, if_true, if_false])⟩, e3 rfl, e2, noP nl (by omega)⟩
    have c3 : decide (byteAt s a = 45) = false := decide_eq_false fun q => c2 (.inl q)
    have c4 : digR (byteAt s a) = false := by
      cases q : digR (byteAt s a) with
      | true => exact absurd (.inr q) c2
      | false => rfl
    cases c5 : decide (byteAt s a = 34) with
    | true =>
      have kb := rBegins_c (mx := mx) s [34, 34, 34] (a := (a : Int)) (by omega) (by omega) hl (by simp)
      cases c6 : hasP (s.drop (a : Int).toNat) [34, 34, 34] with
      | true =>
        obtain ⟨_, q2⟩ := hasP_first (by omega) c6
        simp only [List.length_cons, List.length_nil] at q2
        obtain ⟨vb, ⟨x, e, ok, rfl, x1, x2⟩, _, kk⟩ := rBlock_c (mx := mx) s hl (a := (a : Int)) (by omega) (by omega)
        obtain ⟨z, kz⟩ := rBlk_c (mx := mx) x x1
        cases ok with
        | false =>
          simp -implicitDefEqProofs only [wpC_seq, rowsA, if_true, if_false, opnd, ofVal, ofVal1, layArgs, Nat.reduceAdd, reduceIte, Nat.reduceEqDiff, reduceCtorEq, rowsB, cellsG, Nat.reduceMul, rowsR, f0, f1, f4, f6, f7, f8, g0, g6, fda_ptr o125_0, fda_ptr o125_1, fda_ptr o125_3, sz3, sz9, sz125, Nat.reduceLT, bl125z, st125', stT1, ld125, EndS_normal, EndS_ret, RS_some, goO_known (rLetter_c _), goO_known (rDigit_c _), goO_known kb, goO_known kk, goO_known kz, c1, c3, c4, c5, c6]
          exact ⟨no nl 52 (by decide), rfl⟩
        | true =>
          simp -implicitDefEqProofs only [wpC_seq, rowsA, if_true, if_false, opnd, ofVal, ofVal1, layArgs, Nat.reduceAdd, reduceIte, Nat.reduceEqDiff, reduceCtorEq, rowsB, cellsG, Nat.reduceMul, rowsR, f0, f1, f4, f6, f7, f8, g0, g6, fda_ptr o125_0, fda_ptr o125_1, fda_ptr o125_3, sz3, sz9, sz125, Nat.reduceLT, bl125z, st125', stT1, ld125, EndS_normal, EndS_ret, RS_some, goO_known (rLetter_c _), goO_known (rDigit_c _), goO_known kb, goO_known kk, goO_known kz, c1, c3, c4, c5, c6]
          exact ⟨⟨4, z, a, e, 0, rfl, fun _ => ⟨rfl, (x2 rfl).1, (x2 rfl).2, noP nl (by decide)⟩, fun _ => rfl⟩, rfl⟩
      | false =>
        obtain ⟨vb, ⟨x, e, ok, rfl, x1, x2⟩, _, kk⟩ := rText_c (mx := mx) s hl (a := (a : Int)) (by omega) hb
        cases ok with
        | false =>
          simp -implicitDefEqProofs only [wpC_seq, rowsA, if_true, if_false, opnd, ofVal, ofVal1, layArgs, Nat.reduceAdd, reduceIte, Nat.reduceEqDiff, reduceCtorEq, rowsB, cellsG, Nat.reduceMul, rowsR, f0, f1, f4, f6, f7, f8, g0, g6, fda_ptr o125_0, fda_ptr o125_1, fda_ptr o125_3, sz3, sz9, sz125, Nat.reduceLT, bl125z, st125', stT1, ld125, EndS_normal, EndS_ret, RS_some, goO_known (rLetter_c _), goO_known (rDigit_c _), goO_known kb, goO_known kk, c1, c3, c4, c5, c6]
          exact ⟨no nl 52 (by decide), rfl⟩
        | true =>
          simp -implicitDefEqProofs only [wpC_seq, rowsA, if_true, if_false, opnd, ofVal, ofVal1, layArgs, Nat.reduceAdd, reduceIte, Nat.reduceEqDiff, reduceCtorEq, rowsB, cellsG, Nat.reduceMul, rowsR, f0, f1, f4, f6, f7, f8, g0, g6, fda_ptr o125_0, fda_ptr o125_1, fda_ptr o125_3, sz3, sz9, sz125, Nat.reduceLT, bl125z, st125', stT1, ld125, EndS_normal, EndS_ret, RS_some, goO_known (rLetter_c _), goO_known (rDigit_c _), goO_known kb, goO_known kk, c1, c3, c4, c5, c6]
          exact ⟨⟨4, x, a, e, 0, rfl, fun _ => ⟨rfl, (x2 rfl).1, (x2 rfl).2, noP nl (by decide)⟩, fun _ => rfl⟩, rfl⟩
    | false =>
    have kd := rBegins_c (mx := mx) s [46, 46, 46] (a := (a : Int)) (by omega) (by omega) hl (by simp)
    cases c6 : hasP (s.drop (a : Int).toNat) [46, 46, 46] with
    | true =>
      obtain ⟨_, q2⟩ := hasP_first (by omega) c6
      simp only [List.length_cons, List.length_nil] at q2
      have w3 := IntWalk.i64_in ((a : Int) + 3) (by omega)
      simp -implicitDefEqProofs only [wpC_seq, rowsA, if_true, if_false, opnd, ofVal, ofVal1, layArgs, Nat.reduceAdd, reduceIte, Nat.reduceEqDiff, reduceCtorEq, rowsB, cellsG, Nat.reduceMul, rowsR, f0, f1, f4, f6, f7, f8, g0, g6, fda_ptr o125_0, fda_ptr o125_1, fda_ptr o125_3, sz3, sz9, sz125, Nat.reduceLT, bl125z, st125', stT1, ld125, EndS_normal, EndS_ret, RS_some, goO_known (rLetter_c _), goO_known (rDigit_c _), goO_known kd, c1, c3, c4, c5, c6, w3]
      exact ⟨0, [], (a : Int) + 3, ⟨(by simp only [Fr.at_set, Nat.reduceEqDiff, reduceIte, f0]), (by simp only [Fr.at_set, Nat.reduceEqDiff, reduceIte, f1]), (by simp only [Fr.at_set, Nat.reduceEqDiff, reduceIte, f4]), (by simp only [Fr.at_set, Nat.reduceEqDiff, reduceIte, f6]), (by simp only [AH.get_up, AH.get_set, Nat.reduceEqDiff, if_true, if_false]; exact g0), (by simp only [AH.get_up, AH.get_set, Nat.reduceEqDiff, if_true, if_false])⟩, by omega, by omega, noP nl (by decide)⟩
    | false =>
    cases d0 : decide (byteAt s a = 33) with
    | true =>
      simp -implicitDefEqProofs only [wpC_seq, rowsA, if_true, if_false, opnd, ofVal, ofVal1, layArgs, Nat.reduceAdd, reduceIte, Nat.reduceEqDiff, reduceCtorEq, rowsB, cellsG, Nat.reduceMul, rowsR, f0, f1, f4, f6, f7, f8, g0, g6, fda_ptr o125_0, fda_ptr o125_1, fda_ptr o125_3, sz3, sz9, sz125, Nat.reduceLT, bl125z, st125', stT1, ld125, EndS_normal, EndS_ret, RS_some, goO_known (rLetter_c _), goO_known (rDigit_c _), goO_known kd, c1, c3, c4, c5, c6, d0, w]
      exact ⟨0, [], (a : Int) + 1, ⟨(by simp only [Fr.at_set, Nat.reduceEqDiff, reduceIte, f0]), (by simp only [Fr.at_set, Nat.reduceEqDiff, reduceIte, f1]), (by simp only [Fr.at_set, Nat.reduceEqDiff, reduceIte, f4]), (by simp only [Fr.at_set, Nat.reduceEqDiff, reduceIte, f6]), (by simp only [AH.get_up, AH.get_set, Nat.reduceEqDiff, if_true, if_false]; exact g0), (by simp only [AH.get_up, AH.get_set, Nat.reduceEqDiff, if_true, if_false])⟩, by omega, by omega, noP nl (by decide)⟩
    | false =>
    cases d1 : decide (byteAt s a = 36) with
    | true =>
      simp -implicitDefEqProofs only [wpC_seq, rowsA, if_true, if_false, opnd, ofVal, ofVal1, layArgs, Nat.reduceAdd, reduceIte, Nat.reduceEqDiff, reduceCtorEq, rowsB, cellsG, Nat.reduceMul, rowsR, f0, f1, f4, f6, f7, f8, g0, g6, fda_ptr o125_0, fda_ptr o125_1, fda_ptr o125_3, sz3, sz9, sz125, Nat.reduceLT, bl125z, st125', stT1, ld125, EndS_normal, EndS_ret, RS_some, goO_known (rLetter_c _), goO_known (rDigit_c _), goO_known kd, c1, c3, c4, c5, c6, d0, d1, w]
      exact ⟨0, [], (a : Int) + 1, ⟨(by simp only [Fr.at_set, Nat.reduceEqDiff, reduceIte, f0]), (by simp only [Fr.at_set, Nat.reduceEqDiff, reduceIte, f1]), (by simp only [Fr.at_set, Nat.reduceEqDiff, reduceIte, f4]), (by simp only [Fr.at_set, Nat.reduceEqDiff, reduceIte, f6]), (by simp only [AH.get_up, AH.get_set, Nat.reduceEqDiff, if_true, if_false]; exact g0), (by simp only [AH.get_up, AH.get_set, Nat.reduceEqDiff, if_true, if_false])⟩, by omega, by omega, noP nl (by decide)⟩
    | false =>
    cases d2 : decide (byteAt s a = 38) with
    | true =>
      simp -implicitDefEqProofs only [wpC_seq, rowsA, if_true, if_false, opnd, ofVal, ofVal1, layArgs, Nat.reduceAdd, reduceIte, Nat.reduceEqDiff, reduceCtorEq, rowsB, cellsG, Nat.reduceMul, rowsR, f0, f1, f4, f6, f7, f8, g0, g6, fda_ptr o125_0, fda_ptr o125_1, fda_ptr o125_3, sz3, sz9, sz125, Nat.reduceLT, bl125z, st125', stT1, ld125, EndS_normal, EndS_ret, RS_some, goO_known (rLetter_c _), goO_known (rDigit_c _), goO_known kd, c1, c3, c4, c5, c6, d0, d1, d2, w]
      exact ⟨0, [], (a : Int) + 1, ⟨(by simp only [Fr.at_set, Nat.reduceEqDiff, reduceIte, f0]), (by simp only [Fr.at_set, Nat.reduceEqDiff, reduceIte, f1]), (by simp only [Fr.at_set, Nat.reduceEqDiff, reduceIte, f4]), (by simp only [Fr.at_set, Nat.reduceEqDiff, reduceIte, f6]), (by simp only [AH.get_up, AH.get_set, Nat.reduceEqDiff, if_true, if_false]; exact g0), (by simp only [AH.get_up, AH.get_set, Nat.reduceEqDiff, if_true, if_false])⟩, by omega, by omega, noP nl (by decide)⟩
    | false =>
    cases d3 : decide (byteAt s a = 40) with
    | true =>
      simp -implicitDefEqProofs only [wpC_seq, rowsA, if_true, if_false, opnd, ofVal, ofVal1, layArgs, Nat.reduceAdd, reduceIte, Nat.reduceEqDiff, reduceCtorEq, rowsB, cellsG, Nat.reduceMul, rowsR, f0, f1, f4, f6, f7, f8, g0, g6, fda_ptr o125_0, fda_ptr o125_1, fda_ptr o125_3, sz3, sz9, sz125, Nat.reduceLT, bl125z, st125', stT1, ld125, EndS_normal, EndS_ret, RS_some, goO_known (rLetter_c _), goO_known (rDigit_c _), goO_known kd, c1, c3, c4, c5, c6, d0, d1, d2, d3, w]
      exact ⟨0, [], (a : Int) + 1, ⟨(by simp only [Fr.at_set, Nat.reduceEqDiff, reduceIte, f0]), (by simp only [Fr.at_set, Nat.reduceEqDiff, reduceIte, f1]), (by simp only [Fr.at_set, Nat.reduceEqDiff, reduceIte, f4]), (by simp only [Fr.at_set, Nat.reduceEqDiff, reduceIte, f6]), (by simp only [AH.get_up, AH.get_set, Nat.reduceEqDiff, if_true, if_false]; exact g0), (by simp only [AH.get_up, AH.get_set, Nat.reduceEqDiff, if_true, if_false])⟩, by omega, by omega, noP nl (by decide)⟩
    | false =>
    cases d4 : decide (byteAt s a = 41) with
    | true =>
      simp -implicitDefEqProofs only [wpC_seq, rowsA, if_true, if_false, opnd, ofVal, ofVal1, layArgs, Nat.reduceAdd, reduceIte, Nat.reduceEqDiff, reduceCtorEq, rowsB, cellsG, Nat.reduceMul, rowsR, f0, f1, f4, f6, f7, f8, g0, g6, fda_ptr o125_0, fda_ptr o125_1, fda_ptr o125_3, sz3, sz9, sz125, Nat.reduceLT, bl125z, st125', stT1, ld125, EndS_normal, EndS_ret, RS_some, goO_known (rLetter_c _), goO_known (rDigit_c _), goO_known kd, c1, c3, c4, c5, c6, d0, d1, d2, d3, d4, w]
      exact ⟨0, [], (a : Int) + 1, ⟨(by simp only [Fr.at_set, Nat.reduceEqDiff, reduceIte, f0]), (by simp only [Fr.at_set, Nat.reduceEqDiff, reduceIte, f1]), (by simp only [Fr.at_set, Nat.reduceEqDiff, reduceIte, f4]), (by simp only [Fr.at_set, Nat.reduceEqDiff, reduceIte, f6]), (by simp only [AH.get_up, AH.get_set, Nat.reduceEqDiff, if_true, if_false]; exact g0), (by simp only [AH.get_up, AH.get_set, Nat.reduceEqDiff, if_true, if_false])⟩, by omega, by omega, noP nl (by decide)⟩
    | false =>
    cases d5 : decide (byteAt s a = 58) with
    | true =>
      simp -implicitDefEqProofs only [wpC_seq, rowsA, if_true, if_false, opnd, ofVal, ofVal1, layArgs, Nat.reduceAdd, reduceIte, Nat.reduceEqDiff, reduceCtorEq, rowsB, cellsG, Nat.reduceMul, rowsR, f0, f1, f4, f6, f7, f8, g0, g6, fda_ptr o125_0, fda_ptr o125_1, fda_ptr o125_3, sz3, sz9, sz125, Nat.reduceLT, bl125z, st125', stT1, ld125, EndS_normal, EndS_ret, RS_some, goO_known (rLetter_c _), goO_known (rDigit_c _), goO_known kd, c1, c3, c4, c5, c6, d0, d1, d2, d3, d4, d5, w]
      exact ⟨0, [], (a : Int) + 1, ⟨(by simp only [Fr.at_set, Nat.reduceEqDiff, reduceIte, f0]), (by simp only [Fr.at_set, Nat.reduceEqDiff, reduceIte, f1]), (by simp only [Fr.at_set, Nat.reduceEqDiff, reduceIte, f4]), (by simp only [Fr.at_set, Nat.reduceEqDiff, reduceIte, f6]), (by simp only [AH.get_up, AH.get_set, Nat.reduceEqDiff, if_true, if_false]; exact g0), (by simp only [AH.get_up, AH.get_set, Nat.reduceEqDiff, if_true, if_false])⟩, by omega, by omega, noP nl (by decide)⟩
    | false =>
    cases d6 : decide (byteAt s a = 61) with
    | true =>
      simp -implicitDefEqProofs only [wpC_seq, rowsA, if_true, if_false, opnd, ofVal, ofVal1, layArgs, Nat.reduceAdd, reduceIte, Nat.reduceEqDiff, reduceCtorEq, rowsB, cellsG, Nat.reduceMul, rowsR, f0, f1, f4, f6, f7, f8, g0, g6, fda_ptr o125_0, fda_ptr o125_1, fda_ptr o125_3, sz3, sz9, sz125, Nat.reduceLT, bl125z, st125', stT1, ld125, EndS_normal, EndS_ret, RS_some, goO_known (rLetter_c _), goO_known (rDigit_c _), goO_known kd, c1, c3, c4, c5, c6, d0, d1, d2, d3, d4, d5, d6, w]
      exact ⟨0, [], (a : Int) + 1, ⟨(by simp only [Fr.at_set, Nat.reduceEqDiff, reduceIte, f0]), (by simp only [Fr.at_set, Nat.reduceEqDiff, reduceIte, f1]), (by simp only [Fr.at_set, Nat.reduceEqDiff, reduceIte, f4]), (by simp only [Fr.at_set, Nat.reduceEqDiff, reduceIte, f6]), (by simp only [AH.get_up, AH.get_set, Nat.reduceEqDiff, if_true, if_false]; exact g0), (by simp only [AH.get_up, AH.get_set, Nat.reduceEqDiff, if_true, if_false])⟩, by omega, by omega, noP nl (by decide)⟩
    | false =>
    cases d7 : decide (byteAt s a = 64) with
    | true =>
      simp -implicitDefEqProofs only [wpC_seq, rowsA, if_true, if_false, opnd, ofVal, ofVal1, layArgs, Nat.reduceAdd, reduceIte, Nat.reduceEqDiff, reduceCtorEq, rowsB, cellsG, Nat.reduceMul, rowsR, f0, f1, f4, f6, f7, f8, g0, g6, fda_ptr o125_0, fda_ptr o125_1, fda_ptr o125_3, sz3, sz9, sz125, Nat.reduceLT, bl125z, st125', stT1, ld125, EndS_normal, EndS_ret, RS_some, goO_known (rLetter_c _), goO_known (rDigit_c _), goO_known kd, c1, c3, c4, c5, c6, d0, d1, d2, d3, d4, d5, d6, d7, w]
      exact ⟨0, [], (a : Int) + 1, ⟨(by simp only [Fr.at_set, Nat.reduceEqDiff, reduceIte, f0]), (by simp only [Fr.at_set, Nat.reduceEqDiff, reduceIte, f1]), (by simp only [Fr.at_set, Nat.reduceEqDiff, reduceIte, f4]), (by simp only [Fr.at_set, Nat.reduceEqDiff, reduceIte, f6]), (by simp only [AH.get_up, AH.get_set, Nat.reduceEqDiff, if_true, if_false]; exact g0), (by simp only [AH.get_up, AH.get_set, Nat.reduceEqDiff, if_true, if_false])⟩, by omega, by omega, noP nl (by decide)⟩
    | false =>
    cases d8 : decide (byteAt s a = 91) with
    | true =>
      simp -implicitDefEqProofs only [wpC_seq, rowsA, if_true, if_false, opnd, ofVal, ofVal1, layArgs, Nat.reduceAdd, reduceIte, Nat.reduceEqDiff, reduceCtorEq, rowsB, cellsG, Nat.reduceMul, rowsR, f0, f1, f4, f6, f7, f8, g0, g6, fda_ptr o125_0, fda_ptr o125_1, fda_ptr o125_3, sz3, sz9, sz125, Nat.reduceLT, bl125z, st125', stT1, ld125, EndS_normal, EndS_ret, RS_some, goO_known (rLetter_c _), goO_known (rDigit_c _), goO_known kd, c1, c3, c4, c5, c6, d0, d1, d2, d3, d4, d5, d6, d7, d8, w]
      exact ⟨0, [], (a : Int) + 1, ⟨(by simp only [Fr.at_set, Nat.reduceEqDiff, reduceIte, f0]), (by simp only [Fr.at_set, Nat.reduceEqDiff, reduceIte, f1]), (by simp only [Fr.at_set, Nat.reduceEqDiff, reduceIte, f4]), (by simp only [Fr.at_set, Nat.reduceEqDiff, reduceIte, f6]), (by simp only [AH.get_up, AH.get_set, Nat.reduceEqDiff, if_true, if_false]; exact g0), (by simp only [AH.get_up, AH.get_set, Nat.reduceEqDiff, if_true, if_false])⟩, by omega, by omega, noP nl (by decide)⟩
    | false =>
    cases d9 : decide (byteAt s a = 93) with
    | true =>
      simp -implicitDefEqProofs only [wpC_seq, rowsA, if_true, if_false, opnd, ofVal, ofVal1, layArgs, Nat.reduceAdd, reduceIte, Nat.reduceEqDiff, reduceCtorEq, rowsB, cellsG, Nat.reduceMul, rowsR, f0, f1, f4, f6, f7, f8, g0, g6, fda_ptr o125_0, fda_ptr o125_1, fda_ptr o125_3, sz3, sz9, sz125, Nat.reduceLT, bl125z, st125', stT1, ld125, EndS_normal, EndS_ret, RS_some, goO_known (rLetter_c _), goO_known (rDigit_c _), goO_known kd, c1, c3, c4, c5, c6, d0, d1, d2, d3, d4, d5, d6, d7, d8, d9, w]
      exact ⟨0, [], (a : Int) + 1, ⟨(by simp only [Fr.at_set, Nat.reduceEqDiff, reduceIte, f0]), (by simp only [Fr.at_set, Nat.reduceEqDiff, reduceIte, f1]), (by simp only [Fr.at_set, Nat.reduceEqDiff, reduceIte, f4]), (by simp only [Fr.at_set, Nat.reduceEqDiff, reduceIte, f6]), (by simp only [AH.get_up, AH.get_set, Nat.reduceEqDiff, if_true, if_false]; exact g0), (by simp only [AH.get_up, AH.get_set, Nat.reduceEqDiff, if_true, if_false])⟩, by omega, by omega, noP nl (by decide)⟩
    | false =>
    cases d10 : decide (byteAt s a = 123) with
    | true =>
      simp -implicitDefEqProofs only [wpC_seq, rowsA, if_true, if_false, opnd, ofVal, ofVal1, layArgs, Nat.reduceAdd, reduceIte, Nat.reduceEqDiff, reduceCtorEq, rowsB, cellsG, Nat.reduceMul, rowsR, f0, f1, f4, f6, f7, f8, g0, g6, fda_ptr o125_0, fda_ptr o125_1, fda_ptr o125_3, sz3, sz9, sz125, Nat.reduceLT, bl125z, st125', stT1, ld125, EndS_normal, EndS_ret, RS_some, goO_known (rLetter_c _), goO_known (rDigit_c _), goO_known kd, c1, c3, c4, c5, c6, d0, d1, d2, d3, d4, d5, d6, d7, d8, d9, d10, w]
      exact ⟨0, [], (a : Int) + 1, ⟨(by simp only [Fr.at_set, Nat.reduceEqDiff, reduceIte, f0]), (by simp only [Fr.at_set, Nat.reduceEqDiff, reduceIte, f1]), (by simp only [Fr.at_set, Nat.reduceEqDiff, reduceIte, f4]), (by simp only [Fr.at_set, Nat.reduceEqDiff, reduceIte, f6]), (by simp only [AH.get_up, AH.get_set, Nat.reduceEqDiff, if_true, if_false]; exact g0), (by simp only [AH.get_up, AH.get_set, Nat.reduceEqDiff, if_true, if_false])⟩, by omega, by omega, noP nl (by decide)⟩
    | false =>
    cases d11 : decide (byteAt s a = 124) with
    | true =>
      simp -implicitDefEqProofs only [wpC_seq, rowsA, if_true, if_false, opnd, ofVal, ofVal1, layArgs, Nat.reduceAdd, reduceIte, Nat.reduceEqDiff, reduceCtorEq, rowsB, cellsG, Nat.reduceMul, rowsR, f0, f1, f4, f6, f7, f8, g0, g6, fda_ptr o125_0, fda_ptr o125_1, fda_ptr o125_3, sz3, sz9, sz125, Nat.reduceLT, bl125z, st125', stT1, ld125, EndS_normal, EndS_ret, RS_some, goO_known (rLetter_c _), goO_known (rDigit_c _), goO_known kd, c1, c3, c4, c5, c6, d0, d1, d2, d3, d4, d5, d6, d7, d8, d9, d10, d11, w]
      exact ⟨0, [], (a : Int) + 1, ⟨(by simp only [Fr.at_set, Nat.reduceEqDiff, reduceIte, f0]), (by simp only [Fr.at_set, Nat.reduceEqDiff, reduceIte, f1]), (by simp only [Fr.at_set, Nat.reduceEqDiff, reduceIte, f4]), (by simp only [Fr.at_set, Nat.reduceEqDiff, reduceIte, f6]), (by simp only [AH.get_up, AH.get_set, Nat.reduceEqDiff, if_true, if_false]; exact g0), (by simp only [AH.get_up, AH.get_set, Nat.reduceEqDiff, if_true, if_false])⟩, by omega, by omega, noP nl (by decide)⟩
    | false =>
    cases d12 : decide (byteAt s a = 125) with
    | true =>
      simp -implicitDefEqProofs only [wpC_seq, rowsA, if_true, if_false, opnd, ofVal, ofVal1, layArgs, Nat.reduceAdd, reduceIte, Nat.reduceEqDiff, reduceCtorEq, rowsB, cellsG, Nat.reduceMul, rowsR, f0, f1, f4, f6, f7, f8, g0, g6, fda_ptr o125_0, fda_ptr o125_1, fda_ptr o125_3, sz3, sz9, sz125, Nat.reduceLT, bl125z, st125', stT1, ld125, EndS_normal, EndS_ret, RS_some, goO_known (rLetter_c _), goO_known (rDigit_c _), goO_known kd, c1, c3, c4, c5, c6, d0, d1, d2, d3, d4, d5, d6, d7, d8, d9, d10, d11, d12, w]
      exact ⟨0, [], (a : Int) + 1, ⟨(by simp only [Fr.at_set, Nat.reduceEqDiff, reduceIte, f0]), (by simp only [Fr.at_set, Nat.reduceEqDiff, reduceIte, f1]), (by simp only [Fr.at_set, Nat.reduceEqDiff, reduceIte, f4]), (by simp only [Fr.at_set, Nat.reduceEqDiff, reduceIte, f6]), (by simp only [AH.get_up, AH.get_set, Nat.reduceEqDiff, if_true, if_false]; exact g0), (by simp only [AH.get_up, AH.get_set, Nat.reduceEqDiff, if_true, if_false])⟩, by omega, by omega, noP nl (by decide)⟩
    | false =>
    simp -implicitDefEqProofs only [wpC_seq, rowsA, if_true, if_false, opnd, ofVal, ofVal1, layArgs, Nat.reduceAdd, reduceIte, Nat.reduceEqDiff, reduceCtorEq, rowsB, cellsG, Nat.reduceMul, rowsR, f0, f1, f4, f6, f7, f8, g0, g6, fda_ptr o125_0, fda_ptr o125_1, fda_ptr o125_3, sz3, sz9, sz125, Nat.reduceLT, bl125z, st125', stT1, ld125, EndS_normal, EndS_ret, RS_some, goO_known (rLetter_c _), goO_known (rDigit_c _), goO_known kd, c1, c3, c4, c5, c6, d0, d1, d2, d3, d4, d5, d6, d7, d8, d9, d10, d11, d12]
    exact ⟨no nl 50 (by decide), rfl⟩
  clear f0 f1 f4 f6 g0 g6 f7 f8
  rintro F h ⟨k, t, y, ⟨f0, f1, f4, f6, g0, g6⟩, y1, y2, tp⟩
  have hsl := fun (h : AH) => slice_both (P := Tryz.prog) (h := h) (t := 9) (l := s) (k := .i64) (k' := .i64) (i := (a : Int)) (j := y) u9 (by omega) (by omega) (by omega)
  simp -implicitDefEqProofs only [wpC_seq, rowsA, if_true, if_false, opnd, ofVal, ofVal1, layArgs, Nat.reduceAdd, reduceIte, Nat.reduceEqDiff, reduceCtorEq, rowsB, cellsG, Nat.reduceMul, rowsR, f0, f1, f4, f6, g0, g6, fda_ptr o125_1, fda_ptr o125_3, hsl, sz9, stT1, ld125, sz125, st125', EndS_normal, EndS_ret, RS_some]
  exact ⟨⟨k, _, a, y, 0, rfl, fun _ => ⟨rfl, y1, y2, tp⟩, fun _ => rfl⟩, rfl⟩
end Go.Proofs.YtcbngkmmmfaaoaaGreatDoor
namespace Go.Ac
theorem CR.someF {P : Program} {G : Glob} {md : FuncId → Md} {k : FuncId} {fn : Func} {c : Code} {rs : List ResultVar} {args : List PV} {Q : PV → Prop} (hf : P.funcs[k]? = some fn) (hb : fn.body = some c) (hn : (fn.name == "runtime.NumGoroutine") = false) (hr : fn.results.toList = rs) (hm : md k = .pure) (hd : noDf c = true) (hcl : PV.cleans args = true)
    (he : wpC P G md (some fn.ntmps) c (layArgs 0 args Fr.none) .empty (EndS P rs fun v h => ∃ u h', frz 100 v h = some (u, h') ∧ Q u)) : ∃ u, Q u ∧ ∀ (h : AH) (fr : Nat), CR P G md (.fn k) args h fr (.val u) :=
  CR.someE hf hb hn hm hcl (ends_of hd hr (R := fun r => ∃ v h u h', r = .val v h ∧ frz 100 v h = some (u, h') ∧ Q u) (fun u h' ⟨w, h'', q1, q2⟩ => ⟨u, h', w, h'', rfl, q1, q2⟩) he)
end Go.Ac
namespace Go.Proofs.YtcbngkmmmfaaoaaGreatDoor
open Go.RowKit Go.Lib Go.Ac
set_option linter.unusedSimpArgs false
set_option maxRecDepth 100000
variable {mx : Int}
theorem bd121_0 (fr : Nat) : buildO Tryz.prog fr 121 0 [] = some (.w .els fr (.cells 125 4 false [])) := by kernel_rfl
theorem eq_els {t e : TypeId} (hu : Tryz.prog.underlying t = some (.slice e)) : lenO Tryz.prog [.els] [t] = some (.q (.int .i64 0)) := by simp [lenO, lenV, hu]
def RowK (B : Nat) (h : AH) (v : PV) (ts : List Tkn) : Prop := (ts = [] ∧ v = .els) ∨ (0 < ts.length ∧ ∃ R, v = .ow R (ts.length * 4) 0 ts.length ∧ R < B ∧ h.get R = some (.cells 125 4 false (flat Tkn.pv ts)))
theorem RowK.keep {B B' : Nat} {h h' : AH} {v : PV} {ts : List Tkn} (q : RowK B h v ts) (hn : B ≤ B') (hk : ∀ id, id < B → h'.get id = h.get id) : RowK B' h' v ts := by
  rcases q with q | ⟨h0, R, rfl, a2, a3⟩
  · exact .inl q
  · exact .inr ⟨h0, R, rfl, by omega, by rw [hk R a2]; exact a3⟩
theorem RowK.len {B : Nat} {h : AH} {v : PV} {ts : List Tkn} (q : RowK B h v ts) : lenO Tryz.prog [v] [121] = some (.q (.int .i64 ts.length)) := by
  rcases q with ⟨rfl, rfl⟩ | ⟨h0, R, rfl, a2, a3⟩
  · exact eq_els u121
  · exact len_ow u121
theorem RowK.push {B B' N : Nat} {h : AH} {v : PV} {ts : List Tkn} {X fr P : Nat} {fz : Bool} {ob0 : AO} {o : Tkn} (q : RowK B h v ts) (hfr : B ≤ fr) (hfr' : fr < B') (hX : h.get X = some (.cells 125 4 fz o.pv)) (hL : ts.length ≤ 1000000) (hP : B ≤ P) (hPf : P ≠ fr) (gP : h.get P = some ob0) (hN : N ≤ h.next) :
    (∃ v', appO Tryz.prog h fr [v, .ow X 4 0 1] [121, 121] = some (.q v') ∧ (RowK B' h v' (ts ++ [o]) ∧ h.get P = some ob0 ∧ N ≤ h.next)) ∨ ∃ v' id ob, appO Tryz.prog h fr [v, .ow X 4 0 1] [121, 121] = some (.w v' id ob) ∧ (RowK B' (h.set id ob) v' (ts ++ [o]) ∧ (h.set id ob).get P = some ob0 ∧ N ≤ (h.set id ob).next) := by
  have hc : Ac.cellsOf h 4 (.ow X 4 0 1) = some (o.pv, 1) := cellR_ow (sz := 4) (n := 1) hX rfl
  refine .inr ?_
  rcases q with ⟨rfl, rfl⟩ | ⟨h0, R, rfl, a2, a3⟩
  · exact ⟨_, fr, _, ap_new u121 i125 (by decide) (.inr rfl) hc (by decide) (by decide) (by decide), .inr ⟨by simp, fr, rfl, hfr', by rw [AH.get_set_same]; rfl⟩, by rw [AH.get_set_ne _ _ _ _ hPf]; exact gP, by rw [AH.next_set]; exact hN⟩
  · have := ap_more (P := Tryz.prog) (fr := fr) u121 i125 (by decide) (m := ts.length) a3 (tk_len ts) hc (by decide) (by omega) (by omega)
    exact ⟨_, R, _, this, .inr ⟨by simp, R, by simp, by omega, by rw [AH.get_set_same, flat_snoc]⟩, by rw [AH.get_set_ne _ _ _ _ (by omega)]; exact gP, by rw [AH.next_set]; exact hN⟩
def RToQ (s : List UInt8) (u : PV) : Prop := ∃ row n e, u = .tup [row, .int .i64 n, .int .i64 e] ∧ row.clean = true ∧ (e = 0 → (row = .els ∧ ¬ full s) ∨ ∃ ts, (ts ≠ [] ∧ HdL s ts ∧ (full s → ts.length = 1)) ∧ row = rowV Tkn.pv ts) ∧ (full s → e = 0)
def invTo (s : List UInt8) (k : Nat) (F : Fr) (h : AH) : Prop := ∃ (i : Int) (v : PV) (ts : List Tkn), (k : Int) + i = s.length ∧ 0 ≤ i ∧ i ≤ s.length ∧ F.at 0 = .str s ∧ F.at 5 = v ∧ F.at 6 = .int .i64 i ∧ RowK h.next h v ts ∧ HdL s ts ∧ ts.length ≤ 2048 ∧ (ts = [] → i = 0) ∧ (full s → ts = [] ∨ (ts.length = 1 ∧ i = s.length))
theorem bd121w (fr : Nat) (k : Int) (t : List UInt8) (x y : Int) : buildO Tryz.prog fr 121 1 [(0, .agg [.int .i64 k, .str t, .int .i64 x, .int .i64 y])] = some (.w (.ow fr 4 0 1) fr (.cells 125 4 false [.int .i64 k, .str t, .int .i64 x, .int .i64 y])) := bd121 fr k t x y
set_option maxHeartbeats 1000000 in
theorem rTokens_c (s : List UInt8) (hl : s.length ≤ 16384) : ∃ u, RToQ s u ∧ ∀ (h : AH) (fr : Nat), CR Tryz.prog (globM mx) md (.fn 143) [.str s] h fr (.val u) := by
  refine CR.someF (Q := RToQ s) (rs := [.tmp 2, .tmp 3, .tmp 4]) Tryz.func143 rfl rfl rfl rfl rfl rfl ?_
  have c0 : ¬ (16384 < (s.length : Int)) := by omega
  have no : ∀ (i e : Int) (h : AH), e ≠ 0 → ¬ full s → ∃ u h', frz 100 (oneOf [.nls, .int .i64 i, .int .i64 e]) h = some (u, h') ∧ RToQ s u := fun i e h he hf => ⟨.tup [.nls, .int .i64 i, .int .i64 e], h, frz_clean _ rfl, .nls, i, e, rfl, rfl, fun q => absurd q he, fun q => absurd q hf⟩
  simp -implicitDefEqProofs only [wpC_seq, rowsA, if_true, if_false, opnd, ofVal, ofVal1, layArgs, Nat.reduceAdd, reduceIte, Nat.reduceEqDiff, reduceCtorEq, rowsB, cellsG, Nat.reduceMul, len_str u9, c0, bd121_0]
  refine wpC_loop (invTo s) (k := s.length) ⟨0, .els, [], by omega, by omega, by omega, ?_, ?_, ?_, .inl ⟨rfl, rfl⟩, (fun t ts' e => by cases e), by simp, fun _ => rfl, fun _ => .inl rfl⟩ ?_
  · simp only [Fr.at_set, Nat.reduceEqDiff, reduceIte, reduceCtorEq]
  · simp only [Fr.at_set, Nat.reduceEqDiff, reduceIte, reduceCtorEq]
  · simp only [Fr.at_set, Nat.reduceEqDiff, reduceIte, reduceCtorEq]
  rintro k F h ⟨i, v, ts, ki, i0, i2, f0, f5, f6, hR, hH, hT, hE, hF⟩
  obtain ⟨vs, ⟨e, ok, rfl, e1, e2, e3, e4⟩, _, ks⟩ := rSkip_c (mx := mx) s hl (a := i) i0 i2
  cases ok with
  | false =>
    simp -implicitDefEqProofs only [wpC_seq, rowsA, if_true, if_false, opnd, ofVal, ofVal1, layArgs, Nat.reduceAdd, reduceIte, Nat.reduceEqDiff, reduceCtorEq, rowsB, cellsG, Nat.reduceMul, f0, f5, f6, goO_known ks, EndS_normal, EndS_ret, RS_some]
    refine no e 50 _ (by decide) fun q => ?_
    rcases hF q with q1 | ⟨_, q1⟩
    · have := hE q1
      subst this
      have := (e3 (by have := q.1; omega) q.2.1).1
      cases this
    · have := e4 rfl
      omega
  | true =>
  by_cases c1 : (s.length : Int) ≤ e
  · simp -implicitDefEqProofs only [wpC_seq, rowsA, if_true, if_false, opnd, ofVal, ofVal1, layArgs, Nat.reduceAdd, reduceIte, Nat.reduceEqDiff, reduceCtorEq, rowsB, cellsG, Nat.reduceMul, f0, f5, f6, goO_known ks, len_str u9, c1, EndS_normal, EndS_ret, RS_some]
    rw [show oneOf [v, .int .i64 0, .int .i64 0] = .tup [v, .int .i64 0, .int .i64 0] from rfl]
    have nf : ts = [] → ¬ full s := fun q1 q => by
      have := hE q1
      subst this
      have := (e3 (by have := q.1; omega) q.2.1).2
      have := q.1
      omega
    rcases hR with ⟨rfl, rfl⟩ | ⟨h0, R, rfl, a2, a3⟩
    · exact ⟨_, _, frz_clean _ rfl, .els, 0, 0, rfl, rfl, fun _ => .inl ⟨rfl, nf rfl⟩, fun _ => rfl⟩
    · refine ⟨_, _, frz_tks (h := _) (by simp only [AH.get_up]; exact a3) (tk_len ts) (flat_clean (fun _ => rfl) ts), rowV Tkn.pv ts, 0, 0, rfl, rfl, fun _ => .inr ⟨ts, ⟨List.length_pos_iff.1 h0, hH, fun q => ?_⟩, rfl⟩, fun _ => rfl⟩
      rcases hF q with q1 | ⟨q1, _⟩
      · exact absurd q (nf q1)
      · exact q1
  have el := hR.len
  by_cases c2 : (2048 : Int) ≤ (ts.length : Int)
  · simp -implicitDefEqProofs only [wpC_seq, rowsA, if_true, if_false, opnd, ofVal, ofVal1, layArgs, Nat.reduceAdd, reduceIte, Nat.reduceEqDiff, reduceCtorEq, rowsB, cellsG, Nat.reduceMul, f0, f5, f6, goO_known ks, len_str u9, c1, el, c2, EndS_normal, EndS_ret, RS_some]
    refine no e 53 _ (by decide) fun q => ?_
    rcases hF q with q1 | ⟨q1, _⟩
    · rw [q1] at c2
      exact absurd c2 (by decide)
    · omega
  obtain ⟨vo, ⟨k', t, x, y, er, rfl, o1, o2⟩, _, ko⟩ := rOne_c (mx := mx) s hl (a := e) (by omega) (by omega)
  have h20 : ts = [] → isLet (byteAt s 0) → 0 < s.length → e = 0 := fun q1 q2 q3 => by
    have := hE q1
    subst this
    exact (e3 (by omega) q2).2
  cases c3 : decide (er = 0) with
  | false =>
    simp -implicitDefEqProofs only [wpC_seq, rowsA, if_true, if_false, opnd, ofVal, ofVal1, layArgs, Nat.reduceAdd, reduceIte, Nat.reduceEqDiff, reduceCtorEq, rowsB, cellsG, Nat.reduceMul, f0, f5, f6, goO_known ks, goO_known ko, len_str u9, c1, el, c2, al125, sz125, st125', c3, EndS_normal, EndS_ret, RS_some]
    refine no e er _ (of_decide_eq_false c3) fun q => ?_
    rcases hF q with q1 | ⟨_, q1⟩
    · have e0 := h20 q1 q.2.1 q.1
      subst e0
      exact of_decide_eq_false c3 (o2 q.2.1)
    · omega
  | true =>
    obtain ⟨rfl, o3, o4, tp⟩ := o1 (of_decide_eq_true c3)
    simp -implicitDefEqProofs only [wpC_seq, rowsA, if_true, if_false, opnd, ofVal, ofVal1, layArgs, Nat.reduceAdd, reduceIte, Nat.reduceEqDiff, reduceCtorEq, rowsB, cellsG, Nat.reduceMul, f0, f5, f6, goO_known ks, goO_known ko, len_str u9, c1, el, c2, al125, sz125, st125', c3, ld125, bd121w]
    refine goO_rw (fun v' h' => RowK (h.next + 35) h' v' (ts ++ [⟨k', t, x, y⟩]) ∧ (h'.get (h.next + 8 + 2 + 2 + 4 + 3 + 6) = some (.cells 125 0 false [.int .i64 k', .str t, .int .i64 x, .int .i64 y]) ∧ h.next + 35 ≤ h'.next)) (RowK.push (B := h.next) (hR.keep (Nat.le_refl _) fun id h2 => ?_) (by omega) (by omega) (by simp only [AH.get_set, if_true]; rfl) (by omega) (by omega) (by omega) ?_ (by simp only [AH.next_set, AH.next_up]; omega)) ?_
    · simp only [AH.get_set, AH.get_up]
      repeat rw [if_neg (by omega)]
    · simp only [AH.get_set, AH.get_up]
      rw [if_neg (by omega)]
      simp only [if_true]
    intro v' h' hq
    have hR' := hq.1
    have gP := hq.2.1
    have nn := hq.2.2
    clear hq
    simp -implicitDefEqProofs only [wpC_seq, rowsA, if_true, if_false, opnd, ofVal, ofVal1, layArgs, Nat.reduceAdd, reduceIte, Nat.reduceEqDiff, reduceCtorEq, rowsB, cellsG, Nat.reduceMul, gP, fda_ptr o125_3, loadO_one ag3 sz3]
    refine ⟨(s.length - y).toNat, by omega, y, v', ts ++ [⟨k', t, x, y⟩], by omega, by omega, by omega, ?_, ?_, ?_, ?_, ?_, ?_, ?_, ?_⟩
    · simp only [Fr.at_set, Nat.reduceEqDiff, reduceIte, f0]
    · simp only [Fr.at_set, Nat.reduceEqDiff, reduceIte]
    · simp only [Fr.at_set, Nat.reduceEqDiff, reduceIte]
    · exact hR'.keep (by simp only [AH.next_up]; omega) fun id _ => by simp only [AH.get_up]
    · intro t0 ts' e
      cases ts with
      | nil =>
        cases e
        exact ⟨tp, by show 0 ≤ x; omega, by show x < _; omega, fun q => h20 rfl q (by omega)⟩
      | cons t1 ts1 =>
        rw [List.cons_append] at e
        cases e
        exact hH _ _ rfl
    · rw [List.length_append, List.length_singleton]; omega
    · intro q
      exact absurd q (by simp)
    · intro q
      refine .inr ?_
      rcases hF q with q1 | ⟨_, q1⟩
      · have e0 := h20 q1 q.2.1 q.1
        subst e0
        have := (tp.1 q.2.1).2
        have := q.2.2
        rw [q1]
        exact ⟨rfl, by omega⟩
      · omega
end Go.Proofs.YtcbngkmmmfaaoaaGreatDoor
namespace Go.Proofs.YtcbngkmmmfaaoaaGreatDoor
open Go.RowKit Go.Lib Go.Ac
set_option linter.unusedSimpArgs false
set_option maxRecDepth 100000
variable {mx : Int}
theorem rToks_c (s : List UInt8) (hs : s.length ≤ 9223372036854775807) : ∃ u, ((s.length ≤ 16384 ∧ RToQ s u) ∨ (¬ s.length ≤ 16384 ∧ u = .tup [.nls, .int .i64 0, .int .i64 54])) ∧ ∀ (h : AH) (fr : Nat), CR Tryz.prog (globM mx) md (.fn 143) [.str s] h fr (.val u) := by
  by_cases c1 : s.length ≤ 16384
  · obtain ⟨u, hu, hc⟩ := rTokens_c (mx := mx) s c1
    exact ⟨u, .inl ⟨c1, hu⟩, hc⟩
  · have c0 : (16384 : Int) < (s.length : Int) := by omega
    refine ⟨_, .inr ⟨c1, rfl⟩, fun h fr => ?_⟩
    refine CR.plain (rs := [.tmp 2, .tmp 3, .tmp 4]) Tryz.func143 rfl rfl rfl rfl rfl rfl rfl ?_ h fr
    simp -implicitDefEqProofs only [wpC_seq, rowsA, if_true, if_false, opnd, ofVal, ofVal1, layArgs, Nat.reduceAdd, reduceIte, Nat.reduceEqDiff, reduceCtorEq, rowsB, cellsG, Nat.reduceMul, len_str u9, c0]
    rfl
theorem rOne6_c (s : List UInt8) (hs : s.length ≤ 9223372036854775807) : ∃ z, (z = 1 ↔ nameOk s) ∧ ∀ (h : AH) (fr : Nat), CR Tryz.prog (globM mx) md (.fn 130) [.str s] h fr (.val (.int .i64 z)) := by
  have no : ∀ {X : Prop}, ¬ full s → X → ((-1 : Int) = 1 ↔ nameOk s) := fun q _ => ⟨fun e => absurd e (by decide), fun e => absurd e.2 q⟩
  obtain ⟨u, ⟨hle, row, n, e, rfl, hcl, hr, he⟩ | ⟨hle, rfl⟩, hc⟩ := rToks_c (mx := mx) s hs
  rotate_left
  · refine ⟨-1, ⟨fun e => absurd e (by decide), fun e => absurd e.1 hle⟩, fun h fr => CR.plain (rs := [.tmp 2]) Tryz.func130 rfl rfl rfl rfl rfl rfl rfl ?_ h fr⟩
    have c1 : ¬ ((54 : Int) = 0) := by decide
    simp -implicitDefEqProofs only [wpC_seq, rowsA, if_true, if_false, opnd, ofVal, ofVal1, layArgs, Nat.reduceAdd, reduceIte, Nat.reduceEqDiff, reduceCtorEq, rowsB, cellsG, Nat.reduceMul, goO_known hc, c1]
  by_cases c1 : e = 0
  · rcases hr c1 with ⟨rfl, hnf⟩ | ⟨ts, ⟨hts, hh, h1⟩, rfl⟩
    · refine ⟨-1, no hnf trivial, fun h fr => CR.plain (rs := [.tmp 2]) Tryz.func130 rfl rfl rfl rfl rfl rfl rfl ?_ h fr⟩
      simp -implicitDefEqProofs only [wpC_seq, rowsA, if_true, if_false, opnd, ofVal, ofVal1, layArgs, Nat.reduceAdd, reduceIte, Nat.reduceEqDiff, reduceCtorEq, rowsB, cellsG, Nat.reduceMul, goO_known hc, c1, eq_els u121, ne01]
    · by_cases c2 : (ts.length : Int) = 1
      · obtain ⟨o, rfl⟩ : ∃ o, ts = [o] := by
          match ts, c2 with
          | [o], _ => exact ⟨o, rfl⟩
          | _ :: _ :: _, q => simp only [List.length_cons] at q; omega
          | [], _ => exact absurd rfl hts
        obtain ⟨⟨tp1, tp2⟩, x0, x1, x2⟩ := hh _ _ rfl
        cases c3 : decide (o.x = 0) with
        | false =>
          refine ⟨-1, no (fun q => of_decide_eq_false c3 (x2 q.2.1)) trivial, fun h fr => CR.plain (rs := [.tmp 2]) Tryz.func130 rfl rfl rfl rfl rfl rfl rfl ?_ h fr⟩
          simp -implicitDefEqProofs only [wpC_seq, rowsA, if_true, if_false, opnd, ofVal, ofVal1, layArgs, Nat.reduceAdd, reduceIte, Nat.reduceEqDiff, reduceCtorEq, rowsB, cellsG, Nat.reduceMul, goO_known hc, c1, lenT, ldT, ne01, eq11, fda_rop o125_0, fda_rop o125_2, fda_rop o125_3, loadO_one ag3 sz3, len_str u9, c3]
        | true =>
          have ex : o.x = 0 := of_decide_eq_true c3
          rw [ex] at tp1 tp2 x1
          cases c4 : decide (o.y = (s.length : Int)) with
          | false =>
            have c4' := of_decide_eq_false c4
            refine ⟨-1, no (fun q => by have q1 := (tp1 q.2.1).2; have q2 := q.2.2; omega) trivial, fun h fr => CR.plain (rs := [.tmp 2]) Tryz.func130 rfl rfl rfl rfl rfl rfl rfl ?_ h fr⟩
            simp -implicitDefEqProofs only [wpC_seq, rowsA, if_true, if_false, opnd, ofVal, ofVal1, layArgs, Nat.reduceAdd, reduceIte, Nat.reduceEqDiff, reduceCtorEq, rowsB, cellsG, Nat.reduceMul, goO_known hc, c1, lenT, ldT, ne01, eq11, fda_rop o125_0, fda_rop o125_2, fda_rop o125_3, loadO_one ag3 sz3, len_str u9, c3, c4]
          | true =>
            have c4' := of_decide_eq_true c4
            have hk : o.k = 1 ↔ nameOk s := by
              refine ⟨fun q => ⟨hle, by omega, tp2 q, ?_⟩, fun q => (tp1 q.2.2.1).1⟩
              have q1 := (tp1 (tp2 q)).2
              omega
            refine ⟨o.k, hk, fun h fr => CR.plain (rs := [.tmp 2]) Tryz.func130 rfl rfl rfl rfl rfl rfl rfl ?_ h fr⟩
            simp -implicitDefEqProofs only [wpC_seq, rowsA, if_true, if_false, opnd, ofVal, ofVal1, layArgs, Nat.reduceAdd, reduceIte, Nat.reduceEqDiff, reduceCtorEq, rowsB, cellsG, Nat.reduceMul, goO_known hc, c1, lenT, ldT, ne01, eq11, fda_rop o125_0, fda_rop o125_2, fda_rop o125_3, loadO_one ag3 sz3, len_str u9, c3, c4]
      · refine ⟨-1, no (fun q => c2 (by have := h1 q; omega)) trivial, fun h fr => CR.plain (rs := [.tmp 2]) Tryz.func130 rfl rfl rfl rfl rfl rfl rfl ?_ h fr⟩
        simp -implicitDefEqProofs only [wpC_seq, rowsA, if_true, if_false, opnd, ofVal, ofVal1, layArgs, Nat.reduceAdd, reduceIte, Nat.reduceEqDiff, reduceCtorEq, rowsB, cellsG, Nat.reduceMul, goO_known hc, c1, rowV, len_ro u121, c2]
  · refine ⟨-1, no (fun q => c1 (he q)) trivial, fun h fr => CR.plain (rs := [.tmp 2]) Tryz.func130 rfl rfl rfl rfl rfl rfl rfl ?_ h fr⟩
    simp -implicitDefEqProofs only [wpC_seq, rowsA, if_true, if_false, opnd, ofVal, ofVal1, layArgs, Nat.reduceAdd, reduceIte, Nat.reduceEqDiff, reduceCtorEq, rowsB, cellsG, Nat.reduceMul, goO_known hc, c1]
theorem rName_c (s : List UInt8) (hs : s.length ≤ 9223372036854775807) (h : AH) (fr : Nat) : CR Tryz.prog (globM mx) md (.fn 123) [.str s] h fr (.val (.bool (nameB mx s))) := by
  obtain ⟨z, hz, hc⟩ := rOne6_c (mx := mx) s hs
  unfold nameB
  by_cases c1 : z = 1
  · rw [decide_eq_true (hz.1 c1)]
    refine CR.plain (rs := [.tmp 2]) Tryz.func123 rfl rfl rfl rfl rfl rfl rfl ?_ h fr
    simp -implicitDefEqProofs only [wpC_seq, rowsA, if_true, if_false, opnd, ofVal, ofVal1, layArgs, Nat.reduceAdd, reduceIte, Nat.reduceEqDiff, reduceCtorEq, rowsB, cellsG, Nat.reduceMul, goO_known hc, c1, eq11]
  · rw [decide_eq_false fun q => c1 (hz.2 q)]
    refine CR.plain (rs := [.tmp 2]) Tryz.func123 rfl rfl rfl rfl rfl rfl rfl ?_ h fr
    simp -implicitDefEqProofs only [wpC_seq, rowsA, if_true, if_false, opnd, ofVal, ofVal1, layArgs, Nat.reduceAdd, reduceIte, Nat.reduceEqDiff, reduceCtorEq, rowsB, cellsG, Nat.reduceMul, goO_known hc, c1]
end Go.Proofs.YtcbngkmmmfaaoaaGreatDoor
namespace Go.Proofs.YtcbngkmmmfaaoaaGreatDoor
open Go.RowKit Go.Lib Go.Ac
set_option linter.unusedSimpArgs false
set_option maxRecDepth 100000
variable {mx : Int}
theorem begins9_c (s p : List UInt8) (hs : s.length ≤ 9223372036854775807) (hp : p.length ≤ 100) (h : AH) (fr : Nat) : CR Tryz.prog (globM mx) md (.fn 121) [.str s, .str p] h fr (.val (.bool (hasP s p))) := by
  refine CR.plain (rs := [.tmp 4]) Tryz.func121 rfl rfl rfl rfl rfl rfl rfl ?_ h fr
  unfold hasP
  by_cases c1 : (p.length : Int) ≤ (s.length : Int)
  · have c2 : p.length ≤ s.length := by omega
    simp -implicitDefEqProofs only [wpC_seq, rowsA, if_true, if_false, opnd, ofVal, ofVal1, layArgs, Nat.reduceAdd, reduceIte, Nat.reduceEqDiff, reduceCtorEq, rowsB, cellsG, Nat.reduceMul, len_str u9, c1, slice_to (l := s) (k := .i64) (i := (p.length : Int)) u9 (by omega) (by omega), Int.toNat_natCast, c2, Bool.true_and]
  · have c2 : ¬ p.length ≤ s.length := by omega
    simp -implicitDefEqProofs only [wpC_seq, rowsA, if_true, if_false, opnd, ofVal, ofVal1, layArgs, Nat.reduceAdd, reduceIte, Nat.reduceEqDiff, reduceCtorEq, rowsB, cellsG, Nat.reduceMul, len_str u9, c1, c2, Bool.false_and]
theorem ends9_c (s p : List UInt8) (hs : s.length ≤ 9223372036854775807) (hp : p.length ≤ 100) (h : AH) (fr : Nat) : CR Tryz.prog (globM mx) md (.fn 122) [.str s, .str p] h fr (.val (.bool (endsB s p))) := by
  refine CR.plain (rs := [.tmp 4]) Tryz.func122 rfl rfl rfl rfl rfl rfl rfl ?_ h fr
  by_cases c1 : (p.length : Int) ≤ (s.length : Int)
  · have c2 : p.length ≤ s.length := by omega
    have w := IntWalk.i64_in ((s.length : Int) - (p.length : Int)) (by omega)
    have e : ((s.length : Int) - (p.length : Int)).toNat = s.length - p.length := by omega
    simp -implicitDefEqProofs only [wpC_seq, rowsA, if_true, if_false, opnd, ofVal, ofVal1, layArgs, Nat.reduceAdd, reduceIte, Nat.reduceEqDiff, reduceCtorEq, rowsB, cellsG, Nat.reduceMul, len_str u9, c1, w, slice_from (k := .i64) (l := s) (i := (s.length : Int) - (p.length : Int)) u9 (by omega) (by omega), e, endsB, c2, Bool.true_and]
  · have c2 : ¬ (p.length ≤ s.length) := by omega
    simp -implicitDefEqProofs only [wpC_seq, rowsA, if_true, if_false, opnd, ofVal, ofVal1, layArgs, Nat.reduceAdd, reduceIte, Nat.reduceEqDiff, reduceCtorEq, rowsB, cellsG, Nat.reduceMul, len_str u9, c1, endsB, c2, Bool.false_and]
def nm9 (mx : Int) (s : List UInt8) : Bool := nameB mx s && decide (s.length ≤ 24) && !(hasP s [95, 95])
theorem nmB_9 (s : List UInt8) (L : List (List UInt8)) : nmB mx s L = (nm9 mx s && !(memB s L)) := rfl
theorem name9_c (s : List UInt8) (hs : s.length ≤ 9223372036854775807) (h : AH) (fr : Nat) : CR Tryz.prog (globM mx) md (.fn 102) [.str s] h fr (.val (.bool (nm9 mx s))) := by
  refine CR.plain (rs := [.tmp 2]) Tryz.func102 rfl rfl rfl rfl rfl rfl rfl ?_ h fr
  unfold nm9
  cases c1 : nameB mx s with
  | false => simp -implicitDefEqProofs only [wpC_seq, rowsA, if_true, if_false, opnd, ofVal, ofVal1, layArgs, Nat.reduceAdd, reduceIte, Nat.reduceEqDiff, reduceCtorEq, rowsB, cellsG, Nat.reduceMul, goO_known (rName_c s hs), c1, Bool.false_and]
  | true =>
    by_cases c2 : (s.length : Int) ≤ 24
    · have c2' : s.length ≤ 24 := by omega
      by_cases c3 : (2 : Int) ≤ (s.length : Int)
      · have c3' : (decide (([95, 95] : List UInt8).length ≤ s.length)) = true := decide_eq_true (by simp only [List.length_cons, List.length_nil]; omega)
        simp -implicitDefEqProofs only [wpC_seq, rowsA, if_true, if_false, opnd, ofVal, ofVal1, layArgs, Nat.reduceAdd, reduceIte, Nat.reduceEqDiff, reduceCtorEq, rowsB, cellsG, Nat.reduceMul, goO_known (rName_c s hs), c1, len_str u9, c2, c2', c3, slice_to (l := s) (k := .i64) (i := 2) u9 (by omega) (by omega), Bool.true_and]
        simp only [hasP, c3', Bool.true_and]
        rfl
      · have c3' : (decide (([95, 95] : List UInt8).length ≤ s.length)) = false := decide_eq_false (by simp only [List.length_cons, List.length_nil]; omega)
        simp -implicitDefEqProofs only [wpC_seq, rowsA, if_true, if_false, opnd, ofVal, ofVal1, layArgs, Nat.reduceAdd, reduceIte, Nat.reduceEqDiff, reduceCtorEq, rowsB, cellsG, Nat.reduceMul, goO_known (rName_c s hs), c1, len_str u9, c2, c2', c3, Bool.true_and]
        simp only [hasP, c3', Bool.false_and, Bool.not_false]
    · have c2' : ¬ s.length ≤ 24 := by omega
      simp -implicitDefEqProofs only [wpC_seq, rowsA, if_true, if_false, opnd, ofVal, ofVal1, layArgs, Nat.reduceAdd, reduceIte, Nat.reduceEqDiff, reduceCtorEq, rowsB, cellsG, Nat.reduceMul, goO_known (rName_c s hs), c1, len_str u9, c2, c2', Bool.true_and, Bool.false_and, Bool.and_false]
theorem memB_or (s : List UInt8) : ∀ L : List (List UInt8), memB s L = L.any fun x => decide (s = x) := fun L => by
  unfold memB
  rw [Bool.eq_iff_iff, decide_eq_true_eq, List.any_eq_true]
  have : ∀ (L : List (List UInt8)) (k : Nat), 0 ≤ idx (fun x => decide (s = x)) L k ↔ ∃ x ∈ L, decide (s = x) = true := by
    intro L
    induction L with
    | nil => intro k; simp [idx]
    | cons x L ih =>
      intro k
      rw [idx]
      split
      · rename_i h
        simp only [List.mem_cons, exists_eq_or_imp, h, true_or, iff_true]
        omega
      · rename_i h
        rw [ih (k + 1)]
        simp only [List.mem_cons, exists_eq_or_imp, h]
        simp
  exact this L 0
def own9 (mx : Int) (s : List UInt8) : Bool := !(scalar s) && (!(memB s notL) && (nm9 mx s && (!(hasP s [65, 100, 100]) && (!(hasP s [80, 97, 116, 99, 104]) && (!(endsB s [70, 105, 108, 116, 101, 114]) && (!(endsB s [79, 114, 100, 101, 114]) && !(endsB s [79, 114, 100, 101, 114, 97, 98, 108, 101])))))))
theorem ownB_9 (s : List UInt8) : ownB mx s = own9 mx s := by
  unfold ownB own9
  rw [nmB_9]
  simp only [frontL, tailL, List.all_cons, List.all_nil, Bool.and_true]
  cases scalar s <;> cases memB s notL <;> cases nm9 mx s <;> cases hasP s [65, 100, 100] <;> cases hasP s [80, 97, 116, 99, 104] <;> cases endsB s [70, 105, 108, 116, 101, 114] <;> cases endsB s [79, 114, 100, 101, 114] <;> cases endsB s [79, 114, 100, 101, 114, 97, 98, 108, 101] <;> rfl
theorem own9_c (s : List UInt8) (hs : s.length ≤ 9223372036854775807) (h : AH) (fr : Nat) : CR Tryz.prog (globM mx) md (.fn 101) [.str s] h fr (.val (.bool (ownB mx s))) := by
  rw [ownB_9]
  refine CR.plain (rs := [.tmp 2]) Tryz.func101 rfl rfl rfl rfl rfl rfl rfl ?_ h fr
  have em : memB s notL = (decide (s = [81, 117, 101, 114, 121]) || (decide (s = [77, 117, 116, 97, 116, 105, 111, 110]) || (decide (s = [83, 117, 98, 115, 99, 114, 105, 112, 116, 105, 111, 110]) || decide (s = [73, 68])))) := by
    rw [memB_or]
    simp only [notL, List.any_cons, List.any_nil, Bool.or_false]
  unfold own9
  rw [em]
  have kn := name9_c (mx := mx) s hs
  have kb := fun p hp => begins9_c (mx := mx) s p hs hp
  have ke := fun p hp => ends9_c (mx := mx) s p hs hp
  have kA := kb [65, 100, 100] (by simp)
  have kP := kb [80, 97, 116, 99, 104] (by simp)
  have kF := ke [70, 105, 108, 116, 101, 114] (by simp)
  have kO := ke [79, 114, 100, 101, 114] (by simp)
  have kR := ke [79, 114, 100, 101, 114, 97, 98, 108, 101] (by simp)
  clear kb ke em
  cases c0 : scalar s with
  | true => simp -implicitDefEqProofs only [wpC_seq, rowsA, if_true, if_false, opnd, ofVal, ofVal1, layArgs, Nat.reduceAdd, reduceIte, Nat.reduceEqDiff, reduceCtorEq, rowsB, cellsG, Nat.reduceMul, goO_known (refScalar_c s), c0, Bool.not_true, Bool.not_false, Bool.true_and, Bool.false_and, Bool.and_true, Bool.and_false, Bool.true_or, Bool.false_or, Bool.or_false, Bool.or_true]
  | false =>
  cases c1 : decide (s = [81, 117, 101, 114, 121]) with
  | true => simp -implicitDefEqProofs only [wpC_seq, rowsA, if_true, if_false, opnd, ofVal, ofVal1, layArgs, Nat.reduceAdd, reduceIte, Nat.reduceEqDiff, reduceCtorEq, rowsB, cellsG, Nat.reduceMul, goO_known (refScalar_c s), c0, c1, Bool.not_true, Bool.not_false, Bool.true_and, Bool.false_and, Bool.and_true, Bool.and_false, Bool.true_or, Bool.false_or, Bool.or_false, Bool.or_true]
  | false =>
  cases c2 : decide (s = [77, 117, 116, 97, 116, 105, 111, 110]) with
  | true => simp -implicitDefEqProofs only [wpC_seq, rowsA, if_true, if_false, opnd, ofVal, ofVal1, layArgs, Nat.reduceAdd, reduceIte, Nat.reduceEqDiff, reduceCtorEq, rowsB, cellsG, Nat.reduceMul, goO_known (refScalar_c s), c0, c1, c2, Bool.not_true, Bool.not_false, Bool.true_and, Bool.false_and, Bool.and_true, Bool.and_false, Bool.true_or, Bool.false_or, Bool.or_false, Bool.or_true]
  | false =>
  cases c3 : decide (s = [83, 117, 98, 115, 99, 114, 105, 112, 116, 105, 111, 110]) with
  | true => simp -implicitDefEqProofs only [wpC_seq, rowsA, if_true, if_false, opnd, ofVal, ofVal1, layArgs, Nat.reduceAdd, reduceIte, Nat.reduceEqDiff, reduceCtorEq, rowsB, cellsG, Nat.reduceMul, goO_known (refScalar_c s), c0, c1, c2, c3, Bool.not_true, Bool.not_false, Bool.true_and, Bool.false_and, Bool.and_true, Bool.and_false, Bool.true_or, Bool.false_or, Bool.or_false, Bool.or_true]
  | false =>
  cases c4 : decide (s = [73, 68]) with
  | true => simp -implicitDefEqProofs only [wpC_seq, rowsA, if_true, if_false, opnd, ofVal, ofVal1, layArgs, Nat.reduceAdd, reduceIte, Nat.reduceEqDiff, reduceCtorEq, rowsB, cellsG, Nat.reduceMul, goO_known (refScalar_c s), c0, c1, c2, c3, c4, Bool.not_true, Bool.not_false, Bool.true_and, Bool.false_and, Bool.and_true, Bool.and_false, Bool.true_or, Bool.false_or, Bool.or_false, Bool.or_true]
  | false =>
  cases c5 : nm9 mx s with
  | false => simp -implicitDefEqProofs only [wpC_seq, rowsA, if_true, if_false, opnd, ofVal, ofVal1, layArgs, Nat.reduceAdd, reduceIte, Nat.reduceEqDiff, reduceCtorEq, rowsB, cellsG, Nat.reduceMul, goO_known (refScalar_c s), c0, c1, c2, c3, c4, c5, goO_known kn, Bool.not_true, Bool.not_false, Bool.true_and, Bool.false_and, Bool.and_true, Bool.and_false, Bool.true_or, Bool.false_or, Bool.or_false, Bool.or_true]
  | true =>
  cases c6 : hasP s [65, 100, 100] with
  | true => simp -implicitDefEqProofs only [wpC_seq, rowsA, if_true, if_false, opnd, ofVal, ofVal1, layArgs, Nat.reduceAdd, reduceIte, Nat.reduceEqDiff, reduceCtorEq, rowsB, cellsG, Nat.reduceMul, goO_known (refScalar_c s), c0, c1, c2, c3, c4, c5, goO_known kn, c6, goO_known kA, Bool.not_true, Bool.not_false, Bool.true_and, Bool.false_and, Bool.and_true, Bool.and_false, Bool.true_or, Bool.false_or, Bool.or_false, Bool.or_true]
  | false =>
  cases c7 : hasP s [80, 97, 116, 99, 104] with
  | true => simp -implicitDefEqProofs only [wpC_seq, rowsA, if_true, if_false, opnd, ofVal, ofVal1, layArgs, Nat.reduceAdd, reduceIte, Nat.reduceEqDiff, reduceCtorEq, rowsB, cellsG, Nat.reduceMul, goO_known (refScalar_c s), c0, c1, c2, c3, c4, c5, goO_known kn, c6, goO_known kA, c7, goO_known kP, Bool.not_true, Bool.not_false, Bool.true_and, Bool.false_and, Bool.and_true, Bool.and_false, Bool.true_or, Bool.false_or, Bool.or_false, Bool.or_true]
  | false =>
  cases c8 : endsB s [70, 105, 108, 116, 101, 114] with
  | true => simp -implicitDefEqProofs only [wpC_seq, rowsA, if_true, if_false, opnd, ofVal, ofVal1, layArgs, Nat.reduceAdd, reduceIte, Nat.reduceEqDiff, reduceCtorEq, rowsB, cellsG, Nat.reduceMul, goO_known (refScalar_c s), c0, c1, c2, c3, c4, c5, goO_known kn, c6, goO_known kA, c7, goO_known kP, c8, goO_known kF, Bool.not_true, Bool.not_false, Bool.true_and, Bool.false_and, Bool.and_true, Bool.and_false, Bool.true_or, Bool.false_or, Bool.or_false, Bool.or_true]
  | false =>
  cases c9 : endsB s [79, 114, 100, 101, 114] with
  | true => simp -implicitDefEqProofs only [wpC_seq, rowsA, if_true, if_false, opnd, ofVal, ofVal1, layArgs, Nat.reduceAdd, reduceIte, Nat.reduceEqDiff, reduceCtorEq, rowsB, cellsG, Nat.reduceMul, goO_known (refScalar_c s), c0, c1, c2, c3, c4, c5, goO_known kn, c6, goO_known kA, c7, goO_known kP, c8, goO_known kF, c9, goO_known kO, Bool.not_true, Bool.not_false, Bool.true_and, Bool.false_and, Bool.and_true, Bool.and_false, Bool.true_or, Bool.false_or, Bool.or_false, Bool.or_true]
  | false =>
  simp -implicitDefEqProofs only [wpC_seq, rowsA, if_true, if_false, opnd, ofVal, ofVal1, layArgs, Nat.reduceAdd, reduceIte, Nat.reduceEqDiff, reduceCtorEq, rowsB, cellsG, Nat.reduceMul, goO_known (refScalar_c s), c0, c1, c2, c3, c4, c5, goO_known kn, c6, goO_known kA, c7, goO_known kP, c8, goO_known kF, c9, goO_known kO, goO_known kR, Bool.not_true, Bool.not_false, Bool.true_and, Bool.false_and, Bool.and_true, Bool.and_false, Bool.true_or, Bool.false_or, Bool.or_false, Bool.or_true]
theorem ix43u {l : List (List UInt8)} {i : Int} {o : List UInt8} (h0 : 0 ≤ i) (ho : l[i.toNat]? = some o) : ∃ r, ∀ h, idaO Tryz.prog h 43 (rowV strV l) (.int .i64 i) = some (.q (.rop (.str o :: r))) := by
  obtain ⟨r, hr⟩ := flat_drop (f := strV) (z := 1) (fun _ => rfl) l i.toNat o ho
  have := (List.getElem?_eq_some_iff.1 ho).1
  exact ⟨r, fun h => by rw [show PV.str o :: r = strV o ++ r from rfl, ← hr]; exact ida_roN u43 sz9 h0 (by omega)⟩
def inv91 (L : List (List UInt8)) (k : Nat) (F : Fr) (_h : AH) : Prop := ∃ i : Nat, k + i = L.length ∧ F.at 0 = rowV strV L ∧ F.at 3 = .int .i64 i ∧ (L.take i).Nodup
def inv92 (L : List (List UInt8)) (i : Nat) (k : Nat) (F : Fr) (_h : AH) : Prop := ∃ j : Nat, k + j = i ∧ F.at 0 = rowV strV L ∧ F.at 3 = .int .i64 i ∧ F.at 4 = .int .i64 j ∧ (L.take i).Nodup ∧ ∀ x ∈ L.take j, L[i]? ≠ some x
theorem unlike9_c {L : List (List UInt8)} (hl : L.length ≤ 1000000000) (h : AH) (fr : Nat) : CR Tryz.prog (globM mx) md (.fn 103) [rowV strV L] h fr (.val (.bool (decide L.Nodup))) := by
  refine CR.plain (rs := [.tmp 2]) Tryz.func103 rfl rfl rfl rfl rfl rfl rfl ?_ h fr
  simp -implicitDefEqProofs only [wpC_seq, rowsA, if_true, if_false, opnd, ofVal, ofVal1, layArgs, Nat.reduceAdd, reduceIte, Nat.reduceEqDiff, reduceCtorEq, rowsB, cellsG, Nat.reduceMul]
  refine wpC_loop (inv91 L) (k := L.length) ⟨0, by omega, ?_, ?_, by simp⟩ ?_
  · simp only [Fr.at_set, Nat.reduceEqDiff, reduceIte]
  · simp only [Fr.at_set, Nat.reduceEqDiff, reduceIte]; rfl
  rintro k F h ⟨i, ki, f0, f3, nd⟩
  cases k with
  | zero =>
    have c2 : ¬ ((i : Int) < (L.length : Int)) := by omega
    rw [List.take_of_length_le (by omega)] at nd
    simp -implicitDefEqProofs only [wpC_seq, rowsA, if_true, if_false, opnd, ofVal, ofVal1, layArgs, Nat.reduceAdd, reduceIte, Nat.reduceEqDiff, reduceCtorEq, rowsB, cellsG, Nat.reduceMul, f0, f3, ln43, c2, nd, decide_true]
  | succ k =>
    have c2 : (i : Int) < (L.length : Int) := by omega
    have hi : i < L.length := by omega
    have w := IntWalk.i64_in ((i : Int) + 1) (by omega)
    obtain ⟨r, hr⟩ := ix43u (l := L) (i := (i : Int)) (by omega) (by rw [Int.toNat_natCast]; exact List.getElem?_eq_getElem hi)
    simp -implicitDefEqProofs only [wpC_seq, rowsA, if_true, if_false, opnd, ofVal, ofVal1, layArgs, Nat.reduceAdd, reduceIte, Nat.reduceEqDiff, reduceCtorEq, rowsB, cellsG, Nat.reduceMul, f0, f3, ln43, c2]
    refine wpC_loop (inv92 L i) (k := i) ⟨0, by omega, ?_, ?_, ?_, nd, (fun x hx => by simp at hx)⟩ ?_
    · simp only [Fr.at_set, Nat.reduceEqDiff, reduceIte, f0]
    · simp only [Fr.at_set, Nat.reduceEqDiff, reduceIte, f3]
    · simp only [Fr.at_set, Nat.reduceEqDiff, reduceIte]; rfl
    clear f0 f3
    rintro k2 F h ⟨j, kj, f0, f3, f4, nd, ne⟩
    cases k2 with
    | zero =>
      have c3 : ¬ ((j : Int) < (i : Int)) := by omega
      obtain rfl : j = i := by omega
      simp -implicitDefEqProofs only [wpC_seq, rowsA, if_true, if_false, opnd, ofVal, ofVal1, layArgs, Nat.reduceAdd, reduceIte, Nat.reduceEqDiff, reduceCtorEq, rowsB, cellsG, Nat.reduceMul, f0, f3, f4, c3, w]
      refine ⟨k, by omega, j + 1, by omega, ?_, ?_, ?_⟩
      · simp only [Fr.at_set, Nat.reduceEqDiff, reduceIte, f0]
      · simp only [Fr.at_set, Nat.reduceEqDiff, reduceIte]; rfl
      · rw [List.take_add_one, List.getElem?_eq_getElem hi, Option.toList_some]
        refine List.nodup_append.2 ⟨nd, by simp, fun x hx y hy e => ?_⟩
        rw [List.mem_singleton.1 hy] at e
        exact ne x hx (by rw [List.getElem?_eq_getElem hi, e])
    | succ k2 =>
      have c3 : (j : Int) < (i : Int) := by omega
      have hj : j < L.length := by omega
      have w' := IntWalk.i64_in ((j : Int) + 1) (by omega)
      obtain ⟨r', hr'⟩ := ix43u (l := L) (i := (j : Int)) (by omega) (by rw [Int.toNat_natCast]; exact List.getElem?_eq_getElem hj)
      cases d1 : decide (L[j] = L[i]) with
      | true =>
        have nn : ¬ L.Nodup := fun q => absurd ((List.getElem_inj q).1 (of_decide_eq_true d1)) (by omega)
        simp -implicitDefEqProofs only [wpC_seq, rowsA, if_true, if_false, opnd, ofVal, ofVal1, layArgs, Nat.reduceAdd, reduceIte, Nat.reduceEqDiff, reduceCtorEq, rowsB, cellsG, Nat.reduceMul, f0, f3, f4, c3, hr, hr', d1, w', decide_eq_false nn]
        simp -implicitDefEqProofs only [wpC_seq, rowsA, if_true, if_false, opnd, ofVal, ofVal1, layArgs, Nat.reduceAdd, reduceIte, Nat.reduceEqDiff, reduceCtorEq, rowsB, cellsG, Nat.reduceMul, rowsR, f0, f3, f4, c3, hr, hr', d1, w', decide_eq_false nn]
      | false =>
        simp -implicitDefEqProofs only [wpC_seq, rowsA, if_true, if_false, opnd, ofVal, ofVal1, layArgs, Nat.reduceAdd, reduceIte, Nat.reduceEqDiff, reduceCtorEq, rowsB, cellsG, Nat.reduceMul, f0, f3, f4, c3, hr, hr', d1, w']
        simp -implicitDefEqProofs only [wpC_seq, rowsA, if_true, if_false, opnd, ofVal, ofVal1, layArgs, Nat.reduceAdd, reduceIte, Nat.reduceEqDiff, reduceCtorEq, rowsB, cellsG, Nat.reduceMul, rowsR, f0, f3, f4, c3, hr, hr', d1, w']
        refine ⟨k2, by omega, j + 1, by omega, ?_, ?_, ?_, nd, ?_⟩
        · simp only [Fr.at_set, Nat.reduceEqDiff, reduceIte, f0]
        · simp only [Fr.at_set, Nat.reduceEqDiff, reduceIte, f3]
        · simp only [Fr.at_set, Nat.reduceEqDiff, reduceIte]; rfl
        · intro x hx
          rw [List.take_add_one, List.getElem?_eq_getElem hj, Option.toList_some] at hx
          rcases List.mem_append.1 hx with q | q
          · exact ne x q
          · rw [List.mem_singleton.1 q, List.getElem?_eq_getElem hi]
            intro e
            exact of_decide_eq_false d1 (Option.some.inj e).symm
end Go.Proofs.YtcbngkmmmfaaoaaGreatDoor
namespace Go.Proofs.YtcbngkmmmfaaoaaGreatDoor
open Go.RowKit Go.Lib Go.Ac
set_option linter.unusedSimpArgs false
set_option maxRecDepth 100000
variable {mx : Int}
def many9 (s : Sc) : Bool := s.os.all (fun o => betw o.fs.length 1 12) && (s.es.all (fun e => betw e.ws.length 1 16) && (decide (1 ≤ s.os.length) && (decide (s.os.length ≤ 8) && decide (s.es.length ≤ 8))))
def inv9o (s : Sc) (k : Nat) (F : Fr) (h : AH) : Prop := ∃ i : Nat, k + i = s.os.length ∧ F.at 1 = .ptr 0 2 0 ∧ F.at 3 = .int .i64 i ∧ h.get 0 = some (.cells 25 0 false s.pv) ∧ (s.os.take i).all (fun o => betw o.fs.length 1 12) = true
def inv9e (s : Sc) (k : Nat) (F : Fr) (h : AH) : Prop := ∃ i : Nat, k + i = s.es.length ∧ F.at 1 = .ptr 0 2 0 ∧ F.at 4 = .int .i64 i ∧ h.get 0 = some (.cells 25 0 false s.pv) ∧ (s.es.take i).all (fun e => betw e.ws.length 1 16) = true
theorem all_cut {α : Type} {q : α → Bool} {L : List α} {o : α} (ho : o ∈ L) (hq : q o = false) : L.all q = false := by
  rw [List.all_eq_false]
  exact ⟨o, ho, by rw [hq]; simp⟩
theorem many9_c {s : Sc} (hs : s.fits) (hw : ∀ e ∈ s.es, e.ws.length ≤ 9223372036854775807) (h : AH) (fr : Nat) : CR Tryz.prog (globM mx) md (.fn 48) [.agg s.pv] h fr (.val (.bool (many9 s))) := by
  refine CR.plain (rs := [.tmp 2]) Tryz.func48 rfl rfl rfl rfl rfl rfl rfl ?_ h fr
  simp -implicitDefEqProofs only [wpC_seq, rowsA, if_true, if_false, opnd, ofVal, ofVal1, layArgs, Nat.reduceAdd, reduceIte, Nat.reduceEqDiff, reduceCtorEq, rowsB, cellsG, Nat.reduceMul, rowsS, List.drop_drop]
  refine wpC_loop (inv9o s) (k := s.os.length) ⟨0, by omega, ?_, ?_, ?_, by simp⟩ ?_
  · simp only [Fr.at_set, Nat.reduceEqDiff, reduceIte]
  · simp only [Fr.at_set, Nat.reduceEqDiff, reduceIte]; rfl
  · simp only [AH.get_up, AH.get_set, if_true]
  rintro k F h ⟨i, ki, f1, f3, g0, ha⟩
  cases k with
  | succ k =>
    have c1 : (i : Int) < (s.os.length : Int) := by omega
    obtain ⟨o, ho⟩ : ∃ o, s.os[i]? = some o := ⟨_, List.getElem?_eq_getElem (show i < s.os.length by omega)⟩
    have hom := List.mem_of_getElem? ho
    obtain ⟨r, hr⟩ := ix22 (l := s.os) (i := (i : Int)) (by omega) (by rw [Int.toNat_natCast]; exact ho)
    have w := IntWalk.i64_in ((i : Int) + 1) (by have := hs.1; omega)
    by_cases d1 : (o.fs.length : Int) < 1
    · have e : many9 s = false := by
        rw [many9, all_cut hom (by simp [betw]; omega)]
        rfl
      simp -implicitDefEqProofs only [wpC_seq, rowsA, if_true, if_false, opnd, ofVal, ofVal1, layArgs, Nat.reduceAdd, reduceIte, Nat.reduceEqDiff, reduceCtorEq, rowsB, cellsG, Nat.reduceMul, rowsS, List.drop_drop, f1, f3, g0, c1, hr, d1, e]
    · by_cases d2 : (12 : Int) < (o.fs.length : Int)
      · have e : many9 s = false := by
          rw [many9, all_cut hom (by simp [betw]; omega)]
          rfl
        simp -implicitDefEqProofs only [wpC_seq, rowsA, if_true, if_false, opnd, ofVal, ofVal1, layArgs, Nat.reduceAdd, reduceIte, Nat.reduceEqDiff, reduceCtorEq, rowsB, cellsG, Nat.reduceMul, rowsS, List.drop_drop, f1, f3, g0, c1, hr, d1, d2, e]
      · simp -implicitDefEqProofs only [wpC_seq, rowsA, if_true, if_false, opnd, ofVal, ofVal1, layArgs, Nat.reduceAdd, reduceIte, Nat.reduceEqDiff, reduceCtorEq, rowsB, cellsG, Nat.reduceMul, rowsS, List.drop_drop, f1, f3, g0, c1, hr, d1, d2, w]
        refine ⟨k, by omega, i + 1, by omega, ?_, ?_, ?_, take_all ho ha (by simp [betw]; omega)⟩
        · simp only [Fr.at_set, Nat.reduceEqDiff, reduceIte, f1]
        · simp only [Fr.at_set, Nat.reduceEqDiff, reduceIte]; rfl
        · simp only [AH.get_up]; exact g0
  | zero =>
    have c1 : ¬ ((i : Int) < (s.os.length : Int)) := by omega
    rw [List.take_of_length_le (by omega)] at ha
    simp -implicitDefEqProofs only [wpC_seq, rowsA, if_true, if_false, opnd, ofVal, ofVal1, layArgs, Nat.reduceAdd, reduceIte, Nat.reduceEqDiff, reduceCtorEq, rowsB, cellsG, Nat.reduceMul, rowsS, List.drop_drop, f1, f3, g0, c1]
    refine wpC_loop (inv9e s) (k := s.es.length) ⟨0, by omega, ?_, ?_, ?_, by simp⟩ ?_
    · simp only [Fr.at_set, Nat.reduceEqDiff, reduceIte, f1]
    · simp only [Fr.at_set, Nat.reduceEqDiff, reduceIte]; rfl
    · simp only [AH.get_up]; exact g0
    clear f1 f3 g0 c1 ki i
    rintro k F h ⟨i, ki, f1, f4, g0, hb⟩
    cases k with
    | succ k =>
      have c1 : (i : Int) < (s.es.length : Int) := by omega
      obtain ⟨o, ho⟩ : ∃ o, s.es[i]? = some o := ⟨_, List.getElem?_eq_getElem (show i < s.es.length by omega)⟩
      have hom := List.mem_of_getElem? ho
      obtain ⟨r, hr⟩ := ix23 (l := s.es) (i := (i : Int)) (by omega) (by rw [Int.toNat_natCast]; exact ho)
      have w := IntWalk.i64_in ((i : Int) + 1) (by have := hs.2.1; omega)
      by_cases d1 : (o.ws.length : Int) < 1
      · have e : many9 s = false := by
          rw [many9, all_cut (L := s.es) hom (by simp [betw]; omega), Bool.false_and, Bool.and_false]
        simp -implicitDefEqProofs only [wpC_seq, rowsA, if_true, if_false, opnd, ofVal, ofVal1, layArgs, Nat.reduceAdd, reduceIte, Nat.reduceEqDiff, reduceCtorEq, rowsB, cellsG, Nat.reduceMul, rowsS, List.drop_drop, f1, f4, g0, c1, hr, d1, e]
      · by_cases d2 : (16 : Int) < (o.ws.length : Int)
        · have e : many9 s = false := by
            rw [many9, all_cut (L := s.es) hom (by simp [betw]; omega), Bool.false_and, Bool.and_false]
          simp -implicitDefEqProofs only [wpC_seq, rowsA, if_true, if_false, opnd, ofVal, ofVal1, layArgs, Nat.reduceAdd, reduceIte, Nat.reduceEqDiff, reduceCtorEq, rowsB, cellsG, Nat.reduceMul, rowsS, List.drop_drop, f1, f4, g0, c1, hr, d1, d2, e]
        · simp -implicitDefEqProofs only [wpC_seq, rowsA, if_true, if_false, opnd, ofVal, ofVal1, layArgs, Nat.reduceAdd, reduceIte, Nat.reduceEqDiff, reduceCtorEq, rowsB, cellsG, Nat.reduceMul, rowsS, List.drop_drop, f1, f4, g0, c1, hr, d1, d2, w]
          refine ⟨k, by omega, i + 1, by omega, ?_, ?_, ?_, take_all ho hb (by simp [betw]; omega)⟩
          · simp only [Fr.at_set, Nat.reduceEqDiff, reduceIte, f1]
          · simp only [Fr.at_set, Nat.reduceEqDiff, reduceIte]; rfl
          · simp only [AH.get_up]; exact g0
    | zero =>
      have c1 : ¬ ((i : Int) < (s.es.length : Int)) := by omega
      rw [List.take_of_length_le (by omega)] at hb
      have e : many9 s = (decide (1 ≤ s.os.length) && (decide (s.os.length ≤ 8) && decide (s.es.length ≤ 8))) := by rw [many9, ha, hb]; rfl
      rw [e]
      by_cases d1 : (1 : Int) ≤ (s.os.length : Int)
      · have d1' : 1 ≤ s.os.length := by omega
        by_cases d2 : (s.os.length : Int) ≤ 8
        · have d2' : s.os.length ≤ 8 := by omega
          by_cases d3 : (s.es.length : Int) ≤ 8
          · have d3' : s.es.length ≤ 8 := by omega
            simp -implicitDefEqProofs only [wpC_seq, rowsA, if_true, if_false, opnd, ofVal, ofVal1, layArgs, Nat.reduceAdd, reduceIte, Nat.reduceEqDiff, reduceCtorEq, rowsB, cellsG, Nat.reduceMul, rowsS, List.drop_drop, f1, f4, g0, c1, d1, d2, d3, d1', d2', d3', decide_true, Bool.true_and]
          · have d3' : ¬ s.es.length ≤ 8 := by omega
            simp -implicitDefEqProofs only [wpC_seq, rowsA, if_true, if_false, opnd, ofVal, ofVal1, layArgs, Nat.reduceAdd, reduceIte, Nat.reduceEqDiff, reduceCtorEq, rowsB, cellsG, Nat.reduceMul, rowsS, List.drop_drop, f1, f4, g0, c1, d1, d2, d3, d1', d2', d3', decide_true, decide_false, Bool.true_and]
        · have d2' : ¬ s.os.length ≤ 8 := by omega
          simp -implicitDefEqProofs only [wpC_seq, rowsA, if_true, if_false, opnd, ofVal, ofVal1, layArgs, Nat.reduceAdd, reduceIte, Nat.reduceEqDiff, reduceCtorEq, rowsB, cellsG, Nat.reduceMul, rowsS, List.drop_drop, f1, f4, g0, c1, d1, d2, d1', d2', decide_true, decide_false, Bool.true_and, Bool.false_and]
      · have d1' : ¬ 1 ≤ s.os.length := by omega
        simp -implicitDefEqProofs only [wpC_seq, rowsA, if_true, if_false, opnd, ofVal, ofVal1, layArgs, Nat.reduceAdd, reduceIte, Nat.reduceEqDiff, reduceCtorEq, rowsB, cellsG, Nat.reduceMul, rowsS, List.drop_drop, f1, f4, g0, c1, d1, d1', decide_false, Bool.false_and]
end Go.Proofs.YtcbngkmmmfaaoaaGreatDoor
namespace Go.Proofs.YtcbngkmmmfaaoaaGreatDoor
open Go.RowKit Go.Lib Go.Ac
set_option linter.unusedSimpArgs false
set_option maxRecDepth 100000
variable {mx : Int}
theorem all_and {α : Type} (p q : α → Bool) (L : List α) : (L.all fun x => p x && q x) = (L.all p && L.all q) := by
  rw [Bool.eq_iff_iff]
  simp only [Bool.and_eq_true, List.all_eq_true]
  exact ⟨fun h => ⟨fun x hx => (h x hx).1, fun x hx => (h x hx).2⟩, fun h x hx => ⟨h.1 x hx, h.2 x hx⟩⟩
noncomputable def obj9 (mx : Int) (o : Ob) : Bool := ownB mx o.n && o.fs.all (fun f => nmB mx f.n idL)
theorem namedB_9 (s : Sc) : namedB mx s = (s.os.all (obj9 mx) && s.es.all (enmB mx)) := by
  have : s.os.all (obj9 mx) = (s.os.all (fun o => ownB mx o.n) && s.os.all (fun o => o.fs.all (fun f => nmB mx f.n idL))) := all_and _ _ _
  rw [this]
  rfl
def inv9a (mx : Int) (s : Sc) (k : Nat) (F : Fr) (h : AH) : Prop := ∃ i : Nat, k + i = s.os.length ∧ F.at 1 = .ptr 0 2 0 ∧ F.at 3 = .int .i64 i ∧ h.get 0 = some (.cells 25 0 false s.pv) ∧ (s.os.take i).all (obj9 mx) = true
def inv9b (mx : Int) (s : Sc) (i : Nat) (o : Ob) (k : Nat) (F : Fr) (h : AH) : Prop := ∃ j : Nat, k + j = o.fs.length ∧ F.at 1 = .ptr 0 2 0 ∧ F.at 3 = .int .i64 i ∧ F.at 4 = .int .i64 j ∧ h.get 0 = some (.cells 25 0 false s.pv) ∧ (o.fs.take j).all (fun f => nmB mx f.n idL) = true
def inv9c (mx : Int) (s : Sc) (k : Nat) (F : Fr) (h : AH) : Prop := ∃ i : Nat, k + i = s.es.length ∧ F.at 1 = .ptr 0 2 0 ∧ F.at 6 = .int .i64 i ∧ h.get 0 = some (.cells 25 0 false s.pv) ∧ (s.es.take i).all (enmB mx) = true
def inv9d (mx : Int) (s : Sc) (i : Nat) (o : En) (k : Nat) (F : Fr) (h : AH) : Prop := ∃ j : Nat, k + j = o.ws.length ∧ F.at 1 = .ptr 0 2 0 ∧ F.at 6 = .int .i64 i ∧ F.at 7 = .int .i64 j ∧ h.get 0 = some (.cells 25 0 false s.pv) ∧ (o.ws.take j).all (fun w => nmB mx w wordL) = true
set_option maxHeartbeats 4000000 in
theorem names9_c {s : Sc} (hs : s.fits) (hm : s.small) (h : AH) (fr : Nat) : CR Tryz.prog (globM mx) md (.fn 49) [.agg s.pv] h fr (.val (.bool (namedB mx s))) := by
  rw [namedB_9]
  refine CR.plain (rs := [.tmp 2]) Tryz.func49 rfl rfl rfl rfl rfl rfl rfl ?_ h fr
  simp -implicitDefEqProofs only [wpC_seq, rowsA, if_true, if_false, opnd, ofVal, ofVal1, layArgs, Nat.reduceAdd, reduceIte, Nat.reduceEqDiff, reduceCtorEq, rowsB, cellsG, Nat.reduceMul, rowsS, List.drop_drop]
  refine wpC_loop (inv9a mx s) (k := s.os.length) ⟨0, by omega, ?_, ?_, ?_, by simp⟩ ?_
  · simp only [Fr.at_set, Nat.reduceEqDiff, reduceIte]
  · simp only [Fr.at_set, Nat.reduceEqDiff, reduceIte]; rfl
  · simp only [AH.get_up, AH.get_set, if_true]
  rintro k F h ⟨i, ki, f1, f3, g0, ha⟩
  cases k with
  | succ k =>
    have c0 : (i : Int) < (s.os.length : Int) := by omega
    obtain ⟨o, ho⟩ : ∃ o, s.os[i]? = some o := ⟨_, List.getElem?_eq_getElem (show i < s.os.length by omega)⟩
    have hom := List.mem_of_getElem? ho
    obtain ⟨r, hr⟩ := ix22 (l := s.os) (i := (i : Int)) (by omega) (by rw [Int.toNat_natCast]; exact ho)
    have w := IntWalk.i64_in ((i : Int) + 1) (by have := hs.1; omega)
    have ko := own9_c (mx := mx) o.n (hm.1 o hom).1
    have badO : obj9 mx o = false → (s.os.all (obj9 mx) && s.es.all (enmB mx)) = false := fun e => by rw [all_cut hom e]; rfl
    cases d0 : ownB mx o.n with
    | false =>
      have e := badO (by rw [obj9, d0]; rfl)
      simp -implicitDefEqProofs only [wpC_seq, rowsA, if_true, if_false, opnd, ofVal, ofVal1, layArgs, Nat.reduceAdd, reduceIte, Nat.reduceEqDiff, reduceCtorEq, rowsB, cellsG, Nat.reduceMul, rowsS, List.drop_drop, f1, f3, g0, c0, hr, goO_known ko, d0, e]
    | true =>
    simp -implicitDefEqProofs only [wpC_seq, rowsA, if_true, if_false, opnd, ofVal, ofVal1, layArgs, Nat.reduceAdd, reduceIte, Nat.reduceEqDiff, reduceCtorEq, rowsB, cellsG, Nat.reduceMul, rowsS, List.drop_drop, f1, f3, g0, c0, hr, goO_known ko, d0]
    refine wpC_loop (inv9b mx s i o) (k := o.fs.length) ⟨0, by omega, ?_, ?_, ?_, ?_, by simp⟩ ?_
    · simp only [Fr.at_set, Nat.reduceEqDiff, reduceIte, f1]
    · simp only [Fr.at_set, Nat.reduceEqDiff, reduceIte, f3]
    · simp only [Fr.at_set, Nat.reduceEqDiff, reduceIte]; rfl
    · simp only [AH.get_up]; exact g0
    clear f1 f3 g0
    rintro k2 F h ⟨j, kj, f1, f3, f4, g0, hb⟩
    cases k2 with
    | zero =>
      have c1 : ¬ ((j : Int) < (o.fs.length : Int)) := by omega
      rw [List.take_of_length_le (by omega)] at hb
      simp -implicitDefEqProofs only [wpC_seq, rowsA, if_true, if_false, opnd, ofVal, ofVal1, layArgs, Nat.reduceAdd, reduceIte, Nat.reduceEqDiff, reduceCtorEq, rowsB, cellsG, Nat.reduceMul, rowsS, List.drop_drop, f1, f3, f4, g0, hr, c1, w]
      refine ⟨k, by omega, i + 1, by omega, ?_, ?_, ?_, take_all ho ha (by rw [obj9, d0, hb]; rfl)⟩
      · simp only [Fr.at_set, Nat.reduceEqDiff, reduceIte, f1]
      · simp only [Fr.at_set, Nat.reduceEqDiff, reduceIte]; rfl
      · simp only [AH.get_up]; exact g0
    | succ k2 =>
      have cj : (j : Int) < (o.fs.length : Int) := by omega
      obtain ⟨f, hf⟩ : ∃ f, o.fs[j]? = some f := ⟨_, List.getElem?_eq_getElem (show j < o.fs.length by omega)⟩
      have hfm := List.mem_of_getElem? hf
      obtain ⟨r2, hr2⟩ := ix39 (l := o.fs) (i := (j : Int)) (by omega) (by rw [Int.toNat_natCast]; exact hf)
      have w2 := IntWalk.i64_in ((j : Int) + 1) (by have := hs.2.2 o hom; omega)
      have kn := name9_c (mx := mx) f.n ((hm.1 o hom).2 f hfm)
      have em : memB f.n idL = (decide (f.n = [105, 100]) || (decide (f.n = [97, 110, 100]) || (decide (f.n = [111, 114]) || decide (f.n = [110, 111, 116])))) := by
        rw [memB_or]
        simp only [idL, List.any_cons, List.any_nil, Bool.or_false]
      have badF : nmB mx f.n idL = false → (s.os.all (obj9 mx) && s.es.all (enmB mx)) = false := fun e => badO (by rw [obj9, all_cut hfm e, Bool.and_false])
      cases c1 : nm9 mx f.n with
      | false =>
        have e := badF (by rw [nmB_9, c1]; rfl)
        simp -implicitDefEqProofs only [wpC_seq, rowsA, if_true, if_false, opnd, ofVal, ofVal1, layArgs, Nat.reduceAdd, reduceIte, Nat.reduceEqDiff, reduceCtorEq, rowsB, cellsG, Nat.reduceMul, rowsS, List.drop_drop, f1, f3, f4, g0, hr, cj, hr2, goO_known kn, c1, e]
      | true =>
      cases c2 : decide (f.n = [105, 100]) with
      | true =>
        have e := badF (by rw [nmB_9, em]; simp only [c1, c2, Bool.true_or, Bool.or_true, Bool.not_true, Bool.and_false])
        simp -implicitDefEqProofs only [wpC_seq, rowsA, if_true, if_false, opnd, ofVal, ofVal1, layArgs, Nat.reduceAdd, reduceIte, Nat.reduceEqDiff, reduceCtorEq, rowsB, cellsG, Nat.reduceMul, rowsS, List.drop_drop, f1, f3, f4, g0, hr, cj, hr2, goO_known kn, c1, c2, e]
      | false =>
      cases c3 : decide (f.n = [97, 110, 100]) with
      | true =>
        have e := badF (by rw [nmB_9, em]; simp only [c1, c2, c3, Bool.true_or, Bool.or_true, Bool.not_true, Bool.and_false])
        simp -implicitDefEqProofs only [wpC_seq, rowsA, if_true, if_false, opnd, ofVal, ofVal1, layArgs, Nat.reduceAdd, reduceIte, Nat.reduceEqDiff, reduceCtorEq, rowsB, cellsG, Nat.reduceMul, rowsS, List.drop_drop, f1, f3, f4, g0, hr, cj, hr2, goO_known kn, c1, c2, c3, e]
      | false =>
      cases c4 : decide (f.n = [111, 114]) with
      | true =>
        have e := badF (by rw [nmB_9, em]; simp only [c1, c2, c3, c4, Bool.true_or, Bool.or_true, Bool.not_true, Bool.and_false])
        simp -implicitDefEqProofs only [wpC_seq, rowsA, if_true, if_false, opnd, ofVal, ofVal1, layArgs, Nat.reduceAdd, reduceIte, Nat.reduceEqDiff, reduceCtorEq, rowsB, cellsG, Nat.reduceMul, rowsS, List.drop_drop, f1, f3, f4, g0, hr, cj, hr2, goO_known kn, c1, c2, c3, c4, e]
      | false =>
      cases c5 : decide (f.n = [110, 111, 116]) with
      | true =>
        have e := badF (by rw [nmB_9, em]; simp only [c1, c2, c3, c4, c5, Bool.true_or, Bool.or_true, Bool.not_true, Bool.and_false])
        simp -implicitDefEqProofs only [wpC_seq, rowsA, if_true, if_false, opnd, ofVal, ofVal1, layArgs, Nat.reduceAdd, reduceIte, Nat.reduceEqDiff, reduceCtorEq, rowsB, cellsG, Nat.reduceMul, rowsS, List.drop_drop, f1, f3, f4, g0, hr, cj, hr2, goO_known kn, c1, c2, c3, c4, c5, e]
      | false =>
      have e : nmB mx f.n idL = true := by rw [nmB_9, em]; simp only [c1, c2, c3, c4, c5, Bool.or_false, Bool.not_false, Bool.and_true]
      simp -implicitDefEqProofs only [wpC_seq, rowsA, if_true, if_false, opnd, ofVal, ofVal1, layArgs, Nat.reduceAdd, reduceIte, Nat.reduceEqDiff, reduceCtorEq, rowsB, cellsG, Nat.reduceMul, rowsS, List.drop_drop, f1, f3, f4, g0, hr, cj, hr2, goO_known kn, c1, c2, c3, c4, c5, w2]
      refine ⟨k2, by omega, j + 1, by omega, ?_, ?_, ?_, ?_, take_all hf hb e⟩
      · simp only [Fr.at_set, Nat.reduceEqDiff, reduceIte, f1]
      · simp only [Fr.at_set, Nat.reduceEqDiff, reduceIte, f3]
      · simp only [Fr.at_set, Nat.reduceEqDiff, reduceIte]; rfl
      · simp only [AH.get_up]; exact g0
  | zero =>
    have c0 : ¬ ((i : Int) < (s.os.length : Int)) := by omega
    rw [List.take_of_length_le (by omega)] at ha
    rw [ha, Bool.true_and]
    simp -implicitDefEqProofs only [wpC_seq, rowsA, if_true, if_false, opnd, ofVal, ofVal1, layArgs, Nat.reduceAdd, reduceIte, Nat.reduceEqDiff, reduceCtorEq, rowsB, cellsG, Nat.reduceMul, rowsS, List.drop_drop, f1, f3, g0, c0]
    refine wpC_loop (inv9c mx s) (k := s.es.length) ⟨0, by omega, ?_, ?_, ?_, by simp⟩ ?_
    · simp only [Fr.at_set, Nat.reduceEqDiff, reduceIte, f1]
    · simp only [Fr.at_set, Nat.reduceEqDiff, reduceIte]; rfl
    · simp only [AH.get_up]; exact g0
    clear f1 f3 g0 c0 ki ha i
    rintro k F h ⟨i, ki, f1, f6, g0, ha⟩
    cases k with
    | zero =>
      have c0 : ¬ ((i : Int) < (s.es.length : Int)) := by omega
      rw [List.take_of_length_le (by omega)] at ha
      simp -implicitDefEqProofs only [wpC_seq, rowsA, if_true, if_false, opnd, ofVal, ofVal1, layArgs, Nat.reduceAdd, reduceIte, Nat.reduceEqDiff, reduceCtorEq, rowsB, cellsG, Nat.reduceMul, rowsS, List.drop_drop, f1, f6, g0, c0, ha]
    | succ k =>
    have c0 : (i : Int) < (s.es.length : Int) := by omega
    obtain ⟨o, ho⟩ : ∃ o, s.es[i]? = some o := ⟨_, List.getElem?_eq_getElem (show i < s.es.length by omega)⟩
    have hom := List.mem_of_getElem? ho
    obtain ⟨r, hr⟩ := ix23 (l := s.es) (i := (i : Int)) (by omega) (by rw [Int.toNat_natCast]; exact ho)
    have w := IntWalk.i64_in ((i : Int) + 1) (by have := hs.2.1; omega)
    have ko := own9_c (mx := mx) o.n (hm.2 o hom).1
    have badO : enmB mx o = false → s.es.all (enmB mx) = false := fun e => all_cut hom e
    cases d0 : ownB mx o.n with
    | false =>
      have e := badO (by rw [enmB, d0]; rfl)
      simp -implicitDefEqProofs only [wpC_seq, rowsA, if_true, if_false, opnd, ofVal, ofVal1, layArgs, Nat.reduceAdd, reduceIte, Nat.reduceEqDiff, reduceCtorEq, rowsB, cellsG, Nat.reduceMul, rowsS, List.drop_drop, f1, f6, g0, c0, hr, goO_known ko, d0, e]
    | true =>
    simp -implicitDefEqProofs only [wpC_seq, rowsA, if_true, if_false, opnd, ofVal, ofVal1, layArgs, Nat.reduceAdd, reduceIte, Nat.reduceEqDiff, reduceCtorEq, rowsB, cellsG, Nat.reduceMul, rowsS, List.drop_drop, f1, f6, g0, c0, hr, goO_known ko, d0]
    refine wpC_loop (inv9d mx s i o) (k := o.ws.length) ⟨0, by omega, ?_, ?_, ?_, ?_, by simp⟩ ?_
    · simp only [Fr.at_set, Nat.reduceEqDiff, reduceIte, f1]
    · simp only [Fr.at_set, Nat.reduceEqDiff, reduceIte, f6]
    · simp only [Fr.at_set, Nat.reduceEqDiff, reduceIte]; rfl
    · simp only [AH.get_up]; exact g0
    clear f1 f6 g0
    rintro k2 F h ⟨j, kj, f1, f6, f7, g0, hb⟩
    cases k2 with
    | zero =>
      have c1 : ¬ ((j : Int) < (o.ws.length : Int)) := by omega
      rw [List.take_of_length_le (by omega)] at hb
      simp -implicitDefEqProofs only [wpC_seq, rowsA, if_true, if_false, opnd, ofVal, ofVal1, layArgs, Nat.reduceAdd, reduceIte, Nat.reduceEqDiff, reduceCtorEq, rowsB, cellsG, Nat.reduceMul, rowsS, List.drop_drop, f1, f6, f7, g0, hr, c1, w]
      refine ⟨k, by omega, i + 1, by omega, ?_, ?_, ?_, take_all ho ha (by rw [enmB, d0, hb]; rfl)⟩
      · simp only [Fr.at_set, Nat.reduceEqDiff, reduceIte, f1]
      · simp only [Fr.at_set, Nat.reduceEqDiff, reduceIte]; rfl
      · simp only [AH.get_up]; exact g0
    | succ k2 =>
      have cj : (j : Int) < (o.ws.length : Int) := by omega
      obtain ⟨f, hf⟩ : ∃ f, o.ws[j]? = some f := ⟨_, List.getElem?_eq_getElem (show j < o.ws.length by omega)⟩
      have hfm := List.mem_of_getElem? hf
      obtain ⟨r2, hr2⟩ := ix43u (l := o.ws) (i := (j : Int)) (by omega) (by rw [Int.toNat_natCast]; exact hf)
      have w2 := IntWalk.i64_in ((j : Int) + 1) (by have := (hm.2 o hom).2.1; omega)
      have kn := name9_c (mx := mx) f ((hm.2 o hom).2.2 f hfm)
      have em : memB f wordL = (decide (f = [116, 114, 117, 101]) || (decide (f = [102, 97, 108, 115, 101]) || decide (f = [110, 117, 108, 108]))) := by
        rw [memB_or]
        simp only [wordL, List.any_cons, List.any_nil, Bool.or_false]
      have badF : nmB mx f wordL = false → s.es.all (enmB mx) = false := fun e => badO (by rw [enmB, all_cut hfm e, Bool.and_false])
      cases c1 : nm9 mx f with
      | false =>
        have e := badF (by rw [nmB_9, c1]; rfl)
        simp -implicitDefEqProofs only [wpC_seq, rowsA, if_true, if_false, opnd, ofVal, ofVal1, layArgs, Nat.reduceAdd, reduceIte, Nat.reduceEqDiff, reduceCtorEq, rowsB, cellsG, Nat.reduceMul, rowsS, List.drop_drop, f1, f6, f7, g0, hr, cj, hr2, loadO_one ag9 sz9, goO_known kn, c1, e]
      | true =>
      cases c2 : decide (f = [116, 114, 117, 101]) with
      | true =>
        have e := badF (by rw [nmB_9, em]; simp only [c1, c2, Bool.true_or, Bool.or_true, Bool.not_true, Bool.and_false])
        simp -implicitDefEqProofs only [wpC_seq, rowsA, if_true, if_false, opnd, ofVal, ofVal1, layArgs, Nat.reduceAdd, reduceIte, Nat.reduceEqDiff, reduceCtorEq, rowsB, cellsG, Nat.reduceMul, rowsS, List.drop_drop, f1, f6, f7, g0, hr, cj, hr2, loadO_one ag9 sz9, goO_known kn, c1, c2, e]
      | false =>
      cases c3 : decide (f = [102, 97, 108, 115, 101]) with
      | true =>
        have e := badF (by rw [nmB_9, em]; simp only [c1, c2, c3, Bool.true_or, Bool.or_true, Bool.not_true, Bool.and_false])
        simp -implicitDefEqProofs only [wpC_seq, rowsA, if_true, if_false, opnd, ofVal, ofVal1, layArgs, Nat.reduceAdd, reduceIte, Nat.reduceEqDiff, reduceCtorEq, rowsB, cellsG, Nat.reduceMul, rowsS, List.drop_drop, f1, f6, f7, g0, hr, cj, hr2, loadO_one ag9 sz9, goO_known kn, c1, c2, c3, e]
      | false =>
      cases c4 : decide (f = [110, 117, 108, 108]) with
      | true =>
        have e := badF (by rw [nmB_9, em]; simp only [c1, c2, c3, c4, Bool.true_or, Bool.or_true, Bool.not_true, Bool.and_false])
        simp -implicitDefEqProofs only [wpC_seq, rowsA, if_true, if_false, opnd, ofVal, ofVal1, layArgs, Nat.reduceAdd, reduceIte, Nat.reduceEqDiff, reduceCtorEq, rowsB, cellsG, Nat.reduceMul, rowsS, List.drop_drop, f1, f6, f7, g0, hr, cj, hr2, loadO_one ag9 sz9, goO_known kn, c1, c2, c3, c4, e]
      | false =>
      have e : nmB mx f wordL = true := by rw [nmB_9, em]; simp only [c1, c2, c3, c4, Bool.or_false, Bool.not_false, Bool.and_true]
      simp -implicitDefEqProofs only [wpC_seq, rowsA, if_true, if_false, opnd, ofVal, ofVal1, layArgs, Nat.reduceAdd, reduceIte, Nat.reduceEqDiff, reduceCtorEq, rowsB, cellsG, Nat.reduceMul, rowsS, List.drop_drop, f1, f6, f7, g0, hr, cj, hr2, loadO_one ag9 sz9, goO_known kn, c1, c2, c3, c4, w2]
      refine ⟨k2, by omega, j + 1, by omega, ?_, ?_, ?_, ?_, take_all hf hb e⟩
      · simp only [Fr.at_set, Nat.reduceEqDiff, reduceIte, f1]
      · simp only [Fr.at_set, Nat.reduceEqDiff, reduceIte, f6]
      · simp only [Fr.at_set, Nat.reduceEqDiff, reduceIte]; rfl
      · simp only [AH.get_up]; exact g0
end Go.Proofs.YtcbngkmmmfaaoaaGreatDoor
namespace Go.Ac
open Go.RowKit
theorem same_of_frzLU {p : Nat → Prop} {d : Nat} (ih : ∀ (h : AH) (v u u' : PV) (h' : AH), Rd p h d v u → frz d v h = some (u', h') → ∀ id, ¬ p id → h'.get id = h.get id) : ∀ (l m m' : List PV) (h h' : AH), RdL (Rd p h d) l m → frzL (frz d) l h = some (m', h') → ∀ id, ¬ p id → h'.get id = h.get id
  | [], [], m', h, h', _, e, id, _ => by
    simp only [frzL, Option.some.injEq, Prod.mk.injEq] at e
    rw [← e.2]
  | v :: l, u :: m, m', h, h', ⟨a, b⟩, e, id, hp => by
    obtain ⟨_, h1, e1, z1⟩ := Rd.frz d h v u a
    simp only [frzL, e1] at e
    cases e2 : frzL (frz d) l h1 with
    | none => rw [e2] at e; simp at e
    | some x =>
      rw [e2] at e
      simp only [Option.some.injEq, Prod.mk.injEq] at e
      rw [← e.2, same_of_frzLU ih l m x.1 h1 x.2 (b.imp fun _ _ q => q.fzn z1) e2 id hp, ih h v u u h1 a e1 id hp]
  | [], _ :: _, _, _, _, h, _, _, _ => h.elim
  | _ :: _, [], _, _, _, h, _, _, _ => h.elim
theorem same_of_frzU {p : Nat → Prop} : ∀ (d : Nat) (h : AH) (v u u' : PV) (h' : AH), Rd p h d v u → frz d v h = some (u', h') → ∀ id, ¬ p id → h'.get id = h.get id
  | 0, h, v, u, u', h', ⟨q1, _⟩, e, id, _ => by
    rw [frz_clean h q1] at e
    cases e
    rfl
  | d + 1, h, v, u, u', h', q, e, id, hp => by
    rcases q with ⟨q1, _⟩ | ⟨q1, q2⟩
    · rw [frz_clean h q1] at e
      cases e
      rfl
    · have ih := same_of_frzLU (p := p) (d := d) (same_of_frzU d)
      cases v with
      | ow i tot off len =>
        obtain ⟨E, sz, fz, c, c', a1, a2, a3, a4, a5, rfl⟩ := q2
        rw [Ac.frz, if_neg (by rw [q1]; simp)] at e
        simp only [a2] at e
        rw [if_pos ⟨a3, a4⟩] at e
        have z := Fzn.set a2
        cases e2 : frzL (frz d) ((c.drop off).take (len * sz)) (h.set i (.cells E sz true c)) with
        | none => rw [e2] at e; simp at e
        | some x =>
          rw [e2] at e
          simp only [Option.some.injEq, Prod.mk.injEq] at e
          rw [← e.2, ih _ _ x.1 _ x.2 (a5.imp fun _ _ q => q.fzn z) e2 id hp]
          simp only [AH.get_set, show ¬ id = i from fun w => hp (w ▸ a1), if_false]
      | ptr i tot off =>
        obtain ⟨E, sz, fz, c, c', a1, a2, a3, a5, rfl⟩ := q2
        rw [Ac.frz, if_neg (by rw [q1]; simp)] at e
        simp only [a2] at e
        rw [if_pos a3] at e
        have z := Fzn.set a2
        cases e2 : frzL (frz d) (c.drop off) (h.set i (.cells E sz true c)) with
        | none => rw [e2] at e; simp at e
        | some x =>
          rw [e2] at e
          simp only [Option.some.injEq, Prod.mk.injEq] at e
          rw [← e.2, ih _ _ x.1 _ x.2 (a5.imp fun _ _ q => q.fzn z) e2 id hp]
          simp only [AH.get_set, show ¬ id = i from fun w => hp (w ▸ a1), if_false]
      | fn k a b =>
        cases k with
        | func k =>
          obtain ⟨a', b', a1, a2, rfl⟩ := q2
          obtain ⟨_, h1, e1, z1⟩ := RdL.frz (Rd.frz d) _ _ h a1
          rw [Ac.frz, if_neg (by rw [q1]; simp)] at e
          simp only [e1] at e
          cases e2 : frzL (frz d) b h1 with
          | none => rw [e2] at e; simp at e
          | some x =>
            rw [e2] at e
            simp only [Option.some.injEq, Prod.mk.injEq] at e
            rw [← e.2, ih _ _ x.1 _ x.2 (a2.imp fun _ _ q => q.fzn z1) e2 id hp, ih _ _ a' _ h1 a1 e1 id hp]
        | _ => exact q2.elim
      | agg c =>
        obtain ⟨c', a1, rfl⟩ := q2
        rw [Ac.frz, if_neg (by rw [q1]; simp)] at e
        cases e2 : frzL (frz d) c h with
        | none => simp only [e2] at e; simp at e
        | some x =>
          simp only [e2, Option.some.injEq, Prod.mk.injEq] at e
          rw [← e.2]
          exact ih _ _ x.1 _ x.2 a1 e2 id hp
      | tup c =>
        obtain ⟨c', a1, rfl⟩ := q2
        rw [Ac.frz, if_neg (by rw [q1]; simp)] at e
        cases e2 : frzL (frz d) c h with
        | none => simp only [e2] at e; simp at e
        | some x =>
          simp only [e2, Option.some.injEq, Prod.mk.injEq] at e
          rw [← e.2]
          exact ih _ _ x.1 _ x.2 a1 e2 id hp
      | _ => exact q2.elim
end Go.Ac
namespace Go.Proofs.YtcbngkmmmfaaoaaGreatDoor
open Go.RowKit Go.Lib Go.Ac
set_option linter.unusedSimpArgs false
set_option maxRecDepth 100000
theorem via_rdPU {P : Program} {G : Glob} {md : FuncId → Md} {p : Nat → Prop} {k : FuncId} {fn : Func} {c : Code} {args args' : List PV} {h : AH} {v : PV} (hf : P.funcs[k]? = some fn) (hb : fn.body = some c) (hn : (fn.name == "runtime.NumGoroutine") = false) (hm : md k = .pure) (hcl : PV.cleans args = false) (hr : RdL (Rd p h 100) args args')
    (hk : ∀ h fr, CR P G md (.fn k) args' h fr (.val v)) : ∃ v' h', (∀ fr, CR P G md (.fn k) args h fr (.sh v' h')) ∧ (v' = v ∧ h'.next = h.next ∧ ∀ id, ¬ p id → h'.get id = h.get id) := by
  obtain ⟨c1, h1, e1, z1⟩ := hr.frz100
  exact ⟨v, h1, fun fr => CR.viaFrz hf hb hn hm hcl e1 c1 hk fr, rfl, z1.next, same_of_frzLU (same_of_frzU 100) _ _ _ _ _ hr e1⟩
variable {mx : Int}
theorem RowS.pushK {A fr X : Nat} {h hh : AH} {v : PV} {L : List (List UInt8)} {x : List UInt8} (q : RowS A h v L) (hA : A ≤ fr) (hfr : fr < h.next) {fz : Bool} (hX : h.get X = some (.cells 9 1 fz [.str x])) (hL : L.length ≤ 100000000) (hK : ∀ id, id < A → h.get id = hh.get id) (hn : A ≤ h.next) :
    (∃ v', appO Tryz.prog h fr [v, .ow X 1 0 1] [43, 43] = some (.q v') ∧ (RowS A h v' (L ++ [x]) ∧ (∀ id, id < A → h.get id = hh.get id) ∧ A ≤ h.next)) ∨ ∃ v' id ob, appO Tryz.prog h fr [v, .ow X 1 0 1] [43, 43] = some (.w v' id ob) ∧ (RowS A (h.set id ob) v' (L ++ [x]) ∧ (∀ i, i < A → (h.set id ob).get i = hh.get i) ∧ A ≤ (h.set id ob).next) := by
  obtain ⟨id, ob, e1, e2, _, e4⟩ := q.push hA hfr hX hL
  exact .inr ⟨_, id, ob, e1, e4, fun i hi => by rw [AH.get_set_ne _ _ _ _ (by omega)]; exact hK i hi, by rw [AH.next_set]; exact hn⟩
theorem unlike9_e (h : AH) (fr : Nat) : CR Tryz.prog (globM mx) md (.fn 103) [.els] h fr (.val (.bool true)) := by
  refine CR.plain (rs := [.tmp 2]) Tryz.func103 rfl rfl rfl rfl rfl rfl rfl ?_ h fr
  simp -implicitDefEqProofs only [wpC_seq, rowsA, if_true, if_false, opnd, ofVal, ofVal1, layArgs, Nat.reduceAdd, reduceIte, Nat.reduceEqDiff, reduceCtorEq, rowsB, cellsG, Nat.reduceMul]
  refine wpC_loop (fun _ F _ => F.at 0 = .els ∧ F.at 3 = .int .i64 0) (k := 0) ⟨?_, ?_⟩ ?_
  · simp only [Fr.at_set, Nat.reduceEqDiff, reduceIte]
  · simp only [Fr.at_set, Nat.reduceEqDiff, reduceIte]
  rintro k F h ⟨f0, f3⟩
  have c0 : ¬ ((0 : Int) < 0) := by decide
  simp -implicitDefEqProofs only [wpC_seq, rowsA, if_true, if_false, opnd, ofVal, ofVal1, layArgs, Nat.reduceAdd, reduceIte, Nat.reduceEqDiff, reduceCtorEq, rowsB, cellsG, Nat.reduceMul, f0, f3, eq_els u43, c0]
theorem unlike9_r {R : Nat} {h : AH} {L : List (List UInt8)} (a3 : h.get R = some (.cells 9 1 false (L.map PV.str))) (hl : L.length ≤ 1000000) : ∃ u h', (∀ fr, CR Tryz.prog (globM mx) md (.fn 103) [.ow R L.length 0 L.length] h fr (.sh u h')) ∧ (u = .bool (decide L.Nodup) ∧ h'.next = h.next ∧ ∀ id, ¬ (id = R) → h'.get id = h.get id) := by
  refine via_rdPU (p := fun id => id = R) (args' := [rowV strV L]) Tryz.func103 rfl rfl rfl rfl ⟨?_, trivial⟩ (fun h fr => unlike9_c (mx := mx) (L := L) (by omega) h fr)
  have := Rd.row (p := fun id => id = R) (d := 99) (n := L.length) (sz := 1) (c' := flat strV L) rfl a3 (by rw [List.length_map, Nat.mul_one]) (by rw [strs_flat]; exact RdL.of_clean (by rw [← strs_flat]; exact flat_clean (fun _ => rfl) L))
  rw [Nat.mul_one] at this
  exact this
def inv9f (s : Sc) (k : Nat) (F : Fr) (h : AH) : Prop := ∃ (i : Nat) (v : PV), k + i = s.os.length ∧ F.at 1 = .ptr 0 2 0 ∧ F.at 3 = v ∧ F.at 4 = .int .i64 i ∧ h.get 0 = some (.cells 25 0 false s.pv) ∧ 1 ≤ h.next ∧ RowS 1 h v ((s.os.take i).map (·.n)) ∧ (s.os.take i).all (fun o => nodupB (o.fs.map (·.n))) = true
def inv9g (s : Sc) (i : Nat) (o : Ob) (v : PV) (hh : AH) (k : Nat) (F : Fr) (h : AH) : Prop := ∃ (j : Nat) (u : PV), k + j = o.fs.length ∧ F.at 1 = .ptr 0 2 0 ∧ F.at 3 = v ∧ F.at 4 = .int .i64 i ∧ F.at 5 = u ∧ F.at 6 = .int .i64 j ∧ RowS hh.next h u ((o.fs.take j).map (·.n)) ∧ (∀ id, id < hh.next → h.get id = hh.get id) ∧ hh.next ≤ h.next
def inv9h (s : Sc) (k : Nat) (F : Fr) (h : AH) : Prop := ∃ (i : Nat) (v : PV), k + i = s.es.length ∧ F.at 1 = .ptr 0 2 0 ∧ F.at 3 = v ∧ F.at 7 = .int .i64 i ∧ h.get 0 = some (.cells 25 0 false s.pv) ∧ 1 ≤ h.next ∧ RowS 1 h v (s.os.map (·.n) ++ (s.es.take i).map (·.n)) ∧ (s.es.take i).all (fun e => nodupB e.ws) = true
set_option maxHeartbeats 4000000 in
theorem once9_c {s : Sc} (he : s.enough) (h : AH) (fr : Nat) : CR Tryz.prog (globM mx) md (.fn 50) [.agg s.pv] h fr (.val (.bool (onceB s))) := by
  obtain ⟨s1, s2, s3, s4, s5⟩ := he
  refine CR.plain (rs := [.tmp 2]) Tryz.func50 rfl rfl rfl rfl rfl rfl rfl ?_ h fr
  simp -implicitDefEqProofs only [wpC_seq, rowsA, if_true, if_false, opnd, ofVal, ofVal1, layArgs, Nat.reduceAdd, reduceIte, Nat.reduceEqDiff, reduceCtorEq, rowsB, cellsG, Nat.reduceMul, rowsS, List.drop_drop, bd43_0]
  refine wpC_loop (inv9f s) (k := s.os.length) ⟨0, .els, by omega, ?_, ?_, ?_, ?_, ?_, .inl ⟨rfl, rfl⟩, by simp⟩ ?_
  · simp only [Fr.at_set, Nat.reduceEqDiff, reduceIte]
  · simp only [Fr.at_set, Nat.reduceEqDiff, reduceIte]
  · simp only [Fr.at_set, Nat.reduceEqDiff, reduceIte]; rfl
  · simp only [AH.get_up, AH.get_set, Nat.reduceEqDiff, if_true, if_false]
  · simp only [AH.next_up, AH.next_set]; omega
  rintro k F h ⟨i, v, ki, f1, f3, f4, g0, hn, hR, ha⟩
  cases k with
  | succ k =>
    have c0 : (i : Int) < (s.os.length : Int) := by omega
    obtain ⟨o, ho⟩ : ∃ o, s.os[i]? = some o := ⟨_, List.getElem?_eq_getElem (show i < s.os.length by omega)⟩
    have hom := List.mem_of_getElem? ho
    have hfl := s4 o hom
    obtain ⟨r, hr⟩ := ix22 (l := s.os) (i := (i : Int)) (by omega) (by rw [Int.toNat_natCast]; exact ho)
    have w := IntWalk.i64_in ((i : Int) + 1) (by omega)
    simp -implicitDefEqProofs only [wpC_seq, rowsA, if_true, if_false, opnd, ofVal, ofVal1, layArgs, Nat.reduceAdd, reduceIte, Nat.reduceEqDiff, reduceCtorEq, rowsB, cellsG, Nat.reduceMul, rowsS, List.drop_drop, f1, f3, f4, g0, c0, hr, bd43_1]
    have ll : ((s.os.take i).map (·.n)).length ≤ 100000000 := by rw [List.length_map, List.length_take]; omega
    refine goO_rw (fun v' h' => RowS 1 h' v' ((s.os.take i).map (·.n) ++ [o.n]) ∧ (∀ id, id < 1 → h'.get id = h.get id) ∧ 1 ≤ h'.next) (RowS.pushK (hh := h) (hR.keep (by simp only [AH.next_set, AH.next_up]; omega) fun id _ h2 => ?_) (by omega) (by simp only [AH.next_set, AH.next_up]; omega) (by simp only [AH.get_set, if_true]; rfl) ll (fun id h2 => ?_) (by simp only [AH.next_set, AH.next_up]; omega)) ?_
    · simp only [AH.get_set, AH.get_up]
      rw [if_neg (by omega)]
    · simp only [AH.get_set, AH.get_up]
      rw [if_neg (by omega)]
    intro v' h' hq
    have hR' := hq.1
    have hk := hq.2.1
    have hn' := hq.2.2
    clear hq
    have g0' := (hk 0 (by omega)).trans g0
    simp -implicitDefEqProofs only [wpC_seq, rowsA, if_true, if_false, opnd, ofVal, ofVal1, layArgs, Nat.reduceAdd, reduceIte, Nat.reduceEqDiff, reduceCtorEq, rowsB, cellsG, Nat.reduceMul, bd43_0]
    refine wpC_gen2 (fun F hh => F.at 1 = .ptr 0 2 0 ∧ F.at 3 = v' ∧ F.at 4 = .int .i64 i ∧ F.at 5 = .els ∧ F.at 6 = .int .i64 0 ∧ hh.get 0 = some (.cells 25 0 false s.pv) ∧ 1 ≤ hh.next ∧ RowS 1 hh v' ((s.os.take i).map (·.n) ++ [o.n])) ⟨?_, ?_, ?_, ?_, ?_, ?_, ?_, ?_⟩ ?_
    · simp only [Fr.at_set, Nat.reduceEqDiff, reduceIte, f1]
    · simp only [Fr.at_set, Nat.reduceEqDiff, reduceIte]
    · simp only [Fr.at_set, Nat.reduceEqDiff, reduceIte, f4]
    · simp only [Fr.at_set, Nat.reduceEqDiff, reduceIte]
    · simp only [Fr.at_set, Nat.reduceEqDiff, reduceIte]
    · simp only [AH.get_set, AH.get_up]
      rw [if_neg (by omega)]
      exact g0'
    · simp only [AH.next_set, AH.next_up]; omega
    · refine hR'.keep (by simp only [AH.next_set, AH.next_up]; omega) fun id _ h2 => ?_
      simp only [AH.get_set, AH.get_up]
      rw [if_neg (by omega)]
    clear hR' hk hn' g0' f1 f3 f4 g0 hn hR h' c0 ll
    rintro F hh ⟨f1, f3, f4, f5, f6, g0, hn, hR⟩
    refine wpC_loop (inv9g s i o v' hh) (k := o.fs.length) ⟨0, .els, by omega, f1, f3, f4, f5, f6, .inl ⟨rfl, rfl⟩, fun _ _ => rfl, Nat.le_refl _⟩ ?_
    clear f1 f3 f4 f5 f6 h v F
    rintro k2 F h ⟨j, u, kj, f1, f3, f4, f5, f6, hU, hK, hN⟩
    have g0' := (hK 0 (by omega)).trans g0
    cases k2 with
    | succ k2 =>
      have cj : (j : Int) < (o.fs.length : Int) := by omega
      obtain ⟨f, hf⟩ : ∃ f, o.fs[j]? = some f := ⟨_, List.getElem?_eq_getElem (show j < o.fs.length by omega)⟩
      obtain ⟨r2, hr2⟩ := ix39 (l := o.fs) (i := (j : Int)) (by omega) (by rw [Int.toNat_natCast]; exact hf)
      have w2 := IntWalk.i64_in ((j : Int) + 1) (by omega)
      simp -implicitDefEqProofs only [wpC_seq, rowsA, if_true, if_false, opnd, ofVal, ofVal1, layArgs, Nat.reduceAdd, reduceIte, Nat.reduceEqDiff, reduceCtorEq, rowsB, cellsG, Nat.reduceMul, rowsS, List.drop_drop, f1, f3, f4, f5, f6, g0', cj, hr, hr2, bd43_1]
      have l2 : ((o.fs.take j).map (·.n)).length ≤ 100000000 := by rw [List.length_map, List.length_take]; omega
      refine goO_rw (fun v' h' => RowS hh.next h' v' ((o.fs.take j).map (·.n) ++ [f.n]) ∧ (∀ id, id < hh.next → h'.get id = hh.get id) ∧ hh.next ≤ h'.next) (RowS.pushK (hh := hh) (hU.keep (by simp only [AH.next_set, AH.next_up]; omega) fun id _ h2 => ?_) (by omega) (by simp only [AH.next_set, AH.next_up]; omega) (by simp only [AH.get_set, if_true]; rfl) l2 (fun id h2 => ?_) (by simp only [AH.next_set, AH.next_up]; omega)) ?_
      · simp only [AH.get_set, AH.get_up]
        rw [if_neg (by omega)]
      · simp only [AH.get_set, AH.get_up]
        rw [if_neg (by omega)]
        exact hK id h2
      intro u' h' hq
      have q1 := hq.1
      have q2 := hq.2.1
      have q3 := hq.2.2
      clear hq
      simp -implicitDefEqProofs only [wpC_seq, rowsA, if_true, if_false, opnd, ofVal, ofVal1, layArgs, Nat.reduceAdd, reduceIte, Nat.reduceEqDiff, reduceCtorEq, rowsB, cellsG, Nat.reduceMul, f6, w2]
      refine ⟨k2, by omega, j + 1, u', by omega, ?_, ?_, ?_, ?_, ?_, ?_, ?_, ?_⟩
      · simp only [Fr.at_set, Nat.reduceEqDiff, reduceIte, f1]
      · simp only [Fr.at_set, Nat.reduceEqDiff, reduceIte, f3]
      · simp only [Fr.at_set, Nat.reduceEqDiff, reduceIte, f4]
      · simp only [Fr.at_set, Nat.reduceEqDiff, reduceIte]
      · simp only [Fr.at_set, Nat.reduceEqDiff, reduceIte]; rfl
      · rw [List.take_add_one, hf, List.map_append]
        exact q1.keep (by simp only [AH.next_up]; omega) fun id _ _ => by simp only [AH.get_up]
      · intro id hid
        simp only [AH.get_up]
        exact q2 id hid
      · simp only [AH.next_up]; omega
    | zero =>
      have cj : ¬ ((j : Int) < (o.fs.length : Int)) := by omega
      rw [List.take_of_length_le (by omega)] at hU
      simp -implicitDefEqProofs only [wpC_seq, rowsA, if_true, if_false, opnd, ofVal, ofVal1, layArgs, Nat.reduceAdd, reduceIte, Nat.reduceEqDiff, reduceCtorEq, rowsB, cellsG, Nat.reduceMul, rowsS, List.drop_drop, f1, f3, f4, f5, f6, g0', cj, hr]
      have bad : nodupB (o.fs.map (·.n)) = false → onceB s = false := fun e => by
        rw [onceB, all_cut (q := fun o : Ob => nodupB (o.fs.map (·.n))) hom e, Bool.and_false, Bool.false_and]
      have nx : ∀ (F' : Fr) (h' : AH), nodupB (o.fs.map (·.n)) = true → F'.at 1 = F.at 1 → F'.at 3 = F.at 3 → F'.at 4 = .int .i64 ((i : Int) + 1) → (∀ id, id < hh.next → h'.get id = hh.get id) → hh.next ≤ h'.next → ∃ k', k' < k + 1 ∧ inv9f s k' F' h' := fun F' h' p q1 q3 q4 qk qn => ⟨k, by omega, i + 1, v', by omega, q1.trans f1, q3.trans f3, q4, (qk 0 (by omega)).trans g0, by omega, by
        rw [List.take_add_one, ho, List.map_append]
        exact hR.keep qn fun id _ h2 => qk id h2, take_all ho ha p⟩
      rcases hU with ⟨e0, rfl⟩ | ⟨h0, R, rfl, a1, a2, a3⟩
      · simp -implicitDefEqProofs only [wpC_seq, rowsA, if_true, if_false, opnd, ofVal, ofVal1, layArgs, Nat.reduceAdd, reduceIte, Nat.reduceEqDiff, reduceCtorEq, rowsB, cellsG, Nat.reduceMul, goO_known unlike9_e, f4, w]
        exact nx _ _ (by rw [e0]; rfl) (by simp only [Fr.at_set, Nat.reduceEqDiff, reduceIte]) (by simp only [Fr.at_set, Nat.reduceEqDiff, reduceIte]) (by simp only [Fr.at_set, Nat.reduceEqDiff, reduceIte]) (fun id hid => by simp only [AH.get_up]; exact hK id hid) (by simp only [AH.next_up]; omega)
      · refine goO_val (unlike9_r (by simp only [AH.get_up]; exact a3) (by rw [List.length_map]; omega)) ?_
        intro u h2 hq
        generalize hG : wpO _ _ _ _ _ _ _ _ _ _ _ = G
        obtain ⟨rfl, q2, q3⟩ := hq
        subst hG
        cases d1 : decide (o.fs.map (·.n)).Nodup with
        | false =>
          simp -implicitDefEqProofs only [wpC_seq, rowsA, if_true, if_false, opnd, ofVal, ofVal1, layArgs, Nat.reduceAdd, reduceIte, Nat.reduceEqDiff, reduceCtorEq, rowsB, cellsG, Nat.reduceMul, bad d1]
        | true =>
          simp -implicitDefEqProofs only [wpC_seq, rowsA, if_true, if_false, opnd, ofVal, ofVal1, layArgs, Nat.reduceAdd, reduceIte, Nat.reduceEqDiff, reduceCtorEq, rowsB, cellsG, Nat.reduceMul, f4, w]
          refine nx _ _ d1 (by simp only [Fr.at_set, Nat.reduceEqDiff, reduceIte]) (by simp only [Fr.at_set, Nat.reduceEqDiff, reduceIte]) (by simp only [Fr.at_set, Nat.reduceEqDiff, reduceIte]) (fun id hid => ?_) (by simp only [AH.next_up]; rw [q2]; simp only [AH.next_up]; omega)
          simp only [AH.get_up]
          rw [q3 id (by omega)]
          simp only [AH.get_up]
          exact hK id hid
  | zero =>
    have c0 : ¬ ((i : Int) < (s.os.length : Int)) := by omega
    rw [List.take_of_length_le (by omega)] at ha hR
    simp -implicitDefEqProofs only [wpC_seq, rowsA, if_true, if_false, opnd, ofVal, ofVal1, layArgs, Nat.reduceAdd, reduceIte, Nat.reduceEqDiff, reduceCtorEq, rowsB, cellsG, Nat.reduceMul, rowsS, List.drop_drop, f1, f3, f4, g0, c0]
    refine wpC_loop (inv9h s) (k := s.es.length) ⟨0, v, by omega, ?_, ?_, ?_, ?_, ?_, ?_, by simp⟩ ?_
    · simp only [Fr.at_set, Nat.reduceEqDiff, reduceIte, f1]
    · simp only [Fr.at_set, Nat.reduceEqDiff, reduceIte, f3]
    · simp only [Fr.at_set, Nat.reduceEqDiff, reduceIte]; rfl
    · simp only [AH.get_up]; exact g0
    · simp only [AH.next_up]; omega
    · rw [List.take_zero, List.map_nil, List.append_nil]
      exact hR.keep (by simp only [AH.next_up]; omega) fun id _ _ => by simp only [AH.get_up]
    clear f1 f3 f4 g0 hn hR c0 ki i v F h
    rintro k F h ⟨i, v, ki, f1, f3, f7, g0, hn, hR, hb⟩
    cases k with
    | succ k =>
      have c0 : (i : Int) < (s.es.length : Int) := by omega
      obtain ⟨o, ho⟩ : ∃ o, s.es[i]? = some o := ⟨_, List.getElem?_eq_getElem (show i < s.es.length by omega)⟩
      have hom := List.mem_of_getElem? ho
      have hwl := s5 o hom
      obtain ⟨r, hr⟩ := ix23 (l := s.es) (i := (i : Int)) (by omega) (by rw [Int.toNat_natCast]; exact ho)
      have w := IntWalk.i64_in ((i : Int) + 1) (by omega)
      have ku := unlike9_c (mx := mx) (L := o.ws) (by omega)
      simp -implicitDefEqProofs only [wpC_seq, rowsA, if_true, if_false, opnd, ofVal, ofVal1, layArgs, Nat.reduceAdd, reduceIte, Nat.reduceEqDiff, reduceCtorEq, rowsB, cellsG, Nat.reduceMul, rowsS, List.drop_drop, f1, f3, f7, g0, c0, hr, bd43_1]
      have ll : (s.os.map (·.n) ++ (s.es.take i).map (·.n)).length ≤ 100000000 := by rw [List.length_append, List.length_map, List.length_map, List.length_take]; omega
      refine goO_rw (fun v' h' => RowS 1 h' v' (s.os.map (·.n) ++ (s.es.take i).map (·.n) ++ [o.n]) ∧ (∀ id, id < 1 → h'.get id = h.get id) ∧ 1 ≤ h'.next) (RowS.pushK (hh := h) (hR.keep (by simp only [AH.next_set, AH.next_up]; omega) fun id _ h2 => ?_) (by omega) (by simp only [AH.next_set, AH.next_up]; omega) (by simp only [AH.get_set, if_true]; rfl) ll (fun id h2 => ?_) (by simp only [AH.next_set, AH.next_up]; omega)) ?_
      · simp only [AH.get_set, AH.get_up]
        rw [if_neg (by omega)]
      · simp only [AH.get_set, AH.get_up]
        rw [if_neg (by omega)]
      intro v' h' hq
      have hR' := hq.1
      have hk := hq.2.1
      have hn' := hq.2.2
      clear hq
      have g0' := (hk 0 (by omega)).trans g0
      cases d1 : decide o.ws.Nodup with
      | false =>
        have e : onceB s = false := by rw [onceB, all_cut (L := s.es) (q := fun e : En => nodupB e.ws) hom d1, Bool.and_false]
        simp -implicitDefEqProofs only [wpC_seq, rowsA, if_true, if_false, opnd, ofVal, ofVal1, layArgs, Nat.reduceAdd, reduceIte, Nat.reduceEqDiff, reduceCtorEq, rowsB, cellsG, Nat.reduceMul, rowsS, List.drop_drop, f1, f7, g0', hr, goO_known ku, d1, e]
      | true =>
        simp -implicitDefEqProofs only [wpC_seq, rowsA, if_true, if_false, opnd, ofVal, ofVal1, layArgs, Nat.reduceAdd, reduceIte, Nat.reduceEqDiff, reduceCtorEq, rowsB, cellsG, Nat.reduceMul, rowsS, List.drop_drop, f1, f7, g0', hr, goO_known ku, d1, w]
        refine ⟨k, by omega, i + 1, v', by omega, ?_, ?_, ?_, ?_, ?_, ?_, take_all ho hb d1⟩
        · simp only [Fr.at_set, Nat.reduceEqDiff, reduceIte, f1]
        · simp only [Fr.at_set, Nat.reduceEqDiff, reduceIte]
        · simp only [Fr.at_set, Nat.reduceEqDiff, reduceIte]; rfl
        · simp only [AH.get_up]; exact g0'
        · simp only [AH.next_up]; omega
        · rw [List.take_add_one, ho, List.map_append, ← List.append_assoc]
          exact hR'.keep (by simp only [AH.next_up]; omega) fun id _ _ => by simp only [AH.get_up]
    | zero =>
      have c0 : ¬ ((i : Int) < (s.es.length : Int)) := by omega
      rw [List.take_of_length_le (by omega)] at hb hR
      have e : onceB s = nodupB (s.os.map (·.n) ++ s.es.map (·.n)) := by rw [onceB, ha, hb, Bool.and_true, Bool.and_true]
      rw [e]
      simp -implicitDefEqProofs only [wpC_seq, rowsA, if_true, if_false, opnd, ofVal, ofVal1, layArgs, Nat.reduceAdd, reduceIte, Nat.reduceEqDiff, reduceCtorEq, rowsB, cellsG, Nat.reduceMul, rowsS, List.drop_drop, f1, f3, f7, g0, c0]
      rcases hR with ⟨e0, rfl⟩ | ⟨h0, R, rfl, a1, a2, a3⟩
      · simp -implicitDefEqProofs only [wpC_seq, rowsA, if_true, if_false, opnd, ofVal, ofVal1, layArgs, Nat.reduceAdd, reduceIte, Nat.reduceEqDiff, reduceCtorEq, rowsB, cellsG, Nat.reduceMul, goO_known unlike9_e]
        rw [e0]
        rfl
      · refine goO_val (unlike9_r (by simp only [AH.get_up]; exact a3) (by rw [List.length_append, List.length_map, List.length_map]; omega)) ?_
        intro u h2 hq
        generalize hG : wpO _ _ _ _ _ _ _ _ _ _ _ = G
        obtain ⟨rfl, q2, q3⟩ := hq
        subst hG
        simp -implicitDefEqProofs only [wpC_seq, rowsA, if_true, if_false, opnd, ofVal, ofVal1, layArgs, Nat.reduceAdd, reduceIte, Nat.reduceEqDiff, reduceCtorEq, rowsB, cellsG, Nat.reduceMul]
        rfl
end Go.Proofs.YtcbngkmmmfaaoaaGreatDoor
namespace Go.Proofs.YtcbngkmmmfaaoaaGreatDoor
open Go.RowKit Go.Lib Go.Ac
set_option linter.unusedSimpArgs false
set_option maxRecDepth 100000
variable {mx : Int}
theorem kind9_c {s : Sc} (hs : s.fits) (f : Fld) (h : AH) (fr : Nat) : CR Tryz.prog (globM mx) md (.fn 51) [.agg s.pv, .agg f.pv] h fr (.val (.bool (typedB s f))) := by
  refine CR.plain (rs := [.tmp 4]) Tryz.func51 rfl rfl rfl rfl rfl rfl rfl ?_ h fr
  unfold typedB
  have kp := prop_c (mx := mx) hs f
  have ke := refEdge_c (mx := mx) hs f
  cases c1 : propB s f with
  | true =>
    cases c2 : decide (f.w = []) with
    | true => simp -implicitDefEqProofs only [wpC_seq, rowsA, if_true, if_false, opnd, ofVal, ofVal1, layArgs, Nat.reduceAdd, reduceIte, Nat.reduceEqDiff, reduceCtorEq, rowsB, cellsG, Nat.reduceMul, rowsS, List.drop_drop, goO_known kp, c1, c2, Bool.true_or, Array.toList_empty]
    | false => simp -implicitDefEqProofs only [wpC_seq, rowsA, if_true, if_false, opnd, ofVal, ofVal1, layArgs, Nat.reduceAdd, reduceIte, Nat.reduceEqDiff, reduceCtorEq, rowsB, cellsG, Nat.reduceMul, rowsS, List.drop_drop, goO_known kp, c1, c2, Bool.false_or, Array.toList_empty]
  | false =>
    have eE : edgeOf s f = objAt s f.t := by rw [edgeOf, c1]; rfl
    rw [eE] at ke
    by_cases c3 : 0 ≤ objAt s f.t
    · cases c2 : decide (f.w = []) with
      | true => simp -implicitDefEqProofs only [wpC_seq, rowsA, if_true, if_false, opnd, ofVal, ofVal1, layArgs, Nat.reduceAdd, reduceIte, Nat.reduceEqDiff, reduceCtorEq, rowsB, cellsG, Nat.reduceMul, rowsS, List.drop_drop, goO_known kp, goO_known ke, c1, c2, c3, Bool.true_or, Bool.true_and, decide_true, Array.toList_empty]
      | false => simp -implicitDefEqProofs only [wpC_seq, rowsA, if_true, if_false, opnd, ofVal, ofVal1, layArgs, Nat.reduceAdd, reduceIte, Nat.reduceEqDiff, reduceCtorEq, rowsB, cellsG, Nat.reduceMul, rowsS, List.drop_drop, goO_known kp, goO_known ke, c1, c2, c3, Bool.false_or, Bool.true_and, decide_true, Array.toList_empty]
    · simp -implicitDefEqProofs only [wpC_seq, rowsA, if_true, if_false, opnd, ofVal, ofVal1, layArgs, Nat.reduceAdd, reduceIte, Nat.reduceEqDiff, reduceCtorEq, rowsB, cellsG, Nat.reduceMul, rowsS, List.drop_drop, goO_known kp, goO_known ke, c1, c3, Bool.false_and, decide_false, Array.toList_empty]
theorem back9_c {s : Sc} (hs : s.fits) (o : Ob) (f : Fld) (h : AH) (fr : Nat) : CR Tryz.prog (globM mx) md (.fn 52) [.agg s.pv, .agg o.pv, .agg f.pv] h fr (.val (.bool (backB s o f))) := by
  refine CR.plain (rs := [.tmp 6]) Tryz.func52 rfl rfl rfl rfl rfl (by simp [PV.cleans, PV.clean, Sc.cl, Fld.cl, Ob.cl]) rfl ?_ h fr
  unfold backB
  by_cases c1 : f.inv = []
  · simp -implicitDefEqProofs only [wpC_seq, rowsA, if_true, if_false, opnd, ofVal, ofVal1, layArgs, Nat.reduceAdd, reduceIte, Nat.reduceEqDiff, reduceCtorEq, rowsB, cellsG, Nat.reduceMul, rowsS, List.drop_drop, c1, Array.toList_empty]
  rcases edge_range s f with he | ⟨j, q, he, hq⟩
  · have c2 : (-1 : Int) < 0 := by decide
    simp -implicitDefEqProofs only [wpC_seq, rowsA, if_true, if_false, opnd, ofVal, ofVal1, layArgs, Nat.reduceAdd, reduceIte, Nat.reduceEqDiff, reduceCtorEq, rowsB, cellsG, Nat.reduceMul, rowsS, List.drop_drop, c1, goO_known (refEdge_c hs f), he, c2, Array.toList_empty]
  have c2 : ¬ ((j : Int) < 0) := by omega
  obtain ⟨r, hr⟩ := ix22 (l := s.os) (i := (j : Int)) (by omega) (by rw [Int.toNat_natCast]; exact hq)
  have hqm := hs.2.2 q (List.mem_of_getElem? hq)
  have hpl := refField_c (mx := mx) q hqm f.inv
  rcases place_range q f.inv with hp | ⟨i, g, hp, hg⟩
  · have c3 : (-1 : Int) < 0 := by decide
    rw [show idx (fun g : Fld => decide (g.n = f.inv)) q.fs 0 = -1 from hp] at hpl
    simp -implicitDefEqProofs only [wpC_seq, rowsA, if_true, if_false, opnd, ofVal, ofVal1, layArgs, Nat.reduceAdd, reduceIte, Nat.reduceEqDiff, reduceCtorEq, rowsB, cellsG, Nat.reduceMul, rowsS, List.drop_drop, c1, goO_known (refEdge_c hs f), he, c2, hr, goD_known hpl, hp, c3, Int.toNat_natCast, hq, Array.toList_empty]
  have c3 : ¬ ((i : Int) < 0) := by omega
  obtain ⟨r2, hr2⟩ := ix39 (l := q.fs) (i := (i : Int)) (by omega) (by rw [Int.toNat_natCast]; exact hg)
  rw [show idx (fun g : Fld => decide (g.n = f.inv)) q.fs 0 = (i : Int) from hp] at hpl
  by_cases c4 : 0 ≤ edgeOf s g
  · by_cases c5 : g.t = o.n
    · simp -implicitDefEqProofs only [wpC_seq, rowsA, if_true, if_false, opnd, ofVal, ofVal1, layArgs, Nat.reduceAdd, reduceIte, Nat.reduceEqDiff, reduceCtorEq, rowsB, cellsG, Nat.reduceMul, rowsS, List.drop_drop, c1, goO_known (refEdge_c hs f), he, c2, hr, goD_known hpl, hp, c3, Int.toNat_natCast, hq, hg, hr2, al33, sz33, st33, goO_known (refEdge_c hs g), c4, c5, Bool.true_and, Array.toList_empty, decide_true]
    · simp -implicitDefEqProofs only [wpC_seq, rowsA, if_true, if_false, opnd, ofVal, ofVal1, layArgs, Nat.reduceAdd, reduceIte, Nat.reduceEqDiff, reduceCtorEq, rowsB, cellsG, Nat.reduceMul, rowsS, List.drop_drop, c1, goO_known (refEdge_c hs f), he, c2, hr, goD_known hpl, hp, c3, Int.toNat_natCast, hq, hg, hr2, al33, sz33, st33, goO_known (refEdge_c hs g), c4, c5, Bool.true_and, Bool.false_and, Array.toList_empty, decide_true, decide_false]
  · simp -implicitDefEqProofs only [wpC_seq, rowsA, if_true, if_false, opnd, ofVal, ofVal1, layArgs, Nat.reduceAdd, reduceIte, Nat.reduceEqDiff, reduceCtorEq, rowsB, cellsG, Nat.reduceMul, rowsS, List.drop_drop, c1, goO_known (refEdge_c hs f), he, c2, hr, goD_known hpl, hp, c3, Int.toNat_natCast, hq, hg, hr2, al33, sz33, st33, goO_known (refEdge_c hs g), c4, Bool.false_and, Array.toList_empty, decide_false]
end Go.Proofs.YtcbngkmmmfaaoaaGreatDoor
