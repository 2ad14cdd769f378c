/-
  JOINED TEXTS (T1 T2 T3 T4 T5 T6 T7 T8): what this law wants beyond the shared ones.
-/
import Derived.Test.YtcbngkmmmfaaoaaGreatDoorM10
import Derived.Test.YtcbngkmmmfaaoaaGreatDoorM15
import Derived.Test.YtcbngkmmmfaaoaaGreatDoorM11
set_option linter.unusedVariables false
set_option linter.unusedSimpArgs false
namespace Go.Proofs.YtcbngkmmmfaaoaaGreatDoor
open Go.RowKit Go.Lib Go.Ac
set_option linter.unusedSimpArgs false
set_option maxRecDepth 100000
variable {mx : Int}
def isR (n : Int) : Bool := decide (0 ≤ n) && (decide (n ≤ 1114111) && (decide (n < 55296) || decide (57343 < n)))
theorem rIs_c (n : Int) (h : AH) (fr : Nat) : CR Tryz.prog (globM mx) md (.fn 181) [.int .i64 n] h fr (.val (.bool (isR n))) := by
  refine CR.plain (rs := [.tmp 2]) Tryz.func181 rfl rfl rfl rfl rfl rfl rfl ?_ h fr
  by_cases c1 : 0 ≤ n <;> by_cases c2 : n ≤ 1114111 <;> by_cases c3 : n < 55296
  all_goals
    simp -implicitDefEqProofs only [wpC_seq, rowsA, if_true, if_false, opnd, ofVal, ofVal1, layArgs, Nat.reduceAdd, reduceIte, Nat.reduceEqDiff, reduceCtorEq, rowsB, cellsG, Nat.reduceMul, c1, c2, c3]
    simp [isR, c1, c2, c3]
theorem z5 : tyZero Tryz.prog 5 = some [.int .u8 0] := by kernel_rfl
theorem bs1 (a : Int) (fr : Nat) : buildO Tryz.prog fr 171 1 [(0, .int .u8 a)] = some (.w (.ow fr 1 0 1) fr (.cells 5 1 false [.int .u8 a])) :=
  build_all (n := 1) (zc := [.int .u8 0]) u171 sz5 z5 rfl (by omega) (by omega) (by omega) rfl
theorem bs2 (a b : Int) (fr : Nat) : buildO Tryz.prog fr 171 2 [(0, .int .u8 a), (1, .int .u8 b)] = some (.w (.ow fr 2 0 2) fr (.cells 5 1 false [.int .u8 a, .int .u8 b])) :=
  build_all (n := 1) (zc := [.int .u8 0]) u171 sz5 z5 rfl (by omega) (by omega) (by omega) rfl
theorem bs4 (a b c d : Int) (fr : Nat) : buildO Tryz.prog fr 171 4 [(0, .int .u8 a), (1, .int .u8 b), (2, .int .u8 c), (3, .int .u8 d)] = some (.w (.ow fr 4 0 4) fr (.cells 5 1 false [.int .u8 a, .int .u8 b, .int .u8 c, .int .u8 d])) :=
  build_all (n := 1) (zc := [.int .u8 0]) u171 sz5 z5 rfl (by omega) (by omega) (by omega) rfl
theorem q64 (a : Int) (h : AH) : binO Tryz.prog h .quo 3 (.int .i64 a) (.int .i64 64) = some (.q (.int .i64 (IntKind.i64.wrap (a.tdiv 64)))) := bin_quo (by decide)
theorem q4096 (a : Int) (h : AH) : binO Tryz.prog h .quo 3 (.int .i64 a) (.int .i64 4096) = some (.q (.int .i64 (IntKind.i64.wrap (a.tdiv 4096)))) := bin_quo (by decide)
theorem q262144 (a : Int) (h : AH) : binO Tryz.prog h .quo 3 (.int .i64 a) (.int .i64 262144) = some (.q (.int .i64 (IntKind.i64.wrap (a.tdiv 262144)))) := bin_quo (by decide)
theorem r64 (a : Int) (h : AH) : binO Tryz.prog h .rem 3 (.int .i64 a) (.int .i64 64) = some (.q (.int .i64 (a.tmod 64))) := bin_rem (by decide)
theorem rBytes_c (n : Int) : ∃ x : List UInt8, 1 ≤ x.length ∧ x.length ≤ 4 ∧ ∀ (h : AH) (fr : Nat), CR Tryz.prog (globM mx) md (.fn 182) [.int .i64 n] h fr (.val (.str x)) := by
  obtain ⟨v, ⟨x, rfl, h1, h2⟩, _, h3⟩ := CR.some (P := Tryz.prog) (G := globM mx) (md := md) (k := 182) (args := [.int .i64 n]) (Q := fun v => ∃ x : List UInt8, v = .str x ∧ 1 ≤ x.length ∧ x.length ≤ 4) (rs := [.tmp 2]) Tryz.func182 rfl rfl rfl rfl rfl rfl (by
    by_cases c1 : n < 128
    · simp -implicitDefEqProofs only [wpC_seq, rowsA, if_true, if_false, opnd, ofVal, ofVal1, layArgs, Nat.reduceAdd, reduceIte, Nat.reduceEqDiff, reduceCtorEq, rowsB, cellsG, Nat.reduceMul, c1, conv_int u3 u5, bs1, conv_bytes u171 u5 u9, convG_some, cellsG_all (n := 1) (fz := false) (E := 5) (c := [_]) rfl, EndS_normal, EndS_ret, RS_some]
      exact ⟨⟨_, rfl, by simp, by simp⟩, rfl⟩
    by_cases c2 : n < 2048
    · simp -implicitDefEqProofs only [wpC_seq, rowsA, if_true, if_false, opnd, ofVal, ofVal1, layArgs, Nat.reduceAdd, reduceIte, Nat.reduceEqDiff, reduceCtorEq, rowsB, cellsG, Nat.reduceMul, c1, c2, q64, r64, conv_int u3 u5, bs2, conv_bytes u171 u5 u9, convG_some, cellsG_all (n := 2) (fz := false) (E := 5) (c := [_, _]) rfl, EndS_normal, EndS_ret, RS_some]
      exact ⟨⟨_, rfl, by simp, by simp⟩, rfl⟩
    by_cases c3 : n < 65536
    · simp -implicitDefEqProofs only [wpC_seq, rowsA, if_true, if_false, opnd, ofVal, ofVal1, layArgs, Nat.reduceAdd, reduceIte, Nat.reduceEqDiff, reduceCtorEq, rowsB, cellsG, Nat.reduceMul, c1, c2, c3, q64, r64, q4096, conv_int u3 u5, bs3, conv_bytes u171 u5 u9, convG_some, cellsG_all (n := 3) (fz := false) (E := 5) (c := [_, _, _]) rfl, EndS_normal, EndS_ret, RS_some]
      exact ⟨⟨_, rfl, by simp, by simp⟩, rfl⟩
    simp -implicitDefEqProofs only [wpC_seq, rowsA, if_true, if_false, opnd, ofVal, ofVal1, layArgs, Nat.reduceAdd, reduceIte, Nat.reduceEqDiff, reduceCtorEq, rowsB, cellsG, Nat.reduceMul, c1, c2, c3, q64, r64, q4096, q262144, conv_int u3 u5, bs4, conv_bytes u171 u5 u9, convG_some, cellsG_all (n := 4) (fz := false) (E := 5) (c := [_, _, _, _]) rfl, EndS_normal, EndS_ret, RS_some]
    exact ⟨⟨_, rfl, by simp, by simp⟩, rfl⟩)
  exact ⟨x, h1, h2, h3⟩
theorem rUnit_c (n : Int) : ∃ x : List UInt8, x.length ≤ 4 ∧ ∀ (h : AH) (fr : Nat), CR Tryz.prog (globM mx) md (.fn 184) [.int .i64 n] h fr (.val (.str x)) := by
  obtain ⟨w, w1, w2, kw⟩ := rBytes_c (mx := mx) n
  obtain ⟨v, ⟨x, rfl, h1⟩, _, h3⟩ := CR.some (P := Tryz.prog) (G := globM mx) (md := md) (k := 184) (args := [.int .i64 n]) (Q := fun v => ∃ x : List UInt8, v = .str x ∧ x.length ≤ 4) (rs := [.tmp 2]) Tryz.func184 rfl rfl rfl rfl rfl rfl (by
    cases c1 : isR n with
    | true =>
      simp -implicitDefEqProofs only [wpC_seq, rowsA, if_true, if_false, opnd, ofVal, ofVal1, layArgs, Nat.reduceAdd, reduceIte, Nat.reduceEqDiff, reduceCtorEq, rowsB, cellsG, Nat.reduceMul, goO_known (rIs_c n), c1, goO_known kw, EndS_normal, EndS_ret, RS_some]
      exact ⟨⟨_, rfl, w2⟩, rfl⟩
    | false =>
      simp -implicitDefEqProofs only [wpC_seq, rowsA, if_true, if_false, opnd, ofVal, ofVal1, layArgs, Nat.reduceAdd, reduceIte, Nat.reduceEqDiff, reduceCtorEq, rowsB, cellsG, Nat.reduceMul, goO_known (rIs_c n), c1, q64, r64, q4096, conv_int u3 u5, bs3, conv_bytes u171 u5 u9, convG_some, cellsG_all (n := 3) (fz := false) (E := 5) (c := [_, _, _]) rfl, EndS_normal, EndS_ret, RS_some]
      exact ⟨⟨_, rfl, by simp⟩, rfl⟩)
  exact ⟨x, h1, h3⟩
def bz (s : List UInt8) (a : Int) : Int := if a < s.length then byteAt s a else 0
theorem rAt_c (s : List UInt8) {a : Int} (ha : 0 ≤ a) (h : AH) (fr : Nat) : CR Tryz.prog (globM mx) md (.fn 159) [.str s, .int .i64 a] h fr (.val (.int .u8 (bz s a))) := by
  refine CR.plain (rs := [.tmp 4]) Tryz.func159 rfl rfl rfl rfl rfl rfl rfl ?_ h fr
  by_cases c1 : a < (s.length : Int)
  · have c2 : ¬ ((s.length : Int) ≤ a) := by omega
    simp -implicitDefEqProofs only [wpC_seq, rowsA, if_true, if_false, opnd, ofVal, ofVal1, layArgs, Nat.reduceAdd, reduceIte, Nat.reduceEqDiff, reduceCtorEq, rowsB, cellsG, Nat.reduceMul, len_str u9, c2, ixs ha c1]
    simp [bz, c1]
  · have c2 : (s.length : Int) ≤ a := by omega
    simp -implicitDefEqProofs only [wpC_seq, rowsA, if_true, if_false, opnd, ofVal, ofVal1, layArgs, Nat.reduceAdd, reduceIte, Nat.reduceEqDiff, reduceCtorEq, rowsB, cellsG, Nat.reduceMul, len_str u9, c2]
    simp [bz, c1]
theorem bz_range (s : List UInt8) (a : Int) : 0 ≤ bz s a ∧ bz s a < 256 := by
  unfold bz
  split
  · exact byteAt_range s a
  · decide
def digR (c : Int) : Bool := decide (48 ≤ c) && decide (c ≤ 57)
def letR (c : Int) : Bool := (decide (97 ≤ c) && decide (c ≤ 122)) || ((decide (65 ≤ c) && decide (c ≤ 90)) || decide (c = 95))
theorem rDigit_c (c : Int) (h : AH) (fr : Nat) : CR Tryz.prog (globM mx) md (.fn 160) [.int .u8 c] h fr (.val (.bool (digR c))) := by
  refine CR.plain (rs := [.tmp 2]) Tryz.func160 rfl rfl rfl rfl rfl rfl rfl ?_ h fr
  by_cases c1 : 48 ≤ c <;> by_cases c2 : c ≤ 57
  all_goals
    simp -implicitDefEqProofs only [wpC_seq, rowsA, if_true, if_false, opnd, ofVal, ofVal1, layArgs, Nat.reduceAdd, reduceIte, Nat.reduceEqDiff, reduceCtorEq, rowsB, cellsG, Nat.reduceMul, c1, c2]
    simp [digR, c1, c2]
theorem rLetter_c (c : Int) (h : AH) (fr : Nat) : CR Tryz.prog (globM mx) md (.fn 158) [.int .u8 c] h fr (.val (.bool (letR c))) := by
  refine CR.plain (rs := [.tmp 2]) Tryz.func158 rfl rfl rfl rfl rfl rfl rfl ?_ h fr
  by_cases c1 : 97 ≤ c <;> by_cases c2 : c ≤ 122 <;> by_cases c3 : 65 ≤ c <;> by_cases c4 : c ≤ 90 <;> cases c5 : decide (c = 95)
  all_goals
    simp -implicitDefEqProofs only [wpC_seq, rowsA, if_true, if_false, opnd, ofVal, ofVal1, layArgs, Nat.reduceAdd, reduceIte, Nat.reduceEqDiff, reduceCtorEq, rowsB, cellsG, Nat.reduceMul, c1, c2, c3, c4, c5]
    simp [letR, c1, c2, c3, c4, c5]
theorem let_eq : ∀ c : Fin 256, inB (c.val : Int) lettersL = letR c.val ∧ inB (c.val : Int) (lettersL ++ digitsL) = (letR c.val || digR c.val) := by decide +kernel
theorem byte_fin (s : List UInt8) (a : Int) : ∃ m : Fin 256, byteAt s a = (m.val : Int) := by
  obtain ⟨q1, q2⟩ := byteAt_range s a
  exact ⟨⟨(byteAt s a).toNat, by omega⟩, by simp only; omega⟩
theorem isLet_R (s : List UInt8) (a : Int) : isLet (byteAt s a) ↔ letR (byteAt s a) = true := by
  obtain ⟨m, hm⟩ := byte_fin s a
  rw [isLet, hm, (let_eq m).1]
theorem rBegins_c (s p : List UInt8) {a : Int} (ha : 0 ≤ a) (hb : a ≤ s.length) (hl : s.length ≤ 16384) (hp : p.length ≤ 16384) (h : AH) (fr : Nat) : CR Tryz.prog (globM mx) md (.fn 156) [.str s, .int .i64 a, .str p] h fr (.val (.bool (hasP (s.drop a.toNat) p))) := by
  refine CR.plain (rs := [.tmp 6]) Tryz.func156 rfl rfl rfl rfl rfl rfl rfl ?_ h fr
  have w1 := IntWalk.i64_in ((s.length : Int) - a) (by omega)
  have w2 := IntWalk.i64_in (a + (p.length : Int)) (by omega)
  have hd : (s.drop a.toNat).length = s.length - a.toNat := List.length_drop
  by_cases c1 : (p.length : Int) ≤ (s.length : Int) - a
  · have hsl := fun (h : AH) => slice_both (P := Tryz.prog) (h := h) (t := 9) (l := s) (k := .i64) (k' := .i64) (i := a) (j := a + (p.length : Int)) u9 ha (by omega) (by omega)
    have e1 : decide (p.length ≤ (s.drop a.toNat).length) = true := decide_eq_true (by omega)
    have e2 : (a + (p.length : Int)).toNat - a.toNat = p.length := by omega
    rw [e2] at hsl
    simp -implicitDefEqProofs only [wpC_seq, rowsA, if_true, if_false, opnd, ofVal, ofVal1, layArgs, Nat.reduceAdd, reduceIte, Nat.reduceEqDiff, reduceCtorEq, rowsB, cellsG, Nat.reduceMul, len_str u9, w1, w2, c1, hsl]
    simp [hasP, e1]
    omega
  · have e1 : decide (p.length ≤ (s.drop a.toNat).length) = false := decide_eq_false (by omega)
    simp -implicitDefEqProofs only [wpC_seq, rowsA, if_true, if_false, opnd, ofVal, ofVal1, layArgs, Nat.reduceAdd, reduceIte, Nat.reduceEqDiff, reduceCtorEq, rowsB, cellsG, Nat.reduceMul, len_str u9, w1, c1]
    simp [hasP, e1]
    omega
def invRn (s : List UInt8) (a : Int) (k : Nat) (F : Fr) (_ : AH) : Prop := ∃ j : Nat, k + (a.toNat + j) = s.length + 1 ∧ a + j ≤ s.length ∧ F.at 0 = .str s ∧ F.at 1 = .int .i64 a ∧ F.at 5 = .int .i64 j
theorem rRun_c (s : List UInt8) {a : Int} (ha : 0 ≤ a) (hb : a ≤ s.length) (hl : s.length ≤ 16384) : ∃ n : Nat, a + n ≤ s.length ∧ ∀ (h : AH) (fr : Nat), CR Tryz.prog (globM mx) md (.fn 169) [.str s, .int .i64 a] h fr (.val (.int .i64 n)) := by
  obtain ⟨v, ⟨n, rfl, h1⟩, _, h3⟩ := CR.some (P := Tryz.prog) (G := globM mx) (md := md) (k := 169) (args := [.str s, .int .i64 a]) (Q := fun v => ∃ n : Nat, v = .int .i64 n ∧ a + n ≤ s.length) (rs := [.tmp 4]) Tryz.func169 rfl rfl rfl rfl rfl rfl (by
    simp -implicitDefEqProofs only [wpC_seq, rowsA, if_true, if_false, opnd, ofVal, ofVal1, layArgs, Nat.reduceAdd, reduceIte, Nat.reduceEqDiff, reduceCtorEq, rowsB, cellsG, Nat.reduceMul]
    refine wpC_loop (invRn s a) (k := s.length + 1 - a.toNat) ⟨0, by omega, by omega, ?_, ?_, ?_⟩ ?_
    · simp only [Fr.at_set, Nat.reduceEqDiff, reduceIte, reduceCtorEq]
    · simp only [Fr.at_set, Nat.reduceEqDiff, reduceIte, reduceCtorEq]
    · simp only [Fr.at_set, Nat.reduceEqDiff, reduceIte, reduceCtorEq]; rfl
    rintro k F h ⟨j, kj, j1, f0, f1, f5⟩
    have w := IntWalk.i64_in (a + (j : Int)) (by omega)
    have w' := IntWalk.i64_in ((j : Int) + 1) (by omega)
    cases c1 : digR (bz s (a + j)) with
    | false =>
      simp -implicitDefEqProofs only [wpC_seq, rowsA, if_true, if_false, opnd, ofVal, ofVal1, layArgs, Nat.reduceAdd, reduceIte, Nat.reduceEqDiff, reduceCtorEq, rowsB, cellsG, Nat.reduceMul, f0, f1, f5, w, goO_known (rAt_c s (show (0 : Int) ≤ a + j by omega)), goO_known (rDigit_c _), c1, EndS_normal, EndS_ret, RS_some]
      exact ⟨⟨j, rfl, j1⟩, rfl⟩
    | true =>
      have c2 : a + j < s.length := by
        apply Decidable.byContradiction
        intro q
        rw [bz, if_neg q] at c1
        cases c1
      simp -implicitDefEqProofs only [wpC_seq, rowsA, if_true, if_false, opnd, ofVal, ofVal1, layArgs, Nat.reduceAdd, reduceIte, Nat.reduceEqDiff, reduceCtorEq, rowsB, cellsG, Nat.reduceMul, f0, f1, f5, w, w', goO_known (rAt_c s (show (0 : Int) ≤ a + j by omega)), goO_known (rDigit_c _), c1]
      refine ⟨k - 1, by omega, j + 1, by omega, by omega, ?_, ?_, ?_⟩
      · simp only [Fr.at_set, Nat.reduceEqDiff, reduceIte, reduceCtorEq, f0]
      · simp only [Fr.at_set, Nat.reduceEqDiff, reduceIte, reduceCtorEq, f1]
      · simp only [Fr.at_set, Nat.reduceEqDiff, reduceIte, reduceCtorEq]; rfl)
  exact ⟨n, h1, h3⟩
def hexR (c : Int) : Int := if digR c then c - 48 else if 97 ≤ c ∧ c ≤ 102 then c - 97 + 10 else if 65 ≤ c ∧ c ≤ 70 then c - 65 + 10 else -1
theorem rHex_c (c : Int) (h0 : 0 ≤ c) (h1 : c < 256) (h : AH) (fr : Nat) : CR Tryz.prog (globM mx) md (.fn 183) [.int .u8 c] h fr (.val (.int .i64 (hexR c))) := by
  refine CR.plain (rs := [.tmp 2]) Tryz.func183 rfl rfl rfl rfl rfl rfl rfl ?_ h fr
  cases c1 : digR c with
  | true =>
    have e : hexR c = c - 48 := by simp [hexR, c1]
    simp only [digR, Bool.and_eq_true, decide_eq_true_eq] at c1
    have w1 := IntWalk.u8_in (c - 48) (by omega)
    have w2 := IntWalk.i64_in (c - 48) (by omega)
    simp -implicitDefEqProofs only [wpC_seq, rowsA, if_true, if_false, opnd, ofVal, ofVal1, layArgs, Nat.reduceAdd, reduceIte, Nat.reduceEqDiff, reduceCtorEq, rowsB, cellsG, Nat.reduceMul, goO_known (rDigit_c c), show digR c = true by simp [digR, c1], w1, w2, conv_int u5 u3, e]
  | false =>
    by_cases c2 : 97 ≤ c
    · by_cases c3 : c ≤ 102
      · have e : hexR c = c - 97 + 10 := by simp [hexR, c1, c2, c3]
        have w1 := IntWalk.u8_in (c - 97) (by omega)
        have w2 := IntWalk.i64_in (c - 97) (by omega)
        have w3 := IntWalk.i64_in (c - 97 + 10) (by omega)
        simp -implicitDefEqProofs only [wpC_seq, rowsA, if_true, if_false, opnd, ofVal, ofVal1, layArgs, Nat.reduceAdd, reduceIte, Nat.reduceEqDiff, reduceCtorEq, rowsB, cellsG, Nat.reduceMul, goO_known (rDigit_c c), c1, c2, c3, w1, w2, w3, conv_int u5 u3, e]
      · have c4 : 65 ≤ c := by omega
        have c5 : ¬ c ≤ 70 := by omega
        have e : hexR c = -1 := by simp [hexR, c1, c3, c5]
        simp -implicitDefEqProofs only [wpC_seq, rowsA, if_true, if_false, opnd, ofVal, ofVal1, layArgs, Nat.reduceAdd, reduceIte, Nat.reduceEqDiff, reduceCtorEq, rowsB, cellsG, Nat.reduceMul, goO_known (rDigit_c c), c1, c2, c3, c4, c5, e]
    · by_cases c4 : 65 ≤ c
      · by_cases c5 : c ≤ 70
        · have e : hexR c = c - 65 + 10 := by simp [hexR, c1, c2, c4, c5]
          have w1 := IntWalk.u8_in (c - 65) (by omega)
          have w2 := IntWalk.i64_in (c - 65) (by omega)
          have w3 := IntWalk.i64_in (c - 65 + 10) (by omega)
          simp -implicitDefEqProofs only [wpC_seq, rowsA, if_true, if_false, opnd, ofVal, ofVal1, layArgs, Nat.reduceAdd, reduceIte, Nat.reduceEqDiff, reduceCtorEq, rowsB, cellsG, Nat.reduceMul, goO_known (rDigit_c c), c1, c2, c4, c5, w1, w2, w3, conv_int u5 u3, e]
        · have e : hexR c = -1 := by simp [hexR, c1, c2, c5]
          simp -implicitDefEqProofs only [wpC_seq, rowsA, if_true, if_false, opnd, ofVal, ofVal1, layArgs, Nat.reduceAdd, reduceIte, Nat.reduceEqDiff, reduceCtorEq, rowsB, cellsG, Nat.reduceMul, goO_known (rDigit_c c), c1, c2, c4, c5, e]
      · have e : hexR c = -1 := by simp [hexR, c1, c2, c4]
        simp -implicitDefEqProofs only [wpC_seq, rowsA, if_true, if_false, opnd, ofVal, ofVal1, layArgs, Nat.reduceAdd, reduceIte, Nat.reduceEqDiff, reduceCtorEq, rowsB, cellsG, Nat.reduceMul, goO_known (rDigit_c c), c1, c2, c4, e]
theorem hexR_0 : hexR 0 = -1 := by decide
end Go.Proofs.YtcbngkmmmfaaoaaGreatDoor
namespace Go.Ac
theorem wpC_cutK {P : Program} {G : Glob} {md : FuncId → Md} {nt : Option Nat} {a b : Code} {i : Nat} {f : Fr} {h : AH} {Q : EX → Fr → AH → Prop} (I : Fr → AH → Prop) (ha : wpC P G md nt a f h (KB i (KE I Q))) (hb : ∀ f' h', I f' h' → wpC P G md nt b f' h' Q) : wpC P G md nt a f h (KB i (KS P G md nt b Q)) := by
  refine wpC_mono a f h _ _ (fun x f h q => ?_) ha
  cases x with
  | normal => exact hb _ _ q
  | exit j =>
    by_cases c : j = i
    · subst c
      rw [KB_same] at q ⊢
      exact hb _ _ q
    · rw [KB_exit _ _ _ _ _ c] at q ⊢
      exact q
  | _ => exact q
end Go.Ac
namespace Go.Proofs.YtcbngkmmmfaaoaaGreatDoor
open Go.RowKit Go.Lib Go.Ac
set_option linter.unusedSimpArgs false
set_option maxRecDepth 100000
variable {mx : Int}
theorem u178 : Tryz.prog.underlying 178 = some (.slice 3) := by kernel_rfl
theorem bi4 (a b c d : Int) (fr : Nat) : buildO Tryz.prog fr 178 4 [(0, .int .i64 a), (1, .int .i64 b), (2, .int .i64 c), (3, .int .i64 d)] = some (.w (.ow fr 4 0 4) fr (.cells 3 1 false [.int .i64 a, .int .i64 b, .int .i64 c, .int .i64 d])) :=
  build_all (n := 1) (zc := [.int .i64 0]) u178 sz3 z3 rfl (by omega) (by omega) (by omega) rfl
def cI4 (a b c d : Int) : AO := .cells 3 1 false [.int .i64 a, .int .i64 b, .int .i64 c, .int .i64 d]
theorem cI4_eq (a b c d : Int) : cI4 a b c d = .cells 3 1 false [.int .i64 a, .int .i64 b, .int .i64 c, .int .i64 d] := rfl
def invRu (s : List UInt8) (a : Int) (k : Nat) (F : Fr) (h : AH) : Prop := ∃ j : Nat, ∃ x y z w : Int, k + j = 4 ∧ 1 ≤ j ∧ F.at 0 = .str s ∧ F.at 1 = .int .i64 a ∧ F.at 6 = .ow 14 4 0 4 ∧ F.at 7 = .int .i64 j ∧ h.get 14 = some (cI4 x y z w)
def RuM (s : List UInt8) (a : Int) (F : Fr) (_ : AH) : Prop := F.at 0 = .str s ∧ F.at 1 = .int .i64 a ∧ ∃ n, F.at 8 = .int .i64 n
set_option maxHeartbeats 2000000 in
theorem rRune_c (s : List UInt8) (hl : s.length ≤ 16384) {a : Int} (ha : 0 ≤ a) (hb : a ≤ s.length) : ∃ c n : Int, (n = 0 ∨ (1 ≤ n ∧ a + n ≤ s.length)) ∧ ∀ (h : AH) (fr : Nat), CR Tryz.prog (globM mx) md (.fn 168) [.str s, .int .i64 a] h fr (.val (.tup [.int .i64 c, .int .i64 n])) := by
  obtain ⟨v, ⟨c, n, rfl, h1⟩, _, h3⟩ := CR.some (P := Tryz.prog) (G := globM mx) (md := md) (k := 168) (args := [.str s, .int .i64 a]) (Q := fun v => ∃ c n : Int, v = .tup [.int .i64 c, .int .i64 n] ∧ (n = 0 ∨ (1 ≤ n ∧ a + n ≤ s.length))) (rs := [.tmp 4, .tmp 5]) Tryz.func168 rfl rfl rfl rfl rfl rfl (by
    have c1 : ¬ (a < 0) := by omega
    by_cases c2 : (s.length : Int) ≤ a
    · simp -implicitDefEqProofs only [wpC_seq, rowsA, if_true, if_false, opnd, ofVal, ofVal1, layArgs, Nat.reduceAdd, reduceIte, Nat.reduceEqDiff, reduceCtorEq, rowsB, cellsG, Nat.reduceMul, c1, c2, len_str u9, EndS_normal, EndS_ret, RS_some]
      exact ⟨⟨0, 0, ⟨rfl, rfl⟩, .inl rfl⟩, rfl⟩
    have wb := fun i => IntWalk.i64_in (byteAt s i) (by have := byteAt_range s i; omega)
    simp -implicitDefEqProofs only [wpC_seq, rowsA, if_true, if_false, opnd, ofVal, ofVal1, layArgs, Nat.reduceAdd, reduceIte, Nat.reduceEqDiff, reduceCtorEq, rowsB, cellsG, Nat.reduceMul, c1, c2, len_str u9, ixs ha (show a < s.length by omega), conv_int u5 u3, wb, bi4]
    refine wpC_cutK (fun F h => F.at 0 = .str s ∧ F.at 1 = .int .i64 a ∧ F.at 6 = .ow 14 4 0 4 ∧ ∃ x y z w, h.get 14 = some (cI4 x y z w)) ?_ ?_
    · refine wpC_loop (invRu s a) (k := 3) ⟨1, byteAt s a, -1, -1, -1, by omega, by omega, ?_, ?_, ?_, ?_, ?_⟩ ?_
      · simp only [Fr.at_set, Nat.reduceEqDiff, reduceIte, reduceCtorEq]
      · simp only [Fr.at_set, Nat.reduceEqDiff, reduceIte, reduceCtorEq]
      · simp only [Fr.at_set, Nat.reduceEqDiff, reduceIte, reduceCtorEq]
      · simp only [Fr.at_set, Nat.reduceEqDiff, reduceIte, reduceCtorEq]; rfl
      · simp only [AH.get_up, AH.get_set, if_true]; rfl
      rintro k F h ⟨j, x, y, z, w, kj, j1, f0, f1, f6, f7, g⟩
      have g' := g
      rw [cI4_eq] at g'
      have w1 := IntWalk.i64_in (a + (j : Int)) (by omega)
      have w2 := IntWalk.i64_in ((j : Int) + 1) (by omega)
      by_cases d1 : (j : Int) < 4
      · by_cases d2 : a + (j : Int) < (s.length : Int)
        · have hj : j = 1 ∨ j = 2 ∨ j = 3 := by omega
          have nx : ∀ (F' : Fr) (h' : AH), F'.at 0 = F.at 0 → F'.at 1 = F.at 1 → F'.at 6 = F.at 6 → F'.at 7 = .int .i64 ((j : Int) + 1) → (∃ x' y' z' w', h'.get 14 = some (cI4 x' y' z' w')) → ∃ k', k' < k ∧ invRu s a k' F' h' := fun F' h' q0 q1 q6 q7 ⟨x', y', z', w', qg⟩ => ⟨k - 1, by omega, j + 1, x', y', z', w', by omega, by omega, q0.trans f0, q1.trans f1, q6.trans f6, q7, qg⟩
          rcases hj with rfl | rfl | rfl
          all_goals
            simp -implicitDefEqProofs only [wpC_seq, rowsA, if_true, if_false, opnd, ofVal, ofVal1, layArgs, Nat.reduceAdd, reduceIte, Nat.reduceEqDiff, reduceCtorEq, rowsB, cellsG, Nat.reduceMul, f0, f1, f6, f7, d1, d2, w1, w2, len_str u9, ixs (show (0 : Int) ≤ a + _ by omega) d2, conv_int u5 u3, wb, ida_ow (n := 4) u178 sz3 (show (0 : Int) ≤ ((_ : Nat) : Int) by omega) (show (((_ : Nat) : Int) < ((4 : Nat) : Int)) by omega), Int.toNat_natCast, Nat.zero_add, g', sz3, Nat.reduceLT]
            refine nx _ _ ?_ ?_ ?_ ?_ ?_
            · simp only [Fr.at_set, Nat.reduceEqDiff, reduceIte, reduceCtorEq]
            · simp only [Fr.at_set, Nat.reduceEqDiff, reduceIte, reduceCtorEq]
            · simp only [Fr.at_set, Nat.reduceEqDiff, reduceIte, reduceCtorEq]
            · simp only [Fr.at_set, Nat.reduceEqDiff, reduceIte, reduceCtorEq]
            · simp only [AH.get_up, AH.get_set, if_true]
              exact ⟨_, _, _, _, rfl⟩
        · simp -implicitDefEqProofs only [wpC_seq, rowsA, if_true, if_false, opnd, ofVal, ofVal1, layArgs, Nat.reduceAdd, reduceIte, Nat.reduceEqDiff, reduceCtorEq, rowsB, cellsG, Nat.reduceMul, rowsR, f0, f1, f6, f7, d1, d2, w1, w2, len_str u9]
          exact ⟨_, _, _, _, g⟩
      · simp -implicitDefEqProofs only [wpC_seq, rowsA, if_true, if_false, opnd, ofVal, ofVal1, layArgs, Nat.reduceAdd, reduceIte, Nat.reduceEqDiff, reduceCtorEq, rowsB, cellsG, Nat.reduceMul, rowsR, f0, f1, f6, f7, d1, w1, w2, len_str u9]
        exact ⟨_, _, _, _, g⟩
    rintro F h ⟨f0, f1, f6, x, y, z, w, g⟩
    rw [cI4_eq] at g
    rw [wpC_seq]
    simp -implicitDefEqProofs only [rowsA, if_true, if_false, opnd, ofVal, ofVal1, layArgs, Nat.reduceAdd, reduceIte, Nat.reduceEqDiff, reduceCtorEq, rowsB, cellsG, Nat.reduceMul]
    have i0 := fun {h : AH} => ida_ow (P := Tryz.prog) (h := h) (t := 178) (e := 3) (id := 14) (tot := 4) (off := 0) (n := 4) (k := .i64) (i := 0) u178 sz3 (by decide) (by decide)
    have i1 := fun {h : AH} => ida_ow (P := Tryz.prog) (h := h) (t := 178) (e := 3) (id := 14) (tot := 4) (off := 0) (n := 4) (k := .i64) (i := 1) u178 sz3 (by decide) (by decide)
    have i2 := fun {h : AH} => ida_ow (P := Tryz.prog) (h := h) (t := 178) (e := 3) (id := 14) (tot := 4) (off := 0) (n := 4) (k := .i64) (i := 2) u178 sz3 (by decide) (by decide)
    have i3 := fun {h : AH} => ida_ow (P := Tryz.prog) (h := h) (t := 178) (e := 3) (id := 14) (tot := 4) (off := 0) (n := 4) (k := .i64) (i := 3) u178 sz3 (by decide) (by decide)
    refine wpC_then (RuM s a) ?_ ?_
    · have fin : ∀ (F' : Fr) (h' : AH), F'.at 0 = F.at 0 → F'.at 1 = F.at 1 → (∃ n, F'.at 8 = .int .i64 n) → RuM s a F' h' := fun F' h' q0 q1 q8 => ⟨q0.trans f0, q1.trans f1, q8⟩
      by_cases d1 : x < 128
      · simp -implicitDefEqProofs only [wpC_seq, rowsA, if_true, if_false, opnd, ofVal, ofVal1, layArgs, Nat.reduceAdd, reduceIte, Nat.reduceEqDiff, reduceCtorEq, rowsB, cellsG, Nat.reduceMul, rowsR, f6, g, i0, i1, i2, i3, Int.reduceToNat, Nat.reduceLT, loadO_one ag3 sz3, d1]
        exact fin _ _ (by simp only [Fr.at_set, Nat.reduceEqDiff, reduceIte]) (by simp only [Fr.at_set, Nat.reduceEqDiff, reduceIte]) ⟨_, by simp only [Fr.at_set, Nat.reduceEqDiff, reduceIte]; rfl⟩
      by_cases d2 : x < 224
      · simp -implicitDefEqProofs only [wpC_seq, rowsA, if_true, if_false, opnd, ofVal, ofVal1, layArgs, Nat.reduceAdd, reduceIte, Nat.reduceEqDiff, reduceCtorEq, rowsB, cellsG, Nat.reduceMul, rowsR, f6, g, i0, i1, i2, i3, Int.reduceToNat, Nat.reduceLT, loadO_one ag3 sz3, d1, d2]
        exact fin _ _ (by simp only [Fr.at_set, Nat.reduceEqDiff, reduceIte]) (by simp only [Fr.at_set, Nat.reduceEqDiff, reduceIte]) ⟨_, by simp only [Fr.at_set, Nat.reduceEqDiff, reduceIte]; rfl⟩
      by_cases d3 : x < 240
      · simp -implicitDefEqProofs only [wpC_seq, rowsA, if_true, if_false, opnd, ofVal, ofVal1, layArgs, Nat.reduceAdd, reduceIte, Nat.reduceEqDiff, reduceCtorEq, rowsB, cellsG, Nat.reduceMul, rowsR, f6, g, i0, i1, i2, i3, Int.reduceToNat, Nat.reduceLT, loadO_one ag3 sz3, d1, d2, d3]
        exact fin _ _ (by simp only [Fr.at_set, Nat.reduceEqDiff, reduceIte]) (by simp only [Fr.at_set, Nat.reduceEqDiff, reduceIte]) ⟨_, by simp only [Fr.at_set, Nat.reduceEqDiff, reduceIte]; rfl⟩
      simp -implicitDefEqProofs only [wpC_seq, rowsA, if_true, if_false, opnd, ofVal, ofVal1, layArgs, Nat.reduceAdd, reduceIte, Nat.reduceEqDiff, reduceCtorEq, rowsB, cellsG, Nat.reduceMul, rowsR, f6, g, i0, i1, i2, i3, Int.reduceToNat, Nat.reduceLT, loadO_one ag3 sz3, d1, d2, d3]
      exact fin _ _ (by simp only [Fr.at_set, Nat.reduceEqDiff, reduceIte]) (by simp only [Fr.at_set, Nat.reduceEqDiff, reduceIte]) ⟨_, by simp only [Fr.at_set, Nat.reduceEqDiff, reduceIte]; rfl⟩
    clear f0 f1 f6 g i0 i1 i2 i3
    rintro F h ⟨f0, f1, m, f8⟩
    obtain ⟨b, b1, b2, kb⟩ := rBytes_c (mx := mx) m
    cases d1 : isR m with
    | false =>
      simp -implicitDefEqProofs only [wpC_seq, rowsA, if_true, if_false, opnd, ofVal, ofVal1, layArgs, Nat.reduceAdd, reduceIte, Nat.reduceEqDiff, reduceCtorEq, rowsB, cellsG, Nat.reduceMul, f0, f1, f8, goO_known (rIs_c m), d1, EndS_normal, EndS_ret, RS_some]
      exact ⟨⟨0, 0, ⟨rfl, rfl⟩, .inl rfl⟩, rfl⟩
    | true =>
      have w1 := IntWalk.i64_in ((s.length : Int) - a) (by omega)
      have w2 := IntWalk.i64_in (a + (b.length : Int)) (by omega)
      by_cases d2 : (s.length : Int) - a < (b.length : Int)
      · simp -implicitDefEqProofs only [wpC_seq, rowsA, if_true, if_false, opnd, ofVal, ofVal1, layArgs, Nat.reduceAdd, reduceIte, Nat.reduceEqDiff, reduceCtorEq, rowsB, cellsG, Nat.reduceMul, f0, f1, f8, goO_known (rIs_c m), goO_known kb, d1, d2, w1, w2, len_str u9, EndS_normal, EndS_ret, RS_some]
        exact ⟨⟨0, 0, ⟨rfl, rfl⟩, .inl rfl⟩, rfl⟩
      have hsl := fun (h : AH) => slice_both (P := Tryz.prog) (h := h) (t := 9) (l := s) (k := .i64) (k' := .i64) (i := a) (j := a + (b.length : Int)) u9 ha (by omega) (by omega)
      cases d3 : decide ((s.drop a.toNat).take ((a + (b.length : Int)).toNat - a.toNat) = b) with
      | false =>
        simp -implicitDefEqProofs only [wpC_seq, rowsA, if_true, if_false, opnd, ofVal, ofVal1, layArgs, Nat.reduceAdd, reduceIte, Nat.reduceEqDiff, reduceCtorEq, rowsB, cellsG, Nat.reduceMul, f0, f1, f8, goO_known (rIs_c m), goO_known kb, d1, d2, d3, w1, w2, hsl, len_str u9, EndS_normal, EndS_ret, RS_some]
        exact ⟨⟨0, 0, ⟨rfl, rfl⟩, .inl rfl⟩, rfl⟩
      | true =>
        simp -implicitDefEqProofs only [wpC_seq, rowsA, if_true, if_false, opnd, ofVal, ofVal1, layArgs, Nat.reduceAdd, reduceIte, Nat.reduceEqDiff, reduceCtorEq, rowsB, cellsG, Nat.reduceMul, f0, f1, f8, goO_known (rIs_c m), goO_known kb, d1, d2, d3, w1, w2, hsl, len_str u9, EndS_normal, EndS_ret, RS_some]
        exact ⟨⟨_, _, ⟨rfl, rfl⟩, .inr ⟨by omega, by omega⟩⟩, rfl⟩)
  exact ⟨c, n, h1, h3⟩
theorem rSource_c (s : List UInt8) (hl : s.length ≤ 16384) {a : Int} (ha : 0 ≤ a) (hb : a ≤ s.length) : ∃ c n : Int, (n = 0 ∨ (1 ≤ n ∧ a + n ≤ s.length)) ∧ ∀ (h : AH) (fr : Nat), CR Tryz.prog (globM mx) md (.fn 157) [.str s, .int .i64 a] h fr (.val (.tup [.int .i64 c, .int .i64 n])) := by
  obtain ⟨c, n, hn, kr⟩ := rRune_c (mx := mx) s hl ha hb
  obtain ⟨v, ⟨c', n', rfl, h1⟩, _, h3⟩ := CR.some (P := Tryz.prog) (G := globM mx) (md := md) (k := 157) (args := [.str s, .int .i64 a]) (Q := fun v => ∃ c n : Int, v = .tup [.int .i64 c, .int .i64 n] ∧ (n = 0 ∨ (1 ≤ n ∧ a + n ≤ s.length))) (rs := [.tmp 4, .tmp 5]) Tryz.func157 rfl rfl rfl rfl rfl rfl (by
    by_cases d1 : 65535 < c
    · simp -implicitDefEqProofs only [wpC_seq, rowsA, if_true, if_false, opnd, ofVal, ofVal1, layArgs, Nat.reduceAdd, reduceIte, Nat.reduceEqDiff, reduceCtorEq, rowsB, cellsG, Nat.reduceMul, goO_known kr, d1, EndS_normal, EndS_ret, RS_some]
      exact ⟨⟨0, 0, ⟨rfl, rfl⟩, .inl rfl⟩, rfl⟩
    by_cases d2 : c < 32
    · cases d3 : decide (c = 9) with
      | true =>
        simp -implicitDefEqProofs only [wpC_seq, rowsA, if_true, if_false, opnd, ofVal, ofVal1, layArgs, Nat.reduceAdd, reduceIte, Nat.reduceEqDiff, reduceCtorEq, rowsB, cellsG, Nat.reduceMul, goO_known kr, d1, d2, d3, EndS_normal, EndS_ret, RS_some]
        exact ⟨⟨_, _, ⟨rfl, rfl⟩, hn⟩, rfl⟩
      | false =>
        cases d4 : decide (c = 10) with
        | true =>
          simp -implicitDefEqProofs only [wpC_seq, rowsA, if_true, if_false, opnd, ofVal, ofVal1, layArgs, Nat.reduceAdd, reduceIte, Nat.reduceEqDiff, reduceCtorEq, rowsB, cellsG, Nat.reduceMul, goO_known kr, d1, d2, d3, d4, EndS_normal, EndS_ret, RS_some]
          exact ⟨⟨_, _, ⟨rfl, rfl⟩, hn⟩, rfl⟩
        | false =>
          cases d5 : decide (c = 13) with
          | true =>
            simp -implicitDefEqProofs only [wpC_seq, rowsA, if_true, if_false, opnd, ofVal, ofVal1, layArgs, Nat.reduceAdd, reduceIte, Nat.reduceEqDiff, reduceCtorEq, rowsB, cellsG, Nat.reduceMul, goO_known kr, d1, d2, d3, d4, d5, EndS_normal, EndS_ret, RS_some]
            exact ⟨⟨_, _, ⟨rfl, rfl⟩, hn⟩, rfl⟩
          | false =>
            simp -implicitDefEqProofs only [wpC_seq, rowsA, if_true, if_false, opnd, ofVal, ofVal1, layArgs, Nat.reduceAdd, reduceIte, Nat.reduceEqDiff, reduceCtorEq, rowsB, cellsG, Nat.reduceMul, goO_known kr, d1, d2, d3, d4, d5, EndS_normal, EndS_ret, RS_some]
            exact ⟨⟨0, 0, ⟨rfl, rfl⟩, .inl rfl⟩, rfl⟩
    · simp -implicitDefEqProofs only [wpC_seq, rowsA, if_true, if_false, opnd, ofVal, ofVal1, layArgs, Nat.reduceAdd, reduceIte, Nat.reduceEqDiff, reduceCtorEq, rowsB, cellsG, Nat.reduceMul, goO_known kr, d1, d2, EndS_normal, EndS_ret, RS_some]
      exact ⟨⟨_, _, ⟨rfl, rfl⟩, hn⟩, rfl⟩)
  exact ⟨c', n', h1, h3⟩
end Go.Proofs.YtcbngkmmmfaaoaaGreatDoor
namespace Go.Proofs.YtcbngkmmmfaaoaaGreatDoor
open Go.RowKit Go.Lib Go.Ac
set_option linter.unusedSimpArgs false
set_option maxRecDepth 100000
variable {mx : Int}
theorem bz_lt {s : List UInt8} {e : Int} (h : bz s e ≠ 0) : e < s.length := by
  apply Decidable.byContradiction
  intro q
  rw [bz, if_neg q] at h
  exact h rfl
def NuA (s : List UInt8) (a : Int) (F : Fr) (_ : AH) : Prop := ∃ e : Int, F.at 0 = .str s ∧ F.at 1 = .int .i64 e ∧ F.at 7 = .int .i64 2 ∧ a ≤ e ∧ e ≤ s.length
def NuB (s : List UInt8) (a : Int) (F : Fr) (_ : AH) : Prop := ∃ (e : Int) (n : Nat), F.at 0 = .str s ∧ F.at 1 = .int .i64 e ∧ F.at 7 = .int .i64 2 ∧ F.at 8 = .int .i64 n ∧ a ≤ e ∧ e + n ≤ s.length
def NuC (s : List UInt8) (a : Int) (F : Fr) (_ : AH) : Prop := ∃ (e k : Int) (b : Bool), F.at 0 = .str s ∧ F.at 1 = .int .i64 e ∧ F.at 7 = .int .i64 k ∧ F.at 9 = .bool b ∧ a ≤ e ∧ e ≤ s.length ∧ (b = true → a < e) ∧ (k = 2 ∨ k = 3)
set_option maxHeartbeats 2000000 in
theorem rNumber_c (s : List UInt8) (hl : s.length ≤ 16384) {a : Int} (ha : 0 ≤ a) (hb : a ≤ s.length) : ∃ e k : Int, ∃ ok : Bool, (a ≤ e ∧ e ≤ s.length ∧ (ok = true → a < e) ∧ (k = 2 ∨ k = 3)) ∧ ∀ (h : AH) (fr : Nat), CR Tryz.prog (globM mx) md (.fn 161) [.str s, .int .i64 a] h fr (.val (.tup [.int .i64 e, .int .i64 k, .bool ok])) := by
  obtain ⟨v, ⟨e, k, ok, rfl, h1⟩, _, h3⟩ := CR.some (P := Tryz.prog) (G := globM mx) (md := md) (k := 161) (args := [.str s, .int .i64 a]) (Q := fun v => ∃ e k : Int, ∃ ok : Bool, v = .tup [.int .i64 e, .int .i64 k, .bool ok] ∧ (a ≤ e ∧ e ≤ s.length ∧ (ok = true → a < e) ∧ (k = 2 ∨ k = 3))) (rs := [.tmp 4, .tmp 5, .tmp 6]) Tryz.func161 rfl rfl rfl rfl rfl rfl (by
    rw [wpC_seq]; simp -implicitDefEqProofs only [rowsA, if_true, if_false, opnd, ofVal, ofVal1, layArgs, Nat.reduceAdd, reduceIte, Nat.reduceEqDiff, reduceCtorEq, rowsB, cellsG, Nat.reduceMul]
    rw [wpC_seq]; simp -implicitDefEqProofs only [rowsA, if_true, if_false, opnd, ofVal, ofVal1, layArgs, Nat.reduceAdd, reduceIte, Nat.reduceEqDiff, reduceCtorEq, rowsB, cellsG, Nat.reduceMul]
    refine wpC_then (NuA s a) ?_ ?_
    · cases c1 : decide (bz s a = 45) with
      | true =>
        have c2 := bz_lt (s := s) (e := a) (by rw [of_decide_eq_true c1]; decide)
        have w := IntWalk.i64_in (a + 1) (by omega)
        simp -implicitDefEqProofs only [wpC_seq, rowsA, if_true, if_false, opnd, ofVal, ofVal1, layArgs, Nat.reduceAdd, reduceIte, Nat.reduceEqDiff, reduceCtorEq, rowsB, cellsG, Nat.reduceMul, rowsR, goO_known (rAt_c s ha), c1, w]
        exact ⟨a + 1, by simp only [Fr.at_set, Nat.reduceEqDiff, reduceIte], by simp only [Fr.at_set, Nat.reduceEqDiff, reduceIte], by simp only [Fr.at_set, Nat.reduceEqDiff, reduceIte], by omega, by omega⟩
      | false =>
        simp -implicitDefEqProofs only [wpC_seq, rowsA, if_true, if_false, opnd, ofVal, ofVal1, layArgs, Nat.reduceAdd, reduceIte, Nat.reduceEqDiff, reduceCtorEq, rowsB, cellsG, Nat.reduceMul, rowsR, goO_known (rAt_c s ha), c1]
        exact ⟨a, by simp only [Fr.at_set, Nat.reduceEqDiff, reduceIte], by simp only [Fr.at_set, Nat.reduceEqDiff, reduceIte], by simp only [Fr.at_set, Nat.reduceEqDiff, reduceIte], by omega, by omega⟩
    rintro F h ⟨e, f0, f1, f7, e1, e2⟩
    obtain ⟨n, n1, kn⟩ := rRun_c (mx := mx) s (a := e) (by omega) e2 hl
    rw [wpC_seq]; simp -implicitDefEqProofs only [rowsA, if_true, if_false, opnd, ofVal, ofVal1, layArgs, Nat.reduceAdd, reduceIte, Nat.reduceEqDiff, reduceCtorEq, rowsB, cellsG, Nat.reduceMul, f0, f1, goO_known kn]
    refine wpC_then (NuB s a) ?_ ?_
    · by_cases c1 : (0 : Int) < (n : Int)
      · cases c2 : decide (byteAt s e = 48) with
        | true =>
          simp -implicitDefEqProofs only [wpC_seq, rowsA, if_true, if_false, opnd, ofVal, ofVal1, layArgs, Nat.reduceAdd, reduceIte, Nat.reduceEqDiff, reduceCtorEq, rowsB, cellsG, Nat.reduceMul, rowsR, f0, f1, c1, c2, ixs (show (0 : Int) ≤ e by omega) (show e < s.length by omega)]
          exact ⟨e, 1, (by simp only [Fr.at_set, Nat.reduceEqDiff, reduceIte, f0]), (by simp only [Fr.at_set, Nat.reduceEqDiff, reduceIte, f1]), (by simp only [Fr.at_set, Nat.reduceEqDiff, reduceIte, f7]), (by simp only [Fr.at_set, Nat.reduceEqDiff, reduceIte]; rfl), e1, by omega⟩
        | false =>
          simp -implicitDefEqProofs only [wpC_seq, rowsA, if_true, if_false, opnd, ofVal, ofVal1, layArgs, Nat.reduceAdd, reduceIte, Nat.reduceEqDiff, reduceCtorEq, rowsB, cellsG, Nat.reduceMul, rowsR, f0, f1, c1, c2, ixs (show (0 : Int) ≤ e by omega) (show e < s.length by omega)]
          exact ⟨e, n, (by simp only [Fr.at_set, Nat.reduceEqDiff, reduceIte, f0]), (by simp only [Fr.at_set, Nat.reduceEqDiff, reduceIte, f1]), (by simp only [Fr.at_set, Nat.reduceEqDiff, reduceIte, f7]), (by simp only [Fr.at_set, Nat.reduceEqDiff, reduceIte]), e1, n1⟩
      · simp -implicitDefEqProofs only [wpC_seq, rowsA, if_true, if_false, opnd, ofVal, ofVal1, layArgs, Nat.reduceAdd, reduceIte, Nat.reduceEqDiff, reduceCtorEq, rowsB, cellsG, Nat.reduceMul, rowsR, f0, f1, c1]
        exact ⟨e, n, (by simp only [Fr.at_set, Nat.reduceEqDiff, reduceIte, f0]), (by simp only [Fr.at_set, Nat.reduceEqDiff, reduceIte, f1]), (by simp only [Fr.at_set, Nat.reduceEqDiff, reduceIte, f7]), (by simp only [Fr.at_set, Nat.reduceEqDiff, reduceIte]), e1, n1⟩
    clear f0 f1 f7 e1 e2 n1 kn n e
    rintro F h ⟨e, n, f0, f1, f7, f8, e1, e2⟩
    have w1 := IntWalk.i64_in (e + (n : Int)) (by omega)
    rw [wpC_seq]; simp -implicitDefEqProofs only [rowsA, if_true, if_false, opnd, ofVal, ofVal1, layArgs, Nat.reduceAdd, reduceIte, Nat.reduceEqDiff, reduceCtorEq, rowsB, cellsG, Nat.reduceMul, f8]
    rw [wpC_seq]; simp -implicitDefEqProofs only [rowsA, if_true, if_false, opnd, ofVal, ofVal1, layArgs, Nat.reduceAdd, reduceIte, Nat.reduceEqDiff, reduceCtorEq, rowsB, cellsG, Nat.reduceMul, f1, f8, w1]
    refine wpC_then (NuC s a) ?_ ?_
    · cases c1 : decide (bz s (e + n) = 46) with
      | true =>
        have c2 := bz_lt (s := s) (e := e + n) (by rw [of_decide_eq_true c1]; decide)
        have w2 := IntWalk.i64_in (e + (n : Int) + 1) (by omega)
        obtain ⟨m, m1, km⟩ := rRun_c (mx := mx) s (a := e + n + 1) (by omega) (by omega) hl
        have w3 := IntWalk.i64_in (1 + (m : Int)) (by omega)
        have w4 := IntWalk.i64_in (e + (n : Int) + (1 + (m : Int))) (by omega)
        by_cases c3 : (0 : Int) < (n : Int)
        · simp -implicitDefEqProofs only [wpC_seq, rowsA, if_true, if_false, opnd, ofVal, ofVal1, layArgs, Nat.reduceAdd, reduceIte, Nat.reduceEqDiff, reduceCtorEq, rowsB, cellsG, Nat.reduceMul, rowsR, f0, f1, f8, c3, goO_known (rAt_c s (show (0 : Int) ≤ e + n by omega)), c1, w2, w3, w4, goO_known km]
          exact ⟨e + n + (1 + m), 3, _, (by simp only [Fr.at_set, Nat.reduceEqDiff, reduceIte, f0]), (by simp only [Fr.at_set, Nat.reduceEqDiff, reduceIte]), (by simp only [Fr.at_set, Nat.reduceEqDiff, reduceIte]), (by simp only [Fr.at_set, Nat.reduceEqDiff, reduceIte]; rfl), by omega, by omega, fun _ => by omega, .inr rfl⟩
        · simp -implicitDefEqProofs only [wpC_seq, rowsA, if_true, if_false, opnd, ofVal, ofVal1, layArgs, Nat.reduceAdd, reduceIte, Nat.reduceEqDiff, reduceCtorEq, rowsB, cellsG, Nat.reduceMul, rowsR, f0, f1, f8, c3, goO_known (rAt_c s (show (0 : Int) ≤ e + n by omega)), c1, w2, w3, w4, goO_known km]
          exact ⟨e + n + (1 + m), 3, _, (by simp only [Fr.at_set, Nat.reduceEqDiff, reduceIte, f0]), (by simp only [Fr.at_set, Nat.reduceEqDiff, reduceIte]), (by simp only [Fr.at_set, Nat.reduceEqDiff, reduceIte]), (by simp only [Fr.at_set, Nat.reduceEqDiff, reduceIte]; rfl), by omega, by omega, fun _ => by omega, .inr rfl⟩
      | false =>
        simp -implicitDefEqProofs only [wpC_seq, rowsA, if_true, if_false, opnd, ofVal, ofVal1, layArgs, Nat.reduceAdd, reduceIte, Nat.reduceEqDiff, reduceCtorEq, rowsB, cellsG, Nat.reduceMul, rowsR, f0, f1, f8, goO_known (rAt_c s (show (0 : Int) ≤ e + n by omega)), c1]
        exact ⟨e + n, 2, _, (by simp only [Fr.at_set, Nat.reduceEqDiff, reduceIte, f0]), (by simp only [Fr.at_set, Nat.reduceEqDiff, reduceIte]), (by simp only [Fr.at_set, Nat.reduceEqDiff, reduceIte, f7]), (by simp only [Fr.at_set, Nat.reduceEqDiff, reduceIte]; rfl), by omega, by omega, fun q => by have := of_decide_eq_true q; omega, .inl rfl⟩
    clear f0 f1 f7 f8 e1 e2 w1 n e
    rintro F h ⟨e, k, b, f0, f1, f7, f9, e1, e2, e3, e4⟩
    refine wpC_then (NuC s a) ?_ ?_
    · have e0 : (0 : Int) ≤ e := by omega
      by_cases c0 : bz s e = 101 ∨ bz s e = 69
      · have c2 := bz_lt (s := s) (e := e) (by rcases c0 with q | q <;> rw [q] <;> decide)
        have w2 := IntWalk.i64_in (e + 1) (by omega)
        have w3 := IntWalk.i64_in (e + 1 + 1) (by omega)
        have c1 : (decide (bz s e = 101) = true ∧ True) ∨ (decide (bz s e = 101) = false ∧ decide (bz s e = 69) = true) := by
          by_cases q : bz s e = 101
          · exact .inl ⟨decide_eq_true q, trivial⟩
          · exact .inr ⟨decide_eq_false q, decide_eq_true (c0.resolve_left q)⟩
        cases c5 : decide (bz s (e + 1) = 43) with
        | true =>
          have c6 := bz_lt (s := s) (e := e + 1) (by rw [of_decide_eq_true c5]; decide)
          obtain ⟨m, m1, km⟩ := rRun_c (mx := mx) s (a := e + 1 + 1) (by omega) (by omega) hl
          have w4 := IntWalk.i64_in (e + 1 + 1 + (m : Int)) (by omega)
          rcases c1 with ⟨c1, c3⟩ | ⟨c1, c3⟩ <;> cases b
          all_goals
            simp -implicitDefEqProofs only [wpC_seq, rowsA, if_true, if_false, opnd, ofVal, ofVal1, layArgs, Nat.reduceAdd, reduceIte, Nat.reduceEqDiff, reduceCtorEq, rowsB, cellsG, Nat.reduceMul, rowsR, f0, f1, f9, goO_known (rAt_c s e0), goO_known (rAt_c s (show (0 : Int) ≤ e + 1 by omega)), c1, c3, c5, w2, w3, w4, goO_known km]
            exact ⟨e + 1 + 1 + m, 3, _, (by simp only [Fr.at_set, Nat.reduceEqDiff, reduceIte, f0]), (by simp only [Fr.at_set, Nat.reduceEqDiff, reduceIte]), (by simp only [Fr.at_set, Nat.reduceEqDiff, reduceIte]), (by simp only [Fr.at_set, Nat.reduceEqDiff, reduceIte]; rfl), by omega, by omega, fun _ => by omega, .inr rfl⟩
        | false =>
          cases c7 : decide (bz s (e + 1) = 45) with
          | true =>
            have c6 := bz_lt (s := s) (e := e + 1) (by rw [of_decide_eq_true c7]; decide)
            obtain ⟨m, m1, km⟩ := rRun_c (mx := mx) s (a := e + 1 + 1) (by omega) (by omega) hl
            have w4 := IntWalk.i64_in (e + 1 + 1 + (m : Int)) (by omega)
            rcases c1 with ⟨c1, c3⟩ | ⟨c1, c3⟩ <;> cases b
            all_goals
              simp -implicitDefEqProofs only [wpC_seq, rowsA, if_true, if_false, opnd, ofVal, ofVal1, layArgs, Nat.reduceAdd, reduceIte, Nat.reduceEqDiff, reduceCtorEq, rowsB, cellsG, Nat.reduceMul, rowsR, f0, f1, f9, goO_known (rAt_c s e0), goO_known (rAt_c s (show (0 : Int) ≤ e + 1 by omega)), c1, c3, c5, c7, w2, w3, w4, goO_known km]
              exact ⟨e + 1 + 1 + m, 3, _, (by simp only [Fr.at_set, Nat.reduceEqDiff, reduceIte, f0]), (by simp only [Fr.at_set, Nat.reduceEqDiff, reduceIte]), (by simp only [Fr.at_set, Nat.reduceEqDiff, reduceIte]), (by simp only [Fr.at_set, Nat.reduceEqDiff, reduceIte]; rfl), by omega, by omega, fun _ => by omega, .inr rfl⟩
          | false =>
            obtain ⟨m, m1, km⟩ := rRun_c (mx := mx) s (a := e + 1) (by omega) (by omega) hl
            have w4 := IntWalk.i64_in (e + 1 + (m : Int)) (by omega)
            rcases c1 with ⟨c1, c3⟩ | ⟨c1, c3⟩ <;> cases b
            all_goals
              simp -implicitDefEqProofs only [wpC_seq, rowsA, if_true, if_false, opnd, ofVal, ofVal1, layArgs, Nat.reduceAdd, reduceIte, Nat.reduceEqDiff, reduceCtorEq, rowsB, cellsG, Nat.reduceMul, rowsR, f0, f1, f9, goO_known (rAt_c s e0), goO_known (rAt_c s (show (0 : Int) ≤ e + 1 by omega)), c1, c3, c5, c7, w2, w3, w4, goO_known km]
              exact ⟨e + 1 + m, 3, _, (by simp only [Fr.at_set, Nat.reduceEqDiff, reduceIte, f0]), (by simp only [Fr.at_set, Nat.reduceEqDiff, reduceIte]), (by simp only [Fr.at_set, Nat.reduceEqDiff, reduceIte]), (by simp only [Fr.at_set, Nat.reduceEqDiff, reduceIte]; rfl), by omega, by omega, fun _ => by omega, .inr rfl⟩
      · have c1 : decide (bz s e = 101) = false := decide_eq_false fun q => c0 (.inl q)
        have c3 : decide (bz s e = 69) = false := decide_eq_false fun q => c0 (.inr q)
        simp -implicitDefEqProofs only [wpC_seq, rowsA, if_true, if_false, opnd, ofVal, ofVal1, layArgs, Nat.reduceAdd, reduceIte, Nat.reduceEqDiff, reduceCtorEq, rowsB, cellsG, Nat.reduceMul, rowsR, f0, f1, goO_known (rAt_c s e0), c1, c3]
        exact ⟨e, k, b, (by simp only [Fr.at_set, Nat.reduceEqDiff, reduceIte, f0]), (by simp only [Fr.at_set, Nat.reduceEqDiff, reduceIte, f1]), (by simp only [Fr.at_set, Nat.reduceEqDiff, reduceIte, f7]), (by simp only [Fr.at_set, Nat.reduceEqDiff, reduceIte, f9]), e1, e2, e3, e4⟩
    clear f0 f1 f7 f9 e1 e2 e3 e4 e k b
    rintro F h ⟨e, k, b, f0, f1, f7, f9, e1, e2, e3, e4⟩
    have e0 : (0 : Int) ≤ e := by omega
    rw [wpC_seq]; simp -implicitDefEqProofs only [rowsA, if_true, if_false, opnd, ofVal, ofVal1, layArgs, Nat.reduceAdd, reduceIte, Nat.reduceEqDiff, reduceCtorEq, rowsB, cellsG, Nat.reduceMul, f0, f1, goO_known (rAt_c s e0)]
    generalize bz s e = x
    cases b with
    | false =>
      simp -implicitDefEqProofs only [wpC_seq, rowsA, if_true, if_false, opnd, ofVal, ofVal1, layArgs, Nat.reduceAdd, reduceIte, Nat.reduceEqDiff, reduceCtorEq, rowsB, cellsG, Nat.reduceMul, f1, f7, f9, EndS_normal, EndS_ret, RS_some]
      exact ⟨⟨e, k, false, rfl, e1, e2, (fun q => by cases q), e4⟩, rfl⟩
    | true =>
      cases c1 : digR x with
      | true =>
        simp -implicitDefEqProofs only [wpC_seq, rowsA, if_true, if_false, opnd, ofVal, ofVal1, layArgs, Nat.reduceAdd, reduceIte, Nat.reduceEqDiff, reduceCtorEq, rowsB, cellsG, Nat.reduceMul, f1, f7, f9, goO_known (rDigit_c x), c1, EndS_normal, EndS_ret, RS_some]
        exact ⟨⟨e, k, false, rfl, e1, e2, (fun q => by cases q), e4⟩, rfl⟩
      | false =>
        cases c2 : letR x with
        | true =>
          simp -implicitDefEqProofs only [wpC_seq, rowsA, if_true, if_false, opnd, ofVal, ofVal1, layArgs, Nat.reduceAdd, reduceIte, Nat.reduceEqDiff, reduceCtorEq, rowsB, cellsG, Nat.reduceMul, f1, f7, f9, goO_known (rDigit_c x), goO_known (rLetter_c x), c1, c2, EndS_normal, EndS_ret, RS_some]
          exact ⟨⟨e, k, false, rfl, e1, e2, (fun q => by cases q), e4⟩, rfl⟩
        | false =>
          simp -implicitDefEqProofs only [wpC_seq, rowsA, if_true, if_false, opnd, ofVal, ofVal1, layArgs, Nat.reduceAdd, reduceIte, Nat.reduceEqDiff, reduceCtorEq, rowsB, cellsG, Nat.reduceMul, f1, f7, f9, goO_known (rDigit_c x), goO_known (rLetter_c x), c1, c2, EndS_normal, EndS_ret, RS_some]
          exact ⟨⟨e, k, !decide (x = 46), rfl, e1, e2, (fun _ => e3 rfl), e4⟩, rfl⟩)
  exact ⟨e, k, ok, h1, h3⟩
def EsV (s : List UInt8) (a : Int) (v : PV) : Prop := ∃ (x : List UInt8) (e : Int) (ok : Bool), v = .tup [.str x, .int .i64 e, .bool ok] ∧ x.length ≤ 4 ∧ (ok = true → a < e ∧ e ≤ s.length)
def invEs (s : List UInt8) (a : Int) (k : Nat) (F : Fr) (_ : AH) : Prop := ∃ (j : Nat) (n : Int), k + j = 5 ∧ 1 ≤ j ∧ (a + j ≤ s.length) ∧ F.at 0 = .str s ∧ F.at 1 = .int .i64 a ∧ F.at 7 = .int .i64 n ∧ F.at 8 = .int .i64 j
set_option maxHeartbeats 2000000 in
theorem rEscape_c (s : List UInt8) (hl : s.length ≤ 16384) {a : Int} (ha : 0 ≤ a) (hb : a ≤ s.length) : ∃ v, EsV s a v ∧ v.clean = true ∧ ∀ (h : AH) (fr : Nat), CR Tryz.prog (globM mx) md (.fn 172) [.str s, .int .i64 a] h fr (.val v) := by
  refine CR.some (Q := EsV s a) (rs := [.tmp 4, .tmp 5, .tmp 6]) Tryz.func172 rfl rfl rfl rfl rfl rfl ?_
  have w := IntWalk.i64_in (a + 1) (by omega)
  have w5 := IntWalk.i64_in (a + 5) (by omega)
  have one : ∀ x : List UInt8, x.length ≤ 4 → bz s a ≠ 0 → EsV s a (.tup [.str x, .int .i64 (a + 1), .bool true]) := fun x hx q => by
    have := bz_lt q
    exact ⟨x, a + 1, true, rfl, hx, fun _ => ⟨by omega, by omega⟩⟩
  have no : EsV s a (.tup [.str [], .int .i64 a, .bool false]) := ⟨[], a, false, rfl, Nat.zero_le _, fun q => by cases q⟩
  have kA := rAt_c (mx := mx) s ha
  have nz : ∀ c : Int, c ≠ 0 → decide (bz s a = c) = true → bz s a ≠ 0 := fun c q1 q2 => by rw [of_decide_eq_true q2]; exact q1
  have sl : ∀ q : bz s a ≠ 0, ∀ h : AH, (if liveB h (.str s) && sizeB Tryz.prog h 9 (.str s) then (sliceV Tryz.prog 9 (.str s) (some (.int .i64 a)) (some (.int .i64 (a + 1))) none).map OR.q else none) = some (.q (.str ((s.drop a.toNat).take ((a + 1).toNat - a.toNat)))) := fun q h => by
    have := bz_lt q
    exact slice_both u9 ha (by omega) (by omega)
  have tl : ((s.drop a.toNat).take ((a + 1).toNat - a.toNat)).length ≤ 4 := by
    rw [List.length_take]
    omega
  cases c1 : decide (bz s a = 34) with
  | true =>
    simp -implicitDefEqProofs only [wpC_seq, rowsA, if_true, if_false, opnd, ofVal, ofVal1, layArgs, Nat.reduceAdd, reduceIte, Nat.reduceEqDiff, reduceCtorEq, rowsB, cellsG, Nat.reduceMul, goO_known kA, c1, w, sl (nz _ (by decide) c1), EndS_normal, EndS_ret, RS_some]
    exact ⟨one _ tl (nz _ (by decide) c1), rfl⟩
  | false =>
  cases c2 : decide (bz s a = 92) with
  | true =>
    simp -implicitDefEqProofs only [wpC_seq, rowsA, if_true, if_false, opnd, ofVal, ofVal1, layArgs, Nat.reduceAdd, reduceIte, Nat.reduceEqDiff, reduceCtorEq, rowsB, cellsG, Nat.reduceMul, goO_known kA, c1, c2, w, sl (nz _ (by decide) c2), EndS_normal, EndS_ret, RS_some]
    exact ⟨one _ tl (nz _ (by decide) c2), rfl⟩
  | false =>
  cases c3 : decide (bz s a = 47) with
  | true =>
    simp -implicitDefEqProofs only [wpC_seq, rowsA, if_true, if_false, opnd, ofVal, ofVal1, layArgs, Nat.reduceAdd, reduceIte, Nat.reduceEqDiff, reduceCtorEq, rowsB, cellsG, Nat.reduceMul, goO_known kA, c1, c2, c3, w, sl (nz _ (by decide) c3), EndS_normal, EndS_ret, RS_some]
    exact ⟨one _ tl (nz _ (by decide) c3), rfl⟩
  | false =>
  cases c4 : decide (bz s a = 98) with
  | true =>
    simp -implicitDefEqProofs only [wpC_seq, rowsA, if_true, if_false, opnd, ofVal, ofVal1, layArgs, Nat.reduceAdd, reduceIte, Nat.reduceEqDiff, reduceCtorEq, rowsB, cellsG, Nat.reduceMul, goO_known kA, c1, c2, c3, c4, w, EndS_normal, EndS_ret, RS_some]
    exact ⟨one _ (by simp) (nz _ (by decide) c4), rfl⟩
  | false =>
  cases c5 : decide (bz s a = 102) with
  | true =>
    simp -implicitDefEqProofs only [wpC_seq, rowsA, if_true, if_false, opnd, ofVal, ofVal1, layArgs, Nat.reduceAdd, reduceIte, Nat.reduceEqDiff, reduceCtorEq, rowsB, cellsG, Nat.reduceMul, goO_known kA, c1, c2, c3, c4, c5, w, EndS_normal, EndS_ret, RS_some]
    exact ⟨one _ (by simp) (nz _ (by decide) c5), rfl⟩
  | false =>
  cases c6 : decide (bz s a = 110) with
  | true =>
    simp -implicitDefEqProofs only [wpC_seq, rowsA, if_true, if_false, opnd, ofVal, ofVal1, layArgs, Nat.reduceAdd, reduceIte, Nat.reduceEqDiff, reduceCtorEq, rowsB, cellsG, Nat.reduceMul, goO_known kA, c1, c2, c3, c4, c5, c6, w, EndS_normal, EndS_ret, RS_some]
    exact ⟨one _ (by simp) (nz _ (by decide) c6), rfl⟩
  | false =>
  cases c7 : decide (bz s a = 114) with
  | true =>
    simp -implicitDefEqProofs only [wpC_seq, rowsA, if_true, if_false, opnd, ofVal, ofVal1, layArgs, Nat.reduceAdd, reduceIte, Nat.reduceEqDiff, reduceCtorEq, rowsB, cellsG, Nat.reduceMul, goO_known kA, c1, c2, c3, c4, c5, c6, c7, w, EndS_normal, EndS_ret, RS_some]
    exact ⟨one _ (by simp) (nz _ (by decide) c7), rfl⟩
  | false =>
  cases c8 : decide (bz s a = 116) with
  | true =>
    simp -implicitDefEqProofs only [wpC_seq, rowsA, if_true, if_false, opnd, ofVal, ofVal1, layArgs, Nat.reduceAdd, reduceIte, Nat.reduceEqDiff, reduceCtorEq, rowsB, cellsG, Nat.reduceMul, goO_known kA, c1, c2, c3, c4, c5, c6, c7, c8, w, EndS_normal, EndS_ret, RS_some]
    exact ⟨one _ (by simp) (nz _ (by decide) c8), rfl⟩
  | false =>
  cases c9 : decide (bz s a = 117) with
  | false =>
    simp -implicitDefEqProofs only [wpC_seq, rowsA, if_true, if_false, opnd, ofVal, ofVal1, layArgs, Nat.reduceAdd, reduceIte, Nat.reduceEqDiff, reduceCtorEq, rowsB, cellsG, Nat.reduceMul, goO_known kA, c1, c2, c3, c4, c5, c6, c7, c8, c9, EndS_normal, EndS_ret, RS_some, Array.toList_empty]
    exact ⟨no, rfl⟩
  | true =>
    have hlt := bz_lt (nz _ (by decide) c9)
    simp -implicitDefEqProofs only [wpC_seq, rowsA, if_true, if_false, opnd, ofVal, ofVal1, layArgs, Nat.reduceAdd, reduceIte, Nat.reduceEqDiff, reduceCtorEq, rowsB, cellsG, Nat.reduceMul, goO_known kA, c1, c2, c3, c4, c5, c6, c7, c8, c9]
    clear c1 c2 c3 c4 c5 c6 c7 c8 c9
    refine wpC_loop (invEs s a) (k := 4) ⟨1, 0, by omega, by omega, by omega, ?_, ?_, ?_, ?_⟩ ?_
    · simp only [Fr.at_set, Nat.reduceEqDiff, reduceIte, reduceCtorEq]
    · simp only [Fr.at_set, Nat.reduceEqDiff, reduceIte, reduceCtorEq]
    · simp only [Fr.at_set, Nat.reduceEqDiff, reduceIte, reduceCtorEq]
    · simp only [Fr.at_set, Nat.reduceEqDiff, reduceIte, reduceCtorEq]; rfl
    rintro k F h ⟨j, n, kj, j1, j2, f0, f1, f7, f8⟩
    have w1 := IntWalk.i64_in (a + (j : Int)) (by omega)
    have w2 := IntWalk.i64_in ((j : Int) + 1) (by omega)
    by_cases d1 : (j : Int) ≤ 4
    · have hr := bz_range s (a + j)
      by_cases d2 : hexR (bz s (a + j)) < 0
      · simp -implicitDefEqProofs only [wpC_seq, rowsA, if_true, if_false, opnd, ofVal, ofVal1, layArgs, Nat.reduceAdd, reduceIte, Nat.reduceEqDiff, reduceCtorEq, rowsB, cellsG, Nat.reduceMul, f0, f1, f7, f8, d1, w1, goO_known (rAt_c s (show (0 : Int) ≤ a + j by omega)), goO_known (rHex_c _ hr.1 hr.2), d2, EndS_normal, EndS_ret, RS_some, Array.toList_empty]
        exact ⟨no, rfl⟩
      · have hlt2 : a + j < s.length := by
          apply bz_lt
          intro q
          rw [q, hexR_0] at d2
          exact d2 (by decide)
        simp -implicitDefEqProofs only [wpC_seq, rowsA, if_true, if_false, opnd, ofVal, ofVal1, layArgs, Nat.reduceAdd, reduceIte, Nat.reduceEqDiff, reduceCtorEq, rowsB, cellsG, Nat.reduceMul, f0, f1, f7, f8, d1, w1, w2, goO_known (rAt_c s (show (0 : Int) ≤ a + j by omega)), goO_known (rHex_c _ hr.1 hr.2), d2]
        refine ⟨k - 1, by omega, j + 1, IntKind.i64.wrap (IntKind.i64.wrap (16 * n) + hexR (bz s (a + j))), by omega, by omega, by omega, ?_, ?_, ?_, ?_⟩
        · simp only [Fr.at_set, Nat.reduceEqDiff, reduceIte, reduceCtorEq, f0]
        · simp only [Fr.at_set, Nat.reduceEqDiff, reduceIte, reduceCtorEq, f1]
        · simp only [Fr.at_set, Nat.reduceEqDiff, reduceIte, reduceCtorEq]
        · simp only [Fr.at_set, Nat.reduceEqDiff, reduceIte, reduceCtorEq]; rfl
    · obtain ⟨x, x1, kx⟩ := rUnit_c (mx := mx) n
      simp -implicitDefEqProofs only [wpC_seq, rowsA, if_true, if_false, opnd, ofVal, ofVal1, layArgs, Nat.reduceAdd, reduceIte, Nat.reduceEqDiff, reduceCtorEq, rowsB, cellsG, Nat.reduceMul, f0, f1, f7, f8, d1, w5, goO_known kx, EndS_normal, EndS_ret, RS_some]
      exact ⟨⟨x, a + 5, true, rfl, x1, fun _ => ⟨by omega, by omega⟩⟩, rfl⟩
end Go.Proofs.YtcbngkmmmfaaoaaGreatDoor
namespace Go.Proofs.YtcbngkmmmfaaoaaGreatDoor
open Go.RowKit Go.Lib Go.Ac
set_option linter.unusedSimpArgs false
set_option maxRecDepth 100000
variable {mx : Int}
theorem goO_rw {P : Program} {G : Glob} {md : FuncId → Md} {rd : Bool} {ops : Array Oper} {base i : Nat} {rest : List Oper} {d : Option Tmp} {f : Fr} {h : AH} {Q : OX → Prop} {r : Option OR} (I : PV → AH → Prop) (e : (∃ v, r = some (.q v) ∧ I v h) ∨ ∃ v id ob, r = some (.w v id ob) ∧ I v (h.set id ob)) (H : ∀ v h', I v h' → wpO P G md rd ops base (i + 1) rest (putA f d v) h' Q) : goO P G md rd ops base i rest d f h Q r := by
  rcases e with ⟨v, rfl, q⟩ | ⟨v, id, ob, rfl, q⟩
  · rw [goO_q]
    exact H _ _ q
  · rw [goO_w]
    exact H _ _ q
theorem app_9 (h : AH) (fr : Nat) (v x : PV) : appO Tryz.prog h fr [v, x] [171, 9] = appO Tryz.prog h fr [v, x] [171, 171] := by simp only [appO, u9, u171]
theorem i5q : (Tryz.prog.info? 5).map (fun i => (i.size, i.bytes, i.zero.map (·.cells.size))) = some (1, 1, some 1) := by kernel_rfl
theorem bs0 (fr : Nat) : buildO Tryz.prog fr 171 0 [] = some (.w .els fr (.cells 5 1 false [])) := build_0 u171 sz5 z5
def RB (A : Nat) (h : AH) (v : PV) (c : Nat) : Prop := v = .els ∨ ∃ (R : Nat) (l : List UInt8), v = .ow R l.length 0 l.length ∧ 0 < l.length ∧ l.length ≤ c ∧ R < h.next ∧ h.get R = some (.cells 5 1 false (l.map byteV)) ∧ A ≤ R
theorem RB.keep {A : Nat} {h h' : AH} {v : PV} {c c' : Nat} (q : RB A h v c) (hc : c ≤ c') (hn : h.next ≤ h'.next) (hk : ∀ id, A ≤ id → id < h.next → h'.get id = h.get id) : RB A h' v c' := by
  rcases q with q | ⟨R, l, q1, q2, q3, q4, q5, q6⟩
  · exact .inl q
  · exact .inr ⟨R, l, q1, q2, by omega, by omega, by rw [hk R q6 q4]; exact q5, q6⟩
theorem RB.pushA {A : Nat} {h : AH} {v x : PV} {c : Nat} {l : List UInt8} (q : RB A h v c) (fr : Nat) (hA : A ≤ fr) (hfr : fr < h.next) (hx : Ac.cellsOf h 1 x = some (l.map byteV, l.length)) (hl : l.length ≤ 1000000000000) (hc : c ≤ 1000000000000) :
    (∃ v', appO Tryz.prog h fr [v, x] [171, 171] = some (.q v') ∧ RB A h v' (c + l.length)) ∨ ∃ v' id ob, appO Tryz.prog h fr [v, x] [171, 171] = some (.w v' id ob) ∧ RB A (h.set id ob) v' (c + l.length) ∧ A ≤ id := by
  by_cases h0 : l.length = 0
  · rw [h0, List.eq_nil_of_length_eq_zero h0] at hx
    refine .inl ⟨v, ?_, q.keep (by omega) (Nat.le_refl _) fun _ _ _ => rfl⟩
    rcases q with rfl | ⟨R, l', rfl, q2, q3, q4, q5, q6⟩
    · exact ap_none u171 i5q (by decide) (.inr (.inl rfl)) hx
    · have := ap_none (P := Tryz.prog) (h := h) (fr := fr) (x := x) (xs := []) u171 i5q (by decide) (s := .ow R (l'.length * 1) 0 l'.length) (.inr (.inr ⟨R, l'.length, false, _, rfl, q5, by rw [bytes_len, Nat.mul_one]⟩)) hx
      rw [Nat.mul_one] at this
      exact this
  · refine .inr ?_
    rcases q with rfl | ⟨R, l', rfl, q2, q3, q4, q5, q6⟩
    · refine ⟨_, _, _, ap_new u171 i5q (by decide) (.inr rfl) hx (by omega) (by omega) (by omega), .inr ⟨fr, l, by rw [Nat.mul_one], by omega, by omega, by rw [AH.next_set]; exact hfr, by rw [AH.get_set_same], hA⟩, hA⟩
    · have := ap_more (P := Tryz.prog) (fr := fr) u171 i5q (by decide) (m := l'.length) q5 (by rw [bytes_len, Nat.mul_one]) hx (by omega) (by omega) (by omega)
      rw [Nat.mul_one, Nat.mul_one] at this
      refine ⟨_, _, _, this, .inr ⟨R, l' ++ l, by rw [List.length_append], by rw [List.length_append]; omega, by rw [List.length_append]; omega, by rw [AH.next_set]; exact q4, by rw [AH.get_set_same, List.map_append], q6⟩, q6⟩
theorem RB.push {h : AH} {v x : PV} {c : Nat} {l : List UInt8} (q : RB 0 h v c) (fr : Nat) (hfr : fr < h.next) (hx : Ac.cellsOf h 1 x = some (l.map byteV, l.length)) (hl : l.length ≤ 1000000000000) (hc : c ≤ 1000000000000) :
    (∃ v', appO Tryz.prog h fr [v, x] [171, 171] = some (.q v') ∧ RB 0 h v' (c + l.length)) ∨ ∃ v' id ob, appO Tryz.prog h fr [v, x] [171, 171] = some (.w v' id ob) ∧ RB 0 (h.set id ob) v' (c + l.length) :=
  (q.pushA fr (Nat.zero_le _) hfr hx hl hc).imp id fun ⟨v', i, ob, q1, q2, _⟩ => ⟨v', i, ob, q1, q2⟩
theorem RB.pushR {A R B : Nat} {ob0 : AO} {h : AH} {v x : PV} {c : Nat} {l : List UInt8} (hR : R < A) (g : h.get R = some ob0) (hB : B ≤ h.next) (q : RB A h v c) (fr : Nat) (hA : A ≤ fr) (hfr : fr < h.next) (hx : Ac.cellsOf h 1 x = some (l.map byteV, l.length)) (hl : l.length ≤ 1000000000000) (hc : c ≤ 1000000000000) :
    (∃ v', appO Tryz.prog h fr [v, x] [171, 171] = some (.q v') ∧ (RB A h v' (c + l.length) ∧ h.get R = some ob0 ∧ B ≤ h.next)) ∨ ∃ v' id ob, appO Tryz.prog h fr [v, x] [171, 171] = some (.w v' id ob) ∧ (RB A (h.set id ob) v' (c + l.length) ∧ (h.set id ob).get R = some ob0 ∧ B ≤ (h.set id ob).next) :=
  (q.pushA fr hA hfr hx hl hc).imp (fun ⟨v', q1, q2⟩ => ⟨v', q1, q2, g, hB⟩) fun ⟨v', i, ob, q1, q2, q3⟩ => ⟨v', i, ob, q1, q2, by rw [AH.get_set_ne _ _ _ _ (by omega)]; exact g, by rw [AH.next_set]; exact hB⟩
theorem RB.conv {A : Nat} {h : AH} {v : PV} {c : Nat} (q : RB A h v c) : ∃ l : List UInt8, l.length ≤ c ∧ ∀ (h' : AH) (fr : Nat), (∀ id, h'.get id = h.get id) → convV Tryz.prog h' fr 171 9 v = some (.q (.str l)) := by
  rcases q with rfl | ⟨R, l, rfl, q2, q3, q4, q5, _⟩
  · refine ⟨[], Nat.zero_le _, fun h' fr _ => ?_⟩
    simp [convV, u171, u9, Tryz.underlying5, Ac.cellsOf]
  · refine ⟨(l.map byteV).map toB, by simp only [List.length_map]; exact q3, fun h' fr hg => ?_⟩
    rw [conv_bytes u171 u5 u9]
    have hcs : Ac.cellsOf h' 1 (.ow R l.length 0 l.length) = some (l.map byteV, l.length) := by
      have := cellR_ow (h := h') (sz := 1) (n := l.length) (by rw [hg]; exact q5) (by rw [bytes_len, Nat.mul_one])
      rw [Nat.mul_one] at this
      exact this
    rw [hcs, convG_some, if_pos]
    rw [List.all_eq_true]
    intro y hy
    obtain ⟨b, _, rfl⟩ := List.mem_map.1 hy
    rfl
def TxV (s : List UInt8) (a : Int) (v : PV) : Prop := ∃ (x : List UInt8) (e : Int) (ok : Bool), v = .tup [.str x, .int .i64 e, .bool ok] ∧ x.length ≤ 100000 ∧ (ok = true → a < e ∧ e ≤ s.length)
def invTxt (s : List UInt8) (a : Int) (k : Nat) (F : Fr) (h : AH) : Prop := ∃ (i : Int) (v : PV), (k : Int) + i = s.length ∧ a < i ∧ i ≤ s.length ∧ F.at 0 = .str s ∧ F.at 1 = .int .i64 i ∧ F.at 7 = v ∧ RB 0 h v (4 * i.toNat)
set_option maxHeartbeats 2000000 in
theorem rText_c (s : List UInt8) (hl : s.length ≤ 16384) {a : Int} (ha : 0 ≤ a) (hb : a < s.length) : ∃ v, TxV s a v ∧ v.clean = true ∧ ∀ (h : AH) (fr : Nat), CR Tryz.prog (globM mx) md (.fn 164) [.str s, .int .i64 a] h fr (.val v) := by
  refine CR.some (Q := TxV s a) (rs := [.tmp 4, .tmp 5, .tmp 6]) Tryz.func164 rfl rfl rfl rfl rfl rfl ?_
  have no : ∀ i, TxV s a (.tup [.str [], .int .i64 i, .bool false]) := fun i => ⟨[], i, false, rfl, Nat.zero_le _, fun q => by cases q⟩
  have w := IntWalk.i64_in (a + 1) (by omega)
  simp -implicitDefEqProofs only [wpC_seq, rowsA, if_true, if_false, opnd, ofVal, ofVal1, layArgs, Nat.reduceAdd, reduceIte, Nat.reduceEqDiff, reduceCtorEq, rowsB, cellsG, Nat.reduceMul, bs0, w]
  refine wpC_loop (invTxt s a) (k := (s.length - (a + 1)).toNat) ⟨a + 1, .els, by omega, by omega, by omega, ?_, ?_, ?_, .inl rfl⟩ ?_
  · simp only [Fr.at_set, Nat.reduceEqDiff, reduceIte, reduceCtorEq]
  · simp only [Fr.at_set, Nat.reduceEqDiff, reduceIte, reduceCtorEq]
  · simp only [Fr.at_set, Nat.reduceEqDiff, reduceIte, reduceCtorEq]
  rintro k F h ⟨i, v, ki, i1, i2, f0, f1, f7, hR⟩
  obtain ⟨c, n, hn, ks⟩ := rSource_c (mx := mx) s hl (a := i) (by omega) i2
  cases d1 : decide (n = 0) with
  | true =>
    simp -implicitDefEqProofs only [wpC_seq, rowsA, if_true, if_false, opnd, ofVal, ofVal1, layArgs, Nat.reduceAdd, reduceIte, Nat.reduceEqDiff, reduceCtorEq, rowsB, cellsG, Nat.reduceMul, f0, f1, goO_known ks, d1, EndS_normal, EndS_ret, RS_some, Array.toList_empty]
    exact ⟨no i, rfl⟩
  | false =>
  have hn' := hn.resolve_left (of_decide_eq_false d1)
  cases d2 : decide (c = 10) with
  | true =>
    simp -implicitDefEqProofs only [wpC_seq, rowsA, if_true, if_false, opnd, ofVal, ofVal1, layArgs, Nat.reduceAdd, reduceIte, Nat.reduceEqDiff, reduceCtorEq, rowsB, cellsG, Nat.reduceMul, f0, f1, goO_known ks, d1, d2, EndS_normal, EndS_ret, RS_some, Array.toList_empty]
    exact ⟨no i, rfl⟩
  | false =>
  cases d3 : decide (c = 13) with
  | true =>
    simp -implicitDefEqProofs only [wpC_seq, rowsA, if_true, if_false, opnd, ofVal, ofVal1, layArgs, Nat.reduceAdd, reduceIte, Nat.reduceEqDiff, reduceCtorEq, rowsB, cellsG, Nat.reduceMul, f0, f1, goO_known ks, d1, d2, d3, EndS_normal, EndS_ret, RS_some, Array.toList_empty]
    exact ⟨no i, rfl⟩
  | false =>
  have w1 := IntWalk.i64_in (i + 1) (by omega)
  have w2 := IntWalk.i64_in (i + n) (by omega)
  cases d4 : decide (c = 34) with
  | true =>
    obtain ⟨l, l1, kl⟩ := hR.conv
    simp -implicitDefEqProofs only [wpC_seq, rowsA, if_true, if_false, opnd, ofVal, ofVal1, layArgs, Nat.reduceAdd, reduceIte, Nat.reduceEqDiff, reduceCtorEq, rowsB, cellsG, Nat.reduceMul, f0, f1, f7, goO_known ks, d1, d2, d3, d4, w1]
    rw [kl _ _ (fun id => by simp only [AH.get_up])]
    simp -implicitDefEqProofs only [wpC_seq, rowsA, if_true, if_false, opnd, ofVal, ofVal1, layArgs, Nat.reduceAdd, reduceIte, Nat.reduceEqDiff, reduceCtorEq, rowsB, cellsG, Nat.reduceMul, f1, w1, EndS_normal, EndS_ret, RS_some]
    exact ⟨⟨l, i + 1, true, rfl, by omega, fun _ => ⟨by omega, by omega⟩⟩, rfl⟩
  | false =>
  cases d5 : decide (c = 92) with
  | true =>
    obtain ⟨ve, ⟨x, e, ok, rfl, x1, x2⟩, _, ke⟩ := rEscape_c (mx := mx) s hl (a := i + 1) (by omega) (by omega)
    cases ok with
    | false =>
      simp -implicitDefEqProofs only [wpC_seq, rowsA, if_true, if_false, opnd, ofVal, ofVal1, layArgs, Nat.reduceAdd, reduceIte, Nat.reduceEqDiff, reduceCtorEq, rowsB, cellsG, Nat.reduceMul, f0, f1, f7, goO_known ks, goO_known ke, d1, d2, d3, d4, d5, w1, EndS_normal, EndS_ret, RS_some, Array.toList_empty]
      exact ⟨no i, rfl⟩
    | true =>
      obtain ⟨x3, x4⟩ := x2 rfl
      simp -implicitDefEqProofs only [wpC_seq, rowsA, if_true, if_false, opnd, ofVal, ofVal1, layArgs, Nat.reduceAdd, reduceIte, Nat.reduceEqDiff, reduceCtorEq, rowsB, cellsG, Nat.reduceMul, f0, f1, f7, goO_known ks, goO_known ke, d1, d2, d3, d4, d5, w1, app_9]
      refine goO_rw (fun v' h' => RB 0 h' v' (4 * i.toNat + x.length)) (RB.push (hR.keep (Nat.le_refl _) (by simp only [AH.next_up]; omega) fun id _ _ => by simp only [AH.get_up]) _ (by simp only [AH.next_up]; omega) (cells_str _ x) (by omega) (by omega)) ?_
      intro v' h' hR'
      simp -implicitDefEqProofs only [wpC_seq, rowsA, if_true, if_false, opnd, ofVal, ofVal1, layArgs, Nat.reduceAdd, reduceIte, Nat.reduceEqDiff, reduceCtorEq, rowsB, cellsG, Nat.reduceMul]
      refine ⟨(s.length - e).toNat, by omega, e, v', by omega, by omega, by omega, ?_, ?_, ?_, hR'.keep (by omega) (by simp only [AH.next_up]; omega) fun id _ _ => by simp only [AH.get_up]⟩
      · simp only [Fr.at_set, Nat.reduceEqDiff, reduceIte, f0]
      · simp only [Fr.at_set, Nat.reduceEqDiff, reduceIte]
      · simp only [Fr.at_set, Nat.reduceEqDiff, reduceIte]
  | false =>
    have hsl := fun (h : AH) => slice_both (P := Tryz.prog) (h := h) (t := 9) (l := s) (k := .i64) (k' := .i64) (i := i) (j := i + n) u9 (by omega) (by omega) (by omega)
    simp -implicitDefEqProofs only [wpC_seq, rowsA, if_true, if_false, opnd, ofVal, ofVal1, layArgs, Nat.reduceAdd, reduceIte, Nat.reduceEqDiff, reduceCtorEq, rowsB, cellsG, Nat.reduceMul, f0, f1, f7, goO_known ks, d1, d2, d3, d4, d5, w2, hsl, app_9]
    have hsz : ((s.drop i.toNat).take ((i + n).toNat - i.toNat)).length ≤ n.toNat := by rw [List.length_take]; omega
    refine goO_rw (fun v' h' => RB 0 h' v' (4 * i.toNat + ((s.drop i.toNat).take ((i + n).toNat - i.toNat)).length)) (RB.push (hR.keep (Nat.le_refl _) (by simp only [AH.next_up]; omega) fun id _ _ => by simp only [AH.get_up]) _ (by simp only [AH.next_up]; omega) (cells_str _ _) (by omega) (by omega)) ?_
    intro v' h' hR'
    simp -implicitDefEqProofs only [wpC_seq, rowsA, if_true, if_false, opnd, ofVal, ofVal1, layArgs, Nat.reduceAdd, reduceIte, Nat.reduceEqDiff, reduceCtorEq, rowsB, cellsG, Nat.reduceMul, f1, w2]
    refine ⟨(s.length - (i + n)).toNat, by omega, (i + n), v', by omega, by omega, by omega, ?_, ?_, ?_, hR'.keep (by omega) (by simp only [AH.next_up]; omega) fun id _ _ => by simp only [AH.get_up]⟩
    · simp only [Fr.at_set, Nat.reduceEqDiff, reduceIte, f0]
    · simp only [Fr.at_set, Nat.reduceEqDiff, reduceIte]
    · simp only [Fr.at_set, Nat.reduceEqDiff, reduceIte]
end Go.Proofs.YtcbngkmmmfaaoaaGreatDoor
namespace Go.Proofs.YtcbngkmmmfaaoaaGreatDoor
open Go.RowKit Go.Lib Go.Ac
set_option linter.unusedSimpArgs false
set_option maxRecDepth 100000
variable {mx : Int}
def invBlk (s : List UInt8) (a : Int) (k : Nat) (F : Fr) (h : AH) : Prop := ∃ (i : Int) (v : PV), (k : Int) + i = s.length ∧ a + 3 ≤ i ∧ i ≤ s.length ∧ F.at 0 = .str s ∧ F.at 1 = .int .i64 i ∧ F.at 7 = v ∧ RB 0 h v (4 * i.toNat)
set_option maxHeartbeats 2000000 in
theorem rBlock_c (s : List UInt8) (hl : s.length ≤ 16384) {a : Int} (ha : 0 ≤ a) (hb : a + 3 ≤ s.length) : ∃ v, TxV s a v ∧ v.clean = true ∧ ∀ (h : AH) (fr : Nat), CR Tryz.prog (globM mx) md (.fn 162) [.str s, .int .i64 a] h fr (.val v) := by
  refine CR.some (Q := TxV s a) (rs := [.tmp 4, .tmp 5, .tmp 6]) Tryz.func162 rfl rfl rfl rfl rfl rfl ?_
  have no : ∀ i, TxV s a (.tup [.str [], .int .i64 i, .bool false]) := fun i => ⟨[], i, false, rfl, Nat.zero_le _, fun q => by cases q⟩
  have w := IntWalk.i64_in (a + 3) (by omega)
  simp -implicitDefEqProofs only [wpC_seq, rowsA, if_true, if_false, opnd, ofVal, ofVal1, layArgs, Nat.reduceAdd, reduceIte, Nat.reduceEqDiff, reduceCtorEq, rowsB, cellsG, Nat.reduceMul, bs0, w]
  refine wpC_loop (invBlk s a) (k := (s.length - (a + 3)).toNat) ⟨a + 3, .els, by omega, by omega, by omega, ?_, ?_, ?_, .inl rfl⟩ ?_
  · simp only [Fr.at_set, Nat.reduceEqDiff, reduceIte, reduceCtorEq]
  · simp only [Fr.at_set, Nat.reduceEqDiff, reduceIte, reduceCtorEq]
  · simp only [Fr.at_set, Nat.reduceEqDiff, reduceIte, reduceCtorEq]
  rintro k F h ⟨i, v, ki, i1, i2, f0, f1, f7, hR⟩
  have k1 := rBegins_c (mx := mx) s [92, 34, 34, 34] (a := i) (by omega) i2 hl (by simp)
  have k2 := rBegins_c (mx := mx) s [34, 34, 34] (a := i) (by omega) i2 hl (by simp)
  cases d1 : hasP (s.drop i.toNat) [92, 34, 34, 34] with
  | true =>
    obtain ⟨_, q⟩ := hasP_first (by omega) d1
    simp only [List.length_cons, List.length_nil] at q
    have w1 := IntWalk.i64_in (i + 4) (by omega)
    simp -implicitDefEqProofs only [wpC_seq, rowsA, if_true, if_false, opnd, ofVal, ofVal1, layArgs, Nat.reduceAdd, reduceIte, Nat.reduceEqDiff, reduceCtorEq, rowsB, cellsG, Nat.reduceMul, f0, f1, f7, goO_known k1, d1, app_9]
    refine goO_rw (fun v' h' => RB 0 h' v' (4 * i.toNat + 3)) (RB.push (l := [34, 34, 34]) (hR.keep (Nat.le_refl _) (by simp only [AH.next_up]; omega) fun id _ _ => by simp only [AH.get_up]) _ (by simp only [AH.next_up]; omega) (cells_str _ _) (by simp) (by omega)) ?_
    intro v' h' hR'
    simp -implicitDefEqProofs only [wpC_seq, rowsA, if_true, if_false, opnd, ofVal, ofVal1, layArgs, Nat.reduceAdd, reduceIte, Nat.reduceEqDiff, reduceCtorEq, rowsB, cellsG, Nat.reduceMul, f1, w1]
    refine ⟨(s.length - (i + 4)).toNat, by omega, i + 4, v', by omega, by omega, by omega, ?_, ?_, ?_, hR'.keep (by omega) (by simp only [AH.next_up]; omega) fun id _ _ => by simp only [AH.get_up]⟩
    · simp only [Fr.at_set, Nat.reduceEqDiff, reduceIte, f0]
    · simp only [Fr.at_set, Nat.reduceEqDiff, reduceIte]
    · simp only [Fr.at_set, Nat.reduceEqDiff, reduceIte]
  | false =>
  cases d2 : hasP (s.drop i.toNat) [34, 34, 34] with
  | true =>
    obtain ⟨_, q⟩ := hasP_first (by omega) d2
    simp only [List.length_cons, List.length_nil] at q
    have w1 := IntWalk.i64_in (i + 3) (by omega)
    obtain ⟨l, l1, kl⟩ := hR.conv
    simp -implicitDefEqProofs only [wpC_seq, rowsA, if_true, if_false, opnd, ofVal, ofVal1, layArgs, Nat.reduceAdd, reduceIte, Nat.reduceEqDiff, reduceCtorEq, rowsB, cellsG, Nat.reduceMul, f0, f1, f7, goO_known k1, goO_known k2, d1, d2, w1]
    rw [kl _ _ (fun id => by simp only [AH.get_up])]
    simp -implicitDefEqProofs only [wpC_seq, rowsA, if_true, if_false, opnd, ofVal, ofVal1, layArgs, Nat.reduceAdd, reduceIte, Nat.reduceEqDiff, reduceCtorEq, rowsB, cellsG, Nat.reduceMul, f1, w1, EndS_normal, EndS_ret, RS_some]
    exact ⟨⟨l, i + 3, true, rfl, by omega, fun _ => ⟨by omega, by omega⟩⟩, rfl⟩
  | false =>
  obtain ⟨c, n, hn, ks⟩ := rSource_c (mx := mx) s hl (a := i) (by omega) i2
  cases d3 : decide (n = 0) with
  | true =>
    simp -implicitDefEqProofs only [wpC_seq, rowsA, if_true, if_false, opnd, ofVal, ofVal1, layArgs, Nat.reduceAdd, reduceIte, Nat.reduceEqDiff, reduceCtorEq, rowsB, cellsG, Nat.reduceMul, f0, f1, goO_known k1, goO_known k2, goO_known ks, d1, d2, d3, EndS_normal, EndS_ret, RS_some, Array.toList_empty]
    exact ⟨no i, rfl⟩
  | false =>
  have hn' := hn.resolve_left (of_decide_eq_false d3)
  have w2 := IntWalk.i64_in (i + n) (by omega)
  have hsl := fun (h : AH) => slice_both (P := Tryz.prog) (h := h) (t := 9) (l := s) (k := .i64) (k' := .i64) (i := i) (j := i + n) u9 (by omega) (by omega) (by omega)
  simp -implicitDefEqProofs only [wpC_seq, rowsA, if_true, if_false, opnd, ofVal, ofVal1, layArgs, Nat.reduceAdd, reduceIte, Nat.reduceEqDiff, reduceCtorEq, rowsB, cellsG, Nat.reduceMul, f0, f1, f7, goO_known k1, goO_known k2, goO_known ks, d1, d2, d3, w2, hsl, app_9]
  have hsz : ((s.drop i.toNat).take ((i + n).toNat - i.toNat)).length ≤ n.toNat := by rw [List.length_take]; omega
  refine goO_rw (fun v' h' => RB 0 h' v' (4 * i.toNat + ((s.drop i.toNat).take ((i + n).toNat - i.toNat)).length)) (RB.push (hR.keep (Nat.le_refl _) (by simp only [AH.next_up]; omega) fun id _ _ => by simp only [AH.get_up]) _ (by simp only [AH.next_up]; omega) (cells_str _ _) (by omega) (by omega)) ?_
  intro v' h' hR'
  simp -implicitDefEqProofs only [wpC_seq, rowsA, if_true, if_false, opnd, ofVal, ofVal1, layArgs, Nat.reduceAdd, reduceIte, Nat.reduceEqDiff, reduceCtorEq, rowsB, cellsG, Nat.reduceMul, f1, w2]
  refine ⟨(s.length - (i + n)).toNat, by omega, i + n, v', by omega, by omega, by omega, ?_, ?_, ?_, hR'.keep (by omega) (by simp only [AH.next_up]; omega) fun id _ _ => by simp only [AH.get_up]⟩
  · simp only [Fr.at_set, Nat.reduceEqDiff, reduceIte, f0]
  · simp only [Fr.at_set, Nat.reduceEqDiff, reduceIte]
  · simp only [Fr.at_set, Nat.reduceEqDiff, reduceIte]
def invInd (s : List UInt8) (k : Nat) (F : Fr) (_ : AH) : Prop := ∃ j : Nat, k + j = s.length ∧ F.at 0 = .str s ∧ F.at 3 = .int .i64 j
theorem rIndent_c (s : List UInt8) (hl : s.length ≤ 1000000) : ∃ n : Nat, n ≤ s.length ∧ ∀ (h : AH) (fr : Nat), CR Tryz.prog (globM mx) md (.fn 171) [.str s] h fr (.val (.int .i64 n)) := by
  obtain ⟨v, ⟨n, rfl, h1⟩, _, h3⟩ := CR.some (P := Tryz.prog) (G := globM mx) (md := md) (k := 171) (args := [.str s]) (Q := fun v => ∃ n : Nat, v = .int .i64 n ∧ n ≤ s.length) (rs := [.tmp 2]) Tryz.func171 rfl rfl rfl rfl rfl rfl (by
    simp -implicitDefEqProofs only [wpC_seq, rowsA, if_true, if_false, opnd, ofVal, ofVal1, layArgs, Nat.reduceAdd, reduceIte, Nat.reduceEqDiff, reduceCtorEq, rowsB, cellsG, Nat.reduceMul]
    refine wpC_loop (invInd s) (k := s.length) ⟨0, by omega, ?_, ?_⟩ ?_
    · simp only [Fr.at_set, Nat.reduceEqDiff, reduceIte, reduceCtorEq]
    · simp only [Fr.at_set, Nat.reduceEqDiff, reduceIte, reduceCtorEq]; rfl
    rintro k F h ⟨j, kj, f0, f3⟩
    by_cases c1 : (j : Int) < (s.length : Int)
    · have w := IntWalk.i64_in ((j : Int) + 1) (by omega)
      have ix := ixs (s := s) (a := (j : Int)) (by omega) c1
      have nx : ∀ (F' : Fr) (h' : AH), F'.at 0 = F.at 0 → F'.at 3 = .int .i64 ((j : Int) + 1) → ∃ k', k' < k ∧ invInd s k' F' h' := fun F' h' q0 q3 => ⟨k - 1, by omega, j + 1, by omega, q0.trans f0, q3⟩
      cases c2 : decide (byteAt s j = 9) with
      | true =>
        simp -implicitDefEqProofs only [wpC_seq, rowsA, if_true, if_false, opnd, ofVal, ofVal1, layArgs, Nat.reduceAdd, reduceIte, Nat.reduceEqDiff, reduceCtorEq, rowsB, cellsG, Nat.reduceMul, f0, f3, c1, c2, len_str u9, ix, w]
        exact nx _ _ (by simp only [Fr.at_set, Nat.reduceEqDiff, reduceIte]) (by simp only [Fr.at_set, Nat.reduceEqDiff, reduceIte])
      | false =>
        cases c3 : decide (byteAt s j = 32) with
        | true =>
          simp -implicitDefEqProofs only [wpC_seq, rowsA, if_true, if_false, opnd, ofVal, ofVal1, layArgs, Nat.reduceAdd, reduceIte, Nat.reduceEqDiff, reduceCtorEq, rowsB, cellsG, Nat.reduceMul, f0, f3, c1, c2, c3, len_str u9, ix, w]
          exact nx _ _ (by simp only [Fr.at_set, Nat.reduceEqDiff, reduceIte]) (by simp only [Fr.at_set, Nat.reduceEqDiff, reduceIte])
        | false =>
          simp -implicitDefEqProofs only [wpC_seq, rowsA, if_true, if_false, opnd, ofVal, ofVal1, layArgs, Nat.reduceAdd, reduceIte, Nat.reduceEqDiff, reduceCtorEq, rowsB, cellsG, Nat.reduceMul, f0, f3, c1, c2, c3, len_str u9, ix, EndS_normal, EndS_ret, RS_some]
          exact ⟨⟨j, rfl, by omega⟩, rfl⟩
    · simp -implicitDefEqProofs only [wpC_seq, rowsA, if_true, if_false, opnd, ofVal, ofVal1, layArgs, Nat.reduceAdd, reduceIte, Nat.reduceEqDiff, reduceCtorEq, rowsB, cellsG, Nat.reduceMul, f0, f3, c1, len_str u9, EndS_normal, EndS_ret, RS_some]
      exact ⟨⟨j, rfl, by omega⟩, rfl⟩)
  exact ⟨n, h1, h3⟩
end Go.Proofs.YtcbngkmmmfaaoaaGreatDoor
namespace Go.Proofs.YtcbngkmmmfaaoaaGreatDoor
open Go.RowKit Go.Lib Go.Ac
set_option linter.unusedSimpArgs false
set_option maxRecDepth 100000
variable {mx : Int}
theorem ownL {k : FuncId} {fn : Func} {c : Code} {rs : List ResultVar} {args : List PV} {Q : List (List UInt8) → Prop} (hf : Tryz.prog.funcs[k]? = some fn) (hb : fn.body = some c) (hn : (fn.name == "runtime.NumGoroutine") = false) (hr : fn.results.toList = rs) (hm : md k = .own) (hd : noDf c = true) (hcl : PV.cleans args = true)
    (he : wpC Tryz.prog (globM mx) md (some fn.ntmps) c (layArgs 0 args Fr.none) .empty (EndS Tryz.prog rs fun v h' => ∃ id L, Q L ∧ v = .ow id L.length 0 L.length ∧ h'.get id = some (.cells 9 1 false (L.map PV.str)))) :
    ∃ L, Q L ∧ ∀ (h : AH) (fr : Nat), CR Tryz.prog (globM mx) md (.fn k) args h fr (.new (.ow fr L.length 0 L.length) (.cells 9 1 false (L.map PV.str))) := by
  obtain ⟨n, x, f', h', he1, q⟩ := wpC_ev _ _ _ _ he
  obtain ⟨hx, l, h1, id, L, h2, h3, h4⟩ := EndS_some q
  refine ⟨L, h2, fun h fr => ?_⟩
  have hds : f'.ds = [] := by rw [evC_ds _ _ _ _ _ _ _ hd he1, layArgs_ds]; rfl
  have hlen : (L.map PV.str).length = L.length * 1 := by rw [List.length_map, Nat.mul_one]
  have hcl2 : PV.cleans (L.map PV.str) = true := by rw [← strs_flat]; exact flat_clean (fun _ => rfl) L
  have := CR.own (P := Tryz.prog) (G := globM mx) (md := md) (E := 9) (sz := 1) (len := L.length) (c' := L.map PV.str) hf hb hn hm hcl ⟨n, x, f', h', he1, .ret, n, .val (oneOf l) h', hx, by rw [hds]; exact runD_nil (by rw [hr]; exact h1), id, h', L.map PV.str, h', L.map PV.str, by rw [h3, Nat.mul_one], h4, hlen, frzL_clean _ _ hcl2, ⟨9, h4⟩, rfl⟩ h fr
  rw [Nat.mul_one] at this
  exact this
def RowS (A : Nat) (h : AH) (v : PV) (L : List (List UInt8)) : Prop := (L = [] ∧ v = .els) ∨ (0 < L.length ∧ ∃ R, v = .ow R L.length 0 L.length ∧ A ≤ R ∧ R < h.next ∧ h.get R = some (.cells 9 1 false (L.map PV.str)))
theorem RowS.keep {A : Nat} {h h' : AH} {v : PV} {L : List (List UInt8)} (q : RowS A h v L) (hn : h.next ≤ h'.next) (hk : ∀ id, A ≤ id → id < h.next → h'.get id = h.get id) : RowS A h' v L := by
  rcases q with q | ⟨h0, R, rfl, a1, a2, a3⟩
  · exact .inl q
  · exact .inr ⟨h0, R, rfl, a1, by omega, by rw [hk R a1 a2]; exact a3⟩
theorem RowS.push {A fr X : Nat} {h : AH} {v : PV} {L : List (List UInt8)} {x : List UInt8} (q : RowS A h v L) (hA : A ≤ fr) (hfr : fr < h.next) {fz : Bool} (hX : h.get X = some (.cells 9 1 fz [.str x])) (hL : L.length ≤ 100000000) :
    ∃ id ob, appO Tryz.prog h fr [v, .ow X 1 0 1] [43, 43] = some (.w (.ow id (L.length + 1) 0 (L.length + 1)) id ob) ∧ A ≤ id ∧ (id = fr ∨ h.get id = some (.cells 9 1 false (L.map PV.str))) ∧ RowS A (h.set id ob) (.ow id (L.length + 1) 0 (L.length + 1)) (L ++ [x]) := by
  have hc : Ac.cellsOf h 1 (.ow X 1 0 1) = some ([.str x], 1) := cellR_ow (sz := 1) (n := 1) hX rfl
  rcases q with ⟨rfl, rfl⟩ | ⟨h0, R, rfl, a1, a2, a3⟩
  · exact ⟨fr, _, ap_new u43 i9 (by decide) (.inr rfl) hc (by decide) (by decide) (by decide), hA, .inl rfl, .inr ⟨by simp, fr, rfl, hA, by simpa only [AH.next_set] using hfr, by simp only [AH.get_set, if_true]; rfl⟩⟩
  · have := ap_more (P := Tryz.prog) (fr := fr) u43 i9 (by decide) (m := L.length) a3 (by rw [List.length_map, Nat.mul_one]) hc (by decide) (by omega) (by omega)
    simp only [Nat.mul_one] at this
    exact ⟨R, _, this, a1, .inr a3, .inr ⟨by simp, R, by simp, a1, by simpa only [AH.next_set] using a2, by simp only [AH.get_set, if_true, List.map_append]; rfl⟩⟩
theorem RowS.pushQ {A fr X : Nat} {h : AH} {v : PV} {L : List (List UInt8)} {x : List UInt8} (q : RowS A h v L) (hA : A ≤ fr) (hfr : fr < h.next) {fz : Bool} (hX : h.get X = some (.cells 9 1 fz [.str x])) (hL : L.length ≤ 100000000) :
    (∃ v', appO Tryz.prog h fr [v, .ow X 1 0 1] [43, 43] = some (.q v') ∧ RowS A h v' (L ++ [x])) ∨ ∃ v' id ob, appO Tryz.prog h fr [v, .ow X 1 0 1] [43, 43] = some (.w v' id ob) ∧ RowS A (h.set id ob) v' (L ++ [x]) := by
  obtain ⟨id, ob, e1, _, _, e4⟩ := q.push hA hfr hX hL
  exact .inr ⟨_, id, ob, e1, e4⟩
def LnQ (s : List UInt8) (L : List (List UInt8)) : Prop := 0 < L.length ∧ L.length ≤ s.length + 1 ∧ ∀ x ∈ L, x.length ≤ s.length
def invLn (s : List UInt8) (k : Nat) (F : Fr) (h : AH) : Prop := ∃ (i st : Nat) (v : PV) (L : List (List UInt8)), k + i = s.length ∧ st ≤ i ∧ F.at 0 = .str s ∧ F.at 3 = v ∧ F.at 4 = .int .i64 st ∧ F.at 5 = .int .i64 i ∧ L.length ≤ i ∧ (∀ x ∈ L, x.length ≤ s.length) ∧ RowS 0 h v L
set_option maxHeartbeats 2000000 in
theorem rLines_c (s : List UInt8) (hl : s.length ≤ 1000000) : ∃ L, LnQ s L ∧ ∀ (h : AH) (fr : Nat), CR Tryz.prog (globM mx) md (.fn 170) [.str s] h fr (.new (.ow fr L.length 0 L.length) (.cells 9 1 false (L.map PV.str))) := by
  refine ownL (rs := [.tmp 2]) (Q := LnQ s) Tryz.func170 rfl rfl rfl rfl rfl rfl ?_
  simp -implicitDefEqProofs only [wpC_seq, rowsA, if_true, if_false, opnd, ofVal, ofVal1, layArgs, Nat.reduceAdd, reduceIte, Nat.reduceEqDiff, reduceCtorEq, rowsB, cellsG, Nat.reduceMul, bd43_0]
  refine wpC_loop (invLn s) (k := s.length) ⟨0, 0, .els, [], by omega, by omega, ?_, ?_, ?_, ?_, by simp, (fun x hx => by cases hx), .inl ⟨rfl, rfl⟩⟩ ?_
  · simp only [Fr.at_set, Nat.reduceEqDiff, reduceIte, reduceCtorEq]
  · simp only [Fr.at_set, Nat.reduceEqDiff, reduceIte, reduceCtorEq]
  · simp only [Fr.at_set, Nat.reduceEqDiff, reduceIte, reduceCtorEq]; rfl
  · simp only [Fr.at_set, Nat.reduceEqDiff, reduceIte, reduceCtorEq]; rfl
  rintro k F h ⟨i, st, v, L, ki, si, f0, f3, f4, f5, hL, hLs, hR⟩
  have w := IntWalk.i64_in ((i : Int) + 1) (by omega)
  by_cases c1 : (i : Int) < (s.length : Int)
  · have ix := ixs (s := s) (a := (i : Int)) (by omega) c1
    have hsl := fun (h : AH) => slice_both (P := Tryz.prog) (h := h) (t := 9) (l := s) (k := .i64) (k' := .i64) (i := (st : Int)) (j := (i : Int)) u9 (by omega) (by omega) (by omega)
    generalize hX : (s.drop (st : Int).toNat).take ((i : Int).toNat - (st : Int).toNat) = X at hsl
    have hXl : X.length ≤ s.length := by rw [← hX, List.length_take, List.length_drop]; omega
    have hLs' : ∀ x ∈ L ++ [X], x.length ≤ s.length := fun x hx => by
      rcases List.mem_append.1 hx with q | q
      · exact hLs x q
      · rw [List.mem_singleton.1 q]; exact hXl
    have hLl : (L ++ [X]).length = L.length + 1 := by rw [List.length_append]; rfl
    have w1 := IntWalk.i64_in ((i : Int) + 1 + 1) (by omega)
    have w2 := IntWalk.i64_in ((i : Int) + 1 + 1 + 1) (by omega)
    cases c2 : decide (byteAt s i = 10) with
    | true =>
      have c3 : decide (byteAt s i = 13) = false := by rw [of_decide_eq_true c2]; rfl
      simp -implicitDefEqProofs only [wpC_seq, rowsA, if_true, if_false, opnd, ofVal, ofVal1, layArgs, Nat.reduceAdd, reduceIte, Nat.reduceEqDiff, reduceCtorEq, rowsB, cellsG, Nat.reduceMul, f0, f3, f4, f5, c1, c2, c3, len_str u9, ix, hsl, bd43_1, w]
      refine goO_rw (fun v' h' => RowS 0 h' v' (L ++ [X])) (RowS.pushQ (hR.keep (by simp only [AH.next_set, AH.next_up]; omega) fun id _ h2 => ?_) (by omega) (by simp only [AH.next_set, AH.next_up]; omega) (by simp only [AH.get_set, if_true]; rfl) (by omega)) ?_
      · simp only [AH.get_set, AH.get_up]
        rw [if_neg (by omega)]
      intro v' h' hR'
      simp -implicitDefEqProofs only [wpC_seq, rowsA, if_true, if_false, opnd, ofVal, ofVal1, layArgs, Nat.reduceAdd, reduceIte, Nat.reduceEqDiff, reduceCtorEq, rowsB, cellsG, Nat.reduceMul, f0, f5, c3, ix, w]
      refine ⟨k - 1, by omega, i + 1, i + 1, v', L ++ [X], by omega, by omega, ?_, ?_, ?_, ?_, by omega, hLs', hR'.keep (by simp only [AH.next_up]; omega) fun id _ _ => by simp only [AH.get_up]⟩
      · simp only [Fr.at_set, Nat.reduceEqDiff, reduceIte, f0]
      · simp only [Fr.at_set, Nat.reduceEqDiff, reduceIte]
      · simp only [Fr.at_set, Nat.reduceEqDiff, reduceIte]; rfl
      · simp only [Fr.at_set, Nat.reduceEqDiff, reduceIte]; rfl
    | false =>
      cases c3 : decide (byteAt s i = 13) with
      | true =>
        simp -implicitDefEqProofs only [wpC_seq, rowsA, if_true, if_false, opnd, ofVal, ofVal1, layArgs, Nat.reduceAdd, reduceIte, Nat.reduceEqDiff, reduceCtorEq, rowsB, cellsG, Nat.reduceMul, f0, f3, f4, f5, c1, c2, c3, len_str u9, ix, hsl, bd43_1, w]
        refine goO_rw (fun v' h' => RowS 0 h' v' (L ++ [X])) (RowS.pushQ (hR.keep (by simp only [AH.next_set, AH.next_up]; omega) fun id _ h2 => ?_) (by omega) (by simp only [AH.next_set, AH.next_up]; omega) (by simp only [AH.get_set, if_true]; rfl) (by omega)) ?_
        · simp only [AH.get_set, AH.get_up]
          rw [if_neg (by omega)]
        intro v' h' hR'
        cases c4 : decide (bz s ((i : Int) + 1) = 10) with
        | true =>
          have c5 := bz_lt (s := s) (e := (i : Int) + 1) (by rw [of_decide_eq_true c4]; decide)
          simp -implicitDefEqProofs only [wpC_seq, rowsA, if_true, if_false, opnd, ofVal, ofVal1, layArgs, Nat.reduceAdd, reduceIte, Nat.reduceEqDiff, reduceCtorEq, rowsB, cellsG, Nat.reduceMul, f0, f5, c3, c4, ix, w, w1, goO_known (rAt_c s (show (0 : Int) ≤ (i : Int) + 1 by omega))]
          refine ⟨k - 2, by omega, i + 2, i + 2, v', L ++ [X], by omega, by omega, ?_, ?_, ?_, ?_, by omega, hLs', hR'.keep (by simp only [AH.next_up]; omega) fun id _ _ => by simp only [AH.get_up]⟩
          · simp only [Fr.at_set, Nat.reduceEqDiff, reduceIte, f0]
          · simp only [Fr.at_set, Nat.reduceEqDiff, reduceIte]
          · simp only [Fr.at_set, Nat.reduceEqDiff, reduceIte]; rfl
          · simp only [Fr.at_set, Nat.reduceEqDiff, reduceIte]; rfl
        | false =>
          simp -implicitDefEqProofs only [wpC_seq, rowsA, if_true, if_false, opnd, ofVal, ofVal1, layArgs, Nat.reduceAdd, reduceIte, Nat.reduceEqDiff, reduceCtorEq, rowsB, cellsG, Nat.reduceMul, f0, f5, c3, c4, ix, w, goO_known (rAt_c s (show (0 : Int) ≤ (i : Int) + 1 by omega))]
          refine ⟨k - 1, by omega, i + 1, i + 1, v', L ++ [X], by omega, by omega, ?_, ?_, ?_, ?_, by omega, hLs', hR'.keep (by simp only [AH.next_up]; omega) fun id _ _ => by simp only [AH.get_up]⟩
          · simp only [Fr.at_set, Nat.reduceEqDiff, reduceIte, f0]
          · simp only [Fr.at_set, Nat.reduceEqDiff, reduceIte]
          · simp only [Fr.at_set, Nat.reduceEqDiff, reduceIte]; rfl
          · simp only [Fr.at_set, Nat.reduceEqDiff, reduceIte]; rfl
      | false =>
        simp -implicitDefEqProofs only [wpC_seq, rowsA, if_true, if_false, opnd, ofVal, ofVal1, layArgs, Nat.reduceAdd, reduceIte, Nat.reduceEqDiff, reduceCtorEq, rowsB, cellsG, Nat.reduceMul, f0, f3, f4, f5, c1, c2, c3, len_str u9, ix, w]
        refine ⟨k - 1, by omega, i + 1, st, v, L, by omega, by omega, ?_, ?_, ?_, ?_, by omega, hLs, hR.keep (by simp only [AH.next_up]; omega) fun id _ _ => by simp only [AH.get_up]⟩
        · simp only [Fr.at_set, Nat.reduceEqDiff, reduceIte, f0]
        · simp only [Fr.at_set, Nat.reduceEqDiff, reduceIte, f3]
        · simp only [Fr.at_set, Nat.reduceEqDiff, reduceIte, f4]
        · simp only [Fr.at_set, Nat.reduceEqDiff, reduceIte]; rfl
  · have hsl := fun (h : AH) => slice_from (P := Tryz.prog) (h := h) (t := 9) (l := s) (k := .i64) (i := (st : Int)) u9 (by omega) (by omega)
    generalize hX : s.drop (st : Int).toNat = X at hsl
    have hXl : X.length ≤ s.length := by rw [← hX, List.length_drop]; omega
    have hLs' : ∀ x ∈ L ++ [X], x.length ≤ s.length := fun x hx => by
      rcases List.mem_append.1 hx with q | q
      · exact hLs x q
      · rw [List.mem_singleton.1 q]; exact hXl
    have hLl : (L ++ [X]).length = L.length + 1 := by rw [List.length_append]; rfl
    simp -implicitDefEqProofs only [wpC_seq, rowsA, if_true, if_false, opnd, ofVal, ofVal1, layArgs, Nat.reduceAdd, reduceIte, Nat.reduceEqDiff, reduceCtorEq, rowsB, cellsG, Nat.reduceMul, f0, f3, f4, f5, c1, len_str u9, hsl, bd43_1]
    refine goO_rw (fun v' h' => RowS 0 h' v' (L ++ [X])) (RowS.pushQ (hR.keep (by simp only [AH.next_set, AH.next_up]; omega) fun id _ h2 => ?_) (by omega) (by simp only [AH.next_set, AH.next_up]; omega) (by simp only [AH.get_set, if_true]; rfl) (by omega)) ?_
    · simp only [AH.get_set, AH.get_up]
      rw [if_neg (by omega)]
    intro v' h' hR'
    simp -implicitDefEqProofs only [wpC_seq, rowsA, if_true, if_false, opnd, ofVal, ofVal1, layArgs, Nat.reduceAdd, reduceIte, Nat.reduceEqDiff, reduceCtorEq, rowsB, cellsG, Nat.reduceMul, EndS_normal, EndS_ret, RS_some]
    rcases hR' with ⟨q, _⟩ | ⟨h0, R, rfl, _, _, q⟩
    · rw [q] at hLl
      cases hLl
    · exact ⟨R, L ++ [X], ⟨h0, by omega, hLs'⟩, rfl, q⟩
end Go.Proofs.YtcbngkmmmfaaoaaGreatDoor
namespace Go.Proofs.YtcbngkmmmfaaoaaGreatDoor
open Go.RowKit Go.Lib Go.Ac
set_option linter.unusedSimpArgs false
set_option maxRecDepth 100000
variable {mx : Int}
theorem ida43w {R n : Nat} {i : Nat} {h : AH} (hi : i < n) : idaO Tryz.prog h 43 (.ow R n 0 n) (.int .i64 (i : Int)) = if liveG n (h.get R) then some (.q (.ptr R n i)) else none := by
  rw [ida_ow (n := n) (i := (i : Int)) u43 sz9 (by omega) (by omega), Int.toNat_natCast, Nat.zero_add]
theorem strs_get {L : List (List UInt8)} {i : Nat} {x : List UInt8} (h : L[i]? = some x) : (L.map PV.str)[i]? = some (.str x) := by rw [List.getElem?_map, h]; rfl
theorem lns_len (L : List (List UInt8)) : (L.map PV.str).length = L.length := List.length_map _
theorem stS {R n i : Nat} {L : List (List UInt8)} {x : List UInt8} (hn : L.length = n) (hi : i < n) : stoG R n i (.str x) 1 (some (.cells 9 1 false (L.map PV.str))) = some (.w .undef R (.cells 9 1 false ((L.set i x).map PV.str))) := by
  have e1 : (L.map PV.str).length = n := by rw [List.length_map]; exact hn
  have e2 : splice (L.map PV.str) i [PV.str x] = (L.set i x).map PV.str := by
    rw [List.map_set, List.set_eq_take_append_cons_drop, if_pos (by rw [e1]; exact hi)]
    simp [splice]
  simp only [stoG, e1, PV.goes, PV.cells, List.length_singleton, true_and, and_true]
  rw [if_pos (by omega), e2]
structure BL (m n : Nat) (F : Fr) (h : AH) (L : List (List UInt8)) : Prop where
  f3 : F.at 3 = .ow 2 n 0 n
  g : h.get 2 = some (.cells 9 1 false (L.map PV.str))
  len : L.length = n
  each : ∀ x ∈ L, x.length ≤ m
  lt : 3 ≤ h.next
def invB1 (m n : Nat) (L : List (List UInt8)) (k : Nat) (F : Fr) (h : AH) : Prop := ∃ (i c : Nat) (b : Bool), k + i = n ∧ 1 ≤ i ∧ BL m n F h L ∧ F.at 4 = .int .i64 c ∧ F.at 5 = .bool b ∧ F.at 6 = .int .i64 i ∧ c ≤ m
def invB2 (m n c : Nat) (k : Nat) (F : Fr) (h : AH) : Prop := ∃ (i a : Nat) (z : Int) (L : List (List UInt8)), k + i = n ∧ BL m n F h L ∧ F.at 4 = .int .i64 c ∧ F.at 8 = .int .i64 a ∧ F.at 9 = .int .i64 z ∧ F.at 10 = .int .i64 i ∧ a ≤ n ∧ -1 ≤ z ∧ z < n
def invB3 (m n : Nat) (L : List (List UInt8)) (a : Nat) (z : Int) (k : Nat) (F : Fr) (h : AH) : Prop := ∃ (i : Nat) (v : PV), k + i = n ∧ BL m n F h L ∧ F.at 8 = .int .i64 a ∧ F.at 9 = .int .i64 z ∧ F.at 11 = v ∧ F.at 12 = .int .i64 i ∧ RB 3 h v (i * (m + 1))
set_option maxHeartbeats 4000000 in
theorem rBlk_c (s : List UInt8) (hl : s.length ≤ 100000) : ∃ x : List UInt8, ∀ (h : AH) (fr : Nat), CR Tryz.prog (globM mx) md (.fn 163) [.str s] h fr (.val (.str x)) := by
  obtain ⟨L, ⟨l1, l2, l3⟩, kL⟩ := rLines_c (mx := mx) s (by omega)
  obtain ⟨v, ⟨x, rfl⟩, _, h3⟩ := CR.some (P := Tryz.prog) (G := globM mx) (md := md) (k := 163) (args := [.str s]) (Q := fun v => ∃ x : List UInt8, v = .str x) (rs := [.tmp 2]) Tryz.func163 rfl rfl rfl rfl rfl rfl (by
    have kI := fun (x : List UInt8) (hx : x.length ≤ s.length) => rIndent_c (mx := mx) x (by omega)
    simp -implicitDefEqProofs only [wpC_seq, rowsA, if_true, if_false, opnd, ofVal, ofVal1, layArgs, Nat.reduceAdd, reduceIte, Nat.reduceEqDiff, reduceCtorEq, rowsB, cellsG, Nat.reduceMul, goO_own kL]
    obtain ⟨n, hn⟩ : ∃ n, L.length = n := ⟨_, rfl⟩
    rw [hn] at l1 l2 ⊢
    generalize s.length = m at l2 l3 kI hl
    refine wpC_loop (invB1 m n L) (k := n - 1) ⟨1, 0, false, by omega, by omega, ⟨?_, ?_, hn, l3, ?_⟩, ?_, ?_, ?_, by omega⟩ ?_
    · simp only [Fr.at_set, Nat.reduceEqDiff, reduceIte]
    · simp only [AH.get_up, AH.get_set, if_true]
    · simp only [AH.next_set, AH.next_up]; omega
    · simp only [Fr.at_set, Nat.reduceEqDiff, reduceIte]; rfl
    · simp only [Fr.at_set, Nat.reduceEqDiff, reduceIte]
    · simp only [Fr.at_set, Nat.reduceEqDiff, reduceIte]; rfl
    rintro k F h ⟨i, c, b, ki, i1, B, f4, f5, f6, hc⟩
    have w := IntWalk.i64_in ((i : Int) + 1) (by omega)
    have eL : lenO Tryz.prog [.ow 2 n 0 n] [43] = some (.q (.int .i64 n)) := len_ow u43
    by_cases c1 : (i : Int) < (n : Int)
    · have hi : i < n := by omega
      obtain ⟨x, hx⟩ : ∃ x, L[i]? = some x := ⟨_, List.getElem?_eq_getElem (by have := B.len; omega)⟩
      have hxm := B.each x (List.mem_of_getElem? hx)
      obtain ⟨nI, n1, kn⟩ := kI x hxm
      have nx : ∀ (F' : Fr) (h' : AH) (c' : Nat) (b' : Bool), c' ≤ m → F'.at 3 = F.at 3 → F'.at 4 = .int .i64 c' → F'.at 5 = .bool b' → F'.at 6 = .int .i64 ((i : Int) + 1) → h'.get 2 = h.get 2 → h.next ≤ h'.next → ∃ k', k' < k ∧ invB1 m n L k' F' h' := fun F' h' c' b' q0 q3 q4 q5 q6 q7 q8 => ⟨k - 1, by omega, i + 1, c', b', by omega, by omega, ⟨q3.trans B.f3, q7.trans B.g, B.len, B.each, by have := B.lt; omega⟩, q4, q5, q6, q0⟩
      by_cases d1 : (nI : Int) < (x.length : Int)
      · cases b with
        | false =>
          simp -implicitDefEqProofs only [wpC_seq, rowsA, if_true, if_false, opnd, ofVal, ofVal1, layArgs, Nat.reduceAdd, reduceIte, Nat.reduceEqDiff, reduceCtorEq, rowsB, cellsG, Nat.reduceMul, B.f3, f4, f5, f6, eL, c1, ida43w hi, B.g, lns_len, B.len, load_drop ag9 sz9 (strs_get hx), goO_known kn, len_str u9, d1, w]
          exact nx _ _ nI true (by omega) (by simp only [Fr.at_set, Nat.reduceEqDiff, reduceIte]) (by simp only [Fr.at_set, Nat.reduceEqDiff, reduceIte]) (by simp only [Fr.at_set, Nat.reduceEqDiff, reduceIte]) (by simp only [Fr.at_set, Nat.reduceEqDiff, reduceIte]) (by simp only [AH.get_up]) (by simp only [AH.next_up]; omega)
        | true =>
          by_cases d2 : (nI : Int) < (c : Int)
          · simp -implicitDefEqProofs only [wpC_seq, rowsA, if_true, if_false, opnd, ofVal, ofVal1, layArgs, Nat.reduceAdd, reduceIte, Nat.reduceEqDiff, reduceCtorEq, rowsB, cellsG, Nat.reduceMul, B.f3, f4, f5, f6, eL, c1, ida43w hi, B.g, lns_len, B.len, load_drop ag9 sz9 (strs_get hx), goO_known kn, len_str u9, d1, d2, w]
            exact nx _ _ nI true (by omega) (by simp only [Fr.at_set, Nat.reduceEqDiff, reduceIte]) (by simp only [Fr.at_set, Nat.reduceEqDiff, reduceIte]) (by simp only [Fr.at_set, Nat.reduceEqDiff, reduceIte]) (by simp only [Fr.at_set, Nat.reduceEqDiff, reduceIte]) (by simp only [AH.get_up]) (by simp only [AH.next_up]; omega)
          · simp -implicitDefEqProofs only [wpC_seq, rowsA, if_true, if_false, opnd, ofVal, ofVal1, layArgs, Nat.reduceAdd, reduceIte, Nat.reduceEqDiff, reduceCtorEq, rowsB, cellsG, Nat.reduceMul, B.f3, f4, f5, f6, eL, c1, ida43w hi, B.g, lns_len, B.len, load_drop ag9 sz9 (strs_get hx), goO_known kn, len_str u9, d1, d2, w]
            exact nx _ _ c true hc (by simp only [Fr.at_set, Nat.reduceEqDiff, reduceIte]) (by simp only [Fr.at_set, Nat.reduceEqDiff, reduceIte, f4]) (by simp only [Fr.at_set, Nat.reduceEqDiff, reduceIte, f5]) (by simp only [Fr.at_set, Nat.reduceEqDiff, reduceIte]) (by simp only [AH.get_up]) (by simp only [AH.next_up]; omega)
      · simp -implicitDefEqProofs only [wpC_seq, rowsA, if_true, if_false, opnd, ofVal, ofVal1, layArgs, Nat.reduceAdd, reduceIte, Nat.reduceEqDiff, reduceCtorEq, rowsB, cellsG, Nat.reduceMul, B.f3, f4, f5, f6, eL, c1, ida43w hi, B.g, lns_len, B.len, load_drop ag9 sz9 (strs_get hx), goO_known kn, len_str u9, d1, w]
        exact nx _ _ c b hc (by simp only [Fr.at_set, Nat.reduceEqDiff, reduceIte]) (by simp only [Fr.at_set, Nat.reduceEqDiff, reduceIte, f4]) (by simp only [Fr.at_set, Nat.reduceEqDiff, reduceIte, f5]) (by simp only [Fr.at_set, Nat.reduceEqDiff, reduceIte]) (by simp only [AH.get_up]) (by simp only [AH.next_up]; omega)
    · simp -implicitDefEqProofs only [wpC_seq, rowsA, if_true, if_false, opnd, ofVal, ofVal1, layArgs, Nat.reduceAdd, reduceIte, Nat.reduceEqDiff, reduceCtorEq, rowsB, cellsG, Nat.reduceMul, B.f3, f4, f5, f6, eL, c1]
      refine wpC_loop (invB2 m n c) (k := n) ⟨0, n, -1, L, by omega, ⟨?_, ?_, B.len, B.each, ?_⟩, ?_, ?_, ?_, ?_, by omega, by omega, by omega⟩ ?_
      · simp only [Fr.at_set, Nat.reduceEqDiff, reduceIte, B.f3]
      · simp only [AH.get_up]; exact B.g
      · have := B.lt; simp only [AH.next_up]; omega
      · simp only [Fr.at_set, Nat.reduceEqDiff, reduceIte, f4]
      · simp only [Fr.at_set, Nat.reduceEqDiff, reduceIte]
      · simp only [Fr.at_set, Nat.reduceEqDiff, reduceIte]
      · simp only [Fr.at_set, Nat.reduceEqDiff, reduceIte]; rfl
      clear w f4 f5 f6 B c1 ki i1 hc
      rintro k F h ⟨i, a, z, L, ki, B, f4, f8, f9, f10, ha, z1, z2⟩
      have w := IntWalk.i64_in ((i : Int) + 1) (by omega)
      by_cases c1 : (i : Int) < (n : Int)
      · have hi : i < n := by omega
        obtain ⟨x, hx⟩ : ∃ x, L[i]? = some x := ⟨_, List.getElem?_eq_getElem (by have := B.len; omega)⟩
        have hxm := B.each x (List.mem_of_getElem? hx)
        have nx : ∀ (F' : Fr) (h' : AH) (a' : Nat) (z' : Int) (L' : List (List UInt8)), a' ≤ n → -1 ≤ z' → z' < n → L'.length = n → (∀ x ∈ L', x.length ≤ m) → F'.at 3 = F.at 3 → F'.at 4 = F.at 4 → F'.at 8 = .int .i64 a' → F'.at 9 = .int .i64 z' → F'.at 10 = .int .i64 ((i : Int) + 1) → h'.get 2 = some (.cells 9 1 false (L'.map PV.str)) → h.next ≤ h'.next → ∃ k', k' < k ∧ invB2 m n c k' F' h' := fun F' h' a' z' L' p1 p2 p3 p4 p5 q3 q4 q8 q9 q10 qg qn => ⟨k - 1, by omega, i + 1, a', z', L', by omega, ⟨q3.trans B.f3, qg, p4, p5, by have := B.lt; omega⟩, q4.trans f4, q8, q9, q10, p1, p2, p3⟩
        have em : min (a : Int) (i : Int) = ((min a i : Nat) : Int) := by omega
        by_cases c2 : (0 : Int) < (i : Int)
        · have hsl := fun (h : AH) => slice_from (P := Tryz.prog) (h := h) (t := 9) (l := x) (k := .i64) (i := min (c : Int) (x.length : Int)) u9 (by omega) (by omega)
          generalize hy : x.drop (min (c : Int) (x.length : Int)).toNat = y at hsl
          have hyl : y.length ≤ m := by rw [← hy, List.length_drop]; omega
          have hL' : (L.set i y).length = n := by rw [List.length_set]; exact B.len
          have hy' : (L.set i y)[i]? = some y := by rw [List.getElem?_set_self (by have := B.len; omega)]
          have hmem : ∀ x ∈ L.set i y, x.length ≤ m := fun u hu => by
            rcases List.mem_or_eq_of_mem_set hu with q | q
            · exact B.each u q
            · rw [q]; exact hyl
          obtain ⟨nI, n1, kn⟩ := kI y hyl
          simp -implicitDefEqProofs only [wpC_seq, rowsA, if_true, if_false, opnd, ofVal, ofVal1, layArgs, Nat.reduceAdd, reduceIte, Nat.reduceEqDiff, reduceCtorEq, rowsB, cellsG, Nat.reduceMul, B.f3, f4, f8, f9, f10, eL, c1, c2, ida43w hi, B.g, lns_len, B.len, load_drop ag9 sz9 (strs_get hx), len_str u9, hsl, aop_minO, mm_min, sz9, stS B.len hi]
          rw [goD_st (by have := B.lt; omega) (by kernel_rfl)]
          by_cases d1 : (nI : Int) < (y.length : Int)
          · simp -implicitDefEqProofs only [wpC_seq, rowsA, if_true, if_false, opnd, ofVal, ofVal1, layArgs, Nat.reduceAdd, reduceIte, Nat.reduceEqDiff, reduceCtorEq, rowsB, cellsG, Nat.reduceMul, B.f3, f4, f8, f9, f10, eL, c1, ida43w hi, lns_len, hL', load_drop ag9 sz9 (strs_get hy'), goD_known kn, len_str u9, d1, aop_minO, mm_min, em, w]
            exact nx _ _ (min a i) i (L.set i y) (by omega) (by omega) (by omega) hL' hmem (by simp only [Fr.at_set, Nat.reduceEqDiff, reduceIte]) (by simp only [Fr.at_set, Nat.reduceEqDiff, reduceIte]) (by simp only [Fr.at_set, Nat.reduceEqDiff, reduceIte]) (by simp only [Fr.at_set, Nat.reduceEqDiff, reduceIte]) (by simp only [Fr.at_set, Nat.reduceEqDiff, reduceIte]) (by simp only [AH.get_up, AH.get_set, if_true]) (by simp only [AH.next_set, AH.next_up]; omega)
          · simp -implicitDefEqProofs only [wpC_seq, rowsA, if_true, if_false, opnd, ofVal, ofVal1, layArgs, Nat.reduceAdd, reduceIte, Nat.reduceEqDiff, reduceCtorEq, rowsB, cellsG, Nat.reduceMul, B.f3, f4, f8, f9, f10, eL, c1, ida43w hi, lns_len, hL', load_drop ag9 sz9 (strs_get hy'), goD_known kn, len_str u9, d1, aop_minO, mm_min, w]
            exact nx _ _ a z (L.set i y) ha z1 z2 hL' hmem (by simp only [Fr.at_set, Nat.reduceEqDiff, reduceIte]) (by simp only [Fr.at_set, Nat.reduceEqDiff, reduceIte]) (by simp only [Fr.at_set, Nat.reduceEqDiff, reduceIte, f8]) (by simp only [Fr.at_set, Nat.reduceEqDiff, reduceIte, f9]) (by simp only [Fr.at_set, Nat.reduceEqDiff, reduceIte]) (by simp only [AH.get_up, AH.get_set, if_true]) (by simp only [AH.next_set, AH.next_up]; omega)
        · have hi0 : i = 0 := by omega
          obtain ⟨nI, n1, kn⟩ := kI x hxm
          by_cases d1 : (nI : Int) < (x.length : Int)
          · simp -implicitDefEqProofs only [wpC_seq, rowsA, if_true, if_false, opnd, ofVal, ofVal1, layArgs, Nat.reduceAdd, reduceIte, Nat.reduceEqDiff, reduceCtorEq, rowsB, cellsG, Nat.reduceMul, B.f3, f4, f8, f9, f10, eL, c1, c2, ida43w hi, B.g, lns_len, B.len, load_drop ag9 sz9 (strs_get hx), goD_known kn, len_str u9, d1, aop_minO, mm_min, em, w]
            exact nx _ _ (min a i) i L (by omega) (by omega) (by omega) B.len B.each (by simp only [Fr.at_set, Nat.reduceEqDiff, reduceIte]) (by simp only [Fr.at_set, Nat.reduceEqDiff, reduceIte]) (by simp only [Fr.at_set, Nat.reduceEqDiff, reduceIte]) (by simp only [Fr.at_set, Nat.reduceEqDiff, reduceIte]) (by simp only [Fr.at_set, Nat.reduceEqDiff, reduceIte]) (by simp only [AH.get_up]; exact B.g) (by simp only [AH.next_up]; omega)
          · simp -implicitDefEqProofs only [wpC_seq, rowsA, if_true, if_false, opnd, ofVal, ofVal1, layArgs, Nat.reduceAdd, reduceIte, Nat.reduceEqDiff, reduceCtorEq, rowsB, cellsG, Nat.reduceMul, B.f3, f4, f8, f9, f10, eL, c1, c2, ida43w hi, B.g, lns_len, B.len, load_drop ag9 sz9 (strs_get hx), goD_known kn, len_str u9, d1, aop_minO, mm_min, w]
            exact nx _ _ a z L ha z1 z2 B.len B.each (by simp only [Fr.at_set, Nat.reduceEqDiff, reduceIte]) (by simp only [Fr.at_set, Nat.reduceEqDiff, reduceIte]) (by simp only [Fr.at_set, Nat.reduceEqDiff, reduceIte, f8]) (by simp only [Fr.at_set, Nat.reduceEqDiff, reduceIte, f9]) (by simp only [Fr.at_set, Nat.reduceEqDiff, reduceIte]) (by simp only [AH.get_up]; exact B.g) (by simp only [AH.next_up]; omega)
      · simp -implicitDefEqProofs only [wpC_seq, rowsA, if_true, if_false, opnd, ofVal, ofVal1, layArgs, Nat.reduceAdd, reduceIte, Nat.reduceEqDiff, reduceCtorEq, rowsB, cellsG, Nat.reduceMul, B.f3, f4, f8, f9, f10, eL, c1, bs0]
        refine wpC_loop (invB3 m n L a z) (k := n - a) ⟨a, .els, by omega, ⟨?_, ?_, B.len, B.each, ?_⟩, ?_, ?_, ?_, ?_, .inl rfl⟩ ?_
        · simp only [Fr.at_set, Nat.reduceEqDiff, reduceIte, B.f3]
        · simp only [AH.get_up, AH.get_set]
          rw [if_neg (by have := B.lt; omega)]
          exact B.g
        · have := B.lt; simp only [AH.next_set, AH.next_up]; omega
        · simp only [Fr.at_set, Nat.reduceEqDiff, reduceIte, f8]
        · simp only [Fr.at_set, Nat.reduceEqDiff, reduceIte, f9]
        · simp only [Fr.at_set, Nat.reduceEqDiff, reduceIte]
        · simp only [Fr.at_set, Nat.reduceEqDiff, reduceIte]
        clear w f4 f8 f9 f10 B c1 ki
        rintro k F h ⟨i, v, ki, B, f8, f9, f11, f12, hR⟩
        have w := IntWalk.i64_in ((i : Int) + 1) (by omega)
        by_cases c1 : (i : Int) ≤ z
        · have hi : i < n := by omega
          obtain ⟨x, hx⟩ : ∃ x, L[i]? = some x := ⟨_, List.getElem?_eq_getElem (by have := B.len; omega)⟩
          have hxm := B.each x (List.mem_of_getElem? hx)
          have hm2 : i * (m + 1) ≤ n * (m + 1) := Nat.mul_le_mul_right _ (by omega)
          have hm3 : n * (m + 1) ≤ 100001 * 100001 := Nat.mul_le_mul (by omega) (by omega)
          have hm4 : (i + 1) * (m + 1) = i * (m + 1) + (m + 1) := by rw [Nat.add_mul, Nat.one_mul]
          have lt := B.lt
          have nx : ∀ (F' : Fr) (h' : AH) (v' : PV), F'.at 3 = F.at 3 → F'.at 8 = F.at 8 → F'.at 9 = F.at 9 → F'.at 11 = v' → F'.at 12 = .int .i64 ((i : Int) + 1) → h'.get 2 = some (.cells 9 1 false (L.map PV.str)) → h.next ≤ h'.next → RB 3 h' v' ((i + 1) * (m + 1)) → ∃ k', k' < k ∧ invB3 m n L a z k' F' h' := fun F' h' v' q3 q8 q9 q11 q12 qg qn qR => ⟨k - 1, by omega, i + 1, v', by omega, ⟨q3.trans B.f3, qg, B.len, B.each, by omega⟩, q8.trans f8, q9.trans f9, q11, q12, qR⟩
          by_cases c2 : (a : Int) < (i : Int)
          · simp -implicitDefEqProofs only [wpC_seq, rowsA, if_true, if_false, opnd, ofVal, ofVal1, layArgs, Nat.reduceAdd, reduceIte, Nat.reduceEqDiff, reduceCtorEq, rowsB, cellsG, Nat.reduceMul, f8, f9, f11, f12, c1, c2, bs1]
            refine goO_rw (fun v' h' => RB 3 h' v' (i * (m + 1) + 1) ∧ (h'.get 2 = some (.cells 9 1 false (L.map PV.str)) ∧ h.next + 10 ≤ h'.next)) (RB.pushR (l := [10]) (by decide) ?_ (by simp only [AH.next_set, AH.next_up]; omega) (hR.keep (Nat.le_refl _) (by simp only [AH.next_set, AH.next_up]; omega) fun id _ h2 => ?_) _ (by omega) (by simp only [AH.next_set, AH.next_up]; omega) (cellR_ow (n := 1) (by simp only [AH.get_set, if_true]; rfl) rfl) (by simp) (by omega)) ?_
            · simp only [AH.get_set, AH.get_up]
              rw [if_neg (by omega)]
              exact B.g
            · simp only [AH.get_set, AH.get_up]
              rw [if_neg (by omega)]
            rintro v' h' ⟨hR', g', n'⟩
            simp -implicitDefEqProofs only [wpC_seq, rowsA, if_true, if_false, opnd, ofVal, ofVal1, layArgs, Nat.reduceAdd, reduceIte, Nat.reduceEqDiff, reduceCtorEq, rowsB, cellsG, Nat.reduceMul, B.f3, f12, ida43w hi, g', lns_len, B.len, load_drop ag9 sz9 (strs_get hx), app_9]
            refine goO_rw (fun v' h' => RB 3 h' v' (i * (m + 1) + 1 + x.length) ∧ (h'.get 2 = some (.cells 9 1 false (L.map PV.str)) ∧ h.next ≤ h'.next)) (RB.pushR (by decide) ?_ (by simp only [AH.next_up]; omega) (hR'.keep (Nat.le_refl _) (by simp only [AH.next_up]; omega) fun id _ h2 => ?_) _ (by omega) (by simp only [AH.next_up]; omega) (cells_str _ x) (by omega) (by omega)) ?_
            · simp only [AH.get_up]
              exact g'
            · simp only [AH.get_up]
            rintro v2 h2 ⟨hR2, g2, n2⟩
            simp -implicitDefEqProofs only [wpC_seq, rowsA, if_true, if_false, opnd, ofVal, ofVal1, layArgs, Nat.reduceAdd, reduceIte, Nat.reduceEqDiff, reduceCtorEq, rowsB, cellsG, Nat.reduceMul, f12, w]
            exact nx _ _ v2 (by simp only [Fr.at_set, Nat.reduceEqDiff, reduceIte]) (by simp only [Fr.at_set, Nat.reduceEqDiff, reduceIte]) (by simp only [Fr.at_set, Nat.reduceEqDiff, reduceIte]) (by simp only [Fr.at_set, Nat.reduceEqDiff, reduceIte]) (by simp only [Fr.at_set, Nat.reduceEqDiff, reduceIte]) (by simp only [AH.get_up]; exact g2) (by simp only [AH.next_up]; omega) (hR2.keep (by omega) (by simp only [AH.next_up]; omega) fun id _ _ => by simp only [AH.get_up])
          · simp -implicitDefEqProofs only [wpC_seq, rowsA, if_true, if_false, opnd, ofVal, ofVal1, layArgs, Nat.reduceAdd, reduceIte, Nat.reduceEqDiff, reduceCtorEq, rowsB, cellsG, Nat.reduceMul, f8, f9, f11, f12, c1, c2, B.f3, ida43w hi, B.g, lns_len, B.len, load_drop ag9 sz9 (strs_get hx), app_9]
            refine goO_rw (fun v' h' => RB 3 h' v' (i * (m + 1) + x.length) ∧ (h'.get 2 = some (.cells 9 1 false (L.map PV.str)) ∧ h.next ≤ h'.next)) (RB.pushR (by decide) ?_ (by simp only [AH.next_up]; omega) (hR.keep (Nat.le_refl _) (by simp only [AH.next_up]; omega) fun id _ h2 => ?_) _ (by omega) (by simp only [AH.next_up]; omega) (cells_str _ x) (by omega) (by omega)) ?_
            · simp only [AH.get_up]
              exact B.g
            · simp only [AH.get_up]
            rintro v2 h2 ⟨hR2, g2, n2⟩
            simp -implicitDefEqProofs only [wpC_seq, rowsA, if_true, if_false, opnd, ofVal, ofVal1, layArgs, Nat.reduceAdd, reduceIte, Nat.reduceEqDiff, reduceCtorEq, rowsB, cellsG, Nat.reduceMul, f12, w]
            exact nx _ _ v2 (by simp only [Fr.at_set, Nat.reduceEqDiff, reduceIte]) (by simp only [Fr.at_set, Nat.reduceEqDiff, reduceIte]) (by simp only [Fr.at_set, Nat.reduceEqDiff, reduceIte]) (by simp only [Fr.at_set, Nat.reduceEqDiff, reduceIte]) (by simp only [Fr.at_set, Nat.reduceEqDiff, reduceIte]) (by simp only [AH.get_up]; exact g2) (by simp only [AH.next_up]; omega) (hR2.keep (by omega) (by simp only [AH.next_up]; omega) fun id _ _ => by simp only [AH.get_up])
        · obtain ⟨l, _, kl⟩ := hR.conv
          simp -implicitDefEqProofs only [wpC_seq, rowsA, if_true, if_false, opnd, ofVal, ofVal1, layArgs, Nat.reduceAdd, reduceIte, Nat.reduceEqDiff, reduceCtorEq, rowsB, cellsG, Nat.reduceMul, f8, f9, f11, f12, c1]
          rw [kl _ _ (fun id => by simp only [AH.get_up])]
          simp -implicitDefEqProofs only [wpC_seq, rowsA, if_true, if_false, opnd, ofVal, ofVal1, layArgs, Nat.reduceAdd, reduceIte, Nat.reduceEqDiff, reduceCtorEq, rowsB, cellsG, Nat.reduceMul, EndS_normal, EndS_ret, RS_some]
          exact ⟨⟨l, rfl⟩, rfl⟩)
  exact ⟨x, h3⟩
end Go.Proofs.YtcbngkmmmfaaoaaGreatDoor
namespace Go.Proofs.YtcbngkmmmfaaoaaGreatDoor
open Go.RowKit Go.Lib Go.Ac
set_option linter.unusedSimpArgs false
set_option maxRecDepth 100000
variable {mx : Int}
theorem let_not3 : ∀ c : Fin 256, inB (c.val : Int) lettersL = true → c.val ≠ 9 ∧ c.val ≠ 32 ∧ c.val ≠ 10 ∧ c.val ≠ 13 ∧ c.val ≠ 44 ∧ c.val ≠ 239 ∧ c.val ≠ 35 ∧ c.val ≠ 45 ∧ c.val ≠ 34 ∧ c.val ≠ 46 := by decide +kernel
theorem isLet_not3 {s : List UInt8} {a : Int} (h : isLet (byteAt s a)) : byteAt s a ≠ 9 ∧ byteAt s a ≠ 32 ∧ byteAt s a ≠ 10 ∧ byteAt s a ≠ 13 ∧ byteAt s a ≠ 44 ∧ byteAt s a ≠ 239 ∧ byteAt s a ≠ 35 ∧ byteAt s a ≠ 45 ∧ byteAt s a ≠ 34 ∧ byteAt s a ≠ 46 := by
  obtain ⟨m, hm⟩ := byte_fin s a
  rw [isLet, hm] at h
  rw [hm]
  have := let_not3 m h
  omega
def SkV (s : List UInt8) (a : Int) (v : PV) : Prop := ∃ (e : Int) (ok : Bool), v = .tup [.int .i64 e, .bool ok] ∧ a ≤ e ∧ e ≤ s.length ∧ (a < s.length → isLet (byteAt s a) → ok = true ∧ e = a) ∧ (ok = false → a < s.length)
def invSk (s : List UInt8) (a : Int) (k : Nat) (F : Fr) (_ : AH) : Prop := ∃ i : Int, (k : Int) + i = s.length ∧ a ≤ i ∧ i ≤ s.length ∧ F.at 0 = .str s ∧ F.at 1 = .int .i64 i ∧ (a < s.length → isLet (byteAt s a) → i = a)
def invSc (s : List UInt8) (i : Int) (k : Nat) (F : Fr) (_ : AH) : Prop := ∃ j : Int, (k : Int) + j = s.length ∧ i ≤ j ∧ j ≤ s.length ∧ F.at 0 = .str s ∧ F.at 1 = .int .i64 j
set_option maxHeartbeats 2000000 in
theorem rSkip_c (s : List UInt8) (hl : s.length ≤ 16384) {a : Int} (ha : 0 ≤ a) (hb : a ≤ s.length) : ∃ v, SkV s a v ∧ v.clean = true ∧ ∀ (h : AH) (fr : Nat), CR Tryz.prog (globM mx) md (.fn 151) [.str s, .int .i64 a] h fr (.val v) := by
  refine CR.some (Q := SkV s a) (rs := [.tmp 4, .tmp 5]) Tryz.func151 rfl rfl rfl rfl rfl rfl ?_
  simp -implicitDefEqProofs only [wpC_seq, rowsA, if_true, if_false, opnd, ofVal, ofVal1, layArgs, Nat.reduceAdd, reduceIte, Nat.reduceEqDiff, reduceCtorEq, rowsB, cellsG, Nat.reduceMul]
  refine wpC_loop (invSk s a) (k := (s.length - a).toNat) ⟨a, by omega, by omega, hb, ?_, ?_, fun _ _ => rfl⟩ ?_
  · simp only [Fr.at_set, Nat.reduceEqDiff, reduceIte, reduceCtorEq]
  · simp only [Fr.at_set, Nat.reduceEqDiff, reduceIte, reduceCtorEq]
  rintro k F h ⟨i, ki, i1, i2, f0, f1, hi⟩
  by_cases c1 : i < (s.length : Int)
  rotate_left
  · simp -implicitDefEqProofs only [wpC_seq, rowsA, if_true, if_false, opnd, ofVal, ofVal1, layArgs, Nat.reduceAdd, reduceIte, Nat.reduceEqDiff, reduceCtorEq, rowsB, cellsG, Nat.reduceMul, f0, f1, c1, len_str u9, EndS_normal, EndS_ret, RS_some]
    exact ⟨⟨i, true, rfl, i1, i2, fun q1 q2 => ⟨rfl, hi q1 q2⟩, fun q => by cases q⟩, rfl⟩
  have ix := ixs (s := s) (a := i) (by omega) c1
  have w := IntWalk.i64_in (i + 1) (by omega)
  have nx : ∀ (F' : Fr) (h' : AH) (i' : Int), i < i' → i' ≤ s.length → ¬ isLet (byteAt s i) → F'.at 0 = F.at 0 → F'.at 1 = .int .i64 i' → ∃ k', k' < k ∧ invSk s a k' F' h' := fun F' h' i' p1 p2 p3 q0 q1 => ⟨(s.length - i').toNat, by omega, i', by omega, by omega, p2, q0.trans f0, q1, fun r1 r2 => absurd (by rw [hi r1 r2]; exact r2) p3⟩
  cases d1 : decide (byteAt s i = 9) with
  | true =>
    simp -implicitDefEqProofs only [wpC_seq, rowsA, if_true, if_false, opnd, ofVal, ofVal1, layArgs, Nat.reduceAdd, reduceIte, Nat.reduceEqDiff, reduceCtorEq, rowsB, cellsG, Nat.reduceMul, f0, f1, c1, len_str u9, ix, d1, w]
    exact nx _ _ (i + 1) (by omega) (by omega) (fun q => (isLet_not3 q).1 (of_decide_eq_true d1)) (by simp only [Fr.at_set, Nat.reduceEqDiff, reduceIte]) (by simp only [Fr.at_set, Nat.reduceEqDiff, reduceIte])
  | false =>
  cases d2 : decide (byteAt s i = 32) with
  | true =>
    simp -implicitDefEqProofs only [wpC_seq, rowsA, if_true, if_false, opnd, ofVal, ofVal1, layArgs, Nat.reduceAdd, reduceIte, Nat.reduceEqDiff, reduceCtorEq, rowsB, cellsG, Nat.reduceMul, f0, f1, c1, len_str u9, ix, d1, d2, w]
    exact nx _ _ (i + 1) (by omega) (by omega) (fun q => (isLet_not3 q).2.1 (of_decide_eq_true d2)) (by simp only [Fr.at_set, Nat.reduceEqDiff, reduceIte]) (by simp only [Fr.at_set, Nat.reduceEqDiff, reduceIte])
  | false =>
  cases d3 : decide (byteAt s i = 10) with
  | true =>
    simp -implicitDefEqProofs only [wpC_seq, rowsA, if_true, if_false, opnd, ofVal, ofVal1, layArgs, Nat.reduceAdd, reduceIte, Nat.reduceEqDiff, reduceCtorEq, rowsB, cellsG, Nat.reduceMul, f0, f1, c1, len_str u9, ix, d1, d2, d3, w]
    exact nx _ _ (i + 1) (by omega) (by omega) (fun q => (isLet_not3 q).2.2.1 (of_decide_eq_true d3)) (by simp only [Fr.at_set, Nat.reduceEqDiff, reduceIte]) (by simp only [Fr.at_set, Nat.reduceEqDiff, reduceIte])
  | false =>
  cases d4 : decide (byteAt s i = 13) with
  | true =>
    simp -implicitDefEqProofs only [wpC_seq, rowsA, if_true, if_false, opnd, ofVal, ofVal1, layArgs, Nat.reduceAdd, reduceIte, Nat.reduceEqDiff, reduceCtorEq, rowsB, cellsG, Nat.reduceMul, f0, f1, c1, len_str u9, ix, d1, d2, d3, d4, w]
    exact nx _ _ (i + 1) (by omega) (by omega) (fun q => (isLet_not3 q).2.2.2.1 (of_decide_eq_true d4)) (by simp only [Fr.at_set, Nat.reduceEqDiff, reduceIte]) (by simp only [Fr.at_set, Nat.reduceEqDiff, reduceIte])
  | false =>
  cases d5 : decide (byteAt s i = 44) with
  | true =>
    simp -implicitDefEqProofs only [wpC_seq, rowsA, if_true, if_false, opnd, ofVal, ofVal1, layArgs, Nat.reduceAdd, reduceIte, Nat.reduceEqDiff, reduceCtorEq, rowsB, cellsG, Nat.reduceMul, f0, f1, c1, len_str u9, ix, d1, d2, d3, d4, d5, w]
    exact nx _ _ (i + 1) (by omega) (by omega) (fun q => (isLet_not3 q).2.2.2.2.1 (of_decide_eq_true d5)) (by simp only [Fr.at_set, Nat.reduceEqDiff, reduceIte]) (by simp only [Fr.at_set, Nat.reduceEqDiff, reduceIte])
  | false =>
  have kb := rBegins_c (mx := mx) s [239, 187, 191] (a := i) (by omega) i2 hl (by simp)
  cases d6 : hasP (s.drop i.toNat) [239, 187, 191] with
  | true =>
    obtain ⟨q1, q2⟩ := hasP_first (by omega) d6
    simp only [List.length_cons, List.length_nil] at q2
    have w3 := IntWalk.i64_in (i + 3) (by omega)
    simp -implicitDefEqProofs only [wpC_seq, rowsA, if_true, if_false, opnd, ofVal, ofVal1, layArgs, Nat.reduceAdd, reduceIte, Nat.reduceEqDiff, reduceCtorEq, rowsB, cellsG, Nat.reduceMul, f0, f1, c1, len_str u9, ix, d1, d2, d3, d4, d5, goO_known kb, d6, w3]
    exact nx _ _ (i + 3) (by omega) (by omega) (fun q => (isLet_not3 q).2.2.2.2.2.1 q1) (by simp only [Fr.at_set, Nat.reduceEqDiff, reduceIte]) (by simp only [Fr.at_set, Nat.reduceEqDiff, reduceIte])
  | false =>
  cases d7 : decide (byteAt s i = 35) with
  | false =>
    simp -implicitDefEqProofs only [wpC_seq, rowsA, if_true, if_false, opnd, ofVal, ofVal1, layArgs, Nat.reduceAdd, reduceIte, Nat.reduceEqDiff, reduceCtorEq, rowsB, cellsG, Nat.reduceMul, f0, f1, c1, len_str u9, ix, d1, d2, d3, d4, d5, goO_known kb, d6, d7, EndS_normal, EndS_ret, RS_some]
    exact ⟨⟨i, true, rfl, i1, i2, fun q1 q2 => ⟨rfl, hi q1 q2⟩, fun q => by cases q⟩, rfl⟩
  | true =>
    have e7 := of_decide_eq_true d7
    have nl : ¬ isLet (byteAt s i) := fun q => (isLet_not3 q).2.2.2.2.2.2.1 e7
    have nl' : a < s.length → isLet (byteAt s a) → False := fun r1 r2 => nl (by rw [hi r1 r2]; exact r2)
    simp -implicitDefEqProofs only [wpC_seq, rowsA, if_true, if_false, opnd, ofVal, ofVal1, layArgs, Nat.reduceAdd, reduceIte, Nat.reduceEqDiff, reduceCtorEq, rowsB, cellsG, Nat.reduceMul, f0, f1, c1, len_str u9, ix, d1, d2, d3, d4, d5, goO_known kb, d6, d7]
    refine wpC_loop (invSc s i) (k := (s.length - i).toNat) ⟨i, by omega, by omega, i2, ?_, ?_⟩ ?_
    · simp only [Fr.at_set, Nat.reduceEqDiff, reduceIte, f0]
    · simp only [Fr.at_set, Nat.reduceEqDiff, reduceIte, f1]
    have nx2 : ∀ (F' : Fr) (h' : AH) (j : Int), i < j → j ≤ s.length → F'.at 0 = .str s → F'.at 1 = .int .i64 j → ∃ k', k' < k ∧ invSk s a k' F' h' := fun F' h' j p1 p2 q0 q1 => ⟨(s.length - j).toNat, by omega, j, by omega, by omega, p2, q0, q1, fun r1 r2 => absurd r2 (nl' r1)⟩
    clear nx f0 f1 w kb
    rintro k2 F h ⟨j, kj, j1, j2, f0, f1⟩
    by_cases g1 : j < (s.length : Int)
    · have jx := ixs (s := s) (a := j) (by omega) g1
      cases g2 : decide (byteAt s j = 10) with
      | true =>
        have : i ≠ j := fun e => by rw [← e, e7] at g2; cases g2
        simp -implicitDefEqProofs only [wpC_seq, rowsA, if_true, if_false, opnd, ofVal, ofVal1, layArgs, Nat.reduceAdd, reduceIte, Nat.reduceEqDiff, reduceCtorEq, rowsB, cellsG, Nat.reduceMul, f0, f1, g1, len_str u9, jx, g2]
        exact nx2 _ _ j (by omega) j2 (by simp only [Fr.at_set, Nat.reduceEqDiff, reduceIte, f0]) (by simp only [Fr.at_set, Nat.reduceEqDiff, reduceIte, f1])
      | false =>
        cases g3 : decide (byteAt s j = 13) with
        | true =>
          have : i ≠ j := fun e => by rw [← e, e7] at g3; cases g3
          simp -implicitDefEqProofs only [wpC_seq, rowsA, if_true, if_false, opnd, ofVal, ofVal1, layArgs, Nat.reduceAdd, reduceIte, Nat.reduceEqDiff, reduceCtorEq, rowsB, cellsG, Nat.reduceMul, f0, f1, g1, len_str u9, jx, g2, g3]
          exact nx2 _ _ j (by omega) j2 (by simp only [Fr.at_set, Nat.reduceEqDiff, reduceIte, f0]) (by simp only [Fr.at_set, Nat.reduceEqDiff, reduceIte, f1])
        | false =>
          obtain ⟨c, n, hn, ks⟩ := rSource_c (mx := mx) s hl (a := j) (by omega) j2
          cases g4 : decide (n = 0) with
          | true =>
            simp -implicitDefEqProofs only [wpC_seq, rowsA, if_true, if_false, opnd, ofVal, ofVal1, layArgs, Nat.reduceAdd, reduceIte, Nat.reduceEqDiff, reduceCtorEq, rowsB, cellsG, Nat.reduceMul, f0, f1, g1, len_str u9, jx, g2, g3, goO_known ks, g4, EndS_normal, EndS_ret, RS_some]
            exact ⟨⟨j, false, rfl, by omega, j2, fun r1 r2 => (nl' r1 r2).elim, fun _ => by omega⟩, rfl⟩
          | false =>
            have hn' := hn.resolve_left (of_decide_eq_false g4)
            have w2 := IntWalk.i64_in (j + n) (by omega)
            simp -implicitDefEqProofs only [wpC_seq, rowsA, if_true, if_false, opnd, ofVal, ofVal1, layArgs, Nat.reduceAdd, reduceIte, Nat.reduceEqDiff, reduceCtorEq, rowsB, cellsG, Nat.reduceMul, f0, f1, g1, len_str u9, jx, g2, g3, goO_known ks, g4, w2]
            refine ⟨(s.length - (j + n)).toNat, by omega, j + n, by omega, by omega, by omega, ?_, ?_⟩
            · simp only [Fr.at_set, Nat.reduceEqDiff, reduceIte, f0]
            · simp only [Fr.at_set, Nat.reduceEqDiff, reduceIte]
    · simp -implicitDefEqProofs only [wpC_seq, rowsA, if_true, if_false, opnd, ofVal, ofVal1, layArgs, Nat.reduceAdd, reduceIte, Nat.reduceEqDiff, reduceCtorEq, rowsB, cellsG, Nat.reduceMul, f0, f1, g1, len_str u9]
      exact nx2 _ _ j (by omega) j2 (by simp only [Fr.at_set, Nat.reduceEqDiff, reduceIte, f0]) (by simp only [Fr.at_set, Nat.reduceEqDiff, reduceIte, f1])
end Go.Proofs.YtcbngkmmmfaaoaaGreatDoor
