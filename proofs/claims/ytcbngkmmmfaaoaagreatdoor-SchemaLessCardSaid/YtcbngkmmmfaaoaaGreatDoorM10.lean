/-
  JOINED TEXTS (L11 L12 L13 L14): a pure machine for the model's code, its soundness, and what the program's functions come to.
-/
import Derived.Test.YtcbngkmmmfaaoaaGreatDoorM9
set_option linter.unusedVariables false
set_option linter.unusedSimpArgs false
/-
  LEXER, L11: a token.
-/
namespace Go.Proofs.YtcbngkmmmfaaoaaGreatDoor
open Go.RowKit Go.Lib Go.Ac
set_option linter.unusedSimpArgs false
set_option maxRecDepth 100000
variable {mx : Int}
theorem lt04 : ((0 : Nat) < 4) = True := by simp
theorem z125 : tyZero Tryz.prog 125 = some [.int .i64 0, .str [], .int .i64 0, .int .i64 0] := by kernel_rfl
theorem sz125 : tySz Tryz.prog 125 = some 4 := by kernel_rfl
theorem ag125 : tyAgg Tryz.prog 125 = some true := by kernel_rfl
theorem o125_0 : offOf Tryz.prog 125 0 = some 0 := by kernel_rfl
theorem o125_1 : offOf Tryz.prog 125 1 = some 1 := by kernel_rfl
theorem o125_2 : offOf Tryz.prog 125 2 = some 2 := by kernel_rfl
theorem o125_3 : offOf Tryz.prog 125 3 = some 3 := by kernel_rfl
def tkC (k : Int) (t : List UInt8) (x y : Int) : List PV := [.int .i64 k, .str t, .int .i64 x, .int .i64 y]
def tk (k : Int) (t : List UInt8) (x y : Int) : AO := .cells 125 0 false (tkC k t x y)
theorem tk_eq (k : Int) (t : List UInt8) (x y : Int) : tk k t x y = .cells 125 0 false [.int .i64 k, .str t, .int .i64 x, .int .i64 y] := rfl
theorem al125 {ρ : Operand → PV} {h : AH} {fr : Nat} {d : Option Tmp} {ty : TypeId} {ps : String} {af : Array Edge} {gu : Option (Nat × Bool)} : aop Tryz.prog ρ h fr ⟨d, .alloc 125, ty, ps, af, gu⟩ = some (.w (.ptr fr 4 0) fr (.cells 125 0 false [.int .i64 0, .str [], .int .i64 0, .int .i64 0])) := by
  rw [aop_alloc, z125]
  rfl
theorem ld125 (a b c d : PV) : loadO Tryz.prog 125 (some [a, b, c, d]) = some (.q (.agg [a, b, c, d])) := load_agg ag125 sz125 (Nat.le_refl _)
theorem st125 (a b c d : PV) (id : Nat) (e : Int) (t : List UInt8) (x y : Int) (h1 : a.goes = true) (h2 : b.goes = true) (h3 : c.goes = true) (h4 : d.goes = true) : stoG id 4 0 (.agg (tkC e t x y)) 4 (some (.cells 125 0 false [a, b, c, d])) = some (.w .undef id (.cells 125 0 false (tkC e t x y))) :=
  stoG_all id 4 0 125 (.agg (tkC e t x y)) _ rfl rfl rfl
theorem st125' (a b c d : PV) (id : Nat) (e : Int) (t : List UInt8) (x y : Int) : stoG id 4 0 (.agg [.int .i64 e, .str t, .int .i64 x, .int .i64 y]) 4 (some (.cells 125 0 false [a, b, c, d])) = some (.w .undef id (.cells 125 0 false [.int .i64 e, .str t, .int .i64 x, .int .i64 y])) :=
  stoG_all id 4 0 125 (.agg (tkC e t x y)) _ rfl rfl rfl
theorem stT0 (id : Nat) (a b c d : PV) (x : Int) : stoG id 4 0 (.int .i64 x) 1 (some (.cells 125 0 false [a, b, c, d])) = some (.w .undef id (.cells 125 0 false [.int .i64 x, b, c, d])) := rfl
theorem stT1 (id : Nat) (a b c d : PV) (x : List UInt8) : stoG id 4 1 (.str x) 1 (some (.cells 125 0 false [a, b, c, d])) = some (.w .undef id (.cells 125 0 false [a, .str x, c, d])) := rfl
theorem stT2 (id : Nat) (a b c d : PV) (x : Int) : stoG id 4 2 (.int .i64 x) 1 (some (.cells 125 0 false [a, b, c, d])) = some (.w .undef id (.cells 125 0 false [a, b, .int .i64 x, d])) := rfl
theorem stT3 (id : Nat) (a b c d : PV) (x : Int) : stoG id 4 3 (.int .i64 x) 1 (some (.cells 125 0 false [a, b, c, d])) = some (.w .undef id (.cells 125 0 false [a, b, c, .int .i64 x])) := rfl
/-- A reader and a token, as they stand since a heap. -/
structure TK (h h' : AH) (R B : Nat) (s : List UInt8) (a f n k : Int) (t : List UInt8) (x y : Int) : Prop where
  rd : h'.get R = some (rd s a f n)
  tk : h'.get B = some (tk k t x y)
  kp : Kp h h' R
  rn : R < h.next
  bn : h.next ≤ B
  bs : B < h'.next
section
variable {h h' h'' : AH} {R B : Nat} {s t t' : List UInt8} {a a' f f' n n' k k' x x' y y' : Int}
theorem TK.up (T : TK h h' R B s a f n k t x y) (m : Nat) : TK h (h'.up m) R B s a f n k t x y := ⟨by rw [AH.get_up]; exact T.rd, by rw [AH.get_up]; exact T.tk, T.kp.trans (Kp.ofEqv R ((Eqv.refl h').up m)), T.rn, T.bn, by rw [AH.next_up]; have := T.bs; omega⟩
theorem TK.eqv (T : TK h h' R B s a f n k t x y) (e : Eqv h'' h') : TK h h'' R B s a f n k t x y := ⟨by rw [e.1]; exact T.rd, by rw [e.1]; exact T.tk, T.kp.trans (Kp.ofEqv R e), T.rn, T.bn, by have := T.bs; have := e.2; omega⟩
theorem TK.to (T : TK h h' R B s a f n k t x y) (e : Eqv h'' (h'.set R (Go.Proofs.YtcbngkmmmfaaoaaGreatDoor.rd s a' f' n'))) : TK h h'' R B s a' f' n' k t x y := by
  have h1 := T.rn
  have h2 := T.bn
  exact ⟨by rw [e.1, AH.get_set_same], by rw [e.1, AH.get_set_ne _ _ _ _ (by omega)]; exact T.tk, T.kp.trans (Kp.ofSet e), h1, h2, by have := T.bs; have := e.2; rw [AH.next_set] at this; omega⟩
theorem TK.kq (T : TK h h' R B s a f n k t x y) (g : h''.get R = some (Go.Proofs.YtcbngkmmmfaaoaaGreatDoor.rd s a' f' n')) (q : Kp h' h'' R) : TK h h'' R B s a' f' n' k t x y := by
  have h1 := T.rn
  have h2 := T.bn
  exact ⟨g, q.2 B _ T.bs T.tk (by omega) rfl, T.kp.trans q, h1, h2, Nat.lt_of_lt_of_le T.bs q.1⟩
theorem TK.st (T : TK h h' R B s a f n k t x y) : TK h (h'.set B (Go.Proofs.YtcbngkmmmfaaoaaGreatDoor.tk k' t' x' y')) R B s a f n k' t' x' y' := by
  have h1 := T.rn
  have h2 := T.bn
  exact ⟨by rw [AH.get_set_ne _ _ _ _ (by omega)]; exact T.rd, by rw [AH.get_set_same], ⟨by rw [AH.next_set]; exact T.kp.1, fun j o hj q m z => by rw [AH.get_set_ne _ _ _ _ (by omega)]; exact T.kp.2 j o hj q m z⟩, h1, h2, by rw [AH.next_set]; exact T.bs⟩
/-- What is asked of a token. -/
def TokQ (R : Nat) (s : List UInt8) (a f n : Int) (h : AH) (b : Bool) (v : PV) (h' : AH) : Prop :=
  ∃ a' n', h'.get R = some (rd s a' f n') ∧ Kp h h' R ∧ a ≤ a' ∧ a' ≤ s.length ∧ (b = false → n < 2048 ∧ n' = n + 1 ∧ ∃ k t x y, v = .agg [.int .i64 k, .str t, .int .i64 x, .int .i64 y]) ∧ (b = true → ∃ e, e ≠ 0 ∧ v = wrongV f e)
def TokZ (R B : Nat) (s : List UInt8) (a f n : Int) (h : AH) (F : Fr) (h' : AH) : Prop := F.at 0 = .ptr R 4 0 ∧ F.at 2 = .ptr B 4 0 ∧ n < 2048 ∧ TK h h' R B s a f n 0 [] 0 0
def TokY (R B : Nat) (s : List UInt8) (a f n : Int) (h : AH) (F : Fr) (h' : AH) : Prop := F.at 0 = .ptr R 4 0 ∧ F.at 2 = .ptr B 4 0 ∧ n < 2048 ∧ TK h h' R B s a f (n + 1) 0 [] 0 0
def TokA (R B : Nat) (s : List UInt8) (a f n : Int) (h : AH) (F : Fr) (h' : AH) : Prop := F.at 0 = .ptr R 4 0 ∧ F.at 2 = .ptr B 4 0 ∧ n < 2048 ∧ TK h h' R B s a f (n + 1) 0 [] a 0
def TokB (R B : Nat) (s : List UInt8) (a f n : Int) (h : AH) (F : Fr) (h' : AH) : Prop := F.at 0 = .ptr R 4 0 ∧ F.at 2 = .ptr B 4 0 ∧ ∃ a' k t, a ≤ a' ∧ a' ≤ s.length ∧ TK h h' R B s a' f (n + 1) k t a 0
def TokC (R B : Nat) (s : List UInt8) (a f n : Int) (h : AH) (F : Fr) (h' : AH) : Prop := F.at 0 = .ptr R 4 0 ∧ F.at 2 = .ptr B 4 0 ∧ ∃ a' k t, a ≤ a' ∧ a' ≤ s.length ∧ TK h h' R B s a' f (n + 1) k t a a'
set_option maxHeartbeats 1000000 in
theorem token_sc (g : h.get R = some (rd s a f n)) (hR : R < h.next) (ha : 0 ≤ a) (hb : a < s.length) (hl : s.length ≤ 16384) (hn : 0 ≤ n) : SC Tryz.prog (globM mx) md (.fn 167) [.ptr R 4 0] h (TokQ R s a f n h) := by
  refine SC.body (rs := [.cell 2 125]) Tryz.func167 rfl rfl rfl rfl rfl ?_
  have pan : ∀ {h' : AH} {B : Nat} {a' n' k x y e : Int} {t : List UInt8}, TK h h' R B s a' f n' k t x y → a ≤ a' → a' ≤ s.length → e ≠ 0 → TokQ R s a f n h true (wrongV f e) h' := fun T q1 q2 q3 => ⟨_, _, T.rd, T.kp, q1, q2, fun q => (by cases q), fun _ => ⟨_, q3, rfl⟩⟩
  have hne : ∀ i, (R = h.next + i) = False := fun i => by simp only [eq_iff_iff, iff_false]; omega
  have hne' : ∀ i, (h.next + i = R) = False := fun i => by simp only [eq_iff_iff, iff_false]; omega
  have hne0 : (h.next = R) = False := by simp only [eq_iff_iff, iff_false]; omega
  have hne1 : (R = h.next) = False := by simp only [eq_iff_iff, iff_false]; omega
  have g' := g
  rw [rd_eq] at g'
  have T0 : ∀ m, 1 ≤ m → TK h ((h.up m).set h.next (tk 0 [] 0 0)) R h.next s a f n 0 [] 0 0 := fun m hm => by
    refine ⟨by rw [AH.get_set_ne _ _ _ _ (by omega), AH.get_up]; exact g, by rw [AH.get_set_same], ⟨by rw [AH.next_set, AH.next_up]; omega, fun j o hj q m z => by rw [AH.get_set_ne _ _ _ _ (by omega), AH.get_up]; exact q⟩, hR, Nat.le_refl _, by rw [AH.next_set, AH.next_up]; omega⟩
  rw [wpC_seq]; simp -implicitDefEqProofs only [rowsA, if_true, if_false, opnd, ofVal, ofVal1, layArgs, Nat.reduceAdd, reduceIte, Nat.reduceEqDiff, reduceCtorEq, rowsB, cellsG, Nat.reduceMul, up_up, al125]
  refine wpC_then (TokZ R h.next s a f n h) ?_ ?_
  · simp -implicitDefEqProofs only [rowsA, if_true, if_false, opnd, ofVal, ofVal1, layArgs, Nat.reduceAdd, reduceIte, Nat.reduceEqDiff, reduceCtorEq, rowsB, cellsG, Nat.reduceMul, lt14, lt24, lt34, stR1, stR2, stR3, aop_mki, mki148, aop_panic, panO_if, goO_pan, up_up, up_set, nilO_ptr, fda_ptr o152_0, fda_ptr o152_1, fda_ptr o152_2, fda_ptr o152_3, loadO_one ag3 sz3, loadO_one ag9 sz9, loadO_one ag5 sz5, len_str u9, sz3, EndX_normal, EndX_ret, EndX_panic, KS_panic, KB_panic, KI_panic, outX_panic, KE_normal, KE_ret, KE_exit, KE_panic, g', hne0, hne1]
    refine goO_sc (must_sc (a := a) (f := f) (n := n) (s := s) _ _ (T0 8 (by decide)).rd) ?_ ?_
    · intro v2 h2 hq
      generalize hG : wpO _ _ _ _ _ _ _ _ _ _ _ = G
      obtain ⟨e2, hb2, _, _⟩ := hq
      have c1 : n < 2048 := by
        apply Decidable.byContradiction
        intro q
        rw [decide_eq_false q] at hb2
        cases hb2
      have T2 := (T0 8 (by decide)).eqv e2
      subst hG
      simp -implicitDefEqProofs only [rowsA, if_true, if_false, opnd, ofVal, ofVal1, layArgs, Nat.reduceAdd, reduceIte, Nat.reduceEqDiff, reduceCtorEq, rowsB, cellsG, Nat.reduceMul, lt14, lt24, lt34, stR1, stR2, stR3, aop_mki, mki148, aop_panic, panO_if, goO_pan, up_up, up_set, nilO_ptr, fda_ptr o152_0, fda_ptr o152_1, fda_ptr o152_2, fda_ptr o152_3, loadO_one ag3 sz3, loadO_one ag9 sz9, loadO_one ag5 sz5, len_str u9, sz3, EndX_normal, EndX_ret, EndX_panic, KS_panic, KB_panic, KI_panic, outX_panic, KE_normal, KE_ret, KE_exit, KE_panic]
      exact ⟨by simp only [Fr.at_set, layArgs, Nat.reduceEqDiff, reduceIte, reduceCtorEq], by simp only [Fr.at_set, Nat.reduceEqDiff, reduceIte, reduceCtorEq], c1, T2⟩
    · intro v2 h2 hq
      generalize hG : outX _ _ = G
      obtain ⟨e2, _, _, q2⟩ := hq
      obtain rfl := q2 rfl
      have T2 := (T0 8 (by decide)).eqv e2
      subst hG
      simp -implicitDefEqProofs only [lt14, lt24, lt34, stR1, stR2, stR3, aop_mki, mki148, aop_panic, panO_if, goO_pan, up_up, up_set, nilO_ptr, fda_ptr o152_0, fda_ptr o152_1, fda_ptr o152_2, fda_ptr o152_3, loadO_one ag3 sz3, loadO_one ag9 sz9, loadO_one ag5 sz5, len_str u9, sz3, EndX_normal, EndX_ret, EndX_panic, KS_panic, KB_panic, KI_panic, outX_panic, KE_normal, KE_ret, KE_exit, KE_panic]
      exact pan T2 (by omega) (by omega) (by decide)
  clear T0 hne hne' hne0 hne1 g' hR
  generalize h.next = B
  rintro F h2 ⟨f0, f2, hn2, T2⟩
  have hRB : (R = B) = False := by simp only [eq_iff_iff, iff_false]; have := T2.rn; have := T2.bn; omega
  have hBR : (B = R) = False := by simp only [eq_iff_iff, iff_false]; have := T2.rn; have := T2.bn; omega
  refine wpC_then (TokY R B s a f n h) ?_ ?_
  · have g2 := T2.rd
    rw [rd_eq] at g2
    have w := IntWalk.i64_in (n + 1) (by omega)
    simp -implicitDefEqProofs only [rowsA, if_true, if_false, opnd, ofVal, ofVal1, layArgs, Nat.reduceAdd, reduceIte, Nat.reduceEqDiff, reduceCtorEq, rowsB, cellsG, Nat.reduceMul, lt14, lt24, lt34, stR1, stR2, stR3, aop_mki, mki148, aop_panic, panO_if, goO_pan, up_up, up_set, nilO_ptr, fda_ptr o152_0, fda_ptr o152_1, fda_ptr o152_2, fda_ptr o152_3, loadO_one ag3 sz3, loadO_one ag9 sz9, loadO_one ag5 sz5, len_str u9, sz3, EndX_normal, EndX_ret, EndX_panic, KS_panic, KB_panic, KI_panic, outX_panic, KE_normal, KE_ret, KE_exit, KE_panic, f0, f2, g2, w]
    exact ⟨by simp only [Fr.at_set, Nat.reduceEqDiff, reduceIte, reduceCtorEq, f0], by simp only [Fr.at_set, Nat.reduceEqDiff, reduceIte, reduceCtorEq, f2], hn2, (T2.up 8).to (Eqv.refl _)⟩
  rintro F h3 ⟨f0, f2, _, T3⟩
  refine wpC_then (TokA R B s a f n h) ?_ ?_
  · have g3 := T3.rd
    have b3 := T3.tk
    rw [rd_eq] at g3
    rw [tk_eq] at b3
    simp -implicitDefEqProofs only [rowsA, if_true, if_false, opnd, ofVal, ofVal1, layArgs, Nat.reduceAdd, reduceIte, Nat.reduceEqDiff, reduceCtorEq, rowsB, cellsG, Nat.reduceMul, lt14, lt24, lt34, stR1, stR2, stR3, aop_mki, mki148, aop_panic, panO_if, goO_pan, up_up, up_set, nilO_ptr, fda_ptr o152_0, fda_ptr o152_1, fda_ptr o152_2, fda_ptr o152_3, loadO_one ag3 sz3, loadO_one ag9 sz9, loadO_one ag5 sz5, len_str u9, sz3, EndX_normal, EndX_ret, EndX_panic, KS_panic, KB_panic, KI_panic, outX_panic, KE_normal, KE_ret, KE_exit, KE_panic, fda_ptr o125_2, stT2, f0, f2, g3, b3, hRB, hBR]
    exact ⟨by simp only [Fr.at_set, Nat.reduceEqDiff, reduceIte, reduceCtorEq, f0], by simp only [Fr.at_set, Nat.reduceEqDiff, reduceIte, reduceCtorEq, f2], hn2, (T3.up 6).st⟩
  rintro F h3 ⟨f0, f2, _, T3⟩
  have g3 := T3.rd
  have b3 := T3.tk
  rw [rd_eq] at g3
  rw [tk_eq] at b3
  refine wpC_then (TokB R B s a f n h) ?_ ?_
  · rw [wpC_seq]
    simp -implicitDefEqProofs only [wpC_seq, rowsA, if_true, if_false, opnd, ofVal, ofVal1, layArgs, Nat.reduceAdd, reduceIte, Nat.reduceEqDiff, reduceCtorEq, rowsB, cellsG, Nat.reduceMul, lt14, lt24, lt34, stR1, stR2, stR3, aop_mki, mki148, aop_panic, panO_if, goO_pan, up_up, up_set, nilO_ptr, fda_ptr o152_0, fda_ptr o152_1, fda_ptr o152_2, fda_ptr o152_3, loadO_one ag3 sz3, loadO_one ag9 sz9, loadO_one ag5 sz5, len_str u9, sz3, EndX_normal, EndX_ret, EndX_panic, KS_panic, KB_panic, KI_panic, outX_panic, KE_normal, KE_ret, KE_exit, KE_panic, f0, g3, ixs ha hb]
    refine goO_val (has_v (a := a) (f := f) (n := n + 1) (s := s) [46, 46, 46] (by simp only [AH.get_up]; exact T3.rd) (by omega) (by omega)) ?_
    intro v4 h4 hq
    generalize hG : wpO _ _ _ _ _ _ _ _ _ _ _ = G
    obtain ⟨rfl, e4⟩ := hq
    have T4 := T3.eqv e4.ofUp
    clear T3 g3 b3 e4
    have g4 := T4.rd
    have b4 := T4.tk
    rw [rd_eq] at g4
    rw [tk_eq] at b4
    have fin : ∀ {F : Fr} {h' : AH} {a' k : Int} {t : List UInt8}, F.at 0 = .ptr R 4 0 → F.at 2 = .ptr B 4 0 → a ≤ a' → a' ≤ s.length → TK h h' R B s a' f (n + 1) k t a 0 → TokB R B s a f n h F h' := fun q1 q2 q3 q4 q5 => ⟨q1, q2, _, _, _, q3, q4, q5⟩
    cases c1 : hasP (s.drop a.toNat) [46, 46, 46] with
    | true =>
      obtain ⟨_, c2⟩ := hasP_first (by omega) c1
      simp only [List.length_cons, List.length_nil] at c2
      have w := IntWalk.i64_in (a + 3) (by omega)
      subst hG
      simp -implicitDefEqProofs only [wpC_seq, rowsA, if_true, if_false, opnd, ofVal, ofVal1, layArgs, Nat.reduceAdd, reduceIte, Nat.reduceEqDiff, reduceCtorEq, rowsB, cellsG, Nat.reduceMul, lt14, lt24, lt34, stR1, stR2, stR3, aop_mki, mki148, aop_panic, panO_if, goO_pan, up_up, up_set, nilO_ptr, fda_ptr o152_0, fda_ptr o152_1, fda_ptr o152_2, fda_ptr o152_3, loadO_one ag3 sz3, loadO_one ag9 sz9, loadO_one ag5 sz5, len_str u9, sz3, EndX_normal, EndX_ret, EndX_panic, KS_panic, KB_panic, KI_panic, outX_panic, KE_normal, KE_ret, KE_exit, KE_panic, c1, f0, f2, g4, w]
      exact fin (by simp only [Fr.at_set, Nat.reduceEqDiff, reduceIte, reduceCtorEq, f0]) (by simp only [Fr.at_set, Nat.reduceEqDiff, reduceIte, reduceCtorEq, f2]) (by omega) (by omega) ((T4.up 8).to (Eqv.refl _))
    | false =>
    subst hG
    simp -implicitDefEqProofs only [wpC_seq, rowsA, if_true, if_false, opnd, ofVal, ofVal1, layArgs, Nat.reduceAdd, reduceIte, Nat.reduceEqDiff, reduceCtorEq, rowsB, cellsG, Nat.reduceMul, lt14, lt24, lt34, stR1, stR2, stR3, aop_mki, mki148, aop_panic, panO_if, goO_pan, up_up, up_set, nilO_ptr, fda_ptr o152_0, fda_ptr o152_1, fda_ptr o152_2, fda_ptr o152_3, loadO_one ag3 sz3, loadO_one ag9 sz9, loadO_one ag5 sz5, len_str u9, sz3, EndX_normal, EndX_ret, EndX_panic, KS_panic, KB_panic, KI_panic, outX_panic, KE_normal, KE_ret, KE_exit, KE_panic, c1, f0, f2, goO_known (idxB_c _ s a), inB_eq]
    cases c2 : inB (byteAt s a) [33, 36, 38, 40, 41, 58, 61, 64, 91, 93, 123, 124, 125] with
    | true =>
      have w := IntWalk.i64_in (a + 1) (by omega)
      simp -implicitDefEqProofs only [wpC_seq, rowsA, if_true, if_false, opnd, ofVal, ofVal1, layArgs, Nat.reduceAdd, reduceIte, Nat.reduceEqDiff, reduceCtorEq, rowsB, cellsG, Nat.reduceMul, lt14, lt24, lt34, stR1, stR2, stR3, aop_mki, mki148, aop_panic, panO_if, goO_pan, up_up, up_set, nilO_ptr, fda_ptr o152_0, fda_ptr o152_1, fda_ptr o152_2, fda_ptr o152_3, loadO_one ag3 sz3, loadO_one ag9 sz9, loadO_one ag5 sz5, len_str u9, sz3, EndX_normal, EndX_ret, EndX_panic, KS_panic, KB_panic, KI_panic, outX_panic, KE_normal, KE_ret, KE_exit, KE_panic, f0, f2, g4, w]
      exact fin (by simp only [Fr.at_set, Nat.reduceEqDiff, reduceIte, reduceCtorEq, f0]) (by simp only [Fr.at_set, Nat.reduceEqDiff, reduceIte, reduceCtorEq, f2]) (by omega) (by omega) ((T4.up _).to (Eqv.refl _))
    | false =>
    simp -implicitDefEqProofs only [wpC_seq, rowsA, if_true, if_false, opnd, ofVal, ofVal1, layArgs, Nat.reduceAdd, reduceIte, Nat.reduceEqDiff, reduceCtorEq, rowsB, cellsG, Nat.reduceMul, lt14, lt24, lt34, stR1, stR2, stR3, aop_mki, mki148, aop_panic, panO_if, goO_pan, up_up, up_set, nilO_ptr, fda_ptr o152_0, fda_ptr o152_1, fda_ptr o152_2, fda_ptr o152_3, loadO_one ag3 sz3, loadO_one ag9 sz9, loadO_one ag5 sz5, len_str u9, sz3, EndX_normal, EndX_ret, EndX_panic, KS_panic, KB_panic, KI_panic, outX_panic, KE_normal, KE_ret, KE_exit, KE_panic, f0, f2, goO_known (idxB_c _ s a), inB_eq]
    cases c3 : inB (byteAt s a) [95, 97, 98, 99, 100, 101, 102, 103, 104, 105, 106, 107, 108, 109, 110, 111, 112, 113, 114, 115, 116, 117, 118, 119, 120, 121, 122, 65, 66, 67, 68, 69, 70, 71, 72, 73, 74, 75, 76, 77, 78, 79, 80, 81, 82, 83, 84, 85, 86, 87, 88, 89, 90] with
    | true =>
      have T5 : ∀ m, TK h ((h4.up m).set B (.cells 125 0 false [.int .i64 1, .str [], .int .i64 a, .int .i64 0])) R B s a f (n + 1) 1 [] a 0 := fun m => (T4.up m).st
      simp -implicitDefEqProofs only [wpC_seq, rowsA, if_true, if_false, opnd, ofVal, ofVal1, layArgs, Nat.reduceAdd, reduceIte, Nat.reduceEqDiff, reduceCtorEq, rowsB, cellsG, Nat.reduceMul, lt14, lt24, lt34, stR1, stR2, stR3, aop_mki, mki148, aop_panic, panO_if, goO_pan, up_up, up_set, nilO_ptr, fda_ptr o152_0, fda_ptr o152_1, fda_ptr o152_2, fda_ptr o152_3, loadO_one ag3 sz3, loadO_one ag9 sz9, loadO_one ag5 sz5, len_str u9, sz3, EndX_normal, EndX_ret, EndX_panic, KS_panic, KB_panic, KI_panic, outX_panic, KE_normal, KE_ret, KE_exit, KE_panic, f0, f2, fda_ptr o125_0, b4, lt04]
      refine goO_val (run_v (a := a) (f := f) (n := n + 1) (s := s) _ (by exact (T5 _).rd) ha (by omega) hl) ?_
      intro v6 h6 hq
      generalize hG : wpO _ _ _ _ _ _ _ _ _ _ _ = G
      obtain ⟨k6, _, rfl, e6, m6⟩ := hq
      have T6 := (T5 _).to e6
      subst hG
      simp -implicitDefEqProofs only [wpC_seq, rowsA, if_true, if_false, opnd, ofVal, ofVal1, layArgs, Nat.reduceAdd, reduceIte, Nat.reduceEqDiff, reduceCtorEq, rowsB, cellsG, Nat.reduceMul, lt14, lt24, lt34, stR1, stR2, stR3, aop_mki, mki148, aop_panic, panO_if, goO_pan, up_up, up_set, nilO_ptr, fda_ptr o152_0, fda_ptr o152_1, fda_ptr o152_2, fda_ptr o152_3, loadO_one ag3 sz3, loadO_one ag9 sz9, loadO_one ag5 sz5, len_str u9, sz3, EndX_normal, EndX_ret, EndX_panic, KS_panic, KB_panic, KI_panic, outX_panic, KE_normal, KE_ret, KE_exit, KE_panic]
      exact fin (by simp only [Fr.at_set, Nat.reduceEqDiff, reduceIte, reduceCtorEq, f0]) (by simp only [Fr.at_set, Nat.reduceEqDiff, reduceIte, reduceCtorEq, f2]) (by omega) (by omega) T6
    | false =>
    by_cases c4 : byteAt s a = 45
    · simp -implicitDefEqProofs only [wpC_seq, rowsA, if_true, if_false, opnd, ofVal, ofVal1, layArgs, Nat.reduceAdd, reduceIte, Nat.reduceEqDiff, reduceCtorEq, rowsB, cellsG, Nat.reduceMul, lt14, lt24, lt34, stR1, stR2, stR3, aop_mki, mki148, aop_panic, panO_if, goO_pan, up_up, up_set, nilO_ptr, fda_ptr o152_0, fda_ptr o152_1, fda_ptr o152_2, fda_ptr o152_3, loadO_one ag3 sz3, loadO_one ag9 sz9, loadO_one ag5 sz5, len_str u9, sz3, EndX_normal, EndX_ret, EndX_panic, KS_panic, KB_panic, KI_panic, outX_panic, KE_normal, KE_ret, KE_exit, KE_panic, f0, f2, decide_eq_true c4]
      refine goO_sc (number_sc (a := a) (f := f) (n := n + 1) (s := s) (by simp only [AH.get_up]; exact T4.rd) ha (by omega) hl) ?_ ?_
      · intro v6 h6 hq
        generalize hG : wpO _ _ _ _ _ _ _ _ _ _ _ = G
        obtain ⟨a6, e6, l6, m6, q6, _⟩ := hq
        have T6 := (T4.up _).to e6
        have b6 := T6.tk
        rw [tk_eq] at b6
        obtain ⟨kd, rfl⟩ : ∃ kd, v6 = .int .i64 kd := by
          rcases q6 rfl with rfl | rfl
          · exact ⟨_, rfl⟩
          · exact ⟨_, rfl⟩
        subst hG
        simp -implicitDefEqProofs only [wpC_seq, rowsA, if_true, if_false, opnd, ofVal, ofVal1, layArgs, Nat.reduceAdd, reduceIte, Nat.reduceEqDiff, reduceCtorEq, rowsB, cellsG, Nat.reduceMul, lt14, lt24, lt34, stR1, stR2, stR3, aop_mki, mki148, aop_panic, panO_if, goO_pan, up_up, up_set, nilO_ptr, fda_ptr o152_0, fda_ptr o152_1, fda_ptr o152_2, fda_ptr o152_3, loadO_one ag3 sz3, loadO_one ag9 sz9, loadO_one ag5 sz5, len_str u9, sz3, EndX_normal, EndX_ret, EndX_panic, KS_panic, KB_panic, KI_panic, outX_panic, KE_normal, KE_ret, KE_exit, KE_panic, f0, f2, fda_ptr o125_0, b6, lt04]
        exact fin (by simp only [Fr.at_set, Nat.reduceEqDiff, reduceIte, reduceCtorEq, f0]) (by simp only [Fr.at_set, Nat.reduceEqDiff, reduceIte, reduceCtorEq, f2]) l6 m6 T6.st
      · intro v6 h6 hq
        generalize hG : outX _ _ = G
        obtain ⟨a6, e6, l6, m6, _, q6⟩ := hq
        obtain ⟨e, e0, rfl⟩ := q6 rfl
        have T6 := (T4.up _).to e6
        subst hG
        simp -implicitDefEqProofs only [lt14, lt24, lt34, stR1, stR2, stR3, aop_mki, mki148, aop_panic, panO_if, goO_pan, up_up, up_set, nilO_ptr, fda_ptr o152_0, fda_ptr o152_1, fda_ptr o152_2, fda_ptr o152_3, loadO_one ag3 sz3, loadO_one ag9 sz9, loadO_one ag5 sz5, len_str u9, sz3, EndX_normal, EndX_ret, EndX_panic, KS_panic, KB_panic, KI_panic, outX_panic, KE_normal, KE_ret, KE_exit, KE_panic]
        exact pan T6 l6 m6 e0
    cases c5 : inB (byteAt s a) [48, 49, 50, 51, 52, 53, 54, 55, 56, 57] with
    | true =>
      simp -implicitDefEqProofs only [wpC_seq, rowsA, if_true, if_false, opnd, ofVal, ofVal1, layArgs, Nat.reduceAdd, reduceIte, Nat.reduceEqDiff, reduceCtorEq, rowsB, cellsG, Nat.reduceMul, lt14, lt24, lt34, stR1, stR2, stR3, aop_mki, mki148, aop_panic, panO_if, goO_pan, up_up, up_set, nilO_ptr, fda_ptr o152_0, fda_ptr o152_1, fda_ptr o152_2, fda_ptr o152_3, loadO_one ag3 sz3, loadO_one ag9 sz9, loadO_one ag5 sz5, len_str u9, sz3, EndX_normal, EndX_ret, EndX_panic, KS_panic, KB_panic, KI_panic, outX_panic, KE_normal, KE_ret, KE_exit, KE_panic, f0, f2, c4, goO_known (idxB_c _ s a), inB_eq, c5]
      refine goO_sc (number_sc (a := a) (f := f) (n := n + 1) (s := s) (by simp only [AH.get_up]; exact T4.rd) ha (by omega) hl) ?_ ?_
      · intro v6 h6 hq
        generalize hG : wpO _ _ _ _ _ _ _ _ _ _ _ = G
        obtain ⟨a6, e6, l6, m6, q6, _⟩ := hq
        have T6 := (T4.up _).to e6
        have b6 := T6.tk
        rw [tk_eq] at b6
        obtain ⟨kd, rfl⟩ : ∃ kd, v6 = .int .i64 kd := by
          rcases q6 rfl with rfl | rfl
          · exact ⟨_, rfl⟩
          · exact ⟨_, rfl⟩
        subst hG
        simp -implicitDefEqProofs only [wpC_seq, rowsA, if_true, if_false, opnd, ofVal, ofVal1, layArgs, Nat.reduceAdd, reduceIte, Nat.reduceEqDiff, reduceCtorEq, rowsB, cellsG, Nat.reduceMul, lt14, lt24, lt34, stR1, stR2, stR3, aop_mki, mki148, aop_panic, panO_if, goO_pan, up_up, up_set, nilO_ptr, fda_ptr o152_0, fda_ptr o152_1, fda_ptr o152_2, fda_ptr o152_3, loadO_one ag3 sz3, loadO_one ag9 sz9, loadO_one ag5 sz5, len_str u9, sz3, EndX_normal, EndX_ret, EndX_panic, KS_panic, KB_panic, KI_panic, outX_panic, KE_normal, KE_ret, KE_exit, KE_panic, f0, f2, fda_ptr o125_0, b6, lt04]
        exact fin (by simp only [Fr.at_set, Nat.reduceEqDiff, reduceIte, reduceCtorEq, f0]) (by simp only [Fr.at_set, Nat.reduceEqDiff, reduceIte, reduceCtorEq, f2]) l6 m6 T6.st
      · intro v6 h6 hq
        generalize hG : outX _ _ = G
        obtain ⟨a6, e6, l6, m6, _, q6⟩ := hq
        obtain ⟨e, e0, rfl⟩ := q6 rfl
        have T6 := (T4.up _).to e6
        subst hG
        simp -implicitDefEqProofs only [lt14, lt24, lt34, stR1, stR2, stR3, aop_mki, mki148, aop_panic, panO_if, goO_pan, up_up, up_set, nilO_ptr, fda_ptr o152_0, fda_ptr o152_1, fda_ptr o152_2, fda_ptr o152_3, loadO_one ag3 sz3, loadO_one ag9 sz9, loadO_one ag5 sz5, len_str u9, sz3, EndX_normal, EndX_ret, EndX_panic, KS_panic, KB_panic, KI_panic, outX_panic, KE_normal, KE_ret, KE_exit, KE_panic]
        exact pan T6 l6 m6 e0
    | false =>
    simp -implicitDefEqProofs only [wpC_seq, rowsA, if_true, if_false, opnd, ofVal, ofVal1, layArgs, Nat.reduceAdd, reduceIte, Nat.reduceEqDiff, reduceCtorEq, rowsB, cellsG, Nat.reduceMul, lt14, lt24, lt34, stR1, stR2, stR3, aop_mki, mki148, aop_panic, panO_if, goO_pan, up_up, up_set, nilO_ptr, fda_ptr o152_0, fda_ptr o152_1, fda_ptr o152_2, fda_ptr o152_3, loadO_one ag3 sz3, loadO_one ag9 sz9, loadO_one ag5 sz5, len_str u9, sz3, EndX_normal, EndX_ret, EndX_panic, KS_panic, KB_panic, KI_panic, outX_panic, KE_normal, KE_ret, KE_exit, KE_panic, f0, f2, c4, goO_known (idxB_c _ s a), inB_eq, c5]
    refine goO_val (has_v (a := a) (f := f) (n := n + 1) (s := s) [34, 34, 34] (by simp only [AH.get_up]; exact T4.rd) (by omega) (by omega)) ?_
    intro v6 h6 hq
    generalize hG : wpO _ _ _ _ _ _ _ _ _ _ _ = G
    obtain ⟨rfl, e6⟩ := hq
    have T6 := (T4.up _).eqv e6
    cases c6 : hasP (s.drop a.toNat) [34, 34, 34] with
    | true =>
      obtain ⟨_, c7⟩ := hasP_first (by omega) c6
      simp only [List.length_cons, List.length_nil] at c7
      subst hG
      simp -implicitDefEqProofs only [wpC_seq, rowsA, if_true, if_false, opnd, ofVal, ofVal1, layArgs, Nat.reduceAdd, reduceIte, Nat.reduceEqDiff, reduceCtorEq, rowsB, cellsG, Nat.reduceMul, lt14, lt24, lt34, stR1, stR2, stR3, aop_mki, mki148, aop_panic, panO_if, goO_pan, up_up, up_set, nilO_ptr, fda_ptr o152_0, fda_ptr o152_1, fda_ptr o152_2, fda_ptr o152_3, loadO_one ag3 sz3, loadO_one ag9 sz9, loadO_one ag5 sz5, len_str u9, sz3, EndX_normal, EndX_ret, EndX_panic, KS_panic, KB_panic, KI_panic, outX_panic, KE_normal, KE_ret, KE_exit, KE_panic, c6, f0, f2]
      refine goO_sc (block_sc (a := a) (f := f) (n := n + 1) (s := s) (by simp only [AH.get_up]; exact T6.rd) (by simp only [AH.next_up]; have := T6.rn; have := T6.bn; have := T6.bs; omega) ha (by omega) hl) ?_ ?_
      · intro v7 h7 hq
        generalize hG : wpO _ _ _ _ _ _ _ _ _ _ _ = G
        obtain ⟨a7, g7, k7, l7, m7, q7, _⟩ := hq
        obtain ⟨x, rfl⟩ := q7 rfl
        have T7 := (T6.up _).kq g7 k7
        have b7 := T7.tk
        rw [tk_eq] at b7
        subst hG
        simp -implicitDefEqProofs only [wpC_seq, rowsA, if_true, if_false, opnd, ofVal, ofVal1, layArgs, Nat.reduceAdd, reduceIte, Nat.reduceEqDiff, reduceCtorEq, rowsB, cellsG, Nat.reduceMul, lt14, lt24, lt34, stR1, stR2, stR3, aop_mki, mki148, aop_panic, panO_if, goO_pan, up_up, up_set, nilO_ptr, fda_ptr o152_0, fda_ptr o152_1, fda_ptr o152_2, fda_ptr o152_3, loadO_one ag3 sz3, loadO_one ag9 sz9, loadO_one ag5 sz5, len_str u9, sz3, EndX_normal, EndX_ret, EndX_panic, KS_panic, KB_panic, KI_panic, outX_panic, KE_normal, KE_ret, KE_exit, KE_panic, f0, f2, fda_ptr o125_0, fda_ptr o125_1, b7, lt04, sz9, stT1]
        exact fin (by simp only [Fr.at_set, Nat.reduceEqDiff, reduceIte, reduceCtorEq, f0]) (by simp only [Fr.at_set, Nat.reduceEqDiff, reduceIte, reduceCtorEq, f2]) l7 m7 (T7.st.st)
      · intro v7 h7 hq
        generalize hG : outX _ _ = G
        obtain ⟨a7, g7, k7, l7, m7, _, q7⟩ := hq
        obtain ⟨e, e0, rfl⟩ := q7 rfl
        have T7 := (T6.up _).kq g7 k7
        subst hG
        simp -implicitDefEqProofs only [lt14, lt24, lt34, stR1, stR2, stR3, aop_mki, mki148, aop_panic, panO_if, goO_pan, up_up, up_set, nilO_ptr, fda_ptr o152_0, fda_ptr o152_1, fda_ptr o152_2, fda_ptr o152_3, loadO_one ag3 sz3, loadO_one ag9 sz9, loadO_one ag5 sz5, len_str u9, sz3, EndX_normal, EndX_ret, EndX_panic, KS_panic, KB_panic, KI_panic, outX_panic, KE_normal, KE_ret, KE_exit, KE_panic]
        exact pan T7 l7 m7 e0
    | false =>
    by_cases c7 : byteAt s a = 34
    · subst hG
      simp -implicitDefEqProofs only [wpC_seq, rowsA, if_true, if_false, opnd, ofVal, ofVal1, layArgs, Nat.reduceAdd, reduceIte, Nat.reduceEqDiff, reduceCtorEq, rowsB, cellsG, Nat.reduceMul, lt14, lt24, lt34, stR1, stR2, stR3, aop_mki, mki148, aop_panic, panO_if, goO_pan, up_up, up_set, nilO_ptr, fda_ptr o152_0, fda_ptr o152_1, fda_ptr o152_2, fda_ptr o152_3, loadO_one ag3 sz3, loadO_one ag9 sz9, loadO_one ag5 sz5, len_str u9, sz3, EndX_normal, EndX_ret, EndX_panic, KS_panic, KB_panic, KI_panic, outX_panic, KE_normal, KE_ret, KE_exit, KE_panic, c6, f0, f2, decide_eq_true c7]
      refine goO_sc (text_sc (a := a) (f := f) (n := n + 1) (s := s) (by simp only [AH.get_up]; exact T6.rd) (by simp only [AH.next_up]; have := T6.rn; have := T6.bn; have := T6.bs; omega) ha (by omega) hl) ?_ ?_
      · intro v7 h7 hq
        generalize hG : wpO _ _ _ _ _ _ _ _ _ _ _ = G
        obtain ⟨a7, g7, k7, l7, m7, q7, _⟩ := hq
        obtain ⟨x, rfl⟩ := q7 rfl
        have T7 := (T6.up _).kq g7 k7
        have b7 := T7.tk
        rw [tk_eq] at b7
        subst hG
        simp -implicitDefEqProofs only [wpC_seq, rowsA, if_true, if_false, opnd, ofVal, ofVal1, layArgs, Nat.reduceAdd, reduceIte, Nat.reduceEqDiff, reduceCtorEq, rowsB, cellsG, Nat.reduceMul, lt14, lt24, lt34, stR1, stR2, stR3, aop_mki, mki148, aop_panic, panO_if, goO_pan, up_up, up_set, nilO_ptr, fda_ptr o152_0, fda_ptr o152_1, fda_ptr o152_2, fda_ptr o152_3, loadO_one ag3 sz3, loadO_one ag9 sz9, loadO_one ag5 sz5, len_str u9, sz3, EndX_normal, EndX_ret, EndX_panic, KS_panic, KB_panic, KI_panic, outX_panic, KE_normal, KE_ret, KE_exit, KE_panic, f0, f2, fda_ptr o125_0, fda_ptr o125_1, b7, lt04, sz9, stT1]
        exact fin (by simp only [Fr.at_set, Nat.reduceEqDiff, reduceIte, reduceCtorEq, f0]) (by simp only [Fr.at_set, Nat.reduceEqDiff, reduceIte, reduceCtorEq, f2]) l7 m7 (T7.st.st)
      · intro v7 h7 hq
        generalize hG : outX _ _ = G
        obtain ⟨a7, g7, k7, l7, m7, _, q7⟩ := hq
        obtain ⟨e, e0, rfl⟩ := q7 rfl
        have T7 := (T6.up _).kq g7 k7
        subst hG
        simp -implicitDefEqProofs only [lt14, lt24, lt34, stR1, stR2, stR3, aop_mki, mki148, aop_panic, panO_if, goO_pan, up_up, up_set, nilO_ptr, fda_ptr o152_0, fda_ptr o152_1, fda_ptr o152_2, fda_ptr o152_3, loadO_one ag3 sz3, loadO_one ag9 sz9, loadO_one ag5 sz5, len_str u9, sz3, EndX_normal, EndX_ret, EndX_panic, KS_panic, KB_panic, KI_panic, outX_panic, KE_normal, KE_ret, KE_exit, KE_panic]
        exact pan T7 l7 m7 e0
    · subst hG
      simp -implicitDefEqProofs only [wpC_seq, rowsA, if_true, if_false, opnd, ofVal, ofVal1, layArgs, Nat.reduceAdd, reduceIte, Nat.reduceEqDiff, reduceCtorEq, rowsB, cellsG, Nat.reduceMul, lt14, lt24, lt34, stR1, stR2, stR3, aop_mki, mki148, aop_panic, panO_if, goO_pan, up_up, up_set, nilO_ptr, fda_ptr o152_0, fda_ptr o152_1, fda_ptr o152_2, fda_ptr o152_3, loadO_one ag3 sz3, loadO_one ag9 sz9, loadO_one ag5 sz5, len_str u9, sz3, EndX_normal, EndX_ret, EndX_panic, KS_panic, KB_panic, KI_panic, outX_panic, KE_normal, KE_ret, KE_exit, KE_panic, c6, f0, f2, c7]
      refine goO_sc (must_sc (a := a) (f := f) (n := n + 1) (s := s) _ _ (by simp only [AH.get_up]; exact T6.rd)) ?_ ?_
      · intro v7 h7 hq
        generalize hG : wpO _ _ _ _ _ _ _ _ _ _ _ = G
        have := hq.2.1
        cases this
      · intro v7 h7 hq
        generalize hG : outX _ _ = G
        obtain ⟨e7, _, _, q7⟩ := hq
        obtain rfl := q7 rfl
        have T7 := (T6.up _).eqv e7
        subst hG
        simp -implicitDefEqProofs only [lt14, lt24, lt34, stR1, stR2, stR3, aop_mki, mki148, aop_panic, panO_if, goO_pan, up_up, up_set, nilO_ptr, fda_ptr o152_0, fda_ptr o152_1, fda_ptr o152_2, fda_ptr o152_3, loadO_one ag3 sz3, loadO_one ag9 sz9, loadO_one ag5 sz5, len_str u9, sz3, EndX_normal, EndX_ret, EndX_panic, KS_panic, KB_panic, KI_panic, outX_panic, KE_normal, KE_ret, KE_exit, KE_panic]
        exact pan T7 (by omega) (by omega) (by decide)
  clear T3 g3 b3
  rintro F h4 ⟨f0, f2, a', k, t, l4, m4, T4⟩
  have g4 := T4.rd
  have b4 := T4.tk
  rw [rd_eq] at g4
  rw [tk_eq] at b4
  refine wpC_then (TokC R B s a f n h) ?_ ?_
  · simp -implicitDefEqProofs only [rowsA, if_true, if_false, opnd, ofVal, ofVal1, layArgs, Nat.reduceAdd, reduceIte, Nat.reduceEqDiff, reduceCtorEq, rowsB, cellsG, Nat.reduceMul, lt14, lt24, lt34, stR1, stR2, stR3, aop_mki, mki148, aop_panic, panO_if, goO_pan, up_up, up_set, nilO_ptr, fda_ptr o152_0, fda_ptr o152_1, fda_ptr o152_2, fda_ptr o152_3, loadO_one ag3 sz3, loadO_one ag9 sz9, loadO_one ag5 sz5, len_str u9, sz3, EndX_normal, EndX_ret, EndX_panic, KS_panic, KB_panic, KI_panic, outX_panic, KE_normal, KE_ret, KE_exit, KE_panic, fda_ptr o125_3, stT3, f0, f2, g4, b4, hRB, hBR]
    exact ⟨by simp only [Fr.at_set, Nat.reduceEqDiff, reduceIte, reduceCtorEq, f0], by simp only [Fr.at_set, Nat.reduceEqDiff, reduceIte, reduceCtorEq, f2], a', k, t, l4, m4, (T4.up 6).st⟩
  clear T4 g4 b4 t k l4 m4 a'
  rintro F h4 ⟨f0, f2, a', k, t, l4, m4, T4⟩
  have g4 := T4.rd
  have b4 := T4.tk
  rw [rd_eq] at g4
  rw [tk_eq] at b4
  have hbs := T4.bs
  refine wpC_then (TokC R B s a f n h) ?_ ?_
  · by_cases c1 : k = 4
    · simp -implicitDefEqProofs only [wpC_seq, rowsA, if_true, if_false, opnd, ofVal, ofVal1, layArgs, Nat.reduceAdd, reduceIte, Nat.reduceEqDiff, reduceCtorEq, rowsB, cellsG, Nat.reduceMul, lt14, lt24, lt34, stR1, stR2, stR3, aop_mki, mki148, aop_panic, panO_if, goO_pan, up_up, up_set, nilO_ptr, fda_ptr o152_0, fda_ptr o152_1, fda_ptr o152_2, fda_ptr o152_3, loadO_one ag3 sz3, loadO_one ag9 sz9, loadO_one ag5 sz5, len_str u9, sz3, EndX_normal, EndX_ret, EndX_panic, KS_panic, KB_panic, KI_panic, outX_panic, KE_normal, KE_ret, KE_exit, KE_panic, fda_ptr o125_0, f0, f2, b4, decide_eq_true c1]
      exact ⟨by simp only [Fr.at_set, Nat.reduceEqDiff, reduceIte, reduceCtorEq, f0], by simp only [Fr.at_set, Nat.reduceEqDiff, reduceIte, reduceCtorEq, f2], a', k, t, l4, m4, T4.up _⟩
    · have hsb : ∀ h : AH, (if liveB h (.str s) && sizeB Tryz.prog h 9 (.str s) then (sliceV Tryz.prog 9 (.str s) (some (.int .i64 a)) (some (.int .i64 a')) none).map OR.q else none) = some (.q (.str ((s.drop a.toNat).take (a'.toNat - a.toNat)))) := fun h => slice_both u9 ha l4 m4
      simp -implicitDefEqProofs only [wpC_seq, rowsA, if_true, if_false, opnd, ofVal, ofVal1, layArgs, Nat.reduceAdd, reduceIte, Nat.reduceEqDiff, reduceCtorEq, rowsB, cellsG, Nat.reduceMul, lt14, lt24, lt34, stR1, stR2, stR3, aop_mki, mki148, aop_panic, panO_if, goO_pan, up_up, up_set, nilO_ptr, fda_ptr o152_0, fda_ptr o152_1, fda_ptr o152_2, fda_ptr o152_3, loadO_one ag3 sz3, loadO_one ag9 sz9, loadO_one ag5 sz5, len_str u9, sz3, EndX_normal, EndX_ret, EndX_panic, KS_panic, KB_panic, KI_panic, outX_panic, KE_normal, KE_ret, KE_exit, KE_panic, fda_ptr o125_0, fda_ptr o125_1, fda_ptr o125_2, fda_ptr o125_3, f0, f2, b4, g4, c1, hsb, sz9, stT1]
      rw [goD_st (by omega) (by kernel_rfl)]
      simp -implicitDefEqProofs only [wpC_seq, rowsA, if_true, if_false, opnd, ofVal, ofVal1, layArgs, Nat.reduceAdd, reduceIte, Nat.reduceEqDiff, reduceCtorEq, rowsB, cellsG, Nat.reduceMul, lt14, lt24, lt34, stR1, stR2, stR3, aop_mki, mki148, aop_panic, panO_if, goO_pan, up_up, up_set, nilO_ptr, fda_ptr o152_0, fda_ptr o152_1, fda_ptr o152_2, fda_ptr o152_3, loadO_one ag3 sz3, loadO_one ag9 sz9, loadO_one ag5 sz5, len_str u9, sz3, EndX_normal, EndX_ret, EndX_panic, KS_panic, KB_panic, KI_panic, outX_panic, KE_normal, KE_ret, KE_exit, KE_panic]
      exact ⟨by simp only [Fr.at_set, Nat.reduceEqDiff, reduceIte, reduceCtorEq, f0], by simp only [Fr.at_set, Nat.reduceEqDiff, reduceIte, reduceCtorEq, f2], a', k, _, l4, m4, (T4.up _).st⟩
  clear T4 g4 b4 t k l4 m4 a' hbs
  rintro F h4 ⟨f0, f2, a', k, t, l4, m4, T4⟩
  have b4 := T4.tk
  rw [tk_eq] at b4
  simp -implicitDefEqProofs only [wpC_seq, rowsA, if_true, if_false, opnd, ofVal, ofVal1, layArgs, Nat.reduceAdd, reduceIte, Nat.reduceEqDiff, reduceCtorEq, rowsB, cellsG, Nat.reduceMul, lt14, lt24, lt34, stR1, stR2, stR3, aop_mki, mki148, aop_panic, panO_if, goO_pan, up_up, up_set, nilO_ptr, fda_ptr o152_0, fda_ptr o152_1, fda_ptr o152_2, fda_ptr o152_3, loadO_one ag3 sz3, loadO_one ag9 sz9, loadO_one ag5 sz5, len_str u9, sz3, EndX_normal, EndX_ret, EndX_panic, KS_panic, KB_panic, KI_panic, outX_panic, KE_normal, KE_ret, KE_exit, KE_panic, f0, f2, b4, ld125, sz125, st125']
  exact ⟨a', n + 1, ((T4.up 2).st (k' := k) (t' := t) (x' := a) (y' := a')).rd, ((T4.up 2).st (k' := k) (t' := t) (x' := a) (y' := a')).kp, l4, m4, fun _ => ⟨hn2, rfl, k, t, a, a', rfl⟩, fun q => (by cases q)⟩
end
end Go.Proofs.YtcbngkmmmfaaoaaGreatDoor
/-
  LEXER, L12: all the tokens, one by one.
-/
namespace Go.Proofs.YtcbngkmmmfaaoaaGreatDoor
open Go.RowKit Go.Lib Go.Ac
set_option linter.unusedSimpArgs false
set_option linter.unusedVariables false
set_option maxRecDepth 100000
variable {mx : Int}

theorem ag150 : tyAgg Tryz.prog 150 = some false := by kernel_rfl
theorem sz150 : tySz Tryz.prog 150 = some 1 := by kernel_rfl
theorem u121 : Tryz.prog.underlying 121 = some (.slice 125) := by kernel_rfl
theorem i125 : (Tryz.prog.info? 125).map (fun i => (i.size, i.bytes, i.zero.map (·.cells.size))) = some (4, 40, some 4) := by kernel_rfl
/-- A token as a value. -/
structure Tkn where
  k : Int
  t : List UInt8
  x : Int
  y : Int
def Tkn.pv (o : Tkn) : List PV := [.int .i64 o.k, .str o.t, .int .i64 o.x, .int .i64 o.y]
theorem flat_snoc {α : Type} (f : α → List PV) (x : α) : ∀ l : List α, flat f (l ++ [x]) = flat f l ++ f x
  | [] => by simp [flat]
  | y :: l => by rw [List.cons_append, flat, flat, flat_snoc f x l, List.append_assoc]
theorem tk_len (l : List Tkn) : (flat Tkn.pv l).length = l.length * 4 := flat_len (f := Tkn.pv) (z := 4) (fun _ => rfl) l
theorem ap121n (h : AH) (fr id : Nat) (c : List PV) (fz : Bool) (hg : h.get id = some (.cells 125 4 fz c)) (hc : c.length = 4) : appO Tryz.prog h fr [.nls, .ow id 4 0 1] [121, 121] = some (.w (.ow fr 4 0 1) fr (.cells 125 4 false c)) := by
  cases hi : Tryz.prog.info? 125 with
  | none => have := i125; rw [hi] at this; simp at this
  | some i =>
    have e := i125
    rw [hi] at e
    simp only [Option.map_some, Option.some.injEq, Prod.mk.injEq] at e
    obtain ⟨e1, e2, e3⟩ := e
    obtain ⟨z, hz, hzs⟩ := Option.map_eq_some_iff.1 e3
    have hx : Ac.cellsOf h 4 (.ow id 4 0 1) = some (c, 1) := by
      simp only [Ac.cellsOf, hg]
      rw [if_pos ⟨hc, trivial, by omega⟩, List.drop_zero, List.take_of_length_le (by omega)]
    simp only [appO, u121, appendV, hi, hz, e1, hzs, e2, hx]
    rfl
theorem ap121 (h : AH) (fr id L m : Nat) (c d : List PV) (fz : Bool) (hL : h.get L = some (.cells 125 4 false d)) (hd : d.length = m * 4) (hg : h.get id = some (.cells 125 4 fz c)) (hc : c.length = 4) (hm : m ≤ 2048) :
    appO Tryz.prog h fr [.ow L (m * 4) 0 m, .ow id 4 0 1] [121, 121] = some (.w (.ow L ((m + 1) * 4) 0 (m + 1)) L (.cells 125 4 false (d ++ c))) := by
  cases hi : Tryz.prog.info? 125 with
  | none => have := i125; rw [hi] at this; simp at this
  | some i =>
    have e := i125
    rw [hi] at e
    simp only [Option.map_some, Option.some.injEq, Prod.mk.injEq] at e
    obtain ⟨e1, e2, e3⟩ := e
    obtain ⟨z, hz, hzs⟩ := Option.map_eq_some_iff.1 e3
    have hx : Ac.cellsOf h 4 (.ow id 4 0 1) = some (c, 1) := by
      simp only [Ac.cellsOf, hg]
      rw [if_pos ⟨hc, trivial, by omega⟩, List.drop_zero, List.take_of_length_le (by omega)]
    simp only [appO, u121, appendV, hi, hz, e1, hzs, e2, hx, hL]
    rw [if_neg (by decide), if_neg (by omega), if_neg (by decide), if_pos ⟨trivial, trivial, trivial, trivial, trivial, by omega, by omega⟩, Nat.add_mul, Nat.one_mul]
/-- The list that has been gathered. -/
def TL (h' : AH) (l T M : Nat) : Prop := ∃ ts : List Tkn, ts.length ≤ M ∧ ((ts = [] ∧ h'.get T = some (.cells 121 0 false [.nls])) ∨
  ∃ L, l + 1 < L ∧ L < h'.next ∧ 0 < ts.length ∧ h'.get T = some (.cells 121 0 false [.ow L (ts.length * 4) 0 ts.length]) ∧ h'.get L = some (.cells 125 4 false (flat Tkn.pv ts)))
/-- What stands between two rounds. -/
structure AL (ob : AO) (R C T T3 T4 l : Nat) (s : List UInt8) (h' : AH) (a f n : Int) (M : Nat) : Prop where
  o1 : T < R
  o2 : T3 < R
  o3 : T4 < R
  o4 : R < C
  o5 : C < l
  o6 : l + 1 < h'.next
  rd : h'.get R = some (rd s a f n)
  cc : h'.get C = some (.cells 150 0 false [.ptr R 4 0])
  t3 : h'.get T3 = some (.cells 3 0 false [.int .i64 0])
  t4 : h'.get T4 = some (.cells 27 0 false [.int .i64 0])
  lo : h'.get l = some ob
  dm : h'.get (l + 1) = some (.defr true)
  nb : nb ob = true
  tl : TL h' l T M
section
variable {ob : AO} {R C T T3 T4 l : Nat} {s : List UInt8} {h h' : AH} {a a' f f' n n' : Int} {M : Nat}
theorem AL.eqv (A : AL ob R C T T3 T4 l s h a f n M) (e : Eqv h' h) : AL ob R C T T3 T4 l s h' a f n M := by
  refine ⟨A.o1, A.o2, A.o3, A.o4, A.o5, Nat.lt_of_lt_of_le A.o6 e.2, by rw [e.1]; exact A.rd, by rw [e.1]; exact A.cc, by rw [e.1]; exact A.t3, by rw [e.1]; exact A.t4, by rw [e.1]; exact A.lo, by rw [e.1]; exact A.dm, A.nb, ?_⟩
  obtain ⟨ts, h1, h2⟩ := A.tl
  refine ⟨ts, h1, ?_⟩
  rcases h2 with ⟨q, g⟩ | ⟨L, q1, q2, q3, q4, q5⟩
  · exact .inl ⟨q, by rw [e.1]; exact g⟩
  · exact .inr ⟨L, q1, Nat.lt_of_lt_of_le q2 e.2, q3, by rw [e.1]; exact q4, by rw [e.1]; exact q5⟩
theorem AL.up (A : AL ob R C T T3 T4 l s h a f n M) (m : Nat) : AL ob R C T T3 T4 l s (h.up m) a f n M := A.eqv ((Eqv.refl h).up m)
theorem AL.kq (A : AL ob R C T T3 T4 l s h a f n M) (g : h'.get R = some (Go.Proofs.YtcbngkmmmfaaoaaGreatDoor.rd s a' f' n')) (q : Kp h h' R) : AL ob R C T T3 T4 l s h' a' f' n' M := by
  have o1 := A.o1; have o2 := A.o2; have o3 := A.o3; have o4 := A.o4; have o5 := A.o5; have o6 := A.o6
  refine ⟨o1, o2, o3, o4, o5, Nat.lt_of_lt_of_le o6 q.1, g, q.2 _ _ (by omega) A.cc (by omega) rfl, q.2 _ _ (by omega) A.t3 (by omega) rfl, q.2 _ _ (by omega) A.t4 (by omega) rfl, q.2 _ _ (by omega) A.lo (by omega) A.nb, q.2 _ _ (by omega) A.dm (by omega) rfl, A.nb, ?_⟩
  obtain ⟨ts, h1, h2⟩ := A.tl
  refine ⟨ts, h1, ?_⟩
  rcases h2 with ⟨q', g⟩ | ⟨L, q1, q2, q3, q4, q5⟩
  · exact .inl ⟨q', q.2 _ _ (by omega) g (by omega) rfl⟩
  · exact .inr ⟨L, q1, Nat.lt_of_lt_of_le q2 q.1, q3, q.2 _ _ (by omega) q4 (by omega) rfl, q.2 _ _ q2 q5 (by omega) rfl⟩
theorem AL.to (A : AL ob R C T T3 T4 l s h a f n M) (e : Eqv h' (h.set R (Go.Proofs.YtcbngkmmmfaaoaaGreatDoor.rd s a' f' n'))) : AL ob R C T T3 T4 l s h' a' f' n' M :=
  A.kq (by rw [e.1, AH.get_set_same]) (Kp.ofSet e)
/-- A round takes a token up. -/
def Rnd (mx : Int) (ob : AO) (R C T T3 T4 l : Nat) (s : List UInt8) : Prop := ∀ (h : AH) (a f n : Int) (M : Nat) (k : Int) (t : List UInt8) (x y : Int), AL ob R C T T3 T4 l s h a f n M → M < 2048 →
  ∃ v h2, (∀ fr, CR Tryz.prog (globM mx) md (.yl l) [.agg [.int .i64 k, .str t, .int .i64 x, .int .i64 y]] h fr (.sh v h2)) ∧ v = .bool true ∧ AL ob R C T T3 T4 l s h2 a f n (M + 1)
def AllQ (ob : AO) (R C T T3 T4 l : Nat) (s : List UInt8) (b : Bool) (v : PV) (h' : AH) : Prop := (∃ a f n M, AL ob R C T T3 T4 l s h' a f n M) ∧ (b = false → v = .tup []) ∧ (b = true → ∃ x e, e ≠ 0 ∧ v = wrongV x e)
def invAll (ob : AO) (R C T T3 T4 l : Nat) (s : List UInt8) (k : Nat) (F : Fr) (h' : AH) : Prop :=
  ∃ (a f n : Int) (M : Nat), (k : Int) + n = 2048 ∧ (M : Int) ≤ n ∧ 0 ≤ a ∧ a ≤ s.length ∧ F.at 0 = .yld l ∧ F.at 1 = .ptr C 1 0 ∧ AL ob R C T T3 T4 l s h' a f n M
set_option maxHeartbeats 1000000 in
theorem all1_sc (hr : Rnd mx ob R C T T3 T4 l s) (A : AL ob R C T T3 T4 l s h 0 0 0 0) (hl : s.length ≤ 16384) : SC Tryz.prog (globM mx) md (.fn 165) [.yld l, .ptr C 1 0] h (AllQ ob R C T T3 T4 l s) := by
  refine SC.body (rs := []) Tryz.func165 rfl rfl rfl rfl rfl ?_
  rw [wpC_block]
  refine wpC_loop (invAll ob R C T T3 T4 l s) (k := 2048) ⟨0, 0, 0, 0, by omega, by omega, by omega, by omega, ?_, ?_, A⟩ ?_
  · simp only [layArgs, Fr.at_set, Nat.reduceEqDiff, reduceIte, reduceCtorEq]
  · simp only [layArgs, Fr.at_set, Nat.reduceEqDiff, reduceIte, reduceCtorEq]
  clear A
  rintro k F h1 ⟨a, f, n, M, ik, hM, ha, hb, f0, f1, A1⟩
  have c1 := A1.cc
  simp -implicitDefEqProofs only [wpC_seq, rowsA, if_true, if_false, opnd, ofVal, ofVal1, layArgs, Nat.reduceAdd, reduceIte, Nat.reduceEqDiff, reduceCtorEq, rowsB, cellsG, Nat.reduceMul, lt14, lt24, lt34, stR1, stR2, stR3, aop_mki, mki148, aop_panic, panO_if, goO_pan, up_up, up_set, nilO_ptr, fda_ptr o152_0, fda_ptr o152_1, fda_ptr o152_2, fda_ptr o152_3, loadO_one ag3 sz3, loadO_one ag9 sz9, loadO_one ag5 sz5, len_str u9, sz3, EndX_normal, EndX_ret, EndX_panic, KS_panic, KB_panic, KI_panic, outX_panic, KE_normal, KE_ret, KE_exit, KE_panic, f1, c1, loadO_one ag150 sz150]
  refine goO_sc (ignored_sc (a := a) (f := f) (n := n) (s := s) (by simp only [AH.get_up]; exact A1.rd) ha hb hl) ?_ ?_
  · intro v2 h2 hq
    generalize hG : wpO _ _ _ _ _ _ _ _ _ _ _ = G
    obtain ⟨a2, f2, e2, l2, m2, _, _, _⟩ := hq
    have A2 := (A1.up _).to e2
    have c2 := A2.cc
    have r2 := A2.rd
    rw [rd_eq] at r2
    have o4 := A2.o4
    have o5 := A2.o5
    have o6 := A2.o6
    have hRC : (C = R) = False := by simp only [eq_iff_iff, iff_false]; omega
    subst hG
    simp -implicitDefEqProofs only [wpC_seq, rowsA, if_true, if_false, opnd, ofVal, ofVal1, layArgs, Nat.reduceAdd, reduceIte, Nat.reduceEqDiff, reduceCtorEq, rowsB, cellsG, Nat.reduceMul, lt14, lt24, lt34, stR1, stR2, stR3, aop_mki, mki148, aop_panic, panO_if, goO_pan, up_up, up_set, nilO_ptr, fda_ptr o152_0, fda_ptr o152_1, fda_ptr o152_2, fda_ptr o152_3, loadO_one ag3 sz3, loadO_one ag9 sz9, loadO_one ag5 sz5, len_str u9, sz3, EndX_normal, EndX_ret, EndX_panic, KS_panic, KB_panic, KI_panic, outX_panic, KE_normal, KE_ret, KE_exit, KE_panic, f1, c2, r2, loadO_one ag150 sz150]
    rw [goD_st (by omega) (by kernel_rfl)]
    have A3 : ∀ m, AL ob R C T T3 T4 l s ((h2.up m).set R (.cells 152 0 false [.str s, .int .i64 a2, .int .i64 a2, .int .i64 n])) a2 a2 n M := fun m => (A2.up m).to (Eqv.refl _)
    by_cases d1 : a2 = (s.length : Int)
    · simp -implicitDefEqProofs only [wpC_seq, rowsA, if_true, if_false, opnd, ofVal, ofVal1, layArgs, Nat.reduceAdd, reduceIte, Nat.reduceEqDiff, reduceCtorEq, rowsB, cellsG, Nat.reduceMul, lt14, lt24, lt34, stR1, stR2, stR3, aop_mki, mki148, aop_panic, panO_if, goO_pan, up_up, up_set, nilO_ptr, fda_ptr o152_0, fda_ptr o152_1, fda_ptr o152_2, fda_ptr o152_3, loadO_one ag3 sz3, loadO_one ag9 sz9, loadO_one ag5 sz5, len_str u9, sz3, EndX_normal, EndX_ret, EndX_panic, KS_panic, KB_panic, KI_panic, outX_panic, KE_normal, KE_ret, KE_exit, KE_panic, f1, c2, r2, loadO_one ag150 sz150, hRC, decide_eq_true d1]
      exact ⟨⟨_, _, _, _, A3 _⟩, fun _ => rfl, fun q => (by cases q)⟩
    · simp -implicitDefEqProofs only [wpC_seq, rowsA, if_true, if_false, opnd, ofVal, ofVal1, layArgs, Nat.reduceAdd, reduceIte, Nat.reduceEqDiff, reduceCtorEq, rowsB, cellsG, Nat.reduceMul, lt14, lt24, lt34, stR1, stR2, stR3, aop_mki, mki148, aop_panic, panO_if, goO_pan, up_up, up_set, nilO_ptr, fda_ptr o152_0, fda_ptr o152_1, fda_ptr o152_2, fda_ptr o152_3, loadO_one ag3 sz3, loadO_one ag9 sz9, loadO_one ag5 sz5, len_str u9, sz3, EndX_normal, EndX_ret, EndX_panic, KS_panic, KB_panic, KI_panic, outX_panic, KE_normal, KE_ret, KE_exit, KE_panic, f0, f1, c2, r2, loadO_one ag150 sz150, hRC, d1]
      refine goD_sc (token_sc (a := a2) (f := a2) (n := n) (s := s) (by exact (A3 _).rd) (by simp only [AH.next_set, AH.next_up]; omega) (by omega) (by omega) hl (by omega)) (by kernel_rfl) (.inl (by kernel_rfl)) ?_ ?_
      · intro v4 h4 hq
        generalize hG : wpD _ _ _ _ _ _ _ _ _ _ _ = G
        obtain ⟨a4, n4, g4, k4, l4, m4, q4, _⟩ := hq
        obtain ⟨q5, rfl, kd, t, x, y, rfl⟩ := q4 rfl
        have A4 := (A3 _).kq g4 k4
        subst hG
        simp -implicitDefEqProofs only [wpC_seq, rowsA, if_true, if_false, opnd, ofVal, ofVal1, layArgs, Nat.reduceAdd, reduceIte, Nat.reduceEqDiff, reduceCtorEq, rowsB, cellsG, Nat.reduceMul, lt14, lt24, lt34, stR1, stR2, stR3, aop_mki, mki148, aop_panic, panO_if, goO_pan, up_up, up_set, nilO_ptr, fda_ptr o152_0, fda_ptr o152_1, fda_ptr o152_2, fda_ptr o152_3, loadO_one ag3 sz3, loadO_one ag9 sz9, loadO_one ag5 sz5, len_str u9, sz3, EndX_normal, EndX_ret, EndX_panic, KS_panic, KB_panic, KI_panic, outX_panic, KE_normal, KE_ret, KE_exit, KE_panic, f0, callV_yld]
        refine goD_val (hr _ _ _ _ _ _ _ _ _ A4 (by omega)) (by kernel_rfl) ?_
        intro v5 h5 hq
        generalize hG : wpD _ _ _ _ _ _ _ _ _ _ _ = G
        obtain ⟨rfl, A5⟩ := hq
        subst hG
        simp -implicitDefEqProofs only [wpC_seq, rowsA, if_true, if_false, opnd, ofVal, ofVal1, layArgs, Nat.reduceAdd, reduceIte, Nat.reduceEqDiff, reduceCtorEq, rowsB, cellsG, Nat.reduceMul, lt14, lt24, lt34, stR1, stR2, stR3, aop_mki, mki148, aop_panic, panO_if, goO_pan, up_up, up_set, nilO_ptr, fda_ptr o152_0, fda_ptr o152_1, fda_ptr o152_2, fda_ptr o152_3, loadO_one ag3 sz3, loadO_one ag9 sz9, loadO_one ag5 sz5, len_str u9, sz3, EndX_normal, EndX_ret, EndX_panic, KS_panic, KB_panic, KI_panic, outX_panic, KE_normal, KE_ret, KE_exit, KE_panic]
        obtain ⟨k', hk'⟩ : ∃ k', k = k' + 1 := ⟨k - 1, by omega⟩
        exact ⟨k', by omega, a4, a2, n + 1, M + 1, by omega, by omega, by omega, m4, by simp only [Fr.at_set, Nat.reduceEqDiff, reduceIte, reduceCtorEq, f0], by simp only [Fr.at_set, Nat.reduceEqDiff, reduceIte, reduceCtorEq, f1], A5⟩
      · intro v4 h4 hq
        generalize hG : outX _ _ = G
        obtain ⟨a4, n4, g4, k4, l4, m4, _, q4⟩ := hq
        obtain ⟨e, e0, rfl⟩ := q4 rfl
        have A4 := (A3 _).kq g4 k4
        subst hG
        simp -implicitDefEqProofs only [lt14, lt24, lt34, stR1, stR2, stR3, aop_mki, mki148, aop_panic, panO_if, goO_pan, up_up, up_set, nilO_ptr, fda_ptr o152_0, fda_ptr o152_1, fda_ptr o152_2, fda_ptr o152_3, loadO_one ag3 sz3, loadO_one ag9 sz9, loadO_one ag5 sz5, len_str u9, sz3, EndX_normal, EndX_ret, EndX_panic, KS_panic, KB_panic, KI_panic, outX_panic, KE_normal, KE_ret, KE_exit, KE_panic]
        exact ⟨⟨_, _, _, _, A4⟩, fun q => (by cases q), fun _ => ⟨_, _, e0, rfl⟩⟩
  · intro v2 h2 hq
    generalize hG : outX _ _ = G
    obtain ⟨a2, f2, e2, l2, m2, _, q2, _⟩ := hq
    obtain ⟨x, e, e0, rfl⟩ := q2 rfl
    have A2 := (A1.up _).to e2
    subst hG
    simp -implicitDefEqProofs only [lt14, lt24, lt34, stR1, stR2, stR3, aop_mki, mki148, aop_panic, panO_if, goO_pan, up_up, up_set, nilO_ptr, fda_ptr o152_0, fda_ptr o152_1, fda_ptr o152_2, fda_ptr o152_3, loadO_one ag3 sz3, loadO_one ag9 sz9, loadO_one ag5 sz5, len_str u9, sz3, EndX_normal, EndX_ret, EndX_panic, KS_panic, KB_panic, KI_panic, outX_panic, KE_normal, KE_ret, KE_exit, KE_panic]
    exact ⟨⟨_, _, _, _, A2⟩, fun q => (by cases q), fun _ => ⟨_, _, e0, rfl⟩⟩
end
end Go.Proofs.YtcbngkmmmfaaoaaGreatDoor
/-
  LEXER, L13: the list of tokens; names.
-/
namespace Go.Ac
open Go.RowKit
set_option linter.unusedSimpArgs false
section
variable {P : Program} {G : Glob} {md : FuncId → Md}
/-- A body's end, with one call put off and one round's mark ahead of it. -/
def EndM (P : Program) (G : Glob) (md : FuncId → Md) (k : FuncId) (args : List PV) (fk : Func) (ck : Code) (rs : List ResultVar) (Q : PV → AH → Prop) : EX → Fr → AH → Prop := fun x f h => ∃ i, f.ds = [.mark i, .call k args] ∧ h.get i = some (.defr true) ∧ ∃ m, modeX x = some m ∧
  wpS P G md fk.ntmps ck (layArgs 0 args Fr.none) (h.set i (.defr false)) m fun y f1 h1 m1 => (y = .normal ∨ y = .ret) ∧ f1.ds = [] ∧ (resA P f1 h1 fk.results.toList).isSome ∧ m1.settle = .ret ∧ ∃ l, resA P f h1 rs = some l ∧ Q (oneOf l) h1
theorem ends_mark {fn : Func} {c : Code} {rs : List ResultVar} {args : List PV} {h : AH} {k : FuncId} {dargs : List PV} {fk : Func} {ck : Code} {Q : PV → AH → Prop} {R : RA → Prop} (hf : P.funcs[k]? = some fk) (hb : fk.body = some ck) (hn : (fk.name == "runtime.NumGoroutine") = false) (hr : fn.results.toList = rs) (hq : ∀ v h', Q v h' → R (.val v h'))
    (he : wpC P G md (some fn.ntmps) c (layArgs 0 args Fr.none) h (EndM P G md k dargs fk ck rs Q)) : Ev P G md (some fn.ntmps) c (layArgs 0 args Fr.none) h (Ends P G md fn R) := by
  obtain ⟨n, x, f', h', he1, i, hds, hg, m, hx, hS⟩ := wpC_ev _ _ _ _ he
  obtain ⟨n2, y, f1, h1, m1, he2, hy, hd1, hrs, hm, l, hl, q⟩ := wpS_ev _ _ _ _ _ hS
  refine ⟨n, x, f', h', he1, m, n2, .val (oneOf l) h1, hx, ?_, hq _ _ q⟩
  rw [hds]
  simp only [runD, hg, hf, hb, hn, Bool.false_eq_true, if_false, he2]
  rcases hy with rfl | rfl
  · simp only [hd1, hrs, hm, List.isEmpty_nil, Bool.and_self, if_true]
    exact runD_nil (by rw [hr]; exact hl)
  · simp only [hd1, hrs, hm, List.isEmpty_nil, Bool.and_self, if_true]
    exact runD_nil (by rw [hr]; exact hl)
def Fr.dfr (f : Fr) (k : FuncId) (args : List PV) : Fr := ⟨f.t, .call k args :: f.ds⟩
def Fr.mrk (f : Fr) (i : Nat) : Fr := ⟨f.t, .mark i :: f.ds⟩
def Fr.rnd (f : Fr) : Fr := ⟨f.t, []⟩
theorem Fr.at_dfr (f : Fr) (k : FuncId) (args : List PV) (j : Nat) : (f.dfr k args).at j = f.at j := rfl
theorem Fr.at_mrk (f : Fr) (i j : Nat) : (f.mrk i).at j = f.at j := rfl
theorem Fr.at_rnd (f : Fr) (j : Nat) : (f.rnd).at j = f.at j := rfl
theorem Fr.ds_dfr (f : Fr) (k : FuncId) (args : List PV) : (f.dfr k args).ds = .call k args :: f.ds := rfl
theorem Fr.ds_mrk (f : Fr) (i : Nat) : (f.mrk i).ds = .mark i :: f.ds := rfl
theorem goO_dfr (rd : Bool) (ops : Array Oper) (base i : Nat) (rest : List Oper) (d : Option Tmp) (f : Fr) (h : AH) (Q : OX → Prop) (k : FuncId) (args : List PV) : goO P G md rd ops base i rest d f h Q (some (.dfr k args)) = (rd = false ∧ wpO P G md rd ops base (i + 1) rest (putA (f.dfr k args) d .undef) h Q) := rfl
theorem Fr.at_mk (f : Fr) (ds : List Dfr) (j : Nat) : (⟨f.t, ds⟩ : Fr).at j = f.at j := rfl
theorem wpC_gen {nt : Option Nat} {c : Code} {f : Fr} {h : AH} {Q : EX → Fr → AH → Prop} (I : Fr → Prop) (hI : I f) (H : ∀ F, I F → wpC P G md nt c F h Q) : wpC P G md nt c f h Q := H f hI
/-- A range over a function: its call, and how it ends. -/
theorem wpC_rangeSC {m : Nat} {x : Operand} {ps : Array Tmp} {asn body : Code} {f : Fr} {h : AH} {Q : EX → Fr → AH → Prop} {k : FuncId} {first captured : List PV} (R : AO → Bool → PV → AH → Prop) (hx : opnd G f.at x = .fn (.func k) first captured) (hb : bodyB P k = true)
    (hk : SC P G md (.fn k) (first ++ [.yld h.next] ++ captured) (((h.up 3).set h.next (.loop m f.t ps asn body .ready none)).set (h.next + 1) (.defr true)) (R (.loop m f.t ps asn body .ready none)))
    (hv : ∀ v h1, R (.loop m f.t ps asn body .ready none) false v h1 → h1.get h.next = some (.loop m f.t ps asn body .ready none) ∧ ∀ o, Q .normal (f.mrk (h.next + 1)) (h1.set h.next o))
    (hp : ∀ v h1, R (.loop m f.t ps asn body .ready none) true v h1 → Q (.panic v) (f.mrk (h.next + 1)) h1) : wpC P G md (some m) (.rangeFunc x ps asn body) f h Q := by
  simp only [wpC, hx]
  obtain ⟨v, h1, q | q⟩ := hk
  · obtain ⟨hg, hq⟩ := hv _ _ q.2
    exact ⟨hb, _, q.1 _, _, _, _, by simp only [finR, hg]; rfl, hq _⟩
  · exact ⟨hb, _, q.1 _, hp _ _ q.2⟩
/-- A call on a heap of its own: some value, always the same one. -/
theorem CR.someE {k : FuncId} {fn : Func} {c : Code} {args : List PV} {Q : PV → Prop} (hf : P.funcs[k]? = some fn) (hb : fn.body = some c) (hn : (fn.name == "runtime.NumGoroutine") = false) (hm : md k = .pure) (hcl : PV.cleans args = true)
    (he : Ev P G md (some fn.ntmps) c (layArgs 0 args Fr.none) .empty (Ends P G md fn fun r => ∃ v h u h', r = .val v h ∧ frz 100 v h = some (u, h') ∧ Q u)) : ∃ u, Q u ∧ ∀ (h : AH) (fr : Nat), CR P G md (.fn k) args h fr (.val u) := by
  obtain ⟨n, x, f', h', he1, m, n2, r, hx, hd, v, h1, u, h2, rfl, hz, hq⟩ := he
  exact ⟨u, hq, fun h fr => CR.pure hf hb hn hm hcl ⟨n, x, f', h', he1, m, n2, .val v h1, hx, hd, v, h1, h2, rfl, hz⟩ h fr⟩
theorem CR.yl_any {l : Nat} {args : List PV} {h : AH} {fr : Nat} {r : CRes} (a : CR P G md (.yl l) args h fr r) (fr' : Nat) : CR P G md (.yl l) args h fr' r := by
  obtain ⟨n, hn⟩ := a
  refine ⟨n, ?_⟩
  cases n with
  | zero => exact hn
  | succ n => exact hn
end
end Go.Ac
namespace Go.Proofs.YtcbngkmmmfaaoaaGreatDoor
open Go.RowKit Go.Lib Go.Ac
set_option linter.unusedSimpArgs false
set_option maxRecDepth 100000
variable {mx : Int}
theorem z121 : tyZero Tryz.prog 121 = some [.nls] := by kernel_rfl
theorem ag121 : tyAgg Tryz.prog 121 = some false := by kernel_rfl
theorem sz121 : tySz Tryz.prog 121 = some 1 := by kernel_rfl
theorem bd121 (fr : Nat) (k : Int) (t : List UInt8) (x y : Int) : buildO Tryz.prog fr 121 1 [(0, .agg [.int .i64 k, .str t, .int .i64 x, .int .i64 y])] = some (.w (.ow fr 4 0 1) fr (.cells 125 4 false [.int .i64 k, .str t, .int .i64 x, .int .i64 y])) := by kernel_rfl
theorem stN (id : Nat) (a : PV) (E : TypeId) : stoG id 1 0 .nls 1 (some (.cells E 0 false [a])) = some (.w .undef id (.cells E 0 false [.nls])) := rfl
theorem stW (id : Nat) (a : PV) (E : TypeId) (L p o m : Nat) : stoG id 1 0 (.ow L p o m) 1 (some (.cells E 0 false [a])) = some (.w .undef id (.cells E 0 false [.ow L p o m])) := rfl
theorem lt01 : ((0 : Nat) < 1) = True := by simp
theorem z3 : tyZero Tryz.prog 3 = some [.int .i64 0] := by kernel_rfl
theorem z27 : tyZero Tryz.prog 27 = some [.int .i64 0] := by kernel_rfl
section
variable {ρ : Operand → PV} {h : AH} {fr : Nat} {d : Option Tmp} {ty : TypeId} {ps : String} {af : Array Edge} {gu : Option (Nat × Bool)}
theorem al121 : aop Tryz.prog ρ h fr ⟨d, .alloc 121, ty, ps, af, gu⟩ = some (.w (.ptr fr 1 0) fr (.cells 121 0 false [.nls])) := by
  rw [aop_alloc, z121]; rfl
theorem al3 : aop Tryz.prog ρ h fr ⟨d, .alloc 3, ty, ps, af, gu⟩ = some (.w (.ptr fr 1 0) fr (.cells 3 0 false [.int .i64 0])) := by
  rw [aop_alloc, z3]; rfl
theorem al27 : aop Tryz.prog ρ h fr ⟨d, .alloc 27, ty, ps, af, gu⟩ = some (.w (.ptr fr 1 0) fr (.cells 27 0 false [.int .i64 0])) := by
  rw [aop_alloc, z27]; rfl
end
theorem bl152 (s : List UInt8) : bldO Tryz.prog 152 [(0, .str s)] = some (.q (.agg [.str s, .int .i64 0, .int .i64 0, .int .i64 0])) := by kernel_rfl
theorem all_v {h : AH} (R C : Nat) (hC : h.next = C) : ∃ v h', (∀ fr, CR Tryz.prog (globM mx) md (.fn 154) [.ptr R 4 0] h fr (.sh v h')) ∧ v = .fn (.func 165) [] [.ptr C 1 0] ∧ Eqv h' (h.set C (.cells 150 0 false [.ptr R 4 0])) ∧ C < h'.next := by
  refine CR.sh (rs := [.tmp 2]) (Q := fun v h' => v = .fn (.func 165) [] [.ptr C 1 0] ∧ Eqv h' (h.set C (.cells 150 0 false [.ptr R 4 0])) ∧ C < h'.next) Tryz.func154 rfl rfl rfl rfl rfl ?_
  simp -implicitDefEqProofs only [wpC_seq, rowsA, if_true, if_false, opnd, ofVal, ofVal1, layArgs, Nat.reduceAdd, reduceIte, Nat.reduceEqDiff, reduceCtorEq, rowsB, cellsG, Nat.reduceMul, lt14, lt24, lt34, stR1, stR2, stR3, aop_mki, mki148, aop_panic, panO_if, goO_pan, up_up, up_set, nilO_ptr, fda_ptr o152_0, fda_ptr o152_1, fda_ptr o152_2, fda_ptr o152_3, loadO_one ag3 sz3, loadO_one ag9 sz9, loadO_one ag5 sz5, len_str u9, sz3, EndX_normal, EndX_ret, EndX_panic, KS_panic, KB_panic, KI_panic, outX_panic, KE_normal, KE_ret, KE_exit, KE_panic, boxO_ptr, hC]
  exact ⟨((Eqv.refl h).up 4).set _ _, by omega⟩
section
variable {R C T T3 T4 l : Nat} {s : List UInt8} {h h' : AH} {a f n : Int} {M : Nat}
theorem AL.relo {ob ob' : AO} (A : AL ob R C T T3 T4 l s h a f n M) (hn : Go.Proofs.YtcbngkmmmfaaoaaGreatDoor.nb ob' = true) : AL ob' R C T T3 T4 l s (h.set l ob') a f n M := by
  have o1 := A.o1; have o2 := A.o2; have o3 := A.o3; have o4 := A.o4; have o5 := A.o5; have o6 := A.o6
  refine ⟨o1, o2, o3, o4, o5, by rw [AH.next_set]; exact o6, by rw [AH.get_set_ne _ _ _ _ (by omega)]; exact A.rd, by rw [AH.get_set_ne _ _ _ _ (by omega)]; exact A.cc, by rw [AH.get_set_ne _ _ _ _ (by omega)]; exact A.t3, by rw [AH.get_set_ne _ _ _ _ (by omega)]; exact A.t4, by rw [AH.get_set_same], by rw [AH.get_set_ne _ _ _ _ (by omega)]; exact A.dm, hn, ?_⟩
  obtain ⟨ts, h1, h2⟩ := A.tl
  refine ⟨ts, h1, ?_⟩
  rcases h2 with ⟨q, g⟩ | ⟨L, q1, q2, q3, q4, q5⟩
  · exact .inl ⟨q, by rw [AH.get_set_ne _ _ _ _ (by omega)]; exact g⟩
  · exact .inr ⟨L, q1, by rw [AH.next_set]; exact q2, q3, by rw [AH.get_set_ne _ _ _ _ (by omega)]; exact q4, by rw [AH.get_set_ne _ _ _ _ (by omega)]; exact q5⟩
def RndE (A : AH → Prop) (x : EX) (_ : Fr) (h : AH) : Prop := x = .normal ∧ A h
theorem RndE_normal (A : AH → Prop) (f : Fr) (h : AH) : RndE A .normal f h = A h := by simp [RndE]
def RndQ (mx : Int) (l : Nat) (ob busy : AO) (body : Code) (A : AH → Prop) (x : EX) (f1 : Fr) (h1 : AH) : Prop := x = .normal ∧ h1.get l = some ob ∧ wpC Tryz.prog (globM mx) md none body f1 (h1.set l busy) (RndE A)
theorem RndQ_normal (l : Nat) (ob busy : AO) (body : Code) (A : AH → Prop) (f1 : Fr) (h1 : AH) : RndQ mx l ob busy body A .normal f1 h1 = (h1.get l = some ob ∧ wpC Tryz.prog (globM mx) md none body f1 (h1.set l busy) (RndE A)) := by simp [RndQ]
theorem rnd_of {n0 : Nat} {F : Tr PV} {ps : Array Tmp} {asn body : Code} {tok : PV} (A : AL (.loop n0 F ps asn body .ready none) R C T T3 T4 l s h a f n M) (hl : ps.size = 1)
    (he : wpC Tryz.prog (globM mx) md none asn (layTo (ps.toList.zip [tok]) ⟨F, []⟩) h (RndQ mx l (.loop n0 F ps asn body .ready none) (.loop n0 F ps asn body .busy none) body fun h2 => AL (.loop n0 F ps asn body .busy none) R C T T3 T4 l s h2 a f n (M + 1))) :
    ∃ v h2, (∀ fr, CR Tryz.prog (globM mx) md (.yl l) [tok] h fr (.sh v h2)) ∧ v = .bool true ∧ AL (.loop n0 F ps asn body .ready none) R C T T3 T4 l s h2 a f n (M + 1) := by
  obtain ⟨x, h2, n2, F2, ps2, asn2, body2, st2, pend2, pn, ⟨hx, hA⟩, g2, hpn, hc⟩ := CR.yl (P := Tryz.prog) (G := globM mx) (md := md) (fr := 0) (args := [tok]) (Q := fun x h2 => x = .normal ∧ AL (.loop n0 F ps asn body .busy none) R C T T3 T4 l s h2 a f n (M + 1)) A.lo (by rw [hl]; rfl)
    (wpC_mono _ _ _ _ _ (fun x f1 h1 q => ⟨q.1, _, _, _, _, _, _, q.2.1, wpC_mono _ _ _ _ _ (fun x f2 h2 q => ⟨q, fun v e => (by rw [q.1] at e; cases e), _, _, _, _, _, _, _, q.2.lo⟩) q.2.2⟩) he)
  have e := hA.lo
  rw [g2] at e
  simp only [Option.some.injEq, AO.loop.injEq] at e
  obtain ⟨rfl, rfl, rfl, rfl, rfl, rfl, rfl⟩ := e
  rcases hpn with ⟨_, rfl⟩ | ⟨q, _⟩ | ⟨id, q, _⟩
  · exact ⟨_, _, fun fr => CR.yl_any hc fr, rfl, hA.relo rfl⟩
  · rw [hx] at q; cases q
  · rw [hx] at q; cases q
end
theorem as148n : asrO Tryz.prog 148 true .nif = some (.q (.tup [.agg [.int .i64 0, .int .i64 0], .bool false])) := by kernel_rfl
theorem as148 (x e : Int) : asrO Tryz.prog 148 true (.iface 148 (.agg [.int .i64 x, .int .i64 e])) = some (.q (.tup [.agg [.int .i64 x, .int .i64 e], .bool true])) := by kernel_rfl
theorem z148 : tyZero Tryz.prog 148 = some [.int .i64 0, .int .i64 0] := by kernel_rfl
theorem sz148 : tySz Tryz.prog 148 = some 2 := by kernel_rfl
theorem o148_0 : offOf Tryz.prog 148 0 = some 0 := by kernel_rfl
theorem o148_1 : offOf Tryz.prog 148 1 = some 1 := by kernel_rfl
theorem al148 {ρ : Operand → PV} {h : AH} {fr : Nat} {d : Option Tmp} {ty : TypeId} {ps : String} {af : Array Edge} {gu : Option (Nat × Bool)} : aop Tryz.prog ρ h fr ⟨d, .alloc 148, ty, ps, af, gu⟩ = some (.w (.ptr fr 2 0) fr (.cells 148 0 false [.int .i64 0, .int .i64 0])) := by
  rw [aop_alloc, z148]; rfl
theorem st148 (id : Nat) (a b x y : PV) (h : (PV.agg [x, y]).goes = true) (hc : (PV.agg [x, y]).cells = [x, y]) : stoG id 2 0 (.agg [x, y]) 2 (some (.cells 148 0 false [a, b])) = some (.w .undef id (.cells 148 0 false [x, y])) := by
  have := stoG_all id 2 0 148 (.agg [x, y]) [a, b] rfl (by rw [hc]; rfl) h
  rw [hc] at this
  exact this
theorem st148i (id : Nat) (a b : PV) (x y : Int) : stoG id 2 0 (.agg [.int .i64 x, .int .i64 y]) 2 (some (.cells 148 0 false [a, b])) = some (.w .undef id (.cells 148 0 false [.int .i64 x, .int .i64 y])) := st148 id a b _ _ rfl rfl
/-- The call put off, where nothing went wrong. -/
theorem dfr_ret {ck : Code} (hck : Tryz.f153.body = some ck) {h : AH} (h3 : 3 ≤ h.next) {Q : EX → Fr → AH → Mo → Prop} (hq : ∀ f1 h1, f1.ds = [] → (∀ j, j < h.next → h1.get j = h.get j) → Q .normal f1 h1 .ret) :
    wpS Tryz.prog (globM mx) md Tryz.f153.ntmps ck (layArgs 0 [.ptr 0 1 0, .ptr 1 1 0, .ptr 2 1 0] Fr.none) h .ret Q := by
  cases hck
  rw [Go.Ac.wpS_seq, wpS_rec _ _ _ _ _ _ _ (by rfl)]
  rw [wpRec_ret (by rfl) (by rfl)]
  simp -implicitDefEqProofs only [wpC_seq, rowsA, if_true, if_false, opnd, ofVal, ofVal1, layArgs, Nat.reduceAdd, reduceIte, Nat.reduceEqDiff, reduceCtorEq, rowsB, cellsG, Nat.reduceMul]
  rw [wpRec_op (by rfl) (by rfl)]
  simp -implicitDefEqProofs only [wpC_seq, rowsA, if_true, if_false, opnd, ofVal, ofVal1, layArgs, Nat.reduceAdd, reduceIte, Nat.reduceEqDiff, reduceCtorEq, rowsB, cellsG, Nat.reduceMul, lt14, lt24, lt34, stR1, stR2, stR3, aop_mki, mki148, aop_panic, panO_if, goO_pan, up_up, up_set, nilO_ptr, fda_ptr o152_0, fda_ptr o152_1, fda_ptr o152_2, fda_ptr o152_3, loadO_one ag3 sz3, loadO_one ag9 sz9, loadO_one ag5 sz5, len_str u9, sz3, EndX_normal, EndX_ret, EndX_panic, KS_panic, KB_panic, KI_panic, outX_panic, KE_normal, KE_ret, KE_exit, KE_panic, aop_assert, as148n, goR_q]
  rw [wpRec_op (by rfl) (by rfl)]
  simp -implicitDefEqProofs only [wpC_seq, rowsA, if_true, if_false, opnd, ofVal, ofVal1, layArgs, Nat.reduceAdd, reduceIte, Nat.reduceEqDiff, reduceCtorEq, rowsB, cellsG, Nat.reduceMul, lt14, lt24, lt34, stR1, stR2, stR3, aop_mki, mki148, aop_panic, panO_if, goO_pan, up_up, up_set, nilO_ptr, fda_ptr o152_0, fda_ptr o152_1, fda_ptr o152_2, fda_ptr o152_3, loadO_one ag3 sz3, loadO_one ag9 sz9, loadO_one ag5 sz5, len_str u9, sz3, EndX_normal, EndX_ret, EndX_panic, KS_panic, KB_panic, KI_panic, outX_panic, KE_normal, KE_ret, KE_exit, KE_panic, goR_q]
  rw [wpRec_op (by rfl) (by rfl)]
  simp -implicitDefEqProofs only [wpC_seq, rowsA, if_true, if_false, opnd, ofVal, ofVal1, layArgs, Nat.reduceAdd, reduceIte, Nat.reduceEqDiff, reduceCtorEq, rowsB, cellsG, Nat.reduceMul, lt14, lt24, lt34, stR1, stR2, stR3, aop_mki, mki148, aop_panic, panO_if, goO_pan, up_up, up_set, nilO_ptr, fda_ptr o152_0, fda_ptr o152_1, fda_ptr o152_2, fda_ptr o152_3, loadO_one ag3 sz3, loadO_one ag9 sz9, loadO_one ag5 sz5, len_str u9, sz3, EndX_normal, EndX_ret, EndX_panic, KS_panic, KB_panic, KI_panic, outX_panic, KE_normal, KE_ret, KE_exit, KE_panic, goR_q]
  rw [wpRec_op (by rfl) (by rfl)]
  simp -implicitDefEqProofs only [wpC_seq, rowsA, if_true, if_false, opnd, ofVal, ofVal1, layArgs, Nat.reduceAdd, reduceIte, Nat.reduceEqDiff, reduceCtorEq, rowsB, cellsG, Nat.reduceMul, lt14, lt24, lt34, stR1, stR2, stR3, aop_mki, mki148, aop_panic, panO_if, goO_pan, up_up, up_set, nilO_ptr, fda_ptr o152_0, fda_ptr o152_1, fda_ptr o152_2, fda_ptr o152_3, loadO_one ag3 sz3, loadO_one ag9 sz9, loadO_one ag5 sz5, len_str u9, sz3, EndX_normal, EndX_ret, EndX_panic, KS_panic, KB_panic, KI_panic, outX_panic, KE_normal, KE_ret, KE_exit, KE_panic, goR_q]
  rw [wpRec_op (by rfl) (by rfl)]
  simp -implicitDefEqProofs only [wpC_seq, rowsA, if_true, if_false, opnd, ofVal, ofVal1, layArgs, Nat.reduceAdd, reduceIte, Nat.reduceEqDiff, reduceCtorEq, rowsB, cellsG, Nat.reduceMul, lt14, lt24, lt34, stR1, stR2, stR3, aop_mki, mki148, aop_panic, panO_if, goO_pan, up_up, up_set, nilO_ptr, fda_ptr o152_0, fda_ptr o152_1, fda_ptr o152_2, fda_ptr o152_3, loadO_one ag3 sz3, loadO_one ag9 sz9, loadO_one ag5 sz5, len_str u9, sz3, EndX_normal, EndX_ret, EndX_panic, KS_panic, KB_panic, KI_panic, outX_panic, KE_normal, KE_ret, KE_exit, KE_panic, al148, goR_q, goR_w]
  rw [wpRec_op (by rfl) (by rfl)]
  simp -implicitDefEqProofs only [wpC_seq, rowsA, if_true, if_false, opnd, ofVal, ofVal1, layArgs, Nat.reduceAdd, reduceIte, Nat.reduceEqDiff, reduceCtorEq, rowsB, cellsG, Nat.reduceMul, lt14, lt24, lt34, stR1, stR2, stR3, aop_mki, mki148, aop_panic, panO_if, goO_pan, up_up, up_set, nilO_ptr, fda_ptr o152_0, fda_ptr o152_1, fda_ptr o152_2, fda_ptr o152_3, loadO_one ag3 sz3, loadO_one ag9 sz9, loadO_one ag5 sz5, len_str u9, sz3, EndX_normal, EndX_ret, EndX_panic, KS_panic, KB_panic, KI_panic, outX_panic, KE_normal, KE_ret, KE_exit, KE_panic, sz148, st148i, goR_q, goR_w]
  rw [wpRec_op (by rfl) (by rfl)]
  simp -implicitDefEqProofs only [wpC_seq, rowsA, if_true, if_false, opnd, ofVal, ofVal1, layArgs, Nat.reduceAdd, reduceIte, Nat.reduceEqDiff, reduceCtorEq, rowsB, cellsG, Nat.reduceMul, lt14, lt24, lt34, stR1, stR2, stR3, aop_mki, mki148, aop_panic, panO_if, goO_pan, up_up, up_set, nilO_ptr, fda_ptr o152_0, fda_ptr o152_1, fda_ptr o152_2, fda_ptr o152_3, loadO_one ag3 sz3, loadO_one ag9 sz9, loadO_one ag5 sz5, len_str u9, sz3, EndX_normal, EndX_ret, EndX_panic, KS_panic, KB_panic, KI_panic, outX_panic, KE_normal, KE_ret, KE_exit, KE_panic, goR_q, goR_w]
  rw [wpRec_nil, KSS_normal, Go.Ac.wpS_seq, wpS_reg _ _ _ _ _ _ _ _ (by rfl)]
  simp -implicitDefEqProofs only [wpC_seq, rowsA, if_true, if_false, opnd, ofVal, ofVal1, layArgs, Nat.reduceAdd, reduceIte, Nat.reduceEqDiff, reduceCtorEq, rowsB, cellsG, Nat.reduceMul, lt14, lt24, lt34, stR1, stR2, stR3, aop_mki, mki148, aop_panic, panO_if, goO_pan, up_up, up_set, nilO_ptr, fda_ptr o152_0, fda_ptr o152_1, fda_ptr o152_2, fda_ptr o152_3, loadO_one ag3 sz3, loadO_one ag9 sz9, loadO_one ag5 sz5, len_str u9, sz3, EndX_normal, EndX_ret, EndX_panic, KS_panic, KB_panic, KI_panic, outX_panic, KE_normal, KE_ret, KE_exit, KE_panic, KW_normal, KSS_normal]
  rw [Go.Ac.wpS_cond]
  simp -implicitDefEqProofs only [wpC_seq, rowsA, if_true, if_false, opnd, ofVal, ofVal1, layArgs, Nat.reduceAdd, reduceIte, Nat.reduceEqDiff, reduceCtorEq, rowsB, cellsG, Nat.reduceMul, lt14, lt24, lt34, stR1, stR2, stR3, aop_mki, mki148, aop_panic, panO_if, goO_pan, up_up, up_set, nilO_ptr, fda_ptr o152_0, fda_ptr o152_1, fda_ptr o152_2, fda_ptr o152_3, loadO_one ag3 sz3, loadO_one ag9 sz9, loadO_one ag5 sz5, len_str u9, sz3, EndX_normal, EndX_ret, EndX_panic, KS_panic, KB_panic, KI_panic, outX_panic, KE_normal, KE_ret, KE_exit, KE_panic, Go.Ac.wpS_skip]
  exact ⟨.inl trivial, hq _ _ rfl (fun j hj => by simp only [AH.get_set, AH.get_up, show ¬ (j = h.next + 5) by omega, if_false])⟩
section
variable {ρ : Operand → PV} {d : Option Tmp} {ty : TypeId} {ps : String} {af : Array Edge} {gu : Option (Nat × Bool)}
theorem foot_fa (t : TypeId) (x : Operand) (k : Nat) : foot ρ ⟨d, .fieldAddr t x k, ty, ps, af, gu⟩ = footV (ρ x) := by simp [foot, Op.operands]
theorem foot_ld (t : TypeId) (x : Operand) : foot ρ ⟨d, .load t x, ty, ps, af, gu⟩ = footV (ρ x) := by simp [foot, Op.operands]
theorem foot_st (t : TypeId) (x y : Operand) : foot ρ ⟨d, .store t x y, ty, ps, af, gu⟩ = footV (ρ x) ++ footV (ρ y) := by simp [foot, Op.operands]
end
theorem footV_ptr (i j k : Nat) : footV (.ptr i j k) = [i] := rfl
/-- The call put off, where the document gave up. -/
theorem dfr_pan {ck : Code} (hck : Tryz.f153.body = some ck) {h : AH} {v a b : PV} (x e : Int) (h3 : 3 ≤ h.next) (g0 : h.get 0 = some (.cells 121 0 false [v])) (g1 : h.get 1 = some (.cells 3 0 false [a])) (g2 : h.get 2 = some (.cells 27 0 false [b])) {Q : EX → Fr → AH → Mo → Prop} (hq : ∀ f1 h1, f1.ds = [] → h1.get 0 = some (.cells 121 0 false [.nls]) → h1.get 1 = some (.cells 3 0 false [.int .i64 x]) → h1.get 2 = some (.cells 27 0 false [.int .i64 e]) → Q .normal f1 h1 .rcv) :
    wpS Tryz.prog (globM mx) md Tryz.f153.ntmps ck (layArgs 0 [.ptr 0 1 0, .ptr 1 1 0, .ptr 2 1 0] Fr.none) h (.pan (wrongV x e)) Q := by
  cases hck
  rw [Go.Ac.wpS_seq, wpS_rec _ _ _ _ _ _ _ (by rfl)]
  rw [wpRec_pan (by rfl) (by rfl)]
  simp -implicitDefEqProofs only [wpC_seq, rowsA, if_true, if_false, opnd, ofVal, ofVal1, layArgs, Nat.reduceAdd, reduceIte, Nat.reduceEqDiff, reduceCtorEq, rowsB, cellsG, Nat.reduceMul, wrongV]
  rw [wpRec_op (by rfl) (by rfl)]
  simp -implicitDefEqProofs only [wpC_seq, rowsA, if_true, if_false, opnd, ofVal, ofVal1, layArgs, Nat.reduceAdd, reduceIte, Nat.reduceEqDiff, reduceCtorEq, rowsB, cellsG, Nat.reduceMul, lt14, lt24, lt34, stR1, stR2, stR3, aop_mki, mki148, aop_panic, panO_if, goO_pan, up_up, up_set, nilO_ptr, fda_ptr o152_0, fda_ptr o152_1, fda_ptr o152_2, fda_ptr o152_3, loadO_one ag3 sz3, loadO_one ag9 sz9, loadO_one ag5 sz5, len_str u9, sz3, EndX_normal, EndX_ret, EndX_panic, KS_panic, KB_panic, KI_panic, outX_panic, KE_normal, KE_ret, KE_exit, KE_panic, aop_assert, as148, goR_q]
  rw [wpRec_op (by rfl) (by rfl)]
  simp -implicitDefEqProofs only [wpC_seq, rowsA, if_true, if_false, opnd, ofVal, ofVal1, layArgs, Nat.reduceAdd, reduceIte, Nat.reduceEqDiff, reduceCtorEq, rowsB, cellsG, Nat.reduceMul, lt14, lt24, lt34, stR1, stR2, stR3, aop_mki, mki148, aop_panic, panO_if, goO_pan, up_up, up_set, nilO_ptr, fda_ptr o152_0, fda_ptr o152_1, fda_ptr o152_2, fda_ptr o152_3, loadO_one ag3 sz3, loadO_one ag9 sz9, loadO_one ag5 sz5, len_str u9, sz3, EndX_normal, EndX_ret, EndX_panic, KS_panic, KB_panic, KI_panic, outX_panic, KE_normal, KE_ret, KE_exit, KE_panic, goR_q]
  rw [wpRec_op (by rfl) (by rfl)]
  simp -implicitDefEqProofs only [wpC_seq, rowsA, if_true, if_false, opnd, ofVal, ofVal1, layArgs, Nat.reduceAdd, reduceIte, Nat.reduceEqDiff, reduceCtorEq, rowsB, cellsG, Nat.reduceMul, lt14, lt24, lt34, stR1, stR2, stR3, aop_mki, mki148, aop_panic, panO_if, goO_pan, up_up, up_set, nilO_ptr, fda_ptr o152_0, fda_ptr o152_1, fda_ptr o152_2, fda_ptr o152_3, loadO_one ag3 sz3, loadO_one ag9 sz9, loadO_one ag5 sz5, len_str u9, sz3, EndX_normal, EndX_ret, EndX_panic, KS_panic, KB_panic, KI_panic, outX_panic, KE_normal, KE_ret, KE_exit, KE_panic, goR_q]
  rw [wpRec_op (by rfl) (by rfl)]
  simp -implicitDefEqProofs only [wpC_seq, rowsA, if_true, if_false, opnd, ofVal, ofVal1, layArgs, Nat.reduceAdd, reduceIte, Nat.reduceEqDiff, reduceCtorEq, rowsB, cellsG, Nat.reduceMul, lt14, lt24, lt34, stR1, stR2, stR3, aop_mki, mki148, aop_panic, panO_if, goO_pan, up_up, up_set, nilO_ptr, fda_ptr o152_0, fda_ptr o152_1, fda_ptr o152_2, fda_ptr o152_3, loadO_one ag3 sz3, loadO_one ag9 sz9, loadO_one ag5 sz5, len_str u9, sz3, EndX_normal, EndX_ret, EndX_panic, KS_panic, KB_panic, KI_panic, outX_panic, KE_normal, KE_ret, KE_exit, KE_panic, goR_q]
  rw [wpRec_op (by rfl) (by rfl)]
  simp -implicitDefEqProofs only [wpC_seq, rowsA, if_true, if_false, opnd, ofVal, ofVal1, layArgs, Nat.reduceAdd, reduceIte, Nat.reduceEqDiff, reduceCtorEq, rowsB, cellsG, Nat.reduceMul, lt14, lt24, lt34, stR1, stR2, stR3, aop_mki, mki148, aop_panic, panO_if, goO_pan, up_up, up_set, nilO_ptr, fda_ptr o152_0, fda_ptr o152_1, fda_ptr o152_2, fda_ptr o152_3, loadO_one ag3 sz3, loadO_one ag9 sz9, loadO_one ag5 sz5, len_str u9, sz3, EndX_normal, EndX_ret, EndX_panic, KS_panic, KB_panic, KI_panic, outX_panic, KE_normal, KE_ret, KE_exit, KE_panic, al148, goR_q, goR_w]
  rw [wpRec_op (by rfl) (by rfl)]
  simp -implicitDefEqProofs only [wpC_seq, rowsA, if_true, if_false, opnd, ofVal, ofVal1, layArgs, Nat.reduceAdd, reduceIte, Nat.reduceEqDiff, reduceCtorEq, rowsB, cellsG, Nat.reduceMul, lt14, lt24, lt34, stR1, stR2, stR3, aop_mki, mki148, aop_panic, panO_if, goO_pan, up_up, up_set, nilO_ptr, fda_ptr o152_0, fda_ptr o152_1, fda_ptr o152_2, fda_ptr o152_3, loadO_one ag3 sz3, loadO_one ag9 sz9, loadO_one ag5 sz5, len_str u9, sz3, EndX_normal, EndX_ret, EndX_panic, KS_panic, KB_panic, KI_panic, outX_panic, KE_normal, KE_ret, KE_exit, KE_panic, sz148, st148i, goR_q, goR_w]
  rw [wpRec_op (by rfl) (by rfl)]
  simp -implicitDefEqProofs only [wpC_seq, rowsA, if_true, if_false, opnd, ofVal, ofVal1, layArgs, Nat.reduceAdd, reduceIte, Nat.reduceEqDiff, reduceCtorEq, rowsB, cellsG, Nat.reduceMul, lt14, lt24, lt34, stR1, stR2, stR3, aop_mki, mki148, aop_panic, panO_if, goO_pan, up_up, up_set, nilO_ptr, fda_ptr o152_0, fda_ptr o152_1, fda_ptr o152_2, fda_ptr o152_3, loadO_one ag3 sz3, loadO_one ag9 sz9, loadO_one ag5 sz5, len_str u9, sz3, EndX_normal, EndX_ret, EndX_panic, KS_panic, KB_panic, KI_panic, outX_panic, KE_normal, KE_ret, KE_exit, KE_panic, goR_q, goR_w]
  rw [wpRec_nil, KSS_normal, Go.Ac.wpS_seq, wpS_reg _ _ _ _ _ _ _ _ (by rfl)]
  simp -implicitDefEqProofs only [wpC_seq, rowsA, if_true, if_false, opnd, ofVal, ofVal1, layArgs, Nat.reduceAdd, reduceIte, Nat.reduceEqDiff, reduceCtorEq, rowsB, cellsG, Nat.reduceMul, lt14, lt24, lt34, stR1, stR2, stR3, aop_mki, mki148, aop_panic, panO_if, goO_pan, up_up, up_set, nilO_ptr, fda_ptr o152_0, fda_ptr o152_1, fda_ptr o152_2, fda_ptr o152_3, loadO_one ag3 sz3, loadO_one ag9 sz9, loadO_one ag5 sz5, len_str u9, sz3, EndX_normal, EndX_ret, EndX_panic, KS_panic, KB_panic, KI_panic, outX_panic, KE_normal, KE_ret, KE_exit, KE_panic, KW_normal, KSS_normal]
  rw [Go.Ac.wpS_cond]
  simp -implicitDefEqProofs only [wpC_seq, rowsA, if_true, if_false, opnd, ofVal, ofVal1, layArgs, Nat.reduceAdd, reduceIte, Nat.reduceEqDiff, reduceCtorEq, rowsB, cellsG, Nat.reduceMul, lt14, lt24, lt34, stR1, stR2, stR3, aop_mki, mki148, aop_panic, panO_if, goO_pan, up_up, up_set, nilO_ptr, fda_ptr o152_0, fda_ptr o152_1, fda_ptr o152_2, fda_ptr o152_3, loadO_one ag3 sz3, loadO_one ag9 sz9, loadO_one ag5 sz5, len_str u9, sz3, EndX_normal, EndX_ret, EndX_panic, KS_panic, KB_panic, KI_panic, outX_panic, KE_normal, KE_ret, KE_exit, KE_panic, Go.Ac.wpS_skip]
  rw [wpS_reg _ _ _ _ _ _ _ _ (by rfl)]
  have h05 : (0 = h.next + 5) = False := by simp only [eq_iff_iff, iff_false]; omega
  have h15 : (1 = h.next + 5) = False := by simp only [eq_iff_iff, iff_false]; omega
  have h25 : (2 = h.next + 5) = False := by simp only [eq_iff_iff, iff_false]; omega
  simp -implicitDefEqProofs only [wpC_seq, rowsA, if_true, if_false, opnd, ofVal, ofVal1, layArgs, Nat.reduceAdd, reduceIte, Nat.reduceEqDiff, reduceCtorEq, rowsB, cellsG, Nat.reduceMul, lt14, lt24, lt34, stR1, stR2, stR3, aop_mki, mki148, aop_panic, panO_if, goO_pan, up_up, up_set, nilO_ptr, fda_ptr o152_0, fda_ptr o152_1, fda_ptr o152_2, fda_ptr o152_3, loadO_one ag3 sz3, loadO_one ag9 sz9, loadO_one ag5 sz5, len_str u9, sz3, EndX_normal, EndX_ret, EndX_panic, KS_panic, KB_panic, KI_panic, outX_panic, KE_normal, KE_ret, KE_exit, KE_panic, fda_ptr o148_0, fda_ptr o148_1, loadO_one ag27 sz27, sz27, sz121, h05, h15, h25, g0, g1, g2, stN, lt01, KW_normal]
  rw [goD_sl (by omega) [0, 1, 2, 3] (by kernel_rfl) (by kernel_rfl) ?_ (by kernel_rfl)]
  rotate_left
  · intro j hj
    refine ⟨by omega, fun o ho => ?_⟩
    simp only [List.mem_cons, List.not_mem_nil, or_false] at hj
    rcases hj with rfl | rfl | rfl | rfl
    all_goals
      simp only [List.getElem?_toArray, List.getElem?_cons_zero, List.getElem?_cons_succ, Option.some.injEq] at ho
      subst ho
      simp only [foot_fa, foot_ld, opnd, Fr.at_set, Nat.reduceEqDiff, reduceIte, footV_ptr, List.mem_singleton]
      intro q
      omega
  simp -implicitDefEqProofs only [wpC_seq, rowsA, if_true, if_false, opnd, ofVal, ofVal1, layArgs, Nat.reduceAdd, reduceIte, Nat.reduceEqDiff, reduceCtorEq, rowsB, cellsG, Nat.reduceMul, lt14, lt24, lt34, stR1, stR2, stR3, aop_mki, mki148, aop_panic, panO_if, goO_pan, up_up, up_set, nilO_ptr, fda_ptr o152_0, fda_ptr o152_1, fda_ptr o152_2, fda_ptr o152_3, loadO_one ag3 sz3, loadO_one ag9 sz9, loadO_one ag5 sz5, len_str u9, sz3, EndX_normal, EndX_ret, EndX_panic, KS_panic, KB_panic, KI_panic, outX_panic, KE_normal, KE_ret, KE_exit, KE_panic, gdD_log, foot_st, footV_ptr, sz27, sz121, h05, h15, h25, g0, g1, g2, stN, lt01, KW_normal]
  refine ⟨by kernel_rfl, ?_⟩
  rw [goD_sl (by omega) [2, 3] (by kernel_rfl) (by kernel_rfl) ?_ (by kernel_rfl)]
  rotate_left
  · intro j hj
    refine ⟨by omega, fun o ho => ?_⟩
    simp only [List.mem_cons, List.not_mem_nil, or_false] at hj
    rcases hj with rfl | rfl
    all_goals
      simp only [List.getElem?_toArray, List.getElem?_cons_zero, List.getElem?_cons_succ, Option.some.injEq] at ho
      subst ho
      simp only [foot_fa, foot_ld, opnd, Fr.at_set, Nat.reduceEqDiff, reduceIte, footV_ptr, List.mem_singleton]
      intro q
      omega
  simp -implicitDefEqProofs only [wpC_seq, rowsA, if_true, if_false, opnd, ofVal, ofVal1, layArgs, Nat.reduceAdd, reduceIte, Nat.reduceEqDiff, reduceCtorEq, rowsB, cellsG, Nat.reduceMul, lt14, lt24, lt34, stR1, stR2, stR3, aop_mki, mki148, aop_panic, panO_if, goO_pan, up_up, up_set, nilO_ptr, fda_ptr o152_0, fda_ptr o152_1, fda_ptr o152_2, fda_ptr o152_3, loadO_one ag3 sz3, loadO_one ag9 sz9, loadO_one ag5 sz5, len_str u9, sz3, EndX_normal, EndX_ret, EndX_panic, KS_panic, KB_panic, KI_panic, outX_panic, KE_normal, KE_ret, KE_exit, KE_panic, gdD_log, foot_st, footV_ptr, sz27, sz121, h05, h15, h25, g0, g1, g2, stN, lt01, KW_normal]
  refine ⟨by kernel_rfl, ?_⟩
  rw [goD_w, if_neg (by omega)]
  refine ⟨by rw [ford]; rw [show fore _ _ = true from by kernel_rfl]; rfl, ?_⟩
  simp -implicitDefEqProofs only [wpC_seq, rowsA, if_true, if_false, opnd, ofVal, ofVal1, layArgs, Nat.reduceAdd, reduceIte, Nat.reduceEqDiff, reduceCtorEq, rowsB, cellsG, Nat.reduceMul, lt14, lt24, lt34, stR1, stR2, stR3, aop_mki, mki148, aop_panic, panO_if, goO_pan, up_up, up_set, nilO_ptr, fda_ptr o152_0, fda_ptr o152_1, fda_ptr o152_2, fda_ptr o152_3, loadO_one ag3 sz3, loadO_one ag9 sz9, loadO_one ag5 sz5, len_str u9, sz3, EndX_normal, EndX_ret, EndX_panic, KS_panic, KB_panic, KI_panic, outX_panic, KE_normal, KE_ret, KE_exit, KE_panic, KW_normal]
  refine hq _ _ rfl ?_ ?_ ?_
  · simp only [AH.get_set, Nat.reduceEqDiff, if_true, if_false]
  · simp only [AH.get_set, Nat.reduceEqDiff, if_true, if_false]
  · simp only [AH.get_set, Nat.reduceEqDiff, if_true, if_false]
theorem frzT {dd id n sz : Nat} {E : TypeId} {fz : Bool} {c : List PV} {h : AH} (hg : h.get id = some (.cells E sz fz c)) (hc : c.length = n * sz) (hcl : PV.cleans c = true) : frz (dd + 1) (.ow id (n * sz) 0 n) h = some (.ro c n, h.set id (.cells E sz true c)) := by
  rw [frz, if_neg (by simp [PV.clean])]
  simp only [hg]
  rw [if_pos ⟨hc, by omega⟩, show ((c.drop 0).take (n * sz)) = c by simp [← hc], frzL_clean c _ hcl]
theorem frz_tkD {dd id n : Nat} {E : TypeId} {fz : Bool} {c : List PV} {h : AH} {a b : Int} (hg : h.get id = some (.cells E 4 fz c)) (hc : c.length = n * 4) (hcl : PV.cleans c = true) : frz (dd + 2) (.tup [.ow id (n * 4) 0 n, .int .i64 a, .int .i64 b]) h = some (.tup [.ro c n, .int .i64 a, .int .i64 b], h.set id (.cells E 4 true c)) := by
  have e1 : ∀ (x : Int) (h : AH), frz (dd + 1) (.int .i64 x) h = some (.int .i64 x, h) := fun s h => frz_clean h rfl
  rw [frz, if_neg (by simp [PV.clean, PV.cleans])]
  simp only [frzL, e1, frzT (dd := dd) hg hc hcl]
theorem frz_tks {id n : Nat} {E : TypeId} {fz : Bool} {c : List PV} {h : AH} {a b : Int} (hg : h.get id = some (.cells E 4 fz c)) (hc : c.length = n * 4) (hcl : PV.cleans c = true) : frz 100 (.tup [.ow id (n * 4) 0 n, .int .i64 a, .int .i64 b]) h = some (.tup [.ro c n, .int .i64 a, .int .i64 b], h.set id (.cells E 4 true c)) := frz_tkD (dd := 98) hg hc hcl
/-- What the list of tokens comes to. -/
def ReadG (u : PV) : Prop := ∃ row n e, u = .tup [row, .int .i64 n, .int .i64 e] ∧ row.clean = true ∧ (e = 0 → row = .nls ∨ ∃ ts, ts ≠ [] ∧ row = rowV Tkn.pv ts)
def ReadI (F : Fr) : Prop := F.at 2 = .ptr 0 1 0 ∧ F.at 3 = .ptr 1 1 0 ∧ F.at 4 = .ptr 2 1 0 ∧ F.at 12 = .fn (.func 165) [] [.ptr 11 1 0] ∧ F.ds = [.call 153 [.ptr 0 1 0, .ptr 1 1 0, .ptr 2 1 0]]
theorem read_c (s : List UInt8) (hl : s.length ≤ 16384) : ∃ u, ReadG u ∧ ∀ (h : AH) (fr : Nat), CR Tryz.prog (globM mx) md (.fn 144) [.str s] h fr (.val u) := by
  refine CR.someE Tryz.func144 rfl rfl rfl rfl (ends_mark (k := 153) (dargs := [.ptr 0 1 0, .ptr 1 1 0, .ptr 2 1 0]) (rs := [.cell 2 121, .cell 3 3, .cell 4 27]) (Q := fun v h => ∃ u h', frz 100 v h = some (u, h') ∧ ReadG u) Tryz.func153 rfl rfl rfl (fun v h' ⟨u, h2, q1, q2⟩ => ⟨v, h', u, h2, rfl, q1, q2⟩) ?_)
  simp -implicitDefEqProofs only [wpC_seq, rowsA, if_true, if_false, opnd, ofVal, ofVal1, layArgs, Nat.reduceAdd, reduceIte, Nat.reduceEqDiff, reduceCtorEq, rowsB, cellsG, Nat.reduceMul, lt14, lt24, lt34, stR1, stR2, stR3, aop_mki, mki148, aop_panic, panO_if, goO_pan, up_up, up_set, nilO_ptr, fda_ptr o152_0, fda_ptr o152_1, fda_ptr o152_2, fda_ptr o152_3, loadO_one ag3 sz3, loadO_one ag9 sz9, loadO_one ag5 sz5, len_str u9, sz3, EndX_normal, EndX_ret, EndX_panic, KS_panic, KB_panic, KI_panic, outX_panic, KE_normal, KE_ret, KE_exit, KE_panic, al121, al3, al27, aop_dfr, deferV_func, goO_dfr, Fr.at_dfr, bl152]
  refine goO_val (all_v 7 11 rfl) ?_
  rintro v2 h2 ⟨rfl, e2, n2⟩
  simp -implicitDefEqProofs only [wpC_seq, rowsA, if_true, if_false, opnd, ofVal, ofVal1, layArgs, Nat.reduceAdd, reduceIte, Nat.reduceEqDiff, reduceCtorEq, rowsB, cellsG, Nat.reduceMul, lt14, lt24, lt34, stR1, stR2, stR3, aop_mki, mki148, aop_panic, panO_if, goO_pan, up_up, up_set, nilO_ptr, fda_ptr o152_0, fda_ptr o152_1, fda_ptr o152_2, fda_ptr o152_3, loadO_one ag3 sz3, loadO_one ag9 sz9, loadO_one ag5 sz5, len_str u9, sz3, EndX_normal, EndX_ret, EndX_panic, KS_panic, KB_panic, KI_panic, outX_panic, KE_normal, KE_ret, KE_exit, KE_panic]
  refine wpC_gen ReadI ⟨?_, ?_, ?_, ?_, ?_⟩ ?_
  · simp only [Fr.at_set, Fr.at_dfr, Nat.reduceEqDiff, reduceIte, reduceCtorEq]
  · simp only [Fr.at_set, Fr.at_dfr, Nat.reduceEqDiff, reduceIte, reduceCtorEq]
  · simp only [Fr.at_set, Fr.at_dfr, Nat.reduceEqDiff, reduceIte, reduceCtorEq]
  · simp only [Fr.at_set, Fr.at_dfr, Nat.reduceEqDiff, reduceIte, reduceCtorEq]
  · simp only [Fr.ds_set, Fr.ds_dfr]; rfl
  rintro F ⟨f2, f3, f4, f12, fd⟩
  refine wpC_rangeSC (k := 165) (first := []) (captured := [.ptr 11 1 0]) (fun ob => AllQ ob 7 11 0 1 2 h2.next s) f12 rfl (all1_sc ?_ ⟨by decide, by decide, by decide, by decide, n2, ?_, ?_, ?_, ?_, ?_, ?_, ?_, rfl, ?_⟩ hl) ?_ ?_
  · -- a round
    clear e2 n2
    generalize h2.next = l
    intro h a f n M k t x y A hM
    refine rnd_of A rfl ?_
    have o5 := A.o5
    have o6 := A.o6
    have hn1 : (l = h.next) = False := by simp only [eq_iff_iff, iff_false]; omega
    have h0l : (0 = l) = False := by simp only [eq_iff_iff, iff_false]; omega
    have h0n : (0 = h.next) = False := by simp only [eq_iff_iff, iff_false]; omega
    have hl4 : (h.next + 2 + 2 = l) = False := by simp only [eq_iff_iff, iff_false]; omega
    have hn4 : (h.next + 2 + 2 = h.next) = False := by simp only [eq_iff_iff, iff_false]; omega
    have hnl : (h.next = l) = False := by simp only [eq_iff_iff, iff_false]; omega
    have h04 : (0 = h.next + 2 + 2) = False := by simp only [eq_iff_iff, iff_false]; omega
    have h05 : (0 = h.next + 2 + 3) = False := by simp only [eq_iff_iff, iff_false]; omega
    obtain ⟨ts, ht1, ht2⟩ := A.tl
    rcases ht2 with ⟨rfl, g0⟩ | ⟨L, q1, q2, q3, q4, q5⟩
    · simp -implicitDefEqProofs only [wpC_seq, rowsA, if_true, if_false, opnd, ofVal, ofVal1, layArgs, Nat.reduceAdd, reduceIte, Nat.reduceEqDiff, reduceCtorEq, rowsB, cellsG, Nat.reduceMul, lt14, lt24, lt34, stR1, stR2, stR3, aop_mki, mki148, aop_panic, panO_if, goO_pan, up_up, up_set, nilO_ptr, fda_ptr o152_0, fda_ptr o152_1, fda_ptr o152_2, fda_ptr o152_3, loadO_one ag3 sz3, loadO_one ag9 sz9, loadO_one ag5 sz5, len_str u9, sz3, EndX_normal, EndX_ret, EndX_panic, KS_panic, KB_panic, KI_panic, outX_panic, KE_normal, KE_ret, KE_exit, KE_panic, al125, layTo, Fr.at_mk, List.zip_cons_cons, List.zip_nil_right, sz125, st125', hn1, wpC_regionR, RndQ_normal, A.lo, f2, h0l, h0n, hl4, hn4, hnl, h04, h05, g0, loadO_one ag121 sz121, ld125, bd121]
      rw [ap121n (c := [.int .i64 k, .str t, .int .i64 x, .int .i64 y]) (fz := false)]
      rotate_left
      · simp only [AH.get_set, if_true]
      · rfl
      simp -implicitDefEqProofs only [wpC_seq, rowsA, if_true, if_false, opnd, ofVal, ofVal1, layArgs, Nat.reduceAdd, reduceIte, Nat.reduceEqDiff, reduceCtorEq, rowsB, cellsG, Nat.reduceMul, lt14, lt24, lt34, stR1, stR2, stR3, aop_mki, mki148, aop_panic, panO_if, goO_pan, up_up, up_set, nilO_ptr, fda_ptr o152_0, fda_ptr o152_1, fda_ptr o152_2, fda_ptr o152_3, loadO_one ag3 sz3, loadO_one ag9 sz9, loadO_one ag5 sz5, len_str u9, sz3, EndX_normal, EndX_ret, EndX_panic, KS_panic, KB_panic, KI_panic, outX_panic, KE_normal, KE_ret, KE_exit, KE_panic, Fr.at_mk, f2, h0l, h0n, h04, h05, g0, sz121, stW, RndE_normal]
      refine ⟨A.o1, A.o2, A.o3, A.o4, A.o5, ?_, ?_, ?_, ?_, ?_, ?_, ?_, rfl, ?_⟩
      · simp only [AH.next_set, AH.next_up]; omega
      · repeat rw [AH.get_set_ne _ _ _ _ (by omega)]
        rw [AH.get_up]; exact A.rd
      · repeat rw [AH.get_set_ne _ _ _ _ (by omega)]
        rw [AH.get_up]; exact A.cc
      · repeat rw [AH.get_set_ne _ _ _ _ (by omega)]
        rw [AH.get_up]; exact A.t3
      · repeat rw [AH.get_set_ne _ _ _ _ (by omega)]
        rw [AH.get_up]; exact A.t4
      · repeat rw [AH.get_set_ne _ _ _ _ (by omega)]
        rw [AH.get_set_same]
      · repeat rw [AH.get_set_ne _ _ _ _ (by omega)]
        rw [AH.get_up]; exact A.dm
      · refine ⟨[⟨k, t, x, y⟩], by simp, .inr ⟨h.next + 2 + 3, by omega, by simp only [AH.next_set, AH.next_up]; omega, by simp, ?_, ?_⟩⟩
        · rw [AH.get_set_same]; rfl
        · rw [AH.get_set_ne _ _ _ _ (by omega), AH.get_set_same]; rfl
    · have h0L : (0 = L) = False := by simp only [eq_iff_iff, iff_false]; omega
      simp -implicitDefEqProofs only [wpC_seq, rowsA, if_true, if_false, opnd, ofVal, ofVal1, layArgs, Nat.reduceAdd, reduceIte, Nat.reduceEqDiff, reduceCtorEq, rowsB, cellsG, Nat.reduceMul, lt14, lt24, lt34, stR1, stR2, stR3, aop_mki, mki148, aop_panic, panO_if, goO_pan, up_up, up_set, nilO_ptr, fda_ptr o152_0, fda_ptr o152_1, fda_ptr o152_2, fda_ptr o152_3, loadO_one ag3 sz3, loadO_one ag9 sz9, loadO_one ag5 sz5, len_str u9, sz3, EndX_normal, EndX_ret, EndX_panic, KS_panic, KB_panic, KI_panic, outX_panic, KE_normal, KE_ret, KE_exit, KE_panic, al125, layTo, Fr.at_mk, List.zip_cons_cons, List.zip_nil_right, sz125, st125', hn1, wpC_regionR, RndQ_normal, A.lo, f2, h0l, h0n, hl4, hn4, hnl, h04, h05, q4, loadO_one ag121 sz121, ld125, bd121]
      rw [ap121 (d := flat Tkn.pv ts) (c := [.int .i64 k, .str t, .int .i64 x, .int .i64 y]) (fz := false) (m := ts.length)]
      rotate_left
      · repeat rw [AH.get_set_ne _ _ _ _ (by omega)]
        rw [AH.get_up]; exact q5
      · exact tk_len ts
      · simp only [AH.get_set, if_true]
      · rfl
      · omega
      simp -implicitDefEqProofs only [wpC_seq, rowsA, if_true, if_false, opnd, ofVal, ofVal1, layArgs, Nat.reduceAdd, reduceIte, Nat.reduceEqDiff, reduceCtorEq, rowsB, cellsG, Nat.reduceMul, lt14, lt24, lt34, stR1, stR2, stR3, aop_mki, mki148, aop_panic, panO_if, goO_pan, up_up, up_set, nilO_ptr, fda_ptr o152_0, fda_ptr o152_1, fda_ptr o152_2, fda_ptr o152_3, loadO_one ag3 sz3, loadO_one ag9 sz9, loadO_one ag5 sz5, len_str u9, sz3, EndX_normal, EndX_ret, EndX_panic, KS_panic, KB_panic, KI_panic, outX_panic, KE_normal, KE_ret, KE_exit, KE_panic, Fr.at_mk, f2, h0l, h0n, h04, h05, h0L, q4, sz121, stW, RndE_normal]
      refine ⟨A.o1, A.o2, A.o3, A.o4, A.o5, ?_, ?_, ?_, ?_, ?_, ?_, ?_, rfl, ?_⟩
      · simp only [AH.next_set, AH.next_up]; omega
      · repeat rw [AH.get_set_ne _ _ _ _ (by omega)]
        rw [AH.get_up]; exact A.rd
      · repeat rw [AH.get_set_ne _ _ _ _ (by omega)]
        rw [AH.get_up]; exact A.cc
      · repeat rw [AH.get_set_ne _ _ _ _ (by omega)]
        rw [AH.get_up]; exact A.t3
      · repeat rw [AH.get_set_ne _ _ _ _ (by omega)]
        rw [AH.get_up]; exact A.t4
      · repeat rw [AH.get_set_ne _ _ _ _ (by omega)]
        rw [AH.get_set_same]
      · repeat rw [AH.get_set_ne _ _ _ _ (by omega)]
        rw [AH.get_up]; exact A.dm
      · refine ⟨ts ++ [⟨k, t, x, y⟩], by rw [List.length_append, List.length_singleton]; omega, .inr ⟨L, q1, by simp only [AH.next_set, AH.next_up]; omega, by simp, ?_, ?_⟩⟩
        · rw [AH.get_set_same, List.length_append, List.length_singleton]
        · rw [AH.get_set_ne _ _ _ _ (by omega), AH.get_set_same, flat_snoc]; rfl
  · simp only [AH.next_set, AH.next_up]; omega
  · repeat rw [AH.get_set_ne _ _ _ _ (by omega)]
    rw [AH.get_up, e2.1]
    simp only [AH.get_set, Nat.reduceEqDiff, if_true, if_false]; rfl
  · repeat rw [AH.get_set_ne _ _ _ _ (by omega)]
    rw [AH.get_up, e2.1]
    simp only [AH.get_set, Nat.reduceEqDiff, if_true, if_false]
  · repeat rw [AH.get_set_ne _ _ _ _ (by omega)]
    rw [AH.get_up, e2.1]
    simp only [AH.get_set, Nat.reduceEqDiff, if_true, if_false]
  · repeat rw [AH.get_set_ne _ _ _ _ (by omega)]
    rw [AH.get_up, e2.1]
    simp only [AH.get_set, Nat.reduceEqDiff, if_true, if_false]
  · rw [AH.get_set_ne _ _ _ _ (by omega), AH.get_set_same]
  · rw [AH.get_set_same]
  · refine ⟨[], by simp, .inl ⟨rfl, ?_⟩⟩
    repeat rw [AH.get_set_ne _ _ _ _ (by omega)]
    rw [AH.get_up, e2.1]
    simp only [AH.get_set, Nat.reduceEqDiff, if_true, if_false]
  · rintro v h3 ⟨⟨a, f, n, M, A⟩, hv, _⟩
    refine ⟨A.lo, fun o => ?_⟩
    have o5 := A.o5
    have o6 := A.o6
    have h0l : (0 = h2.next) = False := by simp only [eq_iff_iff, iff_false]; omega
    have h1l : (1 = h2.next) = False := by simp only [eq_iff_iff, iff_false]; omega
    have h2l : (2 = h2.next) = False := by simp only [eq_iff_iff, iff_false]; omega
    have hml : (h2.next + 1 = h2.next) = False := by simp only [eq_iff_iff, iff_false]; omega
    have hm0 : (h2.next + 1 = 0) = False := by simp only [eq_iff_iff, iff_false]; omega
    have hm1 : (h2.next + 1 = 1) = False := by simp only [eq_iff_iff, iff_false]; omega
    have hm2 : (h2.next + 1 = 2) = False := by simp only [eq_iff_iff, iff_false]; omega
    obtain ⟨ts, ht1, ht2⟩ := A.tl
    rcases ht2 with ⟨rfl, g0⟩ | ⟨L, q1, q2, q3, q4, q5⟩
    · simp -implicitDefEqProofs only [wpC_seq, rowsA, if_true, if_false, opnd, ofVal, ofVal1, layArgs, Nat.reduceAdd, reduceIte, Nat.reduceEqDiff, reduceCtorEq, rowsB, cellsG, Nat.reduceMul, lt14, lt24, lt34, stR1, stR2, stR3, aop_mki, mki148, aop_panic, panO_if, goO_pan, up_up, up_set, nilO_ptr, fda_ptr o152_0, fda_ptr o152_1, fda_ptr o152_2, fda_ptr o152_3, loadO_one ag3 sz3, loadO_one ag9 sz9, loadO_one ag5 sz5, len_str u9, sz3, EndX_normal, EndX_ret, EndX_panic, KS_panic, KB_panic, KI_panic, outX_panic, KE_normal, KE_ret, KE_exit, KE_panic, Fr.at_mrk, f2, f3, f4, h0l, h1l, h2l, g0, A.t3, A.t4, loadO_one ag121 sz121, sz121, sz27, stN, lt01]
      refine ⟨h2.next + 1, ?_, ?_, .ret, rfl, ?_⟩
      · simp only [Fr.ds_set, Fr.ds_mrk, fd]
      · simp only [AH.get_set, AH.get_up, hml, hm0, hm1, hm2, if_false]; exact A.dm
      refine dfr_ret rfl (by simp only [AH.next_set, AH.next_up]; omega) fun f1 h1 d1 k1 => ?_
      have k2 := k1 0 (by simp only [AH.next_set, AH.next_up]; omega)
      have k3 := k1 1 (by simp only [AH.next_set, AH.next_up]; omega)
      have k4 := k1 2 (by simp only [AH.next_set, AH.next_up]; omega)
      have z0 : (0 = h2.next + 1) = False := by simp only [eq_iff_iff, iff_false]; omega
      have z1 : (1 = h2.next + 1) = False := by simp only [eq_iff_iff, iff_false]; omega
      have z2 : (2 = h2.next + 1) = False := by simp only [eq_iff_iff, iff_false]; omega
      simp only [AH.get_set, Nat.reduceEqDiff, if_true, if_false, z0, z1, z2] at k2 k3 k4
      refine ⟨.inl rfl, d1, rfl, rfl, ?_⟩
      simp -implicitDefEqProofs only [wpC_seq, rowsA, if_true, if_false, opnd, ofVal, ofVal1, layArgs, Nat.reduceAdd, reduceIte, Nat.reduceEqDiff, reduceCtorEq, rowsB, cellsG, Nat.reduceMul, lt14, lt24, lt34, stR1, stR2, stR3, aop_mki, mki148, aop_panic, panO_if, goO_pan, up_up, up_set, nilO_ptr, fda_ptr o152_0, fda_ptr o152_1, fda_ptr o152_2, fda_ptr o152_3, loadO_one ag3 sz3, loadO_one ag9 sz9, loadO_one ag5 sz5, len_str u9, sz3, EndX_normal, EndX_ret, EndX_panic, KS_panic, KB_panic, KI_panic, outX_panic, KE_normal, KE_ret, KE_exit, KE_panic, Fr.at_mrk, f2, f3, f4, k2, k3, k4, loadO_one ag121 sz121, loadO_one ag27 sz27]
      exact ⟨_, rfl, _, h1, frz_clean _ rfl, .nls, 0, 0, rfl, rfl, fun _ => .inl rfl⟩
    · have h0L : (0 = L) = False := by simp only [eq_iff_iff, iff_false]; omega
      simp -implicitDefEqProofs only [wpC_seq, rowsA, if_true, if_false, opnd, ofVal, ofVal1, layArgs, Nat.reduceAdd, reduceIte, Nat.reduceEqDiff, reduceCtorEq, rowsB, cellsG, Nat.reduceMul, lt14, lt24, lt34, stR1, stR2, stR3, aop_mki, mki148, aop_panic, panO_if, goO_pan, up_up, up_set, nilO_ptr, fda_ptr o152_0, fda_ptr o152_1, fda_ptr o152_2, fda_ptr o152_3, loadO_one ag3 sz3, loadO_one ag9 sz9, loadO_one ag5 sz5, len_str u9, sz3, EndX_normal, EndX_ret, EndX_panic, KS_panic, KB_panic, KI_panic, outX_panic, KE_normal, KE_ret, KE_exit, KE_panic, Fr.at_mrk, f2, f3, f4, h0l, h1l, h2l, q4, A.t3, A.t4, loadO_one ag121 sz121, sz121, sz27, stW, lt01]
      refine ⟨h2.next + 1, ?_, ?_, .ret, rfl, ?_⟩
      · simp only [Fr.ds_set, Fr.ds_mrk, fd]
      · simp only [AH.get_set, AH.get_up, hml, hm0, hm1, hm2, if_false]; exact A.dm
      refine dfr_ret rfl (by simp only [AH.next_set, AH.next_up]; omega) fun f1 h1 d1 k1 => ?_
      have k2 := k1 0 (by simp only [AH.next_set, AH.next_up]; omega)
      have k3 := k1 1 (by simp only [AH.next_set, AH.next_up]; omega)
      have k4 := k1 2 (by simp only [AH.next_set, AH.next_up]; omega)
      have k5 := k1 L (by simp only [AH.next_set, AH.next_up]; omega)
      have z0 : (0 = h2.next + 1) = False := by simp only [eq_iff_iff, iff_false]; omega
      have z1 : (1 = h2.next + 1) = False := by simp only [eq_iff_iff, iff_false]; omega
      have z2 : (2 = h2.next + 1) = False := by simp only [eq_iff_iff, iff_false]; omega
      have z3 : (L = h2.next + 1) = False := by simp only [eq_iff_iff, iff_false]; omega
      have z4 : (L = h2.next) = False := by simp only [eq_iff_iff, iff_false]; omega
      have z5 : (L = 0) = False := by simp only [eq_iff_iff, iff_false]; omega
      have z6 : (L = 1) = False := by simp only [eq_iff_iff, iff_false]; omega
      have z7 : (L = 2) = False := by simp only [eq_iff_iff, iff_false]; omega
      simp only [AH.get_set, AH.get_up, Nat.reduceEqDiff, if_true, if_false, z0, z1, z2, z3, z4, z5, z6, z7, q5] at k2 k3 k4 k5
      refine ⟨.inl rfl, d1, rfl, rfl, ?_⟩
      simp -implicitDefEqProofs only [wpC_seq, rowsA, if_true, if_false, opnd, ofVal, ofVal1, layArgs, Nat.reduceAdd, reduceIte, Nat.reduceEqDiff, reduceCtorEq, rowsB, cellsG, Nat.reduceMul, lt14, lt24, lt34, stR1, stR2, stR3, aop_mki, mki148, aop_panic, panO_if, goO_pan, up_up, up_set, nilO_ptr, fda_ptr o152_0, fda_ptr o152_1, fda_ptr o152_2, fda_ptr o152_3, loadO_one ag3 sz3, loadO_one ag9 sz9, loadO_one ag5 sz5, len_str u9, sz3, EndX_normal, EndX_ret, EndX_panic, KS_panic, KB_panic, KI_panic, outX_panic, KE_normal, KE_ret, KE_exit, KE_panic, Fr.at_mrk, f2, f3, f4, k2, k3, k4, loadO_one ag121 sz121, loadO_one ag27 sz27]
      refine ⟨_, rfl, _, _, frz_tks k5 (tk_len ts) (flat_clean (fun _ => rfl) ts), rowV Tkn.pv ts, 0, 0, rfl, rfl, fun _ => .inr ⟨ts, List.length_pos_iff.1 q3, rfl⟩⟩
  · rintro v h3 ⟨⟨a, f, n, M, A⟩, _, hv⟩
    obtain ⟨x, e, e0, rfl⟩ := hv rfl
    have o5 := A.o5
    have o6 := A.o6
    have h0l : ¬ (0 = h2.next + 1) := by omega
    have h1l : ¬ (1 = h2.next + 1) := by omega
    have h2l : ¬ (2 = h2.next + 1) := by omega
    simp -implicitDefEqProofs only [lt14, lt24, lt34, stR1, stR2, stR3, aop_mki, mki148, aop_panic, panO_if, goO_pan, up_up, up_set, nilO_ptr, fda_ptr o152_0, fda_ptr o152_1, fda_ptr o152_2, fda_ptr o152_3, loadO_one ag3 sz3, loadO_one ag9 sz9, loadO_one ag5 sz5, len_str u9, sz3, EndX_normal, EndX_ret, EndX_panic, KS_panic, KB_panic, KI_panic, outX_panic, KE_normal, KE_ret, KE_exit, KE_panic]
    refine ⟨h2.next + 1, by rw [Fr.ds_mrk, fd], A.dm, _, rfl, ?_⟩
    obtain ⟨v0, gv⟩ : ∃ v0, h3.get 0 = some (.cells 121 0 false [v0]) := by
      obtain ⟨ts, ht1, ht2⟩ := A.tl
      rcases ht2 with ⟨_, g0⟩ | ⟨L, _, _, _, q4, _⟩
      · exact ⟨_, g0⟩
      · exact ⟨_, q4⟩
    refine dfr_pan (v := v0) (a := .int .i64 0) (b := .int .i64 0) rfl x e (by rw [AH.next_set]; omega) (by rw [AH.get_set_ne _ _ _ _ h0l]; exact gv) (by rw [AH.get_set_ne _ _ _ _ h1l]; exact A.t3) (by rw [AH.get_set_ne _ _ _ _ h2l]; exact A.t4) fun f1 h1 d1 k0 k1 k2 => ?_
    refine ⟨.inl rfl, d1, rfl, rfl, ?_⟩
    simp -implicitDefEqProofs only [wpC_seq, rowsA, if_true, if_false, opnd, ofVal, ofVal1, layArgs, Nat.reduceAdd, reduceIte, Nat.reduceEqDiff, reduceCtorEq, rowsB, cellsG, Nat.reduceMul, lt14, lt24, lt34, stR1, stR2, stR3, aop_mki, mki148, aop_panic, panO_if, goO_pan, up_up, up_set, nilO_ptr, fda_ptr o152_0, fda_ptr o152_1, fda_ptr o152_2, fda_ptr o152_3, loadO_one ag3 sz3, loadO_one ag9 sz9, loadO_one ag5 sz5, len_str u9, sz3, EndX_normal, EndX_ret, EndX_panic, KS_panic, KB_panic, KI_panic, outX_panic, KE_normal, KE_ret, KE_exit, KE_panic, Fr.at_mrk, f2, f3, f4, k0, k1, k2, loadO_one ag121 sz121, loadO_one ag27 sz27]
    exact ⟨_, rfl, _, h1, frz_clean _ rfl, .nls, x, e, rfl, rfl, fun q => absurd q e0⟩
end Go.Proofs.YtcbngkmmmfaaoaaGreatDoor
/-
  LEXER, L14: is that a name? Always an answer.
-/
namespace Go.Proofs.YtcbngkmmmfaaoaaGreatDoor
open Go.RowKit Go.Lib Go.Ac
set_option linter.unusedSimpArgs false
set_option maxRecDepth 100000
variable {mx : Int}
theorem tokens_c (s : List UInt8) (hs : s.length ≤ 9223372036854775807) : ∃ u, ReadG u ∧ ∀ (h : AH) (fr : Nat), CR Tryz.prog (globM mx) md (.fn 131) [.str s] h fr (.val u) := by
  by_cases c1 : (s.length : Int) > 16384
  · refine ⟨.tup [.nls, .int .i64 0, .int .i64 54], ⟨.nls, 0, 54, rfl, rfl, fun q => absurd q (by decide)⟩, fun h fr => ?_⟩
    refine CR.plain (rs := [.tmp 2, .tmp 3, .tmp 4]) Tryz.func131 rfl rfl rfl rfl rfl rfl rfl ?_ h fr
    simp -implicitDefEqProofs only [wpC_seq, rowsA, if_true, if_false, opnd, ofVal, ofVal1, layArgs, Nat.reduceAdd, reduceIte, Nat.reduceEqDiff, reduceCtorEq, rowsB, cellsG, Nat.reduceMul, len_str u9, c1]
    rfl
  · obtain ⟨u, ⟨row, n, e, rfl, hcl, hr⟩, hc⟩ := read_c (mx := mx) s (by omega)
    refine ⟨_, ⟨row, n, e, rfl, hcl, hr⟩, fun h fr => ?_⟩
    refine CR.plain (rs := [.tmp 2, .tmp 3, .tmp 4]) Tryz.func131 rfl rfl rfl rfl rfl rfl (by simp [PV.clean, PV.cleans, hcl]) ?_ h fr
    simp -implicitDefEqProofs only [wpC_seq, rowsA, if_true, if_false, opnd, ofVal, ofVal1, layArgs, Nat.reduceAdd, reduceIte, Nat.reduceEqDiff, reduceCtorEq, rowsB, cellsG, Nat.reduceMul, len_str u9, c1, goO_known hc]
    rfl
theorem len_ro121 (c : List PV) (n : Nat) : lenO Tryz.prog [.ro c n] [121] = some (.q (.int .i64 n)) := len_ro u121
theorem ldT (o : Tkn) (h : AH) : idaO Tryz.prog h 121 (rowV Tkn.pv [o]) (.int .i64 0) = some (.q (.rop [.int .i64 o.k, .str o.t, .int .i64 o.x, .int .i64 o.y])) := by
  rw [rowV, ida_roN u121 sz125 (by omega) (by simp)]
  rfl
theorem lenT (o : Tkn) : lenO Tryz.prog [rowV Tkn.pv [o]] [121] = some (.q (.int .i64 1)) := len_ro u121
theorem ne01 : decide ((0 : Int) = 1) = false := rfl
theorem eq11 : decide ((1 : Int) = 1) = true := rfl
theorem one_c (s : List UInt8) (hs : s.length ≤ 9223372036854775807) : ∃ z, ∀ (h : AH) (fr : Nat), CR Tryz.prog (globM mx) md (.fn 126) [.str s] h fr (.val (.int .i64 z)) := by
  obtain ⟨u, ⟨row, n, e, rfl, hcl, hr⟩, hc⟩ := tokens_c (mx := mx) s hs
  by_cases c1 : e = 0
  · rcases hr c1 with rfl | ⟨ts, hts, rfl⟩
    · refine ⟨-1, fun h fr => CR.plain (rs := [.tmp 2]) Tryz.func126 rfl rfl rfl rfl rfl rfl rfl ?_ h fr⟩
      simp -implicitDefEqProofs only [wpC_seq, rowsA, if_true, if_false, opnd, ofVal, ofVal1, layArgs, Nat.reduceAdd, reduceIte, Nat.reduceEqDiff, reduceCtorEq, rowsB, cellsG, Nat.reduceMul, goO_known hc, c1, len_nls u121, ne01]
    · by_cases c2 : (ts.length : Int) = 1
      · obtain ⟨o, rfl⟩ : ∃ o, ts = [o] := by
          match ts, c2 with
          | [o], _ => exact ⟨o, rfl⟩
          | _ :: _ :: _, q => simp only [List.length_cons] at q; omega
          | [], _ => exact absurd rfl hts
        have hlen : ((([o] : List Tkn).length : Nat) : Int) = 1 := rfl
        by_cases c3 : o.x > 0
        · refine ⟨-1, fun h fr => CR.plain (rs := [.tmp 2]) Tryz.func126 rfl rfl rfl rfl rfl rfl rfl ?_ h fr⟩
          simp -implicitDefEqProofs only [wpC_seq, rowsA, if_true, if_false, opnd, ofVal, ofVal1, layArgs, Nat.reduceAdd, reduceIte, Nat.reduceEqDiff, reduceCtorEq, rowsB, cellsG, Nat.reduceMul, goO_known hc, c1, lenT, ldT, ne01, eq11, fda_rop o125_0, fda_rop o125_2, fda_rop o125_3, loadO_one ag3 sz3, len_str u9, c3]
        · by_cases c4 : o.y < (s.length : Int)
          · refine ⟨-1, fun h fr => CR.plain (rs := [.tmp 2]) Tryz.func126 rfl rfl rfl rfl rfl rfl rfl ?_ h fr⟩
            simp -implicitDefEqProofs only [wpC_seq, rowsA, if_true, if_false, opnd, ofVal, ofVal1, layArgs, Nat.reduceAdd, reduceIte, Nat.reduceEqDiff, reduceCtorEq, rowsB, cellsG, Nat.reduceMul, goO_known hc, c1, lenT, ldT, ne01, eq11, fda_rop o125_0, fda_rop o125_2, fda_rop o125_3, loadO_one ag3 sz3, len_str u9, c3, c4]
          · refine ⟨o.k, fun h fr => CR.plain (rs := [.tmp 2]) Tryz.func126 rfl rfl rfl rfl rfl rfl rfl ?_ h fr⟩
            simp -implicitDefEqProofs only [wpC_seq, rowsA, if_true, if_false, opnd, ofVal, ofVal1, layArgs, Nat.reduceAdd, reduceIte, Nat.reduceEqDiff, reduceCtorEq, rowsB, cellsG, Nat.reduceMul, goO_known hc, c1, lenT, ldT, ne01, eq11, fda_rop o125_0, fda_rop o125_2, fda_rop o125_3, loadO_one ag3 sz3, len_str u9, c3, c4]
      · refine ⟨-1, fun h fr => CR.plain (rs := [.tmp 2]) Tryz.func126 rfl rfl rfl rfl rfl rfl rfl ?_ h fr⟩
        simp -implicitDefEqProofs only [wpC_seq, rowsA, if_true, if_false, opnd, ofVal, ofVal1, layArgs, Nat.reduceAdd, reduceIte, Nat.reduceEqDiff, reduceCtorEq, rowsB, cellsG, Nat.reduceMul, goO_known hc, c1, rowV, len_ro u121, c2]
  · refine ⟨-1, fun h fr => CR.plain (rs := [.tmp 2]) Tryz.func126 rfl rfl rfl rfl rfl rfl rfl ?_ h fr⟩
    simp -implicitDefEqProofs only [wpC_seq, rowsA, if_true, if_false, opnd, ofVal, ofVal1, layArgs, Nat.reduceAdd, reduceIte, Nat.reduceEqDiff, reduceCtorEq, rowsB, cellsG, Nat.reduceMul, goO_known hc, c1]
/-- Is that a name? There always is an answer, the same one each time. -/
theorem name_some (s : List UInt8) (hs : s.length ≤ 9223372036854775807) : ∃ b, ∀ (h : AH) (fr : Nat), CR Tryz.prog (globM mx) md (.fn 117) [.str s] h fr (.val (.bool b)) := by
  obtain ⟨z, hz⟩ := one_c (mx := mx) s hs
  by_cases c1 : z = 1
  · refine ⟨true, fun h fr => CR.plain (rs := [.tmp 2]) Tryz.func117 rfl rfl rfl rfl rfl rfl rfl ?_ h fr⟩
    simp -implicitDefEqProofs only [wpC_seq, rowsA, if_true, if_false, opnd, ofVal, ofVal1, layArgs, Nat.reduceAdd, reduceIte, Nat.reduceEqDiff, reduceCtorEq, rowsB, cellsG, Nat.reduceMul, goO_known hz, c1, eq11]
  · refine ⟨false, fun h fr => CR.plain (rs := [.tmp 2]) Tryz.func117 rfl rfl rfl rfl rfl rfl rfl ?_ h fr⟩
    simp -implicitDefEqProofs only [wpC_seq, rowsA, if_true, if_false, opnd, ofVal, ofVal1, layArgs, Nat.reduceAdd, reduceIte, Nat.reduceEqDiff, reduceCtorEq, rowsB, cellsG, Nat.reduceMul, goO_known hz, c1]
open Classical in
/-- Is that a name? -/
noncomputable def nameB (mx : Int) (s : List UInt8) : Bool := if h : s.length ≤ 9223372036854775807 then (name_some (mx := mx) s h).choose else false
theorem name_c (s : List UInt8) (hs : s.length ≤ 9223372036854775807) (h : AH) (fr : Nat) : CR Tryz.prog (globM mx) md (.fn 117) [.str s] h fr (.val (.bool (nameB mx s))) := by
  unfold nameB
  rw [dif_pos hs]
  exact (name_some (mx := mx) s hs).choose_spec h fr
end Go.Proofs.YtcbngkmmmfaaoaaGreatDoor
