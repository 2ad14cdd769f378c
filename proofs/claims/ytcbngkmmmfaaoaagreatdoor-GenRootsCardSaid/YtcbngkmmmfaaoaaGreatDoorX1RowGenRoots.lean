/-
  JOINED TEXTS (H8 N0 N1 H9 N2 H10): what this law wants beyond the shared ones.
-/
import Derived.Test.YtcbngkmmmfaaoaaGreatDoorX0RowGenRoots
import Derived.Test.YtcbngkmmmfaaoaaGreatDoorM6
import Derived.Test.YtcbngkmmmfaaoaaGreatDoorM15
set_option linter.unusedVariables false
set_option linter.unusedSimpArgs false
/-
  THE API'S TYPES, H8: gen.Types.
-/
namespace Go.Proofs.YtcbngkmmmfaaoaaGreatDoor
open Go.RowKit Go.Lib Go.Ac
set_option linter.unusedSimpArgs false
set_option maxRecDepth 100000
variable {mx : Int}
theorem types_no {s : Sc} (hs : s.fits) (hm : s.small) (hc : ¬ checkV mx s = 0) (h : AH) (fr : Nat) : CR Tryz.prog (globM mx) md (.fn 28) [.agg s.pv] h fr (.val (.tup [.nls, .int .i64 (checkV mx s)])) := by
  refine CR.frozen (rs := [.tmp 2, .tmp 3]) Tryz.func28 rfl rfl rfl rfl rfl rfl ?_ h fr
  simp -implicitDefEqProofs only [wpC_seq, rowsA, if_true, if_false, opnd, ofVal, ofVal1, layArgs, Nat.reduceAdd, reduceIte, Nat.reduceEqDiff, reduceCtorEq, rowsB, cellsG, Nat.reduceMul, Sc.len, Ob.len, En.len, Fld.len, fda_ptr o25_0, fda_ptr o25_1, fda_ptr o33_0, fda_ptr o33_1, fda_ptr o33_2, fda_ptr o33_3, fda_ptr o31_0, fda_ptr o31_1, fda_ptr o41_0, fda_ptr o41_1, fda_ptr o45_0, fda_ptr o45_1, fda_rop o25_0, fda_rop o25_1, fda_rop o33_0, fda_rop o33_1, fda_rop o33_2, fda_rop o33_3, fda_rop o31_0, fda_rop o31_1, fda_rop o41_0, fda_rop o41_1, fda_rop o45_0, fda_rop o45_1,
    ld25, ld33, ld41, ld45, ld33r, ld41r, ld45r, ld22, ld23, ld9o, ld9or, ld39o, ld39or, ld9e, ld9er, ld43e, ld43er, ld9f0, ld9f0r, ld9f1, ld9f1r, ld9f2, ld9f2r, ld9f3, ld9f3r, ld9f4, ld9f4r, ld31f, ln22, ln23, ln39, ln43, List.drop_drop, goO_known (check_s hs hm), hc]
  exact ⟨_, frz_clean _ rfl⟩
theorem bl54s (a : List UInt8) : bldO Tryz.prog 54 [(0, .str a)] = some (.q (.agg (scalD a).pv)) := by
  have : bldO Tryz.prog 54 [(0, .str a)] = some (.q (.agg [.str a, .int .i64 0, .nls, .nls, .nls])) := by kernel_rfl
  exact this
theorem bl54q (a : List UInt8) : bldO Tryz.prog 54 [(0, .str a), (1, .int .i64 2)] = some (.q (.agg [.str a, .int .i64 2, .nls, .nls, .nls])) := by kernel_rfl
theorem bd47_1 (fr : Nat) (a : List UInt8) (k : Int) (u v w : PV) : buildO Tryz.prog fr 47 1 [(0, .agg [.str a, .int .i64 k, u, v, w])] = some (.w (.ow fr 5 0 1) fr (.cells 54 5 false [.str a, .int .i64 k, u, v, w])) := by kernel_rfl
theorem bd47_d (fr : Nat) (d : Dn) : buildO Tryz.prog fr 47 1 [(0, .agg d.pv)] = some (.w (.ow fr 5 0 1) fr (.cells 54 5 false d.pv)) := bd47_1 ..
theorem bd43_5 (fr : Nat) : buildO Tryz.prog fr 43 5 [(0, .str bID), (1, .str bInt), (2, .str bFloat), (3, .str bString), (4, .str bBoolean)] = some (.w (.ow fr 5 0 5) fr (.cells 9 1 false (flat strV scalL))) := by kernel_rfl
theorem st45e (e : En) (id : Nat) (c : List PV) (hc : c.length = 2) : stoG id 2 0 (.agg e.pv) 2 (some (.cells 45 0 false c)) = some (.w .undef id (.cells 45 0 false e.pv)) := stoG_all id 2 0 45 (.agg e.pv) c hc rfl rfl
theorem cellR1 {h : AH} {X sz : Nat} {E : TypeId} {fz : Bool} {xs : List PV} (hX : h.get X = some (.cells E sz fz xs)) (hl : xs.length = sz) : Ac.cellsOf h sz (.ow X sz 0 1) = some (xs, 1) := by
  have := cellR_ow (sz := sz) (n := 1) hX (by rw [hl, Nat.one_mul])
  rwa [Nat.one_mul] at this
theorem flat1 {α : Type} (f : α → List PV) (x : α) : flat f [x] = f x := by simp [flat]
theorem RowD.keep {B B' : Nat} {h h' : AH} {v : PV} {l : List Dn} (q : RowD [] B h v l) (hB : B ≤ B') (hk : ∀ id, 10 ≤ id → id < B → h'.get id = h.get id) : RowD [] B' h' v l := RowP.keep q hB (fun _ hx => .inl hx) (fun id h1 h2 _ => hk id h1 h2)
def invT1 (s : Sc) (k : Nat) (F : Fr) (h : AH) : Prop := ∃ (i : Nat) (v : PV), k + i = s.es.length ∧ F.at 1 = .ptr 0 2 0 ∧ F.at 5 = v ∧ F.at 36 = rowV En.pv s.es ∧ F.at 37 = .int .i64 s.es.length ∧ F.at 38 = .int .i64 i ∧ h.get 0 = some (.cells 25 0 false s.pv) ∧ 12 ≤ h.next ∧ RowD [] h.next h v (scalL.map scalD ++ (s.es.take i).map enmD)
theorem st41o (o : Ob) (id : Nat) (c : List PV) (hc : c.length = 2) : stoG id 2 0 (.agg o.pv) 2 (some (.cells 41 0 false c)) = some (.w .undef id (.cells 41 0 false o.pv)) := stoG_all id 2 0 41 (.agg o.pv) c hc rfl rfl
def invT2 (s : Sc) (a b : Nat) (pre : List Dn) (k : Nat) (F : Fr) (h : AH) : Prop := ∃ (i : Nat) (vl vq vm : PV), k + i = s.os.length ∧ F.at 1 = .ptr 0 2 0 ∧ F.at 5 = vl ∧ F.at 10 = .ptr a 5 0 ∧ F.at 11 = .ptr b 5 0 ∧ F.at 55 = rowV Ob.pv s.os ∧ F.at 56 = .int .i64 s.os.length ∧ F.at 57 = .int .i64 i ∧ h.get 0 = some (.cells 25 0 false s.pv) ∧
  h.get a = some (.cells 54 0 false [.str bQuery, .int .i64 2, .nls, vq, .nls]) ∧ h.get b = some (.cells 54 0 false [.str bMutation, .int .i64 2, .nls, vm, .nls]) ∧ a ≠ b ∧ StD a b h.next h vl vq vm (pre ++ (s.os.take i).flatMap (objD s)) ((s.os.take i).flatMap qryO) ((s.os.take i).flatMap mutO)
theorem bd52_1 (fr : Nat) (a b c : List UInt8) : buildO Tryz.prog fr 52 1 [(0, .agg [.str a, .str b, .str c])] = some (.w (.ow fr 3 0 1) fr (.cells 56 3 false [.str a, .str b, .str c])) := by kernel_rfl
theorem bd52_2 (fr : Nat) (a b c d e f : List UInt8) : buildO Tryz.prog fr 52 2 [(0, .agg [.str a, .str b, .str c]), (1, .agg [.str d, .str e, .str f])] = some (.w (.ow fr 6 0 2) fr (.cells 56 3 false [.str a, .str b, .str c, .str d, .str e, .str f])) := by kernel_rfl
theorem bl58w (a b c : List UInt8) (id x y z : Nat) : bldO Tryz.prog 58 [(0, .str a), (1, .agg [.str b, .str c]), (2, .ow id x y z)] = some (.q (.agg [.str a, .str b, .str c, .ow id x y z])) := by kernel_rfl
theorem bl58r (a b c : List UInt8) (l : List PV) (n : Nat) : bldO Tryz.prog 58 [(0, .str a), (1, .agg [.str b, .str c]), (2, .ro l n)] = some (.q (.agg [.str a, .str b, .str c, .ro l n])) := by kernel_rfl
theorem bl58v (a b c : List UInt8) (l : List Inp) : bldO Tryz.prog 58 [(0, .str a), (1, .agg [.str b, .str c]), (2, rowV Inp.pv l)] = some (.q (.agg [.str a, .str b, .str c, rowV Inp.pv l])) := bl58r ..
theorem bd51_2 (fr : Nat) (a b c d e f : List UInt8) (u v : PV) : buildO Tryz.prog fr 51 2 [(0, .agg [.str a, .str b, .str c, u]), (1, .agg [.str d, .str e, .str f, v])] = some (.w (.ow fr 8 0 2) fr (.cells 58 4 false [.str a, .str b, .str c, u, .str d, .str e, .str f, v])) := by kernel_rfl
theorem bd51_3 (fr : Nat) (a b c d e f i j k : List UInt8) (u v w : PV) : buildO Tryz.prog fr 51 3 [(0, .agg [.str a, .str b, .str c, u]), (1, .agg [.str d, .str e, .str f, v]), (2, .agg [.str i, .str j, .str k, w])] = some (.w (.ow fr 12 0 3) fr (.cells 58 4 false [.str a, .str b, .str c, u, .str d, .str e, .str f, v, .str i, .str j, .str k, w])) := by kernel_rfl
theorem st54q (n : List UInt8) (k : Int) (v : PV) (id x y z w : Nat) : stoG id 5 3 (.ow x y z w) 1 (some (.cells 54 0 false [.str n, .int .i64 k, .nls, v, .nls])) = some (.w .undef id (.cells 54 0 false [.str n, .int .i64 k, .nls, .ow x y z w, .nls])) := rfl
theorem flatMap_le {α β : Type} {f : α → List β} {k m : Nat} (hf : ∀ x, (f x).length ≤ k) : ∀ {l : List α}, l.length ≤ m → (l.flatMap f).length ≤ m * k
  | [], _ => by simp
  | x :: l, h => by
    rw [List.flatMap_cons, List.length_append]
    have := flatMap_le (m := m - 1) hf (l := l) (by rw [List.length_cons] at h; omega)
    have h1 := hf x
    rw [List.length_cons] at h
    obtain ⟨m', rfl⟩ : ∃ m', m = m' + 1 := ⟨m - 1, by omega⟩
    rw [Nat.add_mul, Nat.one_mul]
    simp only [Nat.add_sub_cancel] at this
    omega
theorem bd47_4 (fr : Nat) (a b c : Dn) (d : List UInt8) (k : Int) (u v w : PV) : buildO Tryz.prog fr 47 4 [(0, .agg a.pv), (1, .agg b.pv), (2, .agg c.pv), (3, .agg [.str d, .int .i64 k, u, v, w])] = some (.w (.ow fr 20 0 4) fr (.cells 54 5 false (a.pv ++ (b.pv ++ (c.pv ++ [.str d, .int .i64 k, u, v, w]))))) := by
  have : ∀ (a b c d : List UInt8) (i j k l : Int) (a1 a2 a3 b1 b2 b3 c1 c2 c3 d1 d2 d3 : PV), buildO Tryz.prog fr 47 4 [(0, .agg [.str a, .int .i64 i, a1, a2, a3]), (1, .agg [.str b, .int .i64 j, b1, b2, b3]), (2, .agg [.str c, .int .i64 k, c1, c2, c3]), (3, .agg [.str d, .int .i64 l, d1, d2, d3])] = some (.w (.ow fr 20 0 4) fr (.cells 54 5 false [.str a, .int .i64 i, a1, a2, a3, .str b, .int .i64 j, b1, b2, b3, .str c, .int .i64 k, c1, c2, c3, .str d, .int .i64 l, d1, d2, d3])) := by
    intros
    kernel_rfl
  exact this ..
theorem bd47_2 (fr : Nat) (a b : List UInt8) (i j : Int) (a1 a2 a3 b1 b2 b3 : PV) : buildO Tryz.prog fr 47 2 [(0, .agg [.str a, .int .i64 i, a1, a2, a3]), (1, .agg [.str b, .int .i64 j, b1, b2, b3])] = some (.w (.ow fr 10 0 2) fr (.cells 54 5 false [.str a, .int .i64 i, a1, a2, a3, .str b, .int .i64 j, b1, b2, b3])) := by kernel_rfl
def invT3 (s : Sc) (a b : Nat) (vq vm : PV) (mid : List Dn) (qs ms : List Ot) (k : Nat) (F : Fr) (h : AH) : Prop := ∃ (i : Nat) (vl : PV), k + i = s.es.length ∧ F.at 5 = vl ∧ F.at 10 = .ptr a 5 0 ∧ F.at 11 = .ptr b 5 0 ∧ F.at 134 = rowV En.pv s.es ∧ F.at 135 = .int .i64 s.es.length ∧ F.at 136 = .int .i64 i ∧
  h.get a = some (.cells 54 0 false [.str bQuery, .int .i64 2, .nls, vq, .nls]) ∧ h.get b = some (.cells 54 0 false [.str bMutation, .int .i64 2, .nls, vm, .nls]) ∧ a ≠ b ∧ StD a b h.next h vl vq vm (mid ++ (s.es.take i).map enfD) qs ms
def invT0 (s : Sc) (k : Nat) (F : Fr) (h : AH) : Prop := ∃ (i : Nat) (v : PV), k + i = 5 ∧ F.at 1 = .ptr 0 2 0 ∧ F.at 5 = v ∧ F.at 23 = .ow 9 5 0 5 ∧ F.at 24 = .int .i64 5 ∧ F.at 25 = .int .i64 i ∧ h.get 0 = some (.cells 25 0 false s.pv) ∧ h.get 9 = some (.cells 9 1 false (flat strV scalL)) ∧ 12 ≤ h.next ∧ RowD [] h.next h v ((scalL.take i).map scalD)
set_option maxHeartbeats 2000000 in
theorem types_c {s : Sc} (hs : s.fits) (hm : s.small) (hc : checkV mx s = 0) (h : AH) (fr : Nat) : CR Tryz.prog (globM mx) md (.fn 28) [.agg s.pv] h fr (.val (.tup [rowV Dn.pv (typesD s), .int .i64 0])) := by
  have ok := check_ok hc
  refine CR.frozen (rs := [.tmp 2, .tmp 3]) Tryz.func28 rfl rfl rfl rfl rfl rfl ?_ h fr
  have hb := fun fr => bd43_5 fr
  simp only [bID, bInt, bFloat, bString, bBoolean] at hb
  simp -implicitDefEqProofs only [wpC_seq, rowsA, if_true, if_false, opnd, ofVal, ofVal1, layArgs, Nat.reduceAdd, reduceIte, Nat.reduceEqDiff, reduceCtorEq, rowsB, cellsG, Nat.reduceMul, Sc.len, Ob.len, En.len, Fld.len, fda_ptr o25_0, fda_ptr o25_1, fda_ptr o33_0, fda_ptr o33_1, fda_ptr o33_2, fda_ptr o33_3, fda_ptr o31_0, fda_ptr o31_1, fda_ptr o41_0, fda_ptr o41_1, fda_ptr o45_0, fda_ptr o45_1, fda_rop o25_0, fda_rop o25_1, fda_rop o33_0, fda_rop o33_1, fda_rop o33_2, fda_rop o33_3, fda_rop o31_0, fda_rop o31_1, fda_rop o41_0, fda_rop o41_1, fda_rop o45_0, fda_rop o45_1,
    ld25, ld33, ld41, ld45, ld33r, ld41r, ld45r, ld22, ld23, ld9o, ld9or, ld39o, ld39or, ld9e, ld9er, ld43e, ld43er, ld9f0, ld9f0r, ld9f1, ld9f1r, ld9f2, ld9f2r, ld9f3, ld9f3r, ld9f4, ld9f4r, ld31f, ln22, ln23, ln39, ln43, List.drop_drop, goO_known (check_s hs hm), hc, hb, len_ow u43]
  refine wpC_loop (invT0 s) (k := 5) ⟨0, .nls, by omega, ?_, ?_, ?_, ?_, ?_, ?_, ?_, ?_, RowP.nil⟩ ?_
  · simp only [Fr.at_set, Nat.reduceEqDiff, reduceIte, reduceCtorEq]
  · simp only [Fr.at_set, Nat.reduceEqDiff, reduceIte, reduceCtorEq]
  · simp only [Fr.at_set, Nat.reduceEqDiff, reduceIte, reduceCtorEq]
  · simp only [Fr.at_set, Nat.reduceEqDiff, reduceIte, reduceCtorEq]; rfl
  · simp only [Fr.at_set, Nat.reduceEqDiff, reduceIte, reduceCtorEq]; rfl
  · simp only [AH.get_set, AH.get_up, Nat.reduceEqDiff, if_true, if_false]
  · simp only [AH.get_set, AH.get_up, Nat.reduceEqDiff, if_true, if_false]
  · simp only [AH.next_set, AH.next_up]; exact Nat.le_add_left 12 _
  rintro k F h ⟨i, v, ki, f1, f5, f23, f24, f25, g0, g9, nx, hR⟩
  cases k with
  | zero =>
    have c1 : ¬ ((i : Int) < 5) := by omega
    simp -implicitDefEqProofs only [wpC_seq, rowsA, if_true, if_false, opnd, ofVal, ofVal1, layArgs, Nat.reduceAdd, reduceIte, Nat.reduceEqDiff, reduceCtorEq, rowsB, cellsG, Nat.reduceMul, Sc.len, Ob.len, En.len, Fld.len, fda_ptr o25_0, fda_ptr o25_1, fda_ptr o33_0, fda_ptr o33_1, fda_ptr o33_2, fda_ptr o33_3, fda_ptr o31_0, fda_ptr o31_1, fda_ptr o41_0, fda_ptr o41_1, fda_ptr o45_0, fda_ptr o45_1, fda_rop o25_0, fda_rop o25_1, fda_rop o33_0, fda_rop o33_1, fda_rop o33_2, fda_rop o33_3, fda_rop o31_0, fda_rop o31_1, fda_rop o41_0, fda_rop o41_1, fda_rop o45_0, fda_rop o45_1,
    ld25, ld33, ld41, ld45, ld33r, ld41r, ld45r, ld22, ld23, ld9o, ld9or, ld39o, ld39or, ld9e, ld9er, ld43e, ld43er, ld9f0, ld9f0r, ld9f1, ld9f1r, ld9f2, ld9f2r, ld9f3, ld9f3r, ld9f4, ld9f4r, ld31f, ln22, ln23, ln39, ln43, List.drop_drop, f1, f5, f23, f24, f25, g0, c1]
    have hi : i = 5 := by omega
    subst hi
    refine wpC_loop (invT1 s) (k := s.es.length) ⟨0, v, by omega, ?_, ?_, ?_, ?_, ?_, ?_, ?_, ?_⟩ ?_
    · simp only [Fr.at_set, Nat.reduceEqDiff, reduceIte, f1]
    · simp only [Fr.at_set, Nat.reduceEqDiff, reduceIte, f5]
    · simp only [Fr.at_set, Nat.reduceEqDiff, reduceIte]
    · simp only [Fr.at_set, Nat.reduceEqDiff, reduceIte]
    · simp only [Fr.at_set, Nat.reduceEqDiff, reduceIte]; rfl
    · simp only [AH.get_up]; exact g0
    · simp only [AH.next_up]; omega
    · exact hR.keep (by simp only [AH.next_up]; omega) fun id _ _ => by simp only [AH.get_up]
    clear f1 f5 f23 f24 f25 g0 g9 nx hR
    rintro k F h ⟨i, v, ki, f1, f5, f36, f37, f38, g0, nx, hR⟩
    cases k with
    | zero =>
      have c2 : ¬ ((i : Int) < (s.es.length : Int)) := by omega
      have hne : ¬ (h.next + 1 = h.next) := by omega
      simp -implicitDefEqProofs only [wpC_seq, rowsA, if_true, if_false, opnd, ofVal, ofVal1, layArgs, Nat.reduceAdd, reduceIte, Nat.reduceEqDiff, reduceCtorEq, rowsB, cellsG, Nat.reduceMul, Sc.len, Ob.len, En.len, Fld.len, fda_ptr o25_0, fda_ptr o25_1, fda_ptr o33_0, fda_ptr o33_1, fda_ptr o33_2, fda_ptr o33_3, fda_ptr o31_0, fda_ptr o31_1, fda_ptr o41_0, fda_ptr o41_1, fda_ptr o45_0, fda_ptr o45_1, fda_rop o25_0, fda_rop o25_1, fda_rop o33_0, fda_rop o33_1, fda_rop o33_2, fda_rop o33_3, fda_rop o31_0, fda_rop o31_1, fda_rop o41_0, fda_rop o41_1, fda_rop o45_0, fda_rop o45_1,
    ld25, ld33, ld41, ld45, ld33r, ld41r, ld45r, ld22, ld23, ld9o, ld9or, ld39o, ld39or, ld9e, ld9er, ld43e, ld43er, ld9f0, ld9f0r, ld9f1, ld9f1r, ld9f2, ld9f2r, ld9f3, ld9f3r, ld9f4, ld9f4r, ld31f, ln22, ln23, ln39, ln43, List.drop_drop, f1, f5, f36, f37, f38, g0, c2, bl54q, al54, sz54, ite_self, hne, st54 [81, 117, 101, 114, 121] 2 .nls .nls .nls _ [.str [], .int .i64 0, .nls, .nls, .nls] rfl, st54 [77, 117, 116, 97, 116, 105, 111, 110] 2 .nls .nls .nls _ [.str [], .int .i64 0, .nls, .nls, .nls] rfl]
      have hi : i = s.es.length := by omega
      subst hi
      rw [List.take_length] at hR
      refine wpC_loop (invT2 s (h.next + 1 + 2) (h.next + 1 + 3) (scalL.map scalD ++ s.es.map enmD)) (k := s.os.length) ⟨0, v, .nls, .nls, by omega, ?_, ?_, ?_, ?_, ?_, ?_, ?_, ?_, ?_, ?_, by omega, ⟨?_, RowP.nil, RowP.nil, ?_, ?_⟩⟩ ?_
      · simp only [Fr.at_set, Nat.reduceEqDiff, reduceIte, f1]
      · simp only [Fr.at_set, Nat.reduceEqDiff, reduceIte, f5]
      · simp only [Fr.at_set, Nat.reduceEqDiff, reduceIte]
      · simp only [Fr.at_set, Nat.reduceEqDiff, reduceIte]
      · simp only [Fr.at_set, Nat.reduceEqDiff, reduceIte]
      · simp only [Fr.at_set, Nat.reduceEqDiff, reduceIte]
      · simp only [Fr.at_set, Nat.reduceEqDiff, reduceIte]; rfl
      · simp only [AH.get_set, AH.get_up]
        rw [if_neg (by omega), if_neg (by omega), if_neg (by omega), if_neg (by omega)]
        exact g0
      · simp only [AH.get_set, AH.get_up, if_true]
        rw [if_neg (by omega)]
        rfl
      · simp only [AH.get_set, AH.get_up, if_true]
        rfl
      · rw [List.take_zero, List.flatMap_nil, List.append_nil]
        refine RowP.keep hR (by simp only [AH.next_set, AH.next_up]; omega) (fun x hx => ?_) (fun id h1 h2 _ => ?_)
        · simp only [rootL, List.append_nil, List.mem_cons, List.not_mem_nil, or_false] at hx
          omega
        · simp only [AH.get_set, AH.get_up]
          rw [if_neg (by omega), if_neg (by omega), if_neg (by omega), if_neg (by omega)]
      · simp only [AH.next_set, AH.next_up]; omega
      · simp only [AH.next_set, AH.next_up]; omega
      generalize h.next + 1 + 2 = a
      generalize h.next + 1 + 3 = b
      generalize hpre : scalL.map scalD ++ s.es.map enmD = pre
      clear f1 f5 f36 f37 f38 g0 nx hR
      rintro k F h ⟨i, vl, vq, vm, ki, f1, f5, f10, f11, f55, f56, f57, g0, ga, gb, hab, hS⟩
      cases k with
      | zero =>
        have c3 : ¬ ((i : Int) < (s.os.length : Int)) := by omega
        have hi : i = s.os.length := by omega
        subst hi
        rw [List.take_length] at hS
        have kc1 : ∀ (h : AH) (fr : Nat), CR Tryz.prog (globM mx) md (.fn 69) [.str [73, 110, 116], .nls] h fr (.val (.agg (cmpD bInt []).pv)) := compared_c bInt (by decide) [] (by decide)
        have kc2 : ∀ (h : AH) (fr : Nat), CR Tryz.prog (globM mx) md (.fn 69) [.str [70, 108, 111, 97, 116], .nls] h fr (.val (.agg (cmpD bFloat []).pv)) := compared_c bFloat (by decide) [] (by decide)
        have kc3 : ∀ (h : AH) (fr : Nat), CR Tryz.prog (globM mx) md (.fn 69) [.str bString, rowN Inp.pv [⟨[98, 101, 103, 105, 110, 115], bString, []⟩]] h fr (.val (.agg (cmpD bString [⟨[98, 101, 103, 105, 110, 115], bString, []⟩]).pv)) := compared_c bString (by decide) [⟨[98, 101, 103, 105, 110, 115], bString, []⟩] (by decide)
        simp -implicitDefEqProofs only [wpC_seq, rowsA, if_true, if_false, opnd, ofVal, ofVal1, layArgs, Nat.reduceAdd, reduceIte, Nat.reduceEqDiff, reduceCtorEq, rowsB, cellsG, Nat.reduceMul, Sc.len, Ob.len, En.len, Fld.len, fda_ptr o25_0, fda_ptr o25_1, fda_ptr o33_0, fda_ptr o33_1, fda_ptr o33_2, fda_ptr o33_3, fda_ptr o31_0, fda_ptr o31_1, fda_ptr o41_0, fda_ptr o41_1, fda_ptr o45_0, fda_ptr o45_1, fda_rop o25_0, fda_rop o25_1, fda_rop o33_0, fda_rop o33_1, fda_rop o33_2, fda_rop o33_3, fda_rop o31_0, fda_rop o31_1, fda_rop o41_0, fda_rop o41_1, fda_rop o45_0, fda_rop o45_1,
    ld25, ld33, ld41, ld45, ld33r, ld41r, ld45r, ld22, ld23, ld9o, ld9or, ld39o, ld39or, ld9e, ld9er, ld43e, ld43er, ld9f0, ld9f0r, ld9f1, ld9f1r, ld9f2, ld9f2r, ld9f3, ld9f3r, ld9f4, ld9f4r, ld31f, ln22, ln23, ln39, ln43, List.drop_drop, f1, f5, f10, f11, f55, f56, f57, g0, c3, goO_known kc1, goO_known kc2, goO_known (gin_c _ _ _), bd52_1]
        refine goO_val (via_rdP (p := fun id => id = h.next + 1 + 4) (args' := [.str bString, rowN Inp.pv [⟨[98, 101, 103, 105, 110, 115], bString, []⟩]]) Tryz.func69 rfl rfl rfl rfl ⟨Rd.of_clean rfl, rdOwP (f := Inp.pv) (sz := 3) (d := 99) rfl (fun _ => rfl) Inp.cl (by simp only [AH.get_set, if_true]; rfl) rfl rfl (Nat.succ_pos _), trivial⟩ kc3) ?_
        intro v h5 hq
        generalize hG : wpO _ _ _ _ _ _ _ _ _ _ _ = G
        obtain ⟨rfl, n5, k5⟩ := hq
        have pa := hS.ha
        have pb := hS.hb
        have x3 : ∀ y, y < h.next → h5.get y = h.get y := fun y hy => by
          rw [k5 y (by omega)]
          simp only [AH.get_set, AH.get_up]
          rw [if_neg (by omega)]
        have n5' : h5.next = h.next + 13 := n5.trans (by simp only [AH.next_set, AH.next_up])
        subst hG
        clear k5 n5
        simp -implicitDefEqProofs only [wpC_seq, rowsA, if_true, if_false, opnd, ofVal, ofVal1, layArgs, Nat.reduceAdd, reduceIte, Nat.reduceEqDiff, reduceCtorEq, rowsB, cellsG, Nat.reduceMul, f5, goO_known (gin_c _ _ _), bd52_1, bl54i, bd47_4]
        have hos := ok.enough.2.1
        have hes := ok.enough.2.2.1
        have hl1 : (pre ++ s.os.flatMap (objD s)).length ≤ 1000 := by
          have h1 : (s.os.flatMap (objD s)).length ≤ 8 * 6 := flatMap_le (fun _ => Nat.le_refl 6) hos
          have h2 : pre.length ≤ 13 := by rw [← hpre, List.length_append, List.length_map, List.length_map]; show 5 + _ ≤ 13; omega
          rw [List.length_append]
          omega
        generalize hH : AH.set _ _ _ = H5
        have z1 : H5.get (h.next + 1 + 7) = some (.cells 56 3 false (flat Inp.pv [⟨[101, 113], bBoolean, []⟩])) := by
          rw [← hH]
          simp only [AH.get_set, if_true]
          rw [if_neg (by omega)]
          rfl
        have z6 : H5.get (h.next + 1 + 9) = some (.cells 54 5 false ((cmpD bInt []).pv ++ ((cmpD bFloat []).pv ++ ((cmpD bString [⟨[98, 101, 103, 105, 110, 115], bString, []⟩]).pv ++ [.str (bBoolean ++ bFilter), .int .i64 3, .nls, .nls, .ow (h.next + 1 + 7) 3 0 1])))) := by
          rw [← hH]
          simp only [AH.get_set, if_true]
          rfl
        have z3 : ∀ y, y < h.next → H5.get y = h.get y := fun y hy => by
          rw [← hH]
          simp only [AH.get_set]
          rw [if_neg (by omega), if_neg (by omega), x3 y hy]
        have z4 : H5.next = h.next + 13 := by rw [← hH]; simp only [AH.next_set, n5']
        clear hH x3
        have hSk := St.keep hS (h' := H5) (Nat.le_refl _) (fun id q1 q2 _ _ => z3 id (by omega))
        obtain ⟨R1, ob1, e1, t3, t4, t5, t6, -, hS1⟩ := StD.addL hSk (B' := h.next + 13) (fr := h.next + 1 + 10) (x := .ow (h.next + 1 + 9) 20 0 4) (l' := midD) (by omega) (by omega) (cellR_ow (n := 4) z6 rfl) (Nat.succ_pos _) ((RdL.of_clean (Dn.cl (cmpD bInt []))).append ((RdL.of_clean (Dn.cl (cmpD bFloat []))).append ((RdL.of_clean (Dn.cl (cmpD bString [⟨[98, 101, 103, 105, 110, 115], bString, []⟩]))).append ⟨Rd.of_clean rfl, Rd.of_clean rfl, Rd.of_clean rfl, Rd.of_clean rfl, rdOwP (f := Inp.pv) (sz := 3) (d := 1) ⟨by omega, by omega⟩ (fun _ => rfl) Inp.cl z1 rfl rfl (Nat.succ_pos _), trivial⟩))) (by show _ + 4 ≤ 1000000; omega)
        rw [e1, goO_w]
        have q0 : (H5.set R1 ob1).get 0 = some (.cells 25 0 false s.pv) := by simp only [AH.get_set]; rw [if_neg (by omega), z3 0 (by omega)]; exact g0
        have qa : (H5.set R1 ob1).get a = some (.cells 54 0 false [.str bQuery, .int .i64 2, .nls, vq, .nls]) := by simp only [AH.get_set]; rw [if_neg (by omega), z3 a (by omega)]; exact ga
        have qb : (H5.set R1 ob1).get b = some (.cells 54 0 false [.str bMutation, .int .i64 2, .nls, vm, .nls]) := by simp only [AH.get_set]; rw [if_neg (by omega), z3 b (by omega)]; exact gb
        have qn : (H5.set R1 ob1).next = h.next + 13 := by simp only [AH.next_set, z4]
        generalize H5.set R1 ob1 = H6 at hS1 q0 qa qb qn ⊢
        clear e1 z1 z3 z4 z6 hSk hS
        simp -implicitDefEqProofs only [wpC_seq, rowsA, if_true, if_false, opnd, ofVal, ofVal1, layArgs, Nat.reduceAdd, reduceIte, Nat.reduceEqDiff, reduceCtorEq, rowsB, cellsG, Nat.reduceMul, Sc.len, Ob.len, En.len, Fld.len, fda_ptr o25_0, fda_ptr o25_1, fda_ptr o33_0, fda_ptr o33_1, fda_ptr o33_2, fda_ptr o33_3, fda_ptr o31_0, fda_ptr o31_1, fda_ptr o41_0, fda_ptr o41_1, fda_ptr o45_0, fda_ptr o45_1, fda_rop o25_0, fda_rop o25_1, fda_rop o33_0, fda_rop o33_1, fda_rop o33_2, fda_rop o33_3, fda_rop o31_0, fda_rop o31_1, fda_rop o41_0, fda_rop o41_1, fda_rop o45_0, fda_rop o45_1,
    ld25, ld33, ld41, ld45, ld33r, ld41r, ld45r, ld22, ld23, ld9o, ld9or, ld39o, ld39or, ld9e, ld9er, ld43e, ld43er, ld9f0, ld9f0r, ld9f1, ld9f1r, ld9f2, ld9f2r, ld9f3, ld9f3r, ld9f4, ld9f4r, ld31f, ln22, ln23, ln39, ln43, List.drop_drop, f1, q0]
        generalize hmid : (pre ++ s.os.flatMap (objD s)) ++ midD = mid at hS1
        have hl2 : mid.length ≤ 1004 := by rw [← hmid, List.length_append]; show _ + 4 ≤ 1004; omega
        generalize hq : s.os.flatMap qryO = qs at hS1
        generalize hm' : s.os.flatMap mutO = ms at hS1
        refine wpC_loop (invT3 s a b vq vm mid qs ms) (k := s.es.length) ⟨0, .ow R1 (mid.length * 5) 0 mid.length, by omega, ?_, ?_, ?_, ?_, ?_, ?_, ?_, ?_, hab, ?_⟩ ?_
        · simp only [Fr.at_set, Nat.reduceEqDiff, reduceIte, hmid]
        · simp only [Fr.at_set, Nat.reduceEqDiff, reduceIte, f10]
        · simp only [Fr.at_set, Nat.reduceEqDiff, reduceIte, f11]
        · simp only [Fr.at_set, Nat.reduceEqDiff, reduceIte]
        · simp only [Fr.at_set, Nat.reduceEqDiff, reduceIte]
        · simp only [Fr.at_set, Nat.reduceEqDiff, reduceIte]; rfl
        · simp only [AH.get_up]; exact qa
        · simp only [AH.get_up]; exact qb
        · rw [List.take_zero, List.map_nil, List.append_nil]
          exact St.keep hS1 (by simp only [AH.next_up]; omega) (fun id _ _ _ _ => by simp only [AH.get_up])
        clear f1 f5 f10 f11 f55 f56 f57 g0 ga gb hS1 q0 qa qb qn n5' t3 t4 t5 t6 c3 ki pa pb
        rintro k F h ⟨i, vl, ki, f5, f10, f11, f134, f135, f136, ga, gb, hab, hS⟩
        have pa := hS.ha
        have pb := hS.hb
        cases k with
        | zero =>
          have c4 : ¬ ((i : Int) < (s.es.length : Int)) := by omega
          have ldD := fun (n : List UInt8) (k : Int) (v : PV) => load_agg (P := Tryz.prog) (c := [.str n, .int .i64 k, .nls, v, .nls]) ag54 sz54 (Nat.le_refl 5)
          simp -implicitDefEqProofs only [wpC_seq, rowsA, if_true, if_false, opnd, ofVal, ofVal1, layArgs, Nat.reduceAdd, reduceIte, Nat.reduceEqDiff, reduceCtorEq, rowsB, cellsG, Nat.reduceMul, f5, f10, f11, f134, f135, f136, ga, gb, ldD, c4, bd47_2]
          have hi : i = s.es.length := by omega
          subst hi
          rw [List.take_length] at hS
          generalize hH : AH.set _ _ _ = H5
          have z6 : H5.get (h.next + 1 + 3) = some (.cells 54 5 false [.str bQuery, .int .i64 2, .nls, vq, .nls, .str bMutation, .int .i64 2, .nls, vm, .nls]) := by
            rw [← hH]
            simp only [AH.get_set, if_true]
          have z3 : ∀ y, y < h.next → H5.get y = h.get y := fun y hy => by
            rw [← hH]
            simp only [AH.get_set, AH.get_up]
            rw [if_neg (by omega)]
          clear hH
          have hSk := St.keep hS (h' := H5) (Nat.le_refl _) (fun id q1 q2 _ _ => z3 id (by omega))
          have hl3 : (mid ++ s.es.map enfD).length ≤ 2000 := by rw [List.length_append, List.length_map]; omega
          have hL : RowP 2 [] 10 h.next H5 54 5 vl (flat Dn.pv (mid ++ s.es.map enfD)) (mid ++ s.es.map enfD).length := RowP.keep hSk.l (Nat.le_refl _) (fun x hx => by cases hx) (fun _ _ _ _ => rfl)
          have rl := RowP.root hL
          have up : ∀ {v u : PV} {Y : List Nat}, Rd (fun id => 10 ≤ id ∧ id < h.next ∧ id ∉ a :: b :: (rootL vl ++ Y)) H5 2 v u → Rd (fun id => 10 ≤ id ∧ id < h.next + 1 + 4 ∧ id ∉ ([] : List Nat) ∧ id ∉ rootL vl) H5 2 v u := fun q => Rd.imp (fun id ⟨b1, b2, b3⟩ => ⟨⟨b1, by omega, by simp, fun hm => b3 (by simp [hm])⟩, fun E sz fz c hc => ⟨fz, hc⟩⟩) _ _ _ q
          have uq := up hSk.q.rd
          have um := up hSk.m.rd
          have eq1 : (if qs.length = 0 then PV.nls else .ro (flat Ot.pv qs) qs.length) = rowN Ot.pv qs := rfl
          have eq2 : (if ms.length = 0 then PV.nls else .ro (flat Ot.pv ms) ms.length) = rowN Ot.pv ms := rfl
          rw [eq1] at uq
          rw [eq2] at um
          obtain ⟨R1, ob1, e1, -, hL1⟩ := RowP.more hL (P := Tryz.prog) (fr := h.next + 1 + 4) (B' := h.next + 8) (t := 47) (x := .ow (h.next + 1 + 3) 10 0 2) (k := 2) (ys := flat Dn.pv [qryD s, mutD s]) u47 i54 (by decide) (by omega) (by omega) (by omega) (by simp) (cellR_ow (n := 2) z6 rfl) rfl (by decide) (by
            subst hq
            subst hm'
            exact ⟨Rd.of_clean rfl, Rd.of_clean rfl, Rd.of_clean rfl, uq, Rd.of_clean rfl, Rd.of_clean rfl, Rd.of_clean rfl, Rd.of_clean rfl, um, Rd.of_clean rfl, trivial⟩) (by omega) (by omega)
          rw [e1, goO_w]
          generalize H5.set R1 ob1 = H6 at hL1 ⊢
          simp -implicitDefEqProofs only [wpC_seq, rowsA, if_true, if_false, opnd, ofVal, ofVal1, layArgs, Nat.reduceAdd, reduceIte, Nat.reduceEqDiff, reduceCtorEq, rowsB, cellsG, Nat.reduceMul]
          have et : typesD s = (mid ++ s.es.map enfD) ++ [qryD s, mutD s] := by rw [← hmid, ← hpre]; rfl
          have hfin : Rd (fun _ => True) H6 99 (.ow R1 (((mid ++ s.es.map enfD).length + 2) * 5) 0 ((mid ++ s.es.map enfD).length + 2)) (rowV Dn.pv (typesD s)) := by
            have := hL1.rd
            rw [if_neg (by omega), ← flat_app] at this
            have el : ((mid ++ s.es.map enfD) ++ [qryD s, mutD s]).length = (mid ++ s.es.map enfD).length + 2 := List.length_append
            rw [et, rowV, el]
            exact Rd.le (show 3 ≤ 99 by decide) (Rd.imp (fun _ _ => ⟨trivial, fun E sz fz c hc => ⟨fz, hc⟩⟩) _ _ _ this)
          refine Rd.done (.inr ⟨rfl, [rowV Dn.pv (typesD s), .int .i64 0], ⟨hfin, Rd.of_clean rfl, trivial⟩, rfl⟩)
        | succ k =>
          have c4 : (i : Int) < (s.es.length : Int) := by omega
          obtain ⟨e, he⟩ : ∃ e, s.es[i]? = some e := ⟨_, List.getElem?_eq_getElem (show i < s.es.length by omega)⟩
          have hem := List.mem_of_getElem? he
          have w3 := ok.elen hem
          obtain ⟨r, hr⟩ := ix23 (l := s.es) (i := (i : Int)) (by omega) (by rw [Int.toNat_natCast]; exact he)
          have w := IntWalk.i64_in ((i : Int) + 1) (by omega)
          have a1 := fun {h : AH} => bin_sadd (P := Tryz.prog) (h := h) (t := 9) (x := e.n) (y := [70, 105, 108, 116, 101, 114]) (by simp only [List.length_cons, List.length_nil]; omega)
          simp -implicitDefEqProofs only [wpC_seq, rowsA, if_true, if_false, opnd, ofVal, ofVal1, layArgs, Nat.reduceAdd, reduceIte, Nat.reduceEqDiff, reduceCtorEq, rowsB, cellsG, Nat.reduceMul, Sc.len, Ob.len, En.len, Fld.len, fda_ptr o25_0, fda_ptr o25_1, fda_ptr o33_0, fda_ptr o33_1, fda_ptr o33_2, fda_ptr o33_3, fda_ptr o31_0, fda_ptr o31_1, fda_ptr o41_0, fda_ptr o41_1, fda_ptr o45_0, fda_ptr o45_1, fda_rop o25_0, fda_rop o25_1, fda_rop o33_0, fda_rop o33_1, fda_rop o33_2, fda_rop o33_3, fda_rop o31_0, fda_rop o31_1, fda_rop o41_0, fda_rop o41_1, fda_rop o45_0, fda_rop o45_1,
    ld25, ld33, ld41, ld45, ld33r, ld41r, ld45r, ld22, ld23, ld9o, ld9or, ld39o, ld39or, ld9e, ld9er, ld43e, ld43er, ld9f0, ld9f0r, ld9f1, ld9f1r, ld9f2, ld9f2r, ld9f3, ld9f3r, ld9f4, ld9f4r, ld31f, ln22, ln23, ln39, ln43, List.drop_drop, f5, f10, f11, f134, f135, f136, c4, hr, al45, sz45, st45e, a1, goD_known (gin_c _ _ _), bd52_2, bl54i, bd47_1, goD_eq]
          generalize hH : AH.set _ _ _ = H5
          have z1 : H5.get (h.next + 1 + 4 + 10) = some (.cells 56 3 false (flat Inp.pv [⟨[101, 113], e.n, []⟩, ⟨[105, 110], e.n, listL⟩])) := by
            rw [← hH]
            simp only [AH.get_set, if_true]
            rw [if_neg (by omega)]
            rfl
          have z6 : H5.get (h.next + 1 + 4 + 12) = some (.cells 54 5 false [.str (e.n ++ bFilter), .int .i64 3, .nls, .nls, .ow (h.next + 1 + 4 + 10) 6 0 2]) := by
            rw [← hH]
            simp only [AH.get_set, if_true]
            rfl
          have z3 : ∀ y, y < h.next → H5.get y = h.get y := fun y hy => by
            rw [← hH]
            simp only [AH.get_set, AH.get_up]
            rw [if_neg (by omega), if_neg (by omega), if_neg (by omega), if_neg (by omega)]
          have z4 : H5.next = h.next + 20 := by rw [← hH]; simp only [AH.next_set, AH.next_up]
          clear hH
          have hSk := St.keep hS (h' := H5) (Nat.le_refl _) (fun id q1 q2 _ _ => z3 id (by omega))
          have hl3 : (mid ++ (s.es.take i).map enfD).length ≤ 2000 := by rw [List.length_append, List.length_map, List.length_take]; omega
          obtain ⟨R1, ob1, e1, t3, t4, t5, t6, -, hS1⟩ := StD.addL hSk (B' := h.next + 20) (fr := h.next + 1 + 4 + 13) (x := .ow (h.next + 1 + 4 + 12) 5 0 1) (l' := [enfD e]) (by omega) (by omega) (cellR1 z6 rfl) (Nat.succ_pos _) (by
            rw [flat1]
            exact ⟨Rd.of_clean rfl, Rd.of_clean rfl, Rd.of_clean rfl, Rd.of_clean rfl, rdOwP (f := Inp.pv) (sz := 3) (d := 1) ⟨by omega, by omega⟩ (fun _ => rfl) Inp.cl z1 rfl rfl (Nat.succ_pos _), trivial⟩) (by show _ + 1 ≤ 1000000; omega)
          rw [e1, goD_any (by kernel_rfl)]
          have qa : (H5.set R1 ob1).get a = some (.cells 54 0 false [.str bQuery, .int .i64 2, .nls, vq, .nls]) := by simp only [AH.get_set]; rw [if_neg (by omega), z3 a (by omega)]; exact ga
          have qb : (H5.set R1 ob1).get b = some (.cells 54 0 false [.str bMutation, .int .i64 2, .nls, vm, .nls]) := by simp only [AH.get_set]; rw [if_neg (by omega), z3 b (by omega)]; exact gb
          have qn : (H5.set R1 ob1).next = h.next + 20 := by simp only [AH.next_set, z4]
          generalize H5.set R1 ob1 = H6 at hS1 qa qb qn ⊢
          simp -implicitDefEqProofs only [wpC_seq, rowsA, if_true, if_false, opnd, ofVal, ofVal1, layArgs, Nat.reduceAdd, reduceIte, Nat.reduceEqDiff, reduceCtorEq, rowsB, cellsG, Nat.reduceMul, f136, w]
          have ex : mid ++ (s.es.take (i + 1)).map enfD = (mid ++ (s.es.take i).map enfD) ++ [enfD e] := by rw [takeM he, List.map_append, List.append_assoc]; rfl
          refine ⟨k, by omega, i + 1, .ow R1 (((mid ++ (s.es.take i).map enfD) ++ [enfD e]).length * 5) 0 ((mid ++ (s.es.take i).map enfD) ++ [enfD e]).length, by omega, ?_, ?_, ?_, ?_, ?_, ?_, ?_, ?_, hab, ?_⟩
          · simp only [Fr.at_set, Nat.reduceEqDiff, reduceIte]
          · simp only [Fr.at_set, Nat.reduceEqDiff, reduceIte, f10]
          · simp only [Fr.at_set, Nat.reduceEqDiff, reduceIte, f11]
          · simp only [Fr.at_set, Nat.reduceEqDiff, reduceIte, f134]
          · simp only [Fr.at_set, Nat.reduceEqDiff, reduceIte, f135]
          · simp only [Fr.at_set, Nat.reduceEqDiff, reduceIte]; rfl
          · simp only [AH.get_up]; exact qa
          · simp only [AH.get_up]; exact qb
          · rw [ex]
            exact St.keep hS1 (by simp only [AH.next_up]; omega) (fun id _ _ _ _ => by simp only [AH.get_up])
      | succ k =>
        have c3 : (i : Int) < (s.os.length : Int) := by omega
        obtain ⟨o, ho⟩ : ∃ o, s.os[i]? = some o := ⟨_, List.getElem?_eq_getElem (show i < s.os.length by omega)⟩
        have hom := List.mem_of_getElem? ho
        obtain ⟨w1, w2⟩ := ok.enough.2.2.2.1 o hom
        have w3 := ok.olen hom
        obtain ⟨r, hr⟩ := ix22 (l := s.os) (i := (i : Int)) (by omega) (by rw [Int.toNat_natCast]; exact ho)
        have w := IntWalk.i64_in ((i : Int) + 1) (by have := ok.enough.2.1; omega)
        have a1 := fun {h : AH} => bin_sadd (P := Tryz.prog) (h := h) (t := 9) (x := o.n) (y := [70, 105, 108, 116, 101, 114]) (by simp only [List.length_cons, List.length_nil]; omega)
        have a2 := fun (z : List UInt8) (hz : z.length ≤ 100) {h : AH} => bin_sadd (P := Tryz.prog) (h := h) (t := 9) (x := z) (y := o.n) (by omega)
        have kO := objG_c (mx := mx) hs o (by omega) w1 (by omega) (fun f hf => by have := ok.tlen hom hf; omega)
        simp -implicitDefEqProofs only [wpC_seq, rowsA, if_true, if_false, opnd, ofVal, ofVal1, layArgs, Nat.reduceAdd, reduceIte, Nat.reduceEqDiff, reduceCtorEq, rowsB, cellsG, Nat.reduceMul, Sc.len, Ob.len, En.len, Fld.len, fda_ptr o25_0, fda_ptr o25_1, fda_ptr o33_0, fda_ptr o33_1, fda_ptr o33_2, fda_ptr o33_3, fda_ptr o31_0, fda_ptr o31_1, fda_ptr o41_0, fda_ptr o41_1, fda_ptr o45_0, fda_ptr o45_1, fda_rop o25_0, fda_rop o25_1, fda_rop o33_0, fda_rop o33_1, fda_rop o33_2, fda_rop o33_3, fda_rop o31_0, fda_rop o31_1, fda_rop o41_0, fda_rop o41_1, fda_rop o45_0, fda_rop o45_1,
    ld25, ld33, ld41, ld45, ld33r, ld41r, ld45r, ld22, ld23, ld9o, ld9or, ld39o, ld39or, ld9e, ld9er, ld43e, ld43er, ld9f0, ld9f0r, ld9f1, ld9f1r, ld9f2, ld9f2r, ld9f3, ld9f3r, ld9f4, ld9f4r, ld31f, ln22, ln23, ln39, ln43, List.drop_drop, f1, f5, f10, f11, f55, f56, f57, g0, c3, hr, al41, sz41, st41o, a1, goD_known (gin_c _ _ _), al56, sz56, goD_eq]
        rw [st56 _ _ _ _ [.str [], .str [], .str []] rfl, goD_st (by omega) (by kernel_rfl)]
        generalize hH : AH.set _ _ _ = H0
        have x1 : H0.get (h.next + 1 + 2) = some (.cells 41 0 false o.pv) := by
          rw [← hH]
          simp only [AH.get_set, AH.get_up, if_true]
          rw [if_neg (by omega), if_neg (by omega)]
        have x2 : H0.get (h.next + 1 + 4 + 6) = some (.cells 56 0 false [.str [102, 105, 108, 116, 101, 114], .str (o.n ++ bFilter), .str [33]]) := by
          rw [← hH]
          simp only [AH.get_set, if_true]
          rfl
        have x3 : ∀ y, y < h.next → H0.get y = h.get y := fun y hy => by
          rw [← hH]
          simp only [AH.get_set, AH.get_up]
          rw [if_neg (by omega), if_neg (by omega), if_neg (by omega), if_neg (by omega)]
        have x4 : H0.next = h.next + 14 := by rw [← hH]; simp only [AH.next_set, AH.next_up]
        clear hH
        have pa := hS.ha
        have pb := hS.hb
        have g0' := (x3 0 (by omega)).trans g0
        simp -implicitDefEqProofs only [wpC_seq, rowsA, if_true, if_false, opnd, ofVal, ofVal1, layArgs, Nat.reduceAdd, reduceIte, Nat.reduceEqDiff, reduceCtorEq, rowsB, cellsG, Nat.reduceMul, Sc.len, Ob.len, En.len, Fld.len, fda_ptr o25_0, fda_ptr o25_1, fda_ptr o33_0, fda_ptr o33_1, fda_ptr o33_2, fda_ptr o33_3, fda_ptr o31_0, fda_ptr o31_1, fda_ptr o41_0, fda_ptr o41_1, fda_ptr o45_0, fda_ptr o45_1, fda_rop o25_0, fda_rop o25_1, fda_rop o33_0, fda_rop o33_1, fda_rop o33_2, fda_rop o33_3, fda_rop o31_0, fda_rop o31_1, fda_rop o41_0, fda_rop o41_1, fda_rop o45_0, fda_rop o45_1,
    ld25, ld33, ld41, ld45, ld33r, ld41r, ld45r, ld22, ld23, ld9o, ld9or, ld39o, ld39or, ld9e, ld9er, ld43e, ld43er, ld9f0, ld9f0r, ld9f1, ld9f1r, ld9f2, ld9f2r, ld9f3, ld9f3r, ld9f4, ld9f4r, ld31f, ln22, ln23, ln39, ln43, List.drop_drop, f1, f5, g0', x1, goO_known kO]
        have hS0 := St.keep hS (h' := H0.up 6) (Nat.le_refl _) (fun id q1 q2 _ _ => by simp only [AH.get_up]; exact x3 id q2)
        have hl1 : (pre ++ (s.os.take i).flatMap (objD s)).length ≤ 1000 := by
          have := ok.enough.2.1
          have := ok.enough.2.2.1
          have h1 : ((s.os.take i).flatMap (objD s)).length ≤ 8 * 6 := flatMap_le (fun _ => Nat.le_refl 6) (by rw [List.length_take]; omega)
          have h2 : pre.length ≤ 13 := by rw [← hpre, List.length_append, List.length_map, List.length_map]; show 5 + _ ≤ 13; omega
          rw [List.length_append]
          omega
        obtain ⟨R1, ob1, e1, e2, e3, e4, e5, -, hS1⟩ := StD.addL hS0 (B' := h.next + 20) (fr := H0.next + 4) (x := rowV Dn.pv (objD s o)) (l' := objD s o) (by omega) (by omega) (cells_rowV (f := Dn.pv) (fun _ => rfl) _ _) (Nat.succ_pos _) (RdL.of_clean (flat_clean Dn.cl _)) (by show _ + 6 ≤ 1000000; omega)
        rw [e1, goO_w]
        have y0 : ((H0.up 6).set R1 ob1).get 0 = some (.cells 25 0 false s.pv) := by simp only [AH.get_set, AH.get_up]; rw [if_neg (by omega)]; exact g0'
        have ya : ((H0.up 6).set R1 ob1).get a = some (.cells 54 0 false [.str bQuery, .int .i64 2, .nls, vq, .nls]) := by simp only [AH.get_set, AH.get_up]; rw [if_neg (by omega)]; exact (x3 a (by omega)).trans ga
        have yb : ((H0.up 6).set R1 ob1).get b = some (.cells 54 0 false [.str bMutation, .int .i64 2, .nls, vm, .nls]) := by simp only [AH.get_set, AH.get_up]; rw [if_neg (by omega)]; exact (x3 b (by omega)).trans gb
        have y2 : ((H0.up 6).set R1 ob1).get (h.next + 1 + 4 + 6) = some (.cells 56 0 false [.str [102, 105, 108, 116, 101, 114], .str (o.n ++ bFilter), .str [33]]) := by simp only [AH.get_set, AH.get_up]; rw [if_neg (by omega)]; exact x2
        have yn : ((H0.up 6).set R1 ob1).next = h.next + 20 := by simp only [AH.next_set, AH.next_up, x4]
        generalize (H0.up 6).set R1 ob1 = H1 at hS1 y0 ya yb y2 yn ⊢
        have rq := RowP.root hS.q
        have rm := RowP.root hS.m
        clear e1 x1 x2 x3 x4 hS0 g0' hS
        have b1 := @a2 [103, 101, 116] (by decide)
        have b2 := @a2 [113, 117, 101, 114, 121] (by decide)
        have kA := args_c (mx := mx) o.n (by omega)
        simp -implicitDefEqProofs only [wpC_seq, rowsA, if_true, if_false, opnd, ofVal, ofVal1, layArgs, Nat.reduceAdd, reduceIte, Nat.reduceEqDiff, reduceCtorEq, rowsB, cellsG, Nat.reduceMul, Sc.len, Ob.len, En.len, Fld.len, fda_ptr o25_0, fda_ptr o25_1, fda_ptr o33_0, fda_ptr o33_1, fda_ptr o33_2, fda_ptr o33_3, fda_ptr o31_0, fda_ptr o31_1, fda_ptr o41_0, fda_ptr o41_1, fda_ptr o45_0, fda_ptr o45_1, fda_rop o25_0, fda_rop o25_1, fda_rop o33_0, fda_rop o33_1, fda_rop o33_2, fda_rop o33_3, fda_rop o31_0, fda_rop o31_1, fda_rop o41_0, fda_rop o41_1, fda_rop o45_0, fda_rop o45_1,
    ld25, ld33, ld41, ld45, ld33r, ld41r, ld45r, ld22, ld23, ld9o, ld9or, ld39o, ld39or, ld9e, ld9er, ld43e, ld43er, ld9f0, ld9f0r, ld9f1, ld9f1r, ld9f2, ld9f2r, ld9f3, ld9f3r, ld9f4, ld9f4r, ld31f, ln22, ln23, ln39, ln43, List.drop_drop, f10, f11, ya, fda_ptr o54_3, loadO_one ag51 sz51, b1, b2, goD_known (genRef_c _ _), goD_known (gin_c _ _ _), goD_known kA, bd52_1, bl58w, bl58v, bd51_2, goD_eq]
        clear b1 b2
        generalize hH : AH.set _ _ _ = H2
        have z1 : H2.get (H1.next + 7) = some (.cells 56 3 false (flat Inp.pv [⟨bid, bID, [33]⟩])) := by
          rw [← hH]
          simp only [AH.get_set, if_true]
          rw [if_neg (by omega)]
          rfl
        have z2 : H2.get (H1.next + 16) = some (.cells 58 4 false [.str (103 :: 101 :: 116 :: o.n), .str o.n, .str [], .ow (H1.next + 7) 3 0 1, .str (113 :: 117 :: 101 :: 114 :: 121 :: o.n), .str o.n, .str [33, 91, 33], rowV Inp.pv (argsL o.n)]) := by
          rw [← hH]
          simp only [AH.get_set, if_true]
        have z3 : ∀ y, y < H1.next → H2.get y = H1.get y := fun y hy => by
          rw [← hH]
          simp only [AH.get_set, AH.get_up]
          rw [if_neg (by omega), if_neg (by omega)]
        have z4 : H2.next = H1.next + 20 := by rw [← hH]; simp only [AH.next_set, AH.next_up]
        clear hH
        have hos := ok.enough.2.1
        have hl2 : ((s.os.take i).flatMap qryO).length ≤ 8 * 2 := flatMap_le (fun _ => Nat.le_refl 2) (by rw [List.length_take]; omega)
        have hl3 : ((s.os.take i).flatMap mutO).length ≤ 8 * 3 := flatMap_le (fun _ => Nat.le_refl 3) (by rw [List.length_take]; omega)
        have hS1k := St.keep hS1 (h' := H2) (Nat.le_refl _) (fun id q1 q2 _ _ => z3 id (by omega))
        obtain ⟨R2, ob2, e1, r2, r3, r4, r5, r6, hS2⟩ := StD.addQ hS1k (B' := H1.next + 20) (fr := H1.next + 17) (x := .ow (H1.next + 16) 8 0 2) (q' := qryO o) (by omega) (by omega) (cellR_ow (n := 2) z2 rfl) (Nat.succ_pos _) ⟨Rd.of_clean rfl, Rd.of_clean rfl, Rd.of_clean rfl, rdOwP (f := Inp.pv) (sz := 3) (d := 0) ⟨by omega, by omega⟩ (fun _ => rfl) Inp.cl z1 rfl rfl (Nat.succ_pos _), Rd.of_clean rfl, Rd.of_clean rfl, Rd.of_clean rfl, Rd.of_clean rfl, trivial⟩ (by show _ + 2 ≤ 1000000; omega)
        have r7 : R2 = H1.next + 17 ∨ R2 < h.next := by
          rcases r6 with q | q
          · exact .inl q
          · exact .inr (rq _ q).2.1
        rw [e1, goD_any (by kernel_rfl)]
        have y0' : (H2.set R2 ob2).get 0 = some (.cells 25 0 false s.pv) := by simp only [AH.get_set]; rw [if_neg (by omega), z3 0 (by omega)]; exact y0
        have ya' : (H2.set R2 ob2).get a = some (.cells 54 0 false [.str bQuery, .int .i64 2, .nls, vq, .nls]) := by simp only [AH.get_set]; rw [if_neg (by omega), z3 a (by omega)]; exact ya
        have yb' : (H2.set R2 ob2).get b = some (.cells 54 0 false [.str bMutation, .int .i64 2, .nls, vm, .nls]) := by simp only [AH.get_set]; rw [if_neg (by omega), z3 b (by omega)]; exact yb
        have y2' : (H2.set R2 ob2).get (h.next + 1 + 4 + 6) = some (.cells 56 0 false [.str [102, 105, 108, 116, 101, 114], .str (o.n ++ bFilter), .str [33]]) := by simp only [AH.get_set]; rw [if_neg (by omega), z3 _ (by omega)]; exact y2
        have yn' : (H2.set R2 ob2).next = h.next + 40 := by simp only [AH.next_set, z4, yn]
        generalize H2.set R2 ob2 = H3 at hS2 y0' ya' yb' y2' yn' ⊢
        clear e1 z1 z2 z3 z4 hS1 hS1k ya yb y2 y0
        simp -implicitDefEqProofs only [wpC_seq, rowsA, if_true, if_false, opnd, ofVal, ofVal1, layArgs, Nat.reduceAdd, reduceIte, Nat.reduceEqDiff, reduceCtorEq, rowsB, cellsG, Nat.reduceMul, Sc.len, Ob.len, En.len, Fld.len, fda_ptr o25_0, fda_ptr o25_1, fda_ptr o33_0, fda_ptr o33_1, fda_ptr o33_2, fda_ptr o33_3, fda_ptr o31_0, fda_ptr o31_1, fda_ptr o41_0, fda_ptr o41_1, fda_ptr o45_0, fda_ptr o45_1, fda_rop o25_0, fda_rop o25_1, fda_rop o33_0, fda_rop o33_1, fda_rop o33_2, fda_rop o33_3, fda_rop o31_0, fda_rop o31_1, fda_rop o41_0, fda_rop o41_1, fda_rop o45_0, fda_rop o45_1,
    ld25, ld33, ld41, ld45, ld33r, ld41r, ld45r, ld22, ld23, ld9o, ld9or, ld39o, ld39or, ld9e, ld9er, ld43e, ld43er, ld9f0, ld9f0r, ld9f1, ld9f1r, ld9f2, ld9f2r, ld9f3, ld9f3r, ld9f4, ld9f4r, ld31f, ln22, ln23, ln39, ln43, List.drop_drop, f10, ya', fda_ptr o54_3, sz51, st54q]
        rw [goD_st (by omega) (by kernel_rfl)]
        have v0 : (H3.set a (.cells 54 0 false [.str bQuery, .int .i64 2, .nls, .ow R2 (((s.os.take i).flatMap qryO ++ qryO o).length * 4) 0 ((s.os.take i).flatMap qryO ++ qryO o).length, .nls])).get 0 = some (.cells 25 0 false s.pv) := by simp only [AH.get_set]; rw [if_neg (by omega)]; exact y0'
        have va : (H3.set a (.cells 54 0 false [.str bQuery, .int .i64 2, .nls, .ow R2 (((s.os.take i).flatMap qryO ++ qryO o).length * 4) 0 ((s.os.take i).flatMap qryO ++ qryO o).length, .nls])).get a = some (.cells 54 0 false [.str bQuery, .int .i64 2, .nls, .ow R2 (((s.os.take i).flatMap qryO ++ qryO o).length * 4) 0 ((s.os.take i).flatMap qryO ++ qryO o).length, .nls]) := by simp only [AH.get_set, if_true]
        have vb : (H3.set a (.cells 54 0 false [.str bQuery, .int .i64 2, .nls, .ow R2 (((s.os.take i).flatMap qryO ++ qryO o).length * 4) 0 ((s.os.take i).flatMap qryO ++ qryO o).length, .nls])).get b = some (.cells 54 0 false [.str bMutation, .int .i64 2, .nls, vm, .nls]) := by simp only [AH.get_set]; rw [if_neg (by omega)]; exact yb'
        have v2 : (H3.set a (.cells 54 0 false [.str bQuery, .int .i64 2, .nls, .ow R2 (((s.os.take i).flatMap qryO ++ qryO o).length * 4) 0 ((s.os.take i).flatMap qryO ++ qryO o).length, .nls])).get (h.next + 1 + 4 + 6) = some (.cells 56 0 false [.str [102, 105, 108, 116, 101, 114], .str (o.n ++ bFilter), .str [33]]) := by simp only [AH.get_set]; rw [if_neg (by omega)]; exact y2'
        have vn : (H3.set a (.cells 54 0 false [.str bQuery, .int .i64 2, .nls, .ow R2 (((s.os.take i).flatMap qryO ++ qryO o).length * 4) 0 ((s.os.take i).flatMap qryO ++ qryO o).length, .nls])).next = h.next + 40 := by simp only [AH.next_set]; exact yn'
        have hS3 := St.keep hS2 (h' := H3.set a (.cells 54 0 false [.str bQuery, .int .i64 2, .nls, .ow R2 (((s.os.take i).flatMap qryO ++ qryO o).length * 4) 0 ((s.os.take i).flatMap qryO ++ qryO o).length, .nls])) (Nat.le_refl _) (fun id q1 q2 q3 q4 => by simp only [AH.get_set, q3, if_false])
        generalize H3.set a (.cells 54 0 false [.str bQuery, .int .i64 2, .nls, .ow R2 (((s.os.take i).flatMap qryO ++ qryO o).length * 4) 0 ((s.os.take i).flatMap qryO ++ qryO o).length, .nls]) = H4 at v0 va vb v2 vn hS3 ⊢
        clear y0' ya' yb' y2' yn' hS2
        have b1 := @a2 [97, 100, 100] (by decide)
        have b2 := @a2 [117, 112, 100, 97, 116, 101] (by decide)
        have b3 := @a2 [100, 101, 108, 101, 116, 101] (by decide)
        have b4 := @a2 [65, 100, 100] (by decide)
        have b5 := @a2 [80, 97, 116, 99, 104] (by decide)
        have l56 := load_agg (P := Tryz.prog) (c := [.str [102, 105, 108, 116, 101, 114], .str (o.n ++ bFilter), .str [33]]) ag56 sz56 (Nat.le_refl 3)
        have na : ¬ (h.next + 2 = H4.next) := by omega
        have nb : ¬ (h.next = H4.next + 8) := by omega
        have nc : ¬ (h.next = H4.next + 14) := by omega
        simp -implicitDefEqProofs only [wpC_seq, rowsA, if_true, if_false, opnd, ofVal, ofVal1, layArgs, Nat.reduceAdd, reduceIte, Nat.reduceEqDiff, reduceCtorEq, rowsB, cellsG, Nat.reduceMul, Sc.len, Ob.len, En.len, Fld.len, fda_ptr o25_0, fda_ptr o25_1, fda_ptr o33_0, fda_ptr o33_1, fda_ptr o33_2, fda_ptr o33_3, fda_ptr o31_0, fda_ptr o31_1, fda_ptr o41_0, fda_ptr o41_1, fda_ptr o45_0, fda_ptr o45_1, fda_rop o25_0, fda_rop o25_1, fda_rop o33_0, fda_rop o33_1, fda_rop o33_2, fda_rop o33_3, fda_rop o31_0, fda_rop o31_1, fda_rop o41_0, fda_rop o41_1, fda_rop o45_0, fda_rop o45_1,
    ld25, ld33, ld41, ld45, ld33r, ld41r, ld45r, ld22, ld23, ld9o, ld9or, ld39o, ld39or, ld9e, ld9er, ld43e, ld43er, ld9f0, ld9f0r, ld9f1, ld9f1r, ld9f2, ld9f2r, ld9f3, ld9f3r, ld9f4, ld9f4r, ld31f, ln22, ln23, ln39, ln43, List.drop_drop, f11, vb, v2, na, nb, nc, fda_ptr o54_3, loadO_one ag51 sz51, b1, b2, b3, b4, b5, l56, goD_known (genRef_c _ _), goD_known (gin_c _ _ _), bd52_1, bd52_2, bl58w, bd51_3, goD_eq]
        clear b1 b2 b3 b4 b5 na nb nc
        generalize hH : AH.set _ _ _ = H5
        have z1 : H5.get (H4.next + 9) = some (.cells 56 3 false (flat Inp.pv [⟨[105, 110, 112, 117, 116], bAdd ++ o.n, manyL⟩])) := by
          rw [← hH]
          simp only [AH.get_set, if_true]
          rw [if_neg (by omega), if_neg (by omega), if_neg (by omega)]
          rfl
        have z2 : H5.get (H4.next + 19) = some (.cells 56 3 false (flat Inp.pv [⟨[102, 105, 108, 116, 101, 114], o.n ++ bFilter, [33]⟩, ⟨[115, 101, 116], bPatch ++ o.n, [33]⟩])) := by
          rw [← hH]
          simp only [AH.get_set, if_true]
          rw [if_neg (by omega), if_neg (by omega)]
          rfl
        have z5 : H5.get (H4.next + 25) = some (.cells 56 3 false (flat Inp.pv [⟨[102, 105, 108, 116, 101, 114], o.n ++ bFilter, [33]⟩])) := by
          rw [← hH]
          simp only [AH.get_set, if_true]
          rw [if_neg (by omega)]
          rfl
        have z6 : H5.get (H4.next + 27) = some (.cells 58 4 false [.str (97 :: 100 :: 100 :: o.n), .str o.n, .str [33, 91, 33], .ow (H4.next + 9) 3 0 1, .str (117 :: 112 :: 100 :: 97 :: 116 :: 101 :: o.n), .str o.n, .str [33, 91, 33], .ow (H4.next + 19) 6 0 2, .str (100 :: 101 :: 108 :: 101 :: 116 :: 101 :: o.n), .str [73, 110, 116], .str [33], .ow (H4.next + 25) 3 0 1]) := by
          rw [← hH]
          simp only [AH.get_set, if_true]
        have z3 : ∀ y, y < H4.next → H5.get y = H4.get y := fun y hy => by
          rw [← hH]
          simp only [AH.get_set, AH.get_up]
          rw [if_neg (by omega), if_neg (by omega), if_neg (by omega), if_neg (by omega)]
        have z4 : H5.next = H4.next + 31 := by rw [← hH]; simp only [AH.next_set, AH.next_up]
        clear hH
        have hS3k := St.keep hS3 (h' := H5) (Nat.le_refl _) (fun id q1 q2 _ _ => z3 id (by omega))
        obtain ⟨R3, ob3, e1, t3, t4, t5, t6, t7, hS4⟩ := StD.addM hS3k (B' := H4.next + 31) (fr := H4.next + 28) (x := .ow (H4.next + 27) 12 0 3) (m' := mutO o) (by omega) (by omega) (cellR_ow (n := 3) z6 rfl) (Nat.succ_pos _) ⟨Rd.of_clean rfl, Rd.of_clean rfl, Rd.of_clean rfl, rdOwP (f := Inp.pv) (sz := 3) (d := 0) ⟨by omega, by omega⟩ (fun _ => rfl) Inp.cl z1 rfl rfl (Nat.succ_pos _), Rd.of_clean rfl, Rd.of_clean rfl, Rd.of_clean rfl, rdOwP (f := Inp.pv) (sz := 3) (d := 0) ⟨by omega, by omega⟩ (fun _ => rfl) Inp.cl z2 rfl rfl (Nat.succ_pos _), Rd.of_clean rfl, Rd.of_clean rfl, Rd.of_clean rfl, rdOwP (f := Inp.pv) (sz := 3) (d := 0) ⟨by omega, by omega⟩ (fun _ => rfl) Inp.cl z5 rfl rfl (Nat.succ_pos _), trivial⟩ (by show _ + 3 ≤ 1000000; omega)
        rw [e1, goD_any (by kernel_rfl)]
        have q0 : (H5.set R3 ob3).get 0 = some (.cells 25 0 false s.pv) := by simp only [AH.get_set]; rw [if_neg (by omega), z3 0 (by omega)]; exact v0
        have qa := (show (H5.set R3 ob3).get a = H4.get a by simp only [AH.get_set]; rw [if_neg (by omega), z3 a (by omega)]).trans va
        have qb : (H5.set R3 ob3).get b = some (.cells 54 0 false [.str bMutation, .int .i64 2, .nls, vm, .nls]) := by simp only [AH.get_set]; rw [if_neg (by omega), z3 b (by omega)]; exact vb
        have qn : (H5.set R3 ob3).next = H4.next + 31 := by simp only [AH.next_set, z4]
        generalize H5.set R3 ob3 = H6 at hS4 q0 qa qb qn ⊢
        clear e1 z1 z2 z3 z4 z5 z6 hS3 hS3k va vb v2 v0
        simp -implicitDefEqProofs only [wpC_seq, rowsA, if_true, if_false, opnd, ofVal, ofVal1, layArgs, Nat.reduceAdd, reduceIte, Nat.reduceEqDiff, reduceCtorEq, rowsB, cellsG, Nat.reduceMul, Sc.len, Ob.len, En.len, Fld.len, fda_ptr o25_0, fda_ptr o25_1, fda_ptr o33_0, fda_ptr o33_1, fda_ptr o33_2, fda_ptr o33_3, fda_ptr o31_0, fda_ptr o31_1, fda_ptr o41_0, fda_ptr o41_1, fda_ptr o45_0, fda_ptr o45_1, fda_rop o25_0, fda_rop o25_1, fda_rop o33_0, fda_rop o33_1, fda_rop o33_2, fda_rop o33_3, fda_rop o31_0, fda_rop o31_1, fda_rop o41_0, fda_rop o41_1, fda_rop o45_0, fda_rop o45_1,
    ld25, ld33, ld41, ld45, ld33r, ld41r, ld45r, ld22, ld23, ld9o, ld9or, ld39o, ld39or, ld9e, ld9er, ld43e, ld43er, ld9f0, ld9f0r, ld9f1, ld9f1r, ld9f2, ld9f2r, ld9f3, ld9f3r, ld9f4, ld9f4r, ld31f, ln22, ln23, ln39, ln43, List.drop_drop, f11, qb, fda_ptr o54_3, sz51, st54q]
        rw [goD_st (by omega) (by kernel_rfl)]
        simp -implicitDefEqProofs only [wpC_seq, rowsA, if_true, if_false, opnd, ofVal, ofVal1, layArgs, Nat.reduceAdd, reduceIte, Nat.reduceEqDiff, reduceCtorEq, rowsB, cellsG, Nat.reduceMul, f57, w]
        have ex1 : pre ++ (s.os.take (i + 1)).flatMap (objD s) = (pre ++ (s.os.take i).flatMap (objD s)) ++ objD s o := by rw [takeM ho, List.flatMap_append, List.append_assoc]; simp
        have ex2 : (s.os.take (i + 1)).flatMap qryO = (s.os.take i).flatMap qryO ++ qryO o := by rw [takeM ho, List.flatMap_append]; simp
        have ex3 : (s.os.take (i + 1)).flatMap mutO = (s.os.take i).flatMap mutO ++ mutO o := by rw [takeM ho, List.flatMap_append]; simp
        refine ⟨k, by omega, i + 1, .ow R1 (((pre ++ (s.os.take i).flatMap (objD s)) ++ objD s o).length * 5) 0 ((pre ++ (s.os.take i).flatMap (objD s)) ++ objD s o).length, .ow R2 (((s.os.take i).flatMap qryO ++ qryO o).length * 4) 0 ((s.os.take i).flatMap qryO ++ qryO o).length, .ow R3 (((s.os.take i).flatMap mutO ++ mutO o).length * 4) 0 ((s.os.take i).flatMap mutO ++ mutO o).length, by omega, ?_, ?_, ?_, ?_, ?_, ?_, ?_, ?_, ?_, ?_, hab, ?_⟩
        · simp only [Fr.at_set, Nat.reduceEqDiff, reduceIte, f1]
        · simp only [Fr.at_set, Nat.reduceEqDiff, reduceIte]
        · simp only [Fr.at_set, Nat.reduceEqDiff, reduceIte, f10]
        · simp only [Fr.at_set, Nat.reduceEqDiff, reduceIte, f11]
        · simp only [Fr.at_set, Nat.reduceEqDiff, reduceIte, f55]
        · simp only [Fr.at_set, Nat.reduceEqDiff, reduceIte, f56]
        · simp only [Fr.at_set, Nat.reduceEqDiff, reduceIte]; rfl
        · simp only [AH.get_set, AH.get_up]; rw [if_neg (by omega)]; exact q0
        · simp only [AH.get_set, AH.get_up]; rw [if_neg (by omega)]; exact qa
        · simp only [AH.get_set, AH.get_up, if_true]
        · rw [ex1, ex2, ex3]
          exact St.keep hS4 (by simp only [AH.next_set, AH.next_up]; omega) (fun id q1 q2 q3 q4 => by simp only [AH.get_set, AH.get_up, q4, if_false])
    | succ k =>
      have c2 : (i : Int) < (s.es.length : Int) := by omega
      obtain ⟨e, he⟩ : ∃ e, s.es[i]? = some e := ⟨_, List.getElem?_eq_getElem (show i < s.es.length by omega)⟩
      have hem := List.mem_of_getElem? he
      obtain ⟨w1, w2⟩ := ok.enough.2.2.2.2 e hem
      obtain ⟨r, hr⟩ := ix23 (l := s.es) (i := (i : Int)) (by omega) (by rw [Int.toNat_natCast]; exact he)
      have w := IntWalk.i64_in ((i : Int) + 1) (by have := ok.enough.2.2.1; omega)
      simp -implicitDefEqProofs only [wpC_seq, rowsA, if_true, if_false, opnd, ofVal, ofVal1, layArgs, Nat.reduceAdd, reduceIte, Nat.reduceEqDiff, reduceCtorEq, rowsB, cellsG, Nat.reduceMul, Sc.len, Ob.len, En.len, Fld.len, fda_ptr o25_0, fda_ptr o25_1, fda_ptr o33_0, fda_ptr o33_1, fda_ptr o33_2, fda_ptr o33_3, fda_ptr o31_0, fda_ptr o31_1, fda_ptr o41_0, fda_ptr o41_1, fda_ptr o45_0, fda_ptr o45_1, fda_rop o25_0, fda_rop o25_1, fda_rop o33_0, fda_rop o33_1, fda_rop o33_2, fda_rop o33_3, fda_rop o31_0, fda_rop o31_1, fda_rop o41_0, fda_rop o41_1, fda_rop o45_0, fda_rop o45_1,
    ld25, ld33, ld41, ld45, ld33r, ld41r, ld45r, ld22, ld23, ld9o, ld9or, ld39o, ld39or, ld9e, ld9er, ld43e, ld43er, ld9f0, ld9f0r, ld9f1, ld9f1r, ld9f2, ld9f2r, ld9f3, ld9f3r, ld9f4, ld9f4r, ld31f, ln22, ln23, ln39, ln43, List.drop_drop, f1, f5, f36, f37, f38, g0, c2, hr, al45, sz45, st45e, goD_own (v := fun fr => .ow fr (e.ws.length * 1) 0 e.ws.length) (clone_c (mx := mx) e.ws w1 (by omega)), bl54w, bd47_1, goD_eq, w]
      have hh : ∀ y, y < h.next → (((((((h.up 1).up 4).set (h.next + 1 + 2) (.cells 45 0 false [.str [], .nls])).set (h.next + 1 + 2) (.cells 45 0 false e.pv)).up 10).set (h.next + 1 + 4 + 5) (.cells 9 1 false (List.map PV.str e.ws))).set (h.next + 1 + 4 + 7) (.cells 54 5 false [.str e.n, .int .i64 1, .ow (h.next + 1 + 4 + 5) (e.ws.length * 1) 0 e.ws.length, .nls, .nls])).get y = h.get y := fun y hy => by
        simp only [AH.get_set, AH.get_up]
        rw [if_neg (by omega), if_neg (by omega), if_neg (by omega), if_neg (by omega)]
      have hg1 : (((((((h.up 1).up 4).set (h.next + 1 + 2) (.cells 45 0 false [.str [], .nls])).set (h.next + 1 + 2) (.cells 45 0 false e.pv)).up 10).set (h.next + 1 + 4 + 5) (.cells 9 1 false (List.map PV.str e.ws))).set (h.next + 1 + 4 + 7) (.cells 54 5 false [.str e.n, .int .i64 1, .ow (h.next + 1 + 4 + 5) (e.ws.length * 1) 0 e.ws.length, .nls, .nls])).get (h.next + 1 + 4 + 5) = some (.cells 9 1 false (flat strV e.ws)) := by
        simp only [AH.get_set, if_true]
        rw [if_neg (by omega), strs_flat]
      have hg2 : (((((((h.up 1).up 4).set (h.next + 1 + 2) (.cells 45 0 false [.str [], .nls])).set (h.next + 1 + 2) (.cells 45 0 false e.pv)).up 10).set (h.next + 1 + 4 + 5) (.cells 9 1 false (List.map PV.str e.ws))).set (h.next + 1 + 4 + 7) (.cells 54 5 false [.str e.n, .int .i64 1, .ow (h.next + 1 + 4 + 5) (e.ws.length * 1) 0 e.ws.length, .nls, .nls])).get (h.next + 1 + 4 + 7) = some (.cells 54 5 false [.str e.n, .int .i64 1, .ow (h.next + 1 + 4 + 5) (e.ws.length * 1) 0 e.ws.length, .nls, .nls]) := by
        simp only [AH.get_set, if_true]
      have hn1 : (((((((h.up 1).up 4).set (h.next + 1 + 2) (.cells 45 0 false [.str [], .nls])).set (h.next + 1 + 2) (.cells 45 0 false e.pv)).up 10).set (h.next + 1 + 4 + 5) (.cells 9 1 false (List.map PV.str e.ws))).set (h.next + 1 + 4 + 7) (.cells 54 5 false [.str e.n, .int .i64 1, .ow (h.next + 1 + 4 + 5) (e.ws.length * 1) 0 e.ws.length, .nls, .nls])).next = h.next + 15 := by simp only [AH.next_set, AH.next_up]
      generalize (((((((h.up 1).up 4).set (h.next + 1 + 2) (.cells 45 0 false [.str [], .nls])).set (h.next + 1 + 2) (.cells 45 0 false e.pv)).up 10).set (h.next + 1 + 4 + 5) (.cells 9 1 false (List.map PV.str e.ws))).set (h.next + 1 + 4 + 7) (.cells 54 5 false [.str e.n, .int .i64 1, .ow (h.next + 1 + 4 + 5) (e.ws.length * 1) 0 e.ws.length, .nls, .nls])) = H0 at hh hg1 hg2 hn1 ⊢
      have hil : (scalL.map scalD ++ (s.es.take i).map enmD).length ≤ 100 := by
        rw [List.length_append, List.length_map, List.length_map, List.length_take]
        have := ok.enough.2.2.1
        show 5 + _ ≤ 100
        omega
      obtain ⟨R, ob, e1, e2, e3, e4⟩ := (hR.keep (h' := H0) (Nat.le_refl _) (fun id h1 h2 => hh id h2)).add (B' := h.next + 15) (fr := h.next + 1 + 4 + 8) (x := .ow (h.next + 1 + 4 + 7) 5 0 1) (m := [enmD e]) (by omega) (by omega) (by omega) (cellR1 hg2 rfl) (Nat.succ_pos _) (by
        rw [flat1]
        exact ⟨Rd.of_clean rfl, Rd.of_clean rfl, rdOwP (f := strV) (sz := 1) (d := 1) ⟨by omega, by omega⟩ (fun _ => rfl) (fun _ => rfl) hg1 rfl rfl w1, Rd.of_clean rfl, Rd.of_clean rfl, trivial⟩) (by show _ + 1 ≤ 1000000; omega)
      rw [e1, goD_any (by kernel_rfl)]
      have hk : ∀ y, y < 10 → (H0.set R ob).get y = h.get y := fun y hy => by simp only [AH.get_set]; rw [if_neg (by omega), hh y (by omega)]
      have hnx : (H0.set R ob).next = h.next + 15 := by simp only [AH.next_set, hn1]
      generalize H0.set R ob = H at e4 hk hnx ⊢
      simp -implicitDefEqProofs only [wpC_seq, rowsA, if_true, if_false, opnd, ofVal, ofVal1, layArgs, Nat.reduceAdd, reduceIte, Nat.reduceEqDiff, reduceCtorEq, rowsB, cellsG, Nat.reduceMul, f38, w]
      have ex : scalL.map scalD ++ (s.es.take (i + 1)).map enmD = (scalL.map scalD ++ (s.es.take i).map enmD) ++ [enmD e] := by rw [takeM he, List.map_append, List.append_assoc]; rfl
      refine ⟨k, by omega, i + 1, .ow R (((scalL.map scalD ++ (s.es.take i).map enmD) ++ [enmD e]).length * 5) 0 ((scalL.map scalD ++ (s.es.take i).map enmD) ++ [enmD e]).length, by omega, ?_, ?_, ?_, ?_, ?_, ?_, ?_, ?_⟩
      · simp only [Fr.at_set, Nat.reduceEqDiff, reduceIte, f1]
      · simp only [Fr.at_set, Nat.reduceEqDiff, reduceIte]
      · simp only [Fr.at_set, Nat.reduceEqDiff, reduceIte, f36]
      · simp only [Fr.at_set, Nat.reduceEqDiff, reduceIte, f37]
      · simp only [Fr.at_set, Nat.reduceEqDiff, reduceIte]; rfl
      · simp only [AH.get_up]; exact (hk 0 (by decide)).trans g0
      · simp only [AH.next_up]; omega
      · rw [ex]
        exact e4.keep (by simp only [AH.next_up]; omega) fun id _ _ => by simp only [AH.get_up]
  | succ k =>
    have c1 : (i : Int) < 5 := by omega
    obtain ⟨x, hx⟩ : ∃ x, scalL[i]? = some x := ⟨_, List.getElem?_eq_getElem (show i < scalL.length by show i < 5; omega)⟩
    obtain ⟨r, hr⟩ := flat_drop (f := strV) (z := 1) (fun _ => rfl) scalL i x hx
    rw [Nat.mul_one] at hr
    have w := IntWalk.i64_in ((i : Int) + 1) (by omega)
    have hlen : (flat strV scalL).length = 5 := rfl
    have hld : loadO Tryz.prog 9 (some (strV x ++ r)) = some (.q (.str x)) := loadO_one ag9 sz9
    simp -implicitDefEqProofs only [wpC_seq, rowsA, if_true, if_false, opnd, ofVal, ofVal1, layArgs, Nat.reduceAdd, reduceIte, Nat.reduceEqDiff, reduceCtorEq, rowsB, cellsG, Nat.reduceMul, Sc.len, Ob.len, En.len, Fld.len, fda_ptr o25_0, fda_ptr o25_1, fda_ptr o33_0, fda_ptr o33_1, fda_ptr o33_2, fda_ptr o33_3, fda_ptr o31_0, fda_ptr o31_1, fda_ptr o41_0, fda_ptr o41_1, fda_ptr o45_0, fda_ptr o45_1, fda_rop o25_0, fda_rop o25_1, fda_rop o33_0, fda_rop o33_1, fda_rop o33_2, fda_rop o33_3, fda_rop o31_0, fda_rop o31_1, fda_rop o41_0, fda_rop o41_1, fda_rop o45_0, fda_rop o45_1,
    ld25, ld33, ld41, ld45, ld33r, ld41r, ld45r, ld22, ld23, ld9o, ld9or, ld39o, ld39or, ld9e, ld9er, ld43e, ld43er, ld9f0, ld9f0r, ld9f1, ld9f1r, ld9f2, ld9f2r, ld9f3, ld9f3r, ld9f4, ld9f4r, ld31f, ln22, ln23, ln39, ln43, List.drop_drop, f1, f5, f23, f24, f25, g0, g9, c1, ida_ow (n := 5) (i := (i : Int)) u43 sz9 (by omega) (by omega), Int.toNat_natCast, hr, hlen, hld, bl54s, bd47_d, w]
    have hRk := hR.keep (h' := (((h.up 1).up 3).up 6).set (h.next + 1 + 3 + 3) (.cells 54 5 false (scalD x).pv)) (Nat.le_refl _) (fun id h1 h2 => by simp only [AH.get_set, AH.get_up]; rw [if_neg (by omega)])
    have hil : ((scalL.take i).map scalD).length ≤ 5 := by rw [List.length_map, List.length_take]; exact Nat.min_le_right _ _
    obtain ⟨R, ob, e1, e2, e3, e4⟩ := hRk.add (B' := h.next + 10) (fr := h.next + 1 + 3 + 4) (x := .ow (h.next + 1 + 3 + 3) 5 0 1) (m := [scalD x]) (xs := (scalD x).pv) (by omega) (by omega) (by omega) (cellR1 (by simp only [AH.get_set, if_true]; rfl) rfl) (Nat.succ_pos _) (by rw [flat1]; exact RdL.of_clean rfl) (by show _ + 1 ≤ 1000000; omega)
    rw [e1, goO_w]
    have hk : ∀ y, y < 10 → (((((h.up 1).up 3).up 6).set (h.next + 1 + 3 + 3) (.cells 54 5 false (scalD x).pv)).set R ob).get y = h.get y := fun y hy => by simp only [AH.get_set, AH.get_up]; rw [if_neg (by omega), if_neg (by omega)]
    have hnx : (((((h.up 1).up 3).up 6).set (h.next + 1 + 3 + 3) (.cells 54 5 false (scalD x).pv)).set R ob).next = h.next + 10 := by simp only [AH.next_set, AH.next_up]
    generalize ((((h.up 1).up 3).up 6).set (h.next + 1 + 3 + 3) (.cells 54 5 false (scalD x).pv)).set R ob = H at e4 hk hnx ⊢
    simp -implicitDefEqProofs only [wpC_seq, rowsA, if_true, if_false, opnd, ofVal, ofVal1, layArgs, Nat.reduceAdd, reduceIte, Nat.reduceEqDiff, reduceCtorEq, rowsB, cellsG, Nat.reduceMul, f25, w]
    have ex : (scalL.take (i + 1)).map scalD = (scalL.take i).map scalD ++ [scalD x] := by rw [takeM hx, List.map_append]; rfl
    refine ⟨k, by omega, i + 1, .ow R (((scalL.take i).map scalD ++ [scalD x]).length * 5) 0 ((scalL.take i).map scalD ++ [scalD x]).length, by omega, ?_, ?_, ?_, ?_, ?_, ?_, ?_, ?_, ?_⟩
    · simp only [Fr.at_set, Nat.reduceEqDiff, reduceIte, f1]
    · simp only [Fr.at_set, Nat.reduceEqDiff, reduceIte]
    · simp only [Fr.at_set, Nat.reduceEqDiff, reduceIte, f23]
    · simp only [Fr.at_set, Nat.reduceEqDiff, reduceIte, f24]
    · simp only [Fr.at_set, Nat.reduceEqDiff, reduceIte]; rfl
    · simp only [AH.get_up]; exact (hk 0 (by decide)).trans g0
    · simp only [AH.get_up]; exact (hk 9 (by decide)).trans g9
    · simp only [AH.next_up]; omega
    · rw [ex]
      exact e4.keep (by simp only [AH.next_up]; omega) fun id _ _ => by simp only [AH.get_up]
end Go.Proofs.YtcbngkmmmfaaoaaGreatDoor
/-
  THE API'S TYPES, N0: plain law: all definitions have unlike names.
-/
namespace Go.Proofs.YtcbngkmmmfaaoaaGreatDoor
open Go.RowKit Go.Lib Go.Ac
variable {mx : Int}
/-- A name that has no front and no tail of those that names are made with. -/
structure Good (x : List UInt8) : Prop where
  add : ∀ y, x ≠ bAdd ++ y
  patch : ∀ y, x ≠ bPatch ++ y
  filter : ∀ y, x ≠ y ++ bFilter
  order : ∀ y, x ≠ y ++ bOrder
  orderable : ∀ y, x ≠ y ++ bOrderable
theorem hasP_app (p y : List UInt8) : hasP (p ++ y) p = true := by simp [hasP]
theorem endsB_app (p y : List UInt8) : endsB (y ++ p) p = true := by simp [endsB]
theorem good_of {x : List UInt8} (h1 : frontL.all (fun p => !(hasP x p)) = true) (h2 : tailL.all (fun p => !(endsB x p)) = true) : Good x := by
  simp only [List.all_eq_true, Bool.not_eq_true'] at h1 h2
  refine ⟨fun y e => ?_, fun y e => ?_, fun y e => ?_, fun y e => ?_, fun y e => ?_⟩
  · have := h1 bAdd (by decide)
    rw [e, hasP_app] at this
    cases this
  · have := h1 bPatch (by decide)
    rw [e, hasP_app] at this
    cases this
  · have := h2 bFilter (by decide)
    rw [e, endsB_app] at this
    cases this
  · have := h2 bOrder (by decide)
    rw [e, endsB_app] at this
    cases this
  · have := h2 bOrderable (by decide)
    rw [e, endsB_app] at this
    cases this
/-- What names are made: as they are; with something behind, or ahead. -/
def app : Nat → List UInt8 → List UInt8
  | 0, x => x
  | 1, x => x ++ bFilter
  | 2, x => x ++ bOrder
  | 3, x => x ++ bOrderable
  | 4, x => bAdd ++ x
  | _, x => bPatch ++ x
theorem tail_ne {a b s t : List UInt8} (hl : s.length = t.length) (hn : s ≠ t) : a ++ s ≠ b ++ t := fun e => hn (List.append_inj_right' e hl)
theorem fo {a b : List UInt8} : a ++ bFilter ≠ b ++ bOrder := fun e => tail_ne (a := a ++ [70]) (b := b) (s := [105, 108, 116, 101, 114]) (t := bOrder) rfl (by decide) (by rw [List.append_assoc]; exact e)
theorem fr' {a b : List UInt8} : a ++ bFilter ≠ b ++ bOrderable := fun e => tail_ne (a := a) (b := b ++ [79, 114, 100]) (s := bFilter) (t := [101, 114, 97, 98, 108, 101]) rfl (by decide) (by rw [List.append_assoc]; exact e)
theorem or' {a b : List UInt8} : a ++ bOrder ≠ b ++ bOrderable := fun e => tail_ne (a := a) (b := b ++ [79, 114, 100, 101]) (s := bOrder) (t := [114, 97, 98, 108, 101]) rfl (by decide) (by rw [List.append_assoc]; exact e)
theorem add_ne {x z : List UInt8} {c : UInt8} {s : List UInt8} (hz : ∀ y, z ≠ bAdd ++ y) (h1 : c ≠ 65) (h2 : c ≠ 100) : bAdd ++ x ≠ z ++ c :: s := by
  intro e
  match z, hz, e with
  | [], _, e =>
    simp only [bAdd, List.cons_append, List.nil_append, List.cons.injEq] at e
    exact h1 e.1.symm
  | [a], _, e =>
    simp only [bAdd, List.cons_append, List.nil_append, List.cons.injEq] at e
    exact h2 e.2.1.symm
  | [a, b], _, e =>
    simp only [bAdd, List.cons_append, List.nil_append, List.cons.injEq] at e
    exact h2 e.2.2.1.symm
  | a :: b :: d :: y, hz, e =>
    simp only [bAdd, List.cons_append, List.nil_append, List.cons.injEq] at e
    obtain ⟨rfl, rfl, rfl, _⟩ := e
    exact hz y rfl
theorem patch_ne {x z : List UInt8} {c : UInt8} {s : List UInt8} (hz : ∀ y, z ≠ bPatch ++ y) (h1 : c ≠ 80) (h2 : c ≠ 97) (h3 : c ≠ 116) (h4 : c ≠ 99) (h5 : c ≠ 104) : bPatch ++ x ≠ z ++ c :: s := by
  intro e
  match z, hz, e with
  | [], _, e =>
    simp only [bPatch, List.cons_append, List.nil_append, List.cons.injEq] at e
    exact h1 e.1.symm
  | [a], _, e =>
    simp only [bPatch, List.cons_append, List.nil_append, List.cons.injEq] at e
    exact h2 e.2.1.symm
  | [a, b], _, e =>
    simp only [bPatch, List.cons_append, List.nil_append, List.cons.injEq] at e
    exact h3 e.2.2.1.symm
  | [a, b, d], _, e =>
    simp only [bPatch, List.cons_append, List.nil_append, List.cons.injEq] at e
    exact h4 e.2.2.2.1.symm
  | [a, b, d, f], _, e =>
    simp only [bPatch, List.cons_append, List.nil_append, List.cons.injEq] at e
    exact h5 e.2.2.2.2.1.symm
  | a :: b :: d :: f :: g :: y, hz, e =>
    simp only [bPatch, List.cons_append, List.nil_append, List.cons.injEq] at e
    obtain ⟨rfl, rfl, rfl, rfl, rfl, _⟩ := e
    exact hz y rfl
/-- Each name tells what it was made of. -/
theorem app_inj {i j : Nat} {x y : List UInt8} (hx : Good x) (hy : Good y) (hi : i < 6) (hj : j < 6) (e : app i x = app j y) : i = j ∧ x = y := by
  have sym : ∀ {p q : Nat} {u v : List UInt8}, Good u → Good v → p < q → q < 6 → app p u ≠ app q v := by
    intro p q u v hu hv hpq hq e
    obtain rfl | rfl | rfl | rfl | rfl : q = 1 ∨ q = 2 ∨ q = 3 ∨ q = 4 ∨ q = 5 := by omega
    · obtain rfl : p = 0 := by omega
      exact hu.filter _ e
    · obtain rfl | rfl : p = 0 ∨ p = 1 := by omega
      · exact hu.order _ e
      · exact fo e
    · obtain rfl | rfl | rfl : p = 0 ∨ p = 1 ∨ p = 2 := by omega
      · exact hu.orderable _ e
      · exact fr' e
      · exact or' e
    · obtain rfl | rfl | rfl | rfl : p = 0 ∨ p = 1 ∨ p = 2 ∨ p = 3 := by omega
      · exact hu.add _ e
      · exact add_ne hu.add (by decide) (by decide) e.symm
      · exact add_ne hu.add (by decide) (by decide) e.symm
      · exact add_ne hu.add (by decide) (by decide) e.symm
    · obtain rfl | rfl | rfl | rfl | rfl : p = 0 ∨ p = 1 ∨ p = 2 ∨ p = 3 ∨ p = 4 := by omega
      · exact hu.patch _ e
      · exact patch_ne hu.patch (by decide) (by decide) (by decide) (by decide) (by decide) e.symm
      · exact patch_ne hu.patch (by decide) (by decide) (by decide) (by decide) (by decide) e.symm
      · exact patch_ne hu.patch (by decide) (by decide) (by decide) (by decide) (by decide) e.symm
      · simp [app, bAdd, bPatch] at e
  rcases Nat.lt_trichotomy i j with h | h | h
  · exact absurd e (sym hx hy h hj)
  · subst h
    refine ⟨rfl, ?_⟩
    obtain rfl | rfl | rfl | rfl | rfl | rfl : i = 0 ∨ i = 1 ∨ i = 2 ∨ i = 3 ∨ i = 4 ∨ i = 5 := by omega
    · exact e
    · exact List.append_cancel_right e
    · exact List.append_cancel_right e
    · exact List.append_cancel_right e
    · exact List.append_cancel_left e
    · exact List.append_cancel_left e
  · exact absurd e.symm (sym hy hx h hi)
end Go.Proofs.YtcbngkmmmfaaoaaGreatDoor
/-
  THE API'S TYPES, N1: plain law: all definitions have unlike names; where each stands.
-/
namespace Go.Proofs.YtcbngkmmmfaaoaaGreatDoor
open Go.RowKit Go.Lib Go.Ac
variable {mx : Int}
def six (o : Ob) : List (Nat × List UInt8) := [(0, o.n), (3, o.n), (2, o.n), (1, o.n), (4, o.n), (5, o.n)]
def midP : List (Nat × List UInt8) := [(1, bInt), (1, bFloat), (1, bString), (1, bBoolean)]
def typesP (s : Sc) : List (Nat × List UInt8) := scalL.map (fun x => (0, x)) ++ s.es.map (fun e => (0, e.n)) ++ s.os.flatMap six ++ midP ++ s.es.map (fun e => (1, e.n)) ++ [(0, bQuery), (0, bMutation)]
def appP (p : Nat × List UInt8) : List UInt8 := app p.1 p.2
theorem names_types (s : Sc) : (typesD s).map (·.n) = (typesP s).map appP := by
  simp only [typesD, typesP, List.map_append, List.map_map, List.map_flatMap]
  rfl
def resv : List (List UInt8) := [bID, bInt, bFloat, bString, bBoolean, bQuery, bMutation]
theorem own_resv {x : List UInt8} (h : ownB mx x = true) : x ∉ resv := by
  simp only [ownB, nmB, Bool.and_eq_true, Bool.not_eq_true'] at h
  obtain ⟨⟨_, _, h1⟩, h2⟩ := h
  intro hm
  simp only [resv, List.mem_cons, List.not_mem_nil, or_false] at hm
  have h1' : ¬ (0 ≤ idx (fun y => decide (x = y)) notL 0) := by simpa [memB] using h1
  have no : ∀ y ∈ notL, x ≠ y := fun y hy e => h1' (idx_pos.2 ⟨y, hy, by simp [e]⟩)
  have ns : ∀ y, scalar y = true → x ≠ y := fun y hy e => by
    rw [← e, h2] at hy
    cases hy
  rcases hm with hm | hm | hm | hm | hm | hm | hm
  · exact no _ (by decide) hm
  · exact ns _ (by decide) hm
  · exact ns _ (by decide) hm
  · exact ns _ (by decide) hm
  · exact ns _ (by decide) hm
  · exact no _ (by decide) hm
  · exact no _ (by decide) hm
theorem own_good {x : List UInt8} (h : ownB mx x = true) : Good x := by
  simp only [ownB, Bool.and_eq_true] at h
  exact good_of h.1.1.1 h.1.1.2
theorem resv_good {x : List UInt8} (h : x ∈ resv) : Good x := by
  simp only [resv, List.mem_cons, List.not_mem_nil, or_false] at h
  rcases h with rfl | rfl | rfl | rfl | rfl | rfl | rfl <;> exact good_of (by decide) (by decide)
theorem Sc.okM.oown {s : Sc} (h : s.okM mx) {o : Ob} (ho : o ∈ s.os) : ownB mx o.n = true := by
  have := h.named
  simp only [namedB, Bool.and_eq_true, List.all_eq_true] at this
  exact this.1.1 o ho
theorem Sc.okM.eown {s : Sc} (h : s.okM mx) {e : En} (he : e ∈ s.es) : ownB mx e.n = true := by
  have := h.named
  simp only [namedB, Bool.and_eq_true, List.all_eq_true, enmB] at this
  exact (this.2 e he).1
theorem six_mem {o : Ob} {p : Nat × List UInt8} (h : p ∈ six o) : p.1 < 6 ∧ p.2 = o.n := by
  simp only [six, List.mem_cons, List.not_mem_nil, or_false] at h
  rcases h with rfl | rfl | rfl | rfl | rfl | rfl <;> exact ⟨by simp, rfl⟩
theorem six_nodup : ∀ {l : List Ob}, (l.map (·.n)).Nodup → (l.flatMap six).Nodup
  | [], _ => by simp
  | o :: l, h => by
    rw [List.map_cons, List.nodup_cons] at h
    rw [List.flatMap_cons, List.nodup_append]
    refine ⟨by simp [six], six_nodup h.2, fun p hp q hq e => ?_⟩
    obtain ⟨r, hr, hq⟩ := List.mem_flatMap.1 hq
    subst e
    exact h.1 (List.mem_map.2 ⟨r, hr, (six_mem hq).2.symm.trans (six_mem hp).2⟩)
theorem nodup_map {α β : Type} {f : α → β} (hf : ∀ a b, f a = f b → a = b) {l : List α} (h : l.Nodup) : (l.map f).Nodup := by
  rw [List.nodup_iff_pairwise_ne, List.pairwise_map]
  rw [List.nodup_iff_pairwise_ne] at h
  exact h.imp fun hab e => hab (hf _ _ e)
theorem typesP_mem {s : Sc} {p : Nat × List UInt8} (h : p ∈ typesP s) : p.1 < 6 ∧ (p.2 ∈ resv ∨ (∃ e ∈ s.es, p.2 = e.n) ∨ ∃ o ∈ s.os, p.2 = o.n) := by
  simp only [typesP, List.mem_append, List.mem_map, List.mem_flatMap] at h
  rcases h with ((((⟨x, hx, rfl⟩ | ⟨e, he, rfl⟩) | ⟨o, ho, hp⟩) | hp) | ⟨e, he, rfl⟩) | hp
  · refine ⟨by show 0 < 6; decide, .inl ?_⟩
    simp only [scalL, List.mem_cons, List.not_mem_nil, or_false] at hx
    rcases hx with rfl | rfl | rfl | rfl | rfl <;> decide
  · exact ⟨by show 0 < 6; decide, .inr (.inl ⟨e, he, rfl⟩)⟩
  · exact ⟨(six_mem hp).1, .inr (.inr ⟨o, ho, (six_mem hp).2⟩)⟩
  · simp only [midP, List.mem_cons, List.not_mem_nil, or_false] at hp
    rcases hp with rfl | rfl | rfl | rfl <;> exact ⟨by decide, .inl (by decide)⟩
  · exact ⟨by show 1 < 6; decide, .inr (.inl ⟨e, he, rfl⟩)⟩
  · simp only [List.mem_cons, List.not_mem_nil, or_false] at hp
    rcases hp with rfl | rfl <;> exact ⟨by decide, .inl (by decide)⟩
theorem typesP_good {s : Sc} (h : s.okM mx) {p : Nat × List UInt8} (hp : p ∈ typesP s) : Good p.2 := by
  rcases (typesP_mem hp).2 with q | ⟨e, he, q⟩ | ⟨o, ho, q⟩
  · exact resv_good q
  · rw [q]; exact own_good (h.eown he)
  · rw [q]; exact own_good (h.oown ho)
theorem typesP_nodup {s : Sc} (h : s.okM mx) : (typesP s).Nodup := by
  obtain ⟨n1, n2, n3⟩ := List.nodup_append.1 h.all
  have ne0 : ∀ e ∈ s.es, e.n ∉ resv := fun e he => own_resv (h.eown he)
  have no0 : ∀ o ∈ s.os, o.n ∉ resv := fun o ho => own_resv (h.oown ho)
  have noe : ∀ o ∈ s.os, ∀ e ∈ s.es, o.n ≠ e.n := fun o ho e he => n3 _ (List.mem_map.2 ⟨o, ho, rfl⟩) _ (List.mem_map.2 ⟨e, he, rfl⟩)
  have pe : ∀ k : Nat, (s.es.map (fun e => (k, e.n))).Nodup := fun k => by
    have := nodup_map (f := fun x : List UInt8 => (k, x)) (fun a b e => by simpa using e) n2
    rw [List.map_map] at this
    exact this
  have sc : ∀ x ∈ scalL, x ∈ resv := fun x hx => by
    simp only [scalL, List.mem_cons, List.not_mem_nil, or_false] at hx
    rcases hx with rfl | rfl | rfl | rfl | rfl <;> decide
  have mp : ∀ p ∈ midP, p.1 = 1 ∧ p.2 ∈ resv := fun p hp => by
    simp only [midP, List.mem_cons, List.not_mem_nil, or_false] at hp
    rcases hp with rfl | rfl | rfl | rfl <;> exact ⟨rfl, by decide⟩
  have qm : ∀ p : Nat × List UInt8, p ∈ [(0, bQuery), (0, bMutation)] → p.1 = 0 ∧ p.2 ∈ resv ∧ p.2 ∉ scalL := fun p hp => by
    simp only [List.mem_cons, List.not_mem_nil, or_false] at hp
    rcases hp with rfl | rfl <;> exact ⟨rfl, by decide, by decide⟩
  unfold typesP
  rw [List.nodup_append, List.nodup_append, List.nodup_append, List.nodup_append, List.nodup_append]
  refine ⟨⟨⟨⟨⟨by decide, pe 0, ?_⟩, six_nodup n1, ?_⟩, by decide, ?_⟩, pe 1, ?_⟩, by decide, ?_⟩
  · intro p hp q hq e
    obtain ⟨x, hx, rfl⟩ := List.mem_map.1 hp
    obtain ⟨y, hy, rfl⟩ := List.mem_map.1 hq
    simp only [Prod.mk.injEq, true_and] at e
    exact ne0 y hy (e ▸ sc x hx)
  · intro p hp q hq e
    obtain ⟨o, ho, hq⟩ := List.mem_flatMap.1 hq
    have q2 := (six_mem hq).2
    subst e
    rcases List.mem_append.1 hp with hp | hp
    · obtain ⟨x, hx, rfl⟩ := List.mem_map.1 hp
      exact no0 o ho (q2 ▸ sc x hx)
    · obtain ⟨y, hy, rfl⟩ := List.mem_map.1 hp
      exact noe o ho y hy q2.symm
  · intro p hp q hq e
    subst e
    obtain ⟨m1, m2⟩ := mp p hq
    rcases List.mem_append.1 hp with hp | hp
    · rcases List.mem_append.1 hp with hp | hp
      · obtain ⟨x, hx, rfl⟩ := List.mem_map.1 hp
        cases m1
      · obtain ⟨y, hy, rfl⟩ := List.mem_map.1 hp
        cases m1
    · obtain ⟨o, ho, hp⟩ := List.mem_flatMap.1 hp
      exact no0 o ho ((six_mem hp).2 ▸ m2)
  · intro p hp q hq e
    subst e
    obtain ⟨y, hy, rfl⟩ := List.mem_map.1 hq
    rcases List.mem_append.1 hp with hp | hp
    · rcases List.mem_append.1 hp with hp | hp
      · rcases List.mem_append.1 hp with hp | hp
        · obtain ⟨x, hx, e⟩ := List.mem_map.1 hp
          cases e
        · obtain ⟨z, hz, e⟩ := List.mem_map.1 hp
          cases e
      · obtain ⟨o, ho, hp⟩ := List.mem_flatMap.1 hp
        exact noe o ho y hy (six_mem hp).2.symm
    · exact ne0 y hy (mp _ hp).2
  · intro p hp q hq e
    subst e
    obtain ⟨m1, m2, m3⟩ := qm p hq
    rcases List.mem_append.1 hp with hp | hp
    · rcases List.mem_append.1 hp with hp | hp
      · rcases List.mem_append.1 hp with hp | hp
        · rcases List.mem_append.1 hp with hp | hp
          · obtain ⟨x, hx, rfl⟩ := List.mem_map.1 hp
            exact m3 hx
          · obtain ⟨z, hz, rfl⟩ := List.mem_map.1 hp
            exact ne0 z hz m2
        · obtain ⟨o, ho, hp⟩ := List.mem_flatMap.1 hp
          exact no0 o ho ((six_mem hp).2 ▸ m2)
      · have := (mp _ hp).1
        omega
    · obtain ⟨y, hy, rfl⟩ := List.mem_map.1 hp
      cases m1
theorem types_nodup {s : Sc} (h : s.okM mx) : ((typesD s).map (·.n)).Nodup := by
  rw [names_types, List.nodup_iff_pairwise_ne, List.pairwise_map]
  have := typesP_nodup h
  rw [List.nodup_iff_pairwise_ne] at this
  refine List.Pairwise.imp_of_mem (fun {a b} ha hb hab e => hab ?_) this
  obtain ⟨e1, e2⟩ := app_inj (typesP_good h ha) (typesP_good h hb) (typesP_mem ha).1 (typesP_mem hb).1 e
  exact Prod.ext e1 e2
def dnAt (l : List Dn) (x : List UInt8) : Int := idx (fun o => decide (o.n = x)) l 0
/-- Where a definition stands. -/
theorem types_at {s : Sc} (h : s.okM mx) {i : Nat} {d : Dn} (hd : (typesD s)[i]? = some d) : dnAt (typesD s) d.n = (i : Int) := nodup_idx (fun d : Dn => d.n) (types_nodup h) hd
theorem types_in {s : Sc} (h : s.okM mx) {d : Dn} (hd : d ∈ typesD s) : ∃ i : Nat, (typesD s)[i]? = some d ∧ dnAt (typesD s) d.n = (i : Int) := by
  obtain ⟨i, hi⟩ := List.getElem?_of_mem hd
  exact ⟨i, hi, types_at h hi⟩
end Go.Proofs.YtcbngkmmmfaaoaaGreatDoor
/-
  THE API'S TYPES, H9: where names stand in definitions, and which field that is.
-/
namespace Go.Proofs.YtcbngkmmmfaaoaaGreatDoor
open Go.RowKit Go.Lib Go.Ac
set_option linter.unusedSimpArgs false
set_option maxRecDepth 100000
variable {mx : Int}
theorem defPn_c (o : Dn) (x : List UInt8) (h : AH) (fr : Nat) : CR Tryz.prog (globM mx) md (.fn 76) [.agg o.pv, .rop [.str x]] h fr (.val (.bool (decide (o.n = x)))) := by
  refine CR.plain (rs := [.tmp 3]) Tryz.func76 rfl rfl rfl rfl rfl (by simp [PV.cleans, PV.clean, Dn.cl]) rfl ?_ h fr
  simp -implicitDefEqProofs only [wpC_seq, rowsA, if_true, if_false, opnd, ofVal, ofVal1, layArgs, Nat.reduceAdd, reduceIte, Nat.reduceEqDiff, reduceCtorEq, rowsB, cellsG, Nat.reduceMul, fda_ptr o54_0, Dn.pv, loadO_one ag9 sz9]
theorem outPn_c (o : Ot) (x : List UInt8) (h : AH) (fr : Nat) : CR Tryz.prog (globM mx) md (.fn 73) [.agg o.pv, .rop [.str x]] h fr (.val (.bool (decide (o.n = x)))) := by
  refine CR.plain (rs := [.tmp 3]) Tryz.func73 rfl rfl rfl rfl rfl (by simp [PV.cleans, PV.clean, Ot.cl]) rfl ?_ h fr
  simp -implicitDefEqProofs only [wpC_seq, rowsA, if_true, if_false, opnd, ofVal, ofVal1, layArgs, Nat.reduceAdd, reduceIte, Nat.reduceEqDiff, reduceCtorEq, rowsB, cellsG, Nat.reduceMul, fda_ptr o58_0, Ot.pv, loadO_one ag9 sz9]

theorem indexDn_c (p : Dn → Bool) (l : List Dn) (hl : l.length ≤ 9223372036854775807) (kf : FuncId) (cap : List PV) (hcap : PV.cleans cap = true) (hp : ∀ o h fr, CR Tryz.prog (globM mx) md (.fn kf) (.agg o.pv :: cap) h fr (.val (.bool (p o)))) (h : AH) (fr : Nat) :
    CR Tryz.prog (globM mx) md (.fn 75) [rowV Dn.pv l, .fn (.func kf) [] cap] h fr (.val (.int .i64 (idx p l 0))) := by
  refine CR.plain (rs := [.tmp 4]) Tryz.func75 rfl rfl rfl rfl rfl (by simp [rowV, PV.cleans, PV.clean, hcap]) rfl ?_ h fr
  simp -implicitDefEqProofs only [wpC_seq, rowsA, if_true, if_false, opnd, ofVal, ofVal1, layArgs, Nat.reduceAdd, reduceIte, Nat.reduceEqDiff, reduceCtorEq, rowsB, cellsG, Nat.reduceMul, rowV, len_ro u47]
  refine wpC_loop (invIdx Dn.pv p l (.fn (.func kf) [] cap)) (k := l.length) ⟨0, by omega, ?_, ?_, ?_, ?_, rfl⟩ ?_
  · simp only [Fr.at_set, Nat.reduceEqDiff, reduceIte, reduceCtorEq]; rfl
  · simp only [Fr.at_set, Nat.reduceEqDiff, reduceIte, reduceCtorEq]
  · simp only [Fr.at_set, Nat.reduceEqDiff, reduceIte, reduceCtorEq]
  · simp only [Fr.at_set, Nat.reduceEqDiff, reduceIte, reduceCtorEq]; rfl
  rintro k F h' ⟨i, hi, f0, f1, f7, f8, hx⟩
  cases k with
  | zero =>
    have c1 : decide ((i : Int) < (l.length : Int)) = false := decide_eq_false (by omega)
    rw [idx_end p l i (by omega)] at hx
    simp -implicitDefEqProofs only [wpC_seq, rowsA, if_true, if_false, opnd, ofVal, ofVal1, layArgs, Nat.reduceAdd, reduceIte, Nat.reduceEqDiff, reduceCtorEq, rowsB, cellsG, Nat.reduceMul, f0, f1, f7, f8, c1, ← hx]
  | succ k =>
    have c1 : decide ((i : Int) < (l.length : Int)) = true := decide_eq_true (by omega)
    obtain ⟨o, ho⟩ : ∃ o, l[i]? = some o := ⟨l[i], List.getElem?_eq_getElem (by omega)⟩
    obtain ⟨r, hr⟩ := flat_drop (f := Dn.pv) (z := 5) (fun _ => rfl) l i o ho
    rw [idx_drop p l i o ho] at hx
    have w := IntWalk.i64_in ((i : Int) + 1) (by omega)
    have hld : loadO Tryz.prog 54 (some (o.pv ++ r)) = some (.q (.agg o.pv)) := by
      rw [load_agg ag54 sz54 (by rw [List.length_append]; show 5 ≤ 5 + _; omega)]
      rw [List.take_left' (show o.pv.length = 5 from rfl)]
    cases hpo : p o with
    | true =>
      rw [hpo, if_pos rfl] at hx
      simp -implicitDefEqProofs only [wpC_seq, rowsA, if_true, if_false, opnd, ofVal, ofVal1, layArgs, Nat.reduceAdd, reduceIte, Nat.reduceEqDiff, reduceCtorEq, rowsB, cellsG, Nat.reduceMul, f0, f1, f7, f8, c1, rowV, ida_roN (n := l.length) (i := (i : Int)) u47 sz54 (by omega) (by omega), Int.toNat_natCast, hr, hld, goO_known (hp o), hpo, ← hx]
    | false =>
      rw [hpo, if_neg (by simp)] at hx
      simp -implicitDefEqProofs only [wpC_seq, rowsA, if_true, if_false, opnd, ofVal, ofVal1, layArgs, Nat.reduceAdd, reduceIte, Nat.reduceEqDiff, reduceCtorEq, rowsB, cellsG, Nat.reduceMul, f0, f1, f7, f8, c1, rowV, ida_roN (n := l.length) (i := (i : Int)) u47 sz54 (by omega) (by omega), Int.toNat_natCast, hr, hld, goO_known (hp o), hpo, w]
      refine ⟨k, by omega, i + 1, by omega, ?_, ?_, ?_, ?_, hx⟩
      · simp only [Fr.at_set, Nat.reduceEqDiff, reduceIte, reduceCtorEq, f0]
      · simp only [Fr.at_set, Nat.reduceEqDiff, reduceIte, reduceCtorEq, f1]
      · simp only [Fr.at_set, Nat.reduceEqDiff, reduceIte, reduceCtorEq, f7]
      · simp only [Fr.at_set, Nat.reduceEqDiff, reduceIte, reduceCtorEq]; rfl
/-- So, its function made read-only. -/
theorem indexDn_sh (l : List Dn) (hl : l.length ≤ 9223372036854775807) (x : List UInt8) (id : Nat) (h : AH) (hg : h.get id = some (.cells 9 0 false [.str x])) (fr : Nat) :
    CR Tryz.prog (globM mx) md (.fn 75) [rowV Dn.pv l, .fn (.func 76) [] [.ptr id 1 0]] h fr (.sh (.int .i64 (idx (fun o => decide (o.n = x)) l 0)) (h.set id (.cells 9 0 true [.str x]))) := by
  refine CR.viaFrz (args' := [rowV Dn.pv l, .fn (.func 76) [] [.rop [.str x]]]) Tryz.func75 rfl rfl rfl rfl ?_ rfl (fun h fr => indexDn_c _ l hl 76 [.rop [.str x]] rfl (fun o h fr => defPn_c o x h fr) h fr) fr
  simp only [frzL, frz_clean h (show (rowV Dn.pv l).clean = true from rfl), frz_cap100 (tot := 1) 76 hg rfl rfl]
theorem indexOt_c (p : Ot → Bool) (l : List Ot) (hl : l.length ≤ 9223372036854775807) (kf : FuncId) (cap : List PV) (hcap : PV.cleans cap = true) (hp : ∀ o h fr, CR Tryz.prog (globM mx) md (.fn kf) (.agg o.pv :: cap) h fr (.val (.bool (p o)))) (h : AH) (fr : Nat) :
    CR Tryz.prog (globM mx) md (.fn 72) [rowV Ot.pv l, .fn (.func kf) [] cap] h fr (.val (.int .i64 (idx p l 0))) := by
  refine CR.plain (rs := [.tmp 4]) Tryz.func72 rfl rfl rfl rfl rfl (by simp [rowV, PV.cleans, PV.clean, hcap]) rfl ?_ h fr
  simp -implicitDefEqProofs only [wpC_seq, rowsA, if_true, if_false, opnd, ofVal, ofVal1, layArgs, Nat.reduceAdd, reduceIte, Nat.reduceEqDiff, reduceCtorEq, rowsB, cellsG, Nat.reduceMul, rowV, len_ro u51]
  refine wpC_loop (invIdx Ot.pv p l (.fn (.func kf) [] cap)) (k := l.length) ⟨0, by omega, ?_, ?_, ?_, ?_, rfl⟩ ?_
  · simp only [Fr.at_set, Nat.reduceEqDiff, reduceIte, reduceCtorEq]; rfl
  · simp only [Fr.at_set, Nat.reduceEqDiff, reduceIte, reduceCtorEq]
  · simp only [Fr.at_set, Nat.reduceEqDiff, reduceIte, reduceCtorEq]
  · simp only [Fr.at_set, Nat.reduceEqDiff, reduceIte, reduceCtorEq]; rfl
  rintro k F h' ⟨i, hi, f0, f1, f7, f8, hx⟩
  cases k with
  | zero =>
    have c1 : decide ((i : Int) < (l.length : Int)) = false := decide_eq_false (by omega)
    rw [idx_end p l i (by omega)] at hx
    simp -implicitDefEqProofs only [wpC_seq, rowsA, if_true, if_false, opnd, ofVal, ofVal1, layArgs, Nat.reduceAdd, reduceIte, Nat.reduceEqDiff, reduceCtorEq, rowsB, cellsG, Nat.reduceMul, f0, f1, f7, f8, c1, ← hx]
  | succ k =>
    have c1 : decide ((i : Int) < (l.length : Int)) = true := decide_eq_true (by omega)
    obtain ⟨o, ho⟩ : ∃ o, l[i]? = some o := ⟨l[i], List.getElem?_eq_getElem (by omega)⟩
    obtain ⟨r, hr⟩ := flat_drop (f := Ot.pv) (z := 4) (fun _ => rfl) l i o ho
    rw [idx_drop p l i o ho] at hx
    have w := IntWalk.i64_in ((i : Int) + 1) (by omega)
    have hld : loadO Tryz.prog 58 (some (o.pv ++ r)) = some (.q (.agg o.pv)) := by
      rw [load_agg ag58 sz58 (by rw [List.length_append]; show 4 ≤ 4 + _; omega)]
      rw [List.take_left' (show o.pv.length = 4 from rfl)]
    cases hpo : p o with
    | true =>
      rw [hpo, if_pos rfl] at hx
      simp -implicitDefEqProofs only [wpC_seq, rowsA, if_true, if_false, opnd, ofVal, ofVal1, layArgs, Nat.reduceAdd, reduceIte, Nat.reduceEqDiff, reduceCtorEq, rowsB, cellsG, Nat.reduceMul, f0, f1, f7, f8, c1, rowV, ida_roN (n := l.length) (i := (i : Int)) u51 sz58 (by omega) (by omega), Int.toNat_natCast, hr, hld, goO_known (hp o), hpo, ← hx]
    | false =>
      rw [hpo, if_neg (by simp)] at hx
      simp -implicitDefEqProofs only [wpC_seq, rowsA, if_true, if_false, opnd, ofVal, ofVal1, layArgs, Nat.reduceAdd, reduceIte, Nat.reduceEqDiff, reduceCtorEq, rowsB, cellsG, Nat.reduceMul, f0, f1, f7, f8, c1, rowV, ida_roN (n := l.length) (i := (i : Int)) u51 sz58 (by omega) (by omega), Int.toNat_natCast, hr, hld, goO_known (hp o), hpo, w]
      refine ⟨k, by omega, i + 1, by omega, ?_, ?_, ?_, ?_, hx⟩
      · simp only [Fr.at_set, Nat.reduceEqDiff, reduceIte, reduceCtorEq, f0]
      · simp only [Fr.at_set, Nat.reduceEqDiff, reduceIte, reduceCtorEq, f1]
      · simp only [Fr.at_set, Nat.reduceEqDiff, reduceIte, reduceCtorEq, f7]
      · simp only [Fr.at_set, Nat.reduceEqDiff, reduceIte, reduceCtorEq]; rfl
/-- So, its function made read-only. -/
theorem indexOt_sh (l : List Ot) (hl : l.length ≤ 9223372036854775807) (x : List UInt8) (id : Nat) (h : AH) (hg : h.get id = some (.cells 9 0 false [.str x])) (fr : Nat) :
    CR Tryz.prog (globM mx) md (.fn 72) [rowV Ot.pv l, .fn (.func 73) [] [.ptr id 1 0]] h fr (.sh (.int .i64 (idx (fun o => decide (o.n = x)) l 0)) (h.set id (.cells 9 0 true [.str x]))) := by
  refine CR.viaFrz (args' := [rowV Ot.pv l, .fn (.func 73) [] [.rop [.str x]]]) Tryz.func72 rfl rfl rfl rfl ?_ rfl (fun h fr => indexOt_c _ l hl 73 [.rop [.str x]] rfl (fun o h fr => outPn_c o x h fr) h fr) fr
  simp only [frzL, frz_clean h (show (rowV Ot.pv l).clean = true from rfl), frz_cap100 (tot := 1) 73 hg rfl rfl]

/-- Where a definition stands. -/
theorem findN_c (l : List Dn) (hs : l.length ≤ 9223372036854775807) (x : List UInt8) (h : AH) (fr : Nat) : CR Tryz.prog (globM mx) md (.fn 33) [rowV Dn.pv l, .str x] h fr (.val (.int .i64 (dnAt l x))) := by
  refine CR.plain (rs := [.tmp 4]) Tryz.func33 rfl rfl rfl rfl rfl rfl rfl ?_ h fr
  simp -implicitDefEqProofs only [wpC_seq, rowsA, if_true, if_false, opnd, ofVal, ofVal1, layArgs, Nat.reduceAdd, reduceIte, Nat.reduceEqDiff, reduceCtorEq, rowsB, cellsG, Nat.reduceMul]
  rw [goO_shared (indexDn_sh l hs x 0 _ (by simp only [AH.get_set, AH.get_up, Nat.reduceEqDiff, if_false, if_true]))]
  simp -implicitDefEqProofs only [wpC_seq, rowsA, if_true, if_false, opnd, ofVal, ofVal1, layArgs, Nat.reduceAdd, reduceIte, Nat.reduceEqDiff, reduceCtorEq, rowsB, cellsG, Nat.reduceMul]
  rfl
theorem ix47n {l : List Dn} {i : Int} {o : Dn} (h0 : 0 ≤ i) (ho : l[i.toNat]? = some o) : ∃ r, ∀ h, idaO Tryz.prog h 47 (rowV Dn.pv l) (.int .i64 i) = some (.q (.rop (o.pv ++ r))) := by
  obtain ⟨r, hr⟩ := flat_drop (f := Dn.pv) (z := 5) (fun _ => rfl) l i.toNat o ho
  have := (List.getElem?_eq_some_iff.1 ho).1
  exact ⟨r, fun h => by rw [← hr]; exact ida_roN u47 sz54 h0 (by omega)⟩
theorem ix51n {l : List Ot} {i : Int} {o : Ot} (h0 : 0 ≤ i) (ho : l[i.toNat]? = some o) : ∃ r, ∀ h, idaO Tryz.prog h 51 (rowV Ot.pv l) (.int .i64 i) = some (.q (.rop (o.pv ++ r))) := by
  obtain ⟨r, hr⟩ := flat_drop (f := Ot.pv) (z := 4) (fun _ => rfl) l i.toNat o ho
  have := (List.getElem?_eq_some_iff.1 ho).1
  exact ⟨r, fun h => by rw [← hr]; exact ida_roN u51 sz58 h0 (by omega)⟩
theorem ln47n (l : List Dn) : lenO Tryz.prog [rowV Dn.pv l] [47] = some (.q (.int .i64 l.length)) := len_ro u47
theorem ld3dn (o : Dn) (r : List PV) : loadO Tryz.prog 3 (some (List.drop 1 (o.pv ++ r))) = some (.q (.int .i64 o.k)) := loadO_one ag3 sz3
theorem ld51dn (o : Dn) (r : List PV) : loadO Tryz.prog 51 (some (List.drop 3 (o.pv ++ r))) = some (.q (rowN Ot.pv o.outs)) := loadO_one ag51 sz51

theorem nil52n (h : AH) : binO Tryz.prog h .eql 52 .nls .nls = some (.q (.bool true)) := by simp [binO, liveB, binV, sameV, u52]
theorem nil52rn (h : AH) (c : List PV) (n : Nat) (hn : 0 < n) : binO Tryz.prog h .eql 52 (.ro c n) .nls = some (.q (.bool false)) := by
  cases n with
  | zero => omega
  | succ n => simp [binO, liveB, binV, sameV, u52]
theorem bd52z (fr : Nat) : buildO Tryz.prog fr 52 0 [] = some (.w .els fr (.cells 56 3 false [])) := by kernel_rfl
theorem ap52rn (h : AH) (fr : Nat) (c : List PV) (n : Nat) (hc : c.length = n * 3) (h0 : 0 < n) (hb : n * 48 ≤ 2 ^ 47) : appO Tryz.prog h fr [.els, .ro c n] [52, 52] = some (.w (.ow fr (n * 3) 0 n) fr (.cells 56 3 false c)) :=
  ap_new u52 i56 (by decide) (.inr rfl) (cellR_ro hc) h0 hb (by omega)
theorem cloneNn_c (h : AH) (fr : Nat) : CR Tryz.prog (globM mx) md (.fn 74) [.nls] h fr (.val .nls) := by
  refine CR.ownV Tryz.func74 rfl rfl rfl rfl (ends_of (rs := [.tmp 2]) (Q := fun u _ => u = .nls) rfl rfl (fun u h' e => ⟨u, h', h', rfl, fun _ _ _ _ q => (by rw [e] at q; cases q), by rw [e]; rfl⟩) ?_) h fr
  simp -implicitDefEqProofs only [wpC_seq, rowsA, if_true, if_false, opnd, ofVal, ofVal1, layArgs, Nat.reduceAdd, reduceIte, Nat.reduceEqDiff, reduceCtorEq, rowsB, cellsG, Nat.reduceMul, nil52n]
theorem cloneRn_c (l : List Inp) (h0 : 0 < l.length) (hb : l.length * 48 ≤ 2 ^ 47) (h : AH) (fr : Nat) : CR Tryz.prog (globM mx) md (.fn 74) [rowV Inp.pv l] h fr (.new (.ow fr (l.length * 3) 0 l.length) (.cells 56 3 false (flat Inp.pv l))) := by
  have hlen : (flat Inp.pv l).length = l.length * 3 := flat_len (f := Inp.pv) (z := 3) (fun _ => rfl) l
  refine CR.own Tryz.func74 rfl rfl rfl rfl (ends_of (rs := [.tmp 2]) (Q := fun u h' => ∃ id, u = .ow id (l.length * 3) 0 l.length ∧ h'.get id = some (.cells 56 3 false (flat Inp.pv l))) rfl rfl ?_ ?_) h fr
  · rintro u h' ⟨id, rfl, hg⟩
    exact ⟨id, h', _, h', _, rfl, hg, hlen, frzL_clean _ _ (flat_clean Inp.cl l), ⟨_, hg⟩, rfl⟩
  · simp -implicitDefEqProofs only [wpC_seq, rowsA, if_true, if_false, opnd, ofVal, ofVal1, layArgs, Nat.reduceAdd, reduceIte, Nat.reduceEqDiff, reduceCtorEq, rowsB, cellsG, Nat.reduceMul, rowV, nil52rn _ _ _ h0, bd52z, ap52rn _ _ _ _ hlen h0 hb]
    exact ⟨_, rfl, by simp only [AH.get_set, if_true]⟩
def otAt (o : Dn) (x : List UInt8) : Int := idx (fun p => decide (p.n = x)) o.outs 0
def typenameN : List UInt8 := [95, 95, 116, 121, 112, 101, 110, 97, 109, 101]
/-- Which field that is. -/
def outN (l : List Dn) (d x : List UInt8) : Option Ot :=
  if dnAt l d < 0 then none else match l[(dnAt l d).toNat]? with
    | none => none
    | some o => if o.k = 2 then (if x = typenameN then some ⟨x, bString, [33], []⟩ else if otAt o x < 0 then none else o.outs[(otAt o x).toNat]?) else none
/-- As many as there is room for. -/
def DnFit (l : List Dn) : Prop := l.length ≤ 1000000 ∧ ∀ d ∈ l, (d.k = 2 → 0 < d.outs.length) ∧ d.outs.length ≤ 1000000 ∧ ∀ p ∈ d.outs, p.args.length ≤ 1000000
theorem bl58zn : bldO Tryz.prog 58 [] = some (.q (.agg (Ot.pv ⟨[], [], [], []⟩))) := by
  have : bldO Tryz.prog 58 [] = some (.q (.agg [.str [], .str [], .str [], .nls])) := by kernel_rfl
  exact this
theorem ld58rn (p : Ot) (r : List PV) : loadO Tryz.prog 58 (some (p.pv ++ r)) = some (.q (.agg p.pv)) := by
  rw [load_agg ag58 sz58 (by rw [List.length_append]; exact Nat.le_add_right 4 _), List.take_left' (show p.pv.length = 4 from rfl)]
theorem ld52on (o : Ot) : loadO Tryz.prog 52 (some (List.drop 3 o.pv)) = some (.q (rowN Inp.pv o.args)) := loadO_one ag52 sz52
def outV (o : Option Ot) : PV := .tup [.agg (o.getD ⟨[], [], [], []⟩).pv, .bool o.isSome]
theorem outV_cl (o : Option Ot) : (outV o).clean = true := by simp [outV, PV.clean, PV.cleans, Ot.cl]
theorem outN_c (l : List Dn) (hf : DnFit l) (d x : List UInt8) (h : AH) (fr : Nat) : CR Tryz.prog (globM mx) md (.fn 31) [rowV Dn.pv l, .str d, .str x] h fr (.val (outV (outN l d x))) := by
  have hs : l.length ≤ 9223372036854775807 := Nat.le_trans hf.1 (by decide)
  refine CR.frozen (rs := [.cell 6 58, .tmp 7]) Tryz.func31 rfl rfl rfl rfl rfl rfl ?_ h fr
  have fin : ∀ (o : Option Ot) (h : AH), ∃ h'', frz 100 (outV o) h = some (outV o, h'') := fun o h => ⟨h, frz_clean h (outV_cl o)⟩
  have z : outV none = .tup [.agg (Ot.pv ⟨[], [], [], []⟩), .bool false] := rfl
  by_cases c1 : dnAt l d < 0
  · have e : outN l d x = none := by simp [outN, c1]
    rw [e]
    simp -implicitDefEqProofs only [wpC_seq, rowsA, if_true, if_false, opnd, ofVal, ofVal1, layArgs, Nat.reduceAdd, reduceIte, Nat.reduceEqDiff, reduceCtorEq, rowsB, cellsG, Nat.reduceMul, al58n, goO_known (findN_c l hs d), c1, bl58zn, sz58, st58n, Ot.len, ld58n]
    exact fin none _
  obtain ⟨j, o, hj, hjo⟩ : ∃ (j : Nat) (o : Dn), dnAt l d = (j : Int) ∧ l[j]? = some o := by
    rcases idx_range (fun o : Dn => decide (o.n = d)) l 0 with q | ⟨j, o, q1, q2, _⟩
    · exact absurd (show dnAt l d < 0 by unfold dnAt; rw [q]; decide) c1
    · exact ⟨j, o, by unfold dnAt; rw [q1]; simp, q2⟩
  have c1' : ¬ ((j : Int) < 0) := by omega
  obtain ⟨r, hr⟩ := ix47n (l := l) (i := (j : Int)) (by omega) (by rw [Int.toNat_natCast]; exact hjo)
  by_cases c2 : o.k = 2
  · obtain ⟨hpos, hlo, hla⟩ := hf.2 o (List.mem_of_getElem? hjo)
    have hrow := rowN_pos (f := Ot.pv) (hpos c2)
    by_cases c3 : x = typenameN
    · have e : outN l d x = some ⟨x, bString, [33], []⟩ := by simp [outN, hj, c1', hjo, c2, c3]
      rw [e]
      have c3' : x = [95, 95, 116, 121, 112, 101, 110, 97, 109, 101] := c3
      simp -implicitDefEqProofs only [wpC_seq, rowsA, if_true, if_false, opnd, ofVal, ofVal1, layArgs, Nat.reduceAdd, reduceIte, Nat.reduceEqDiff, reduceCtorEq, rowsB, cellsG, Nat.reduceMul, al58n, goO_known (findN_c l hs d), hj, c1', hr, fda_rop o54_1, ld3dn, loadO_one ag9 sz9, c2, c3', goD_known (genRef_c _ _), bl58a, sz58, st58n, Ot.len, ld58n]
      rw [goD_st (by decide) (by kernel_rfl)]
      simp -implicitDefEqProofs only [wpC_seq, rowsA, if_true, if_false, opnd, ofVal, ofVal1, layArgs, Nat.reduceAdd, reduceIte, Nat.reduceEqDiff, reduceCtorEq, rowsB, cellsG, Nat.reduceMul, sz58, st58n, Ot.len, ld58n]
      rw [← c3']
      exact fin (some ⟨x, bString, [33], []⟩) _
    · have c3' : ¬ (x = [95, 95, 116, 121, 112, 101, 110, 97, 109, 101]) := c3
      have hlo' : o.outs.length ≤ 9223372036854775807 := Nat.le_trans hlo (by decide)
      by_cases c4 : otAt o x < 0
      · have e : outN l d x = none := by simp [outN, hj, c1', hjo, c2, c3, c4]
        rw [e]
        simp -implicitDefEqProofs only [wpC_seq, rowsA, if_true, if_false, opnd, ofVal, ofVal1, layArgs, Nat.reduceAdd, reduceIte, Nat.reduceEqDiff, reduceCtorEq, rowsB, cellsG, Nat.reduceMul, al58n, goO_known (findN_c l hs d), hj, c1', hr, fda_rop o54_1, ld3dn, loadO_one ag9 sz9, c2, c3', fda_rop o54_3, ld51dn, hrow]
        rw [goO_shared (indexOt_sh o.outs hlo' x _ _ (by simp only [AH.get_set, AH.get_up, Nat.reduceEqDiff, if_false, if_true]))]
        simp -implicitDefEqProofs only [wpC_seq, rowsA, if_true, if_false, opnd, ofVal, ofVal1, layArgs, Nat.reduceAdd, reduceIte, Nat.reduceEqDiff, reduceCtorEq, rowsB, cellsG, Nat.reduceMul, show idx (fun p : Ot => decide (p.n = x)) o.outs 0 = otAt o x from rfl, c4, bl58zn, sz58, st58n, Ot.len, ld58n]
        exact fin none _
      · obtain ⟨i, p, hi, hp⟩ : ∃ (i : Nat) (p : Ot), otAt o x = (i : Int) ∧ o.outs[i]? = some p := by
          rcases idx_range (fun p : Ot => decide (p.n = x)) o.outs 0 with q | ⟨j, p, q1, q2, _⟩
          · exact absurd (show otAt o x < 0 by unfold otAt; rw [q]; decide) c4
          · exact ⟨j, p, by unfold otAt; rw [q1]; simp, q2⟩
        have c4' : ¬ ((i : Int) < 0) := by omega
        obtain ⟨r2, hr2⟩ := ix51n (l := o.outs) (i := (i : Int)) (by omega) (by rw [Int.toNat_natCast]; exact hp)
        have hpa := hla p (List.mem_of_getElem? hp)
        have e : outN l d x = some p := by simp [outN, hj, c1', hjo, c2, c3, hi, c4', hp]
        rw [e]
        simp -implicitDefEqProofs only [wpC_seq, rowsA, if_true, if_false, opnd, ofVal, ofVal1, layArgs, Nat.reduceAdd, reduceIte, Nat.reduceEqDiff, reduceCtorEq, rowsB, cellsG, Nat.reduceMul, al58n, goO_known (findN_c l hs d), hj, c1', hr, fda_rop o54_1, ld3dn, loadO_one ag9 sz9, c2, c3', fda_rop o54_3, ld51dn, hrow]
        rw [goO_shared (indexOt_sh o.outs hlo' x _ _ (by simp only [AH.get_set, AH.get_up, Nat.reduceEqDiff, if_false, if_true]))]
        by_cases c5 : p.args.length = 0
        · have eA : rowN Inp.pv p.args = .nls := by rw [rowN, if_pos c5]
          have ep : p.pv = [.str p.n, .str p.t, .str p.w, .nls] := by rw [Ot.pv, eA]
          have s58 : ∀ id, stoG id 4 3 .nls 1 (some (.cells 58 0 false p.pv)) = some (.w .undef id (.cells 58 0 false p.pv)) := fun id => by rw [ep]; rfl
          simp -implicitDefEqProofs only [wpC_seq, rowsA, if_true, if_false, opnd, ofVal, ofVal1, layArgs, Nat.reduceAdd, reduceIte, Nat.reduceEqDiff, reduceCtorEq, rowsB, cellsG, Nat.reduceMul, show idx (fun p : Ot => decide (p.n = x)) o.outs 0 = otAt o x from rfl, hi, c4', hr, hr2, fda_rop o54_3, ld51dn, hrow, ld58rn, al58n, sz58, sz52, st58n, Ot.len, ld58n, fda_ptr o58_2, ld52on, eA, goO_known cloneNn_c, s58]
          exact fin (some p) _
        · have eA : rowN Inp.pv p.args = rowV Inp.pv p.args := rowN_pos (by omega)
          have s58 : ∀ id a b c, stoG id 4 3 (.ow a b 0 c) 1 (some (.cells 58 0 false p.pv)) = some (.w .undef id (.cells 58 0 false [.str p.n, .str p.t, .str p.w, .ow a b 0 c])) := fun _ _ _ _ => rfl
          have l58 : ∀ a b c, loadO Tryz.prog 58 (some [.str p.n, .str p.t, .str p.w, .ow a b 0 c]) = some (.q (.agg [.str p.n, .str p.t, .str p.w, .ow a b 0 c])) := fun a b c => load_agg (c := [.str p.n, .str p.t, .str p.w, .ow a b 0 c]) ag58 sz58 (Nat.le_refl 4)
          have t58 : ∀ id a b c, stoG id 4 0 (.agg [.str p.n, .str p.t, .str p.w, .ow a b 0 c]) 4 (some (.cells 58 0 false [.str [], .str [], .str [], .nls])) = some (.w .undef id (.cells 58 0 false [.str p.n, .str p.t, .str p.w, .ow a b 0 c])) := fun id a b c => stoG_all id 4 0 58 (.agg [.str p.n, .str p.t, .str p.w, .ow a b 0 c]) _ rfl rfl rfl
          simp -implicitDefEqProofs only [wpC_seq, rowsA, if_true, if_false, opnd, ofVal, ofVal1, layArgs, Nat.reduceAdd, reduceIte, Nat.reduceEqDiff, reduceCtorEq, rowsB, cellsG, Nat.reduceMul, show idx (fun p : Ot => decide (p.n = x)) o.outs 0 = otAt o x from rfl, hi, c4', hr, hr2, fda_rop o54_3, ld51dn, hrow, ld58rn, al58n, sz58, sz52, st58n, Ot.len, ld58n, fda_ptr o58_2, ld52on, eA, goO_own (v := fun fr => .ow fr (p.args.length * 3) 0 p.args.length) (cloneRn_c (mx := mx) p.args (by omega) (by omega)), s58, l58, t58]
          refine Rd.done (.inr ⟨rfl, [.agg p.pv, .bool true], ⟨.inr ⟨rfl, p.pv, ⟨Rd.of_clean rfl, Rd.of_clean rfl, Rd.of_clean rfl, rdOw (f := Inp.pv) (sz := 3) (d := 97) (fun _ => rfl) Inp.cl (by simp only [AH.get_set, AH.get_up, Nat.reduceEqDiff, if_true, if_false]; rfl) rfl rfl (by omega), trivial⟩, rfl⟩, Rd.of_clean rfl, trivial⟩, rfl⟩)
  · have e : outN l d x = none := by simp [outN, hj, c1', hjo, c2]
    rw [e]
    simp -implicitDefEqProofs only [wpC_seq, rowsA, if_true, if_false, opnd, ofVal, ofVal1, layArgs, Nat.reduceAdd, reduceIte, Nat.reduceEqDiff, reduceCtorEq, rowsB, cellsG, Nat.reduceMul, al58n, goO_known (findN_c l hs d), hj, c1', hr, fda_rop o54_1, ld3dn, loadO_one ag9 sz9, c2, bl58zn, sz58, st58n, Ot.len, ld58n]
    exact fin none _
end Go.Proofs.YtcbngkmmmfaaoaaGreatDoor
/-
  THE API'S TYPES, N2: plain law of GenRoots.
-/
namespace Go.Proofs.YtcbngkmmmfaaoaaGreatDoor
open Go.RowKit Go.Lib Go.Ac
variable {mx : Int}
theorem flatMap_len {α β : Type} {f : α → List β} {k : Nat} (hf : ∀ x, (f x).length = k) : ∀ (l : List α), (l.flatMap f).length = l.length * k
  | [] => by simp
  | x :: l => by rw [List.flatMap_cons, List.length_append, hf, flatMap_len hf l, List.length_cons, Nat.add_mul, Nat.one_mul, Nat.add_comm]
theorem types_len (s : Sc) : (typesD s).length = 5 + 2 * s.es.length + 6 * s.os.length + 6 := by
  simp only [typesD, List.length_append, List.length_map, flatMap_len (f := objD s) (k := 6) (fun _ => rfl)]
  show 5 + s.es.length + s.os.length * 6 + 4 + s.es.length + 2 = _
  omega
theorem qry_mem (s : Sc) : qryD s ∈ typesD s := by simp [typesD]
theorem mut_mem (s : Sc) : mutD s ∈ typesD s := by simp [typesD]
theorem obj_mem {s : Sc} {o : Ob} (ho : o ∈ s.os) {d : Dn} (hd : d ∈ objD s o) : d ∈ typesD s := by
  simp only [typesD, List.mem_append, List.mem_flatMap]
  exact .inl (.inl (.inl (.inr ⟨o, ho, hd⟩)))
theorem dnAt_pos {l : List Dn} {x : List UInt8} : 0 ≤ dnAt l x ↔ ∃ d ∈ l, d.n = x := by
  unfold dnAt
  rw [idx_pos]
  simp
theorem at_not {l : List Dn} {d : Dn} (hd : d ∈ l) : ¬ (dnAt l d.n < 0) := by
  have := dnAt_pos.2 ⟨d, hd, rfl⟩
  omega
theorem types_kinds {s : Sc} {d : Dn} (hd : d ∈ typesD s) : (∃ x ∈ scalL, d = scalD x) ∨ (∃ e ∈ s.es, d = enmD e) ∨ (∃ o ∈ s.os, d ∈ objD s o) ∨ d ∈ midD ∨ (∃ e ∈ s.es, d = enfD e) ∨ d = qryD s ∨ d = mutD s := by
  simp only [typesD, List.mem_append, List.mem_map, List.mem_flatMap, List.mem_cons, List.not_mem_nil, or_false] at hd
  rcases hd with ((((⟨x, hx, rfl⟩ | ⟨e, he, rfl⟩) | ⟨o, ho, hd⟩) | hd) | ⟨e, he, rfl⟩) | rfl | rfl
  · exact .inl ⟨x, hx, rfl⟩
  · exact .inr (.inl ⟨e, he, rfl⟩)
  · exact .inr (.inr (.inl ⟨o, ho, hd⟩))
  · exact .inr (.inr (.inr (.inl hd)))
  · exact .inr (.inr (.inr (.inr (.inl ⟨e, he, rfl⟩))))
  · exact .inr (.inr (.inr (.inr (.inr (.inl rfl)))))
  · exact .inr (.inr (.inr (.inr (.inr (.inr rfl)))))
theorem argsG_le (s : Sc) (f : Fld) : (outG s f).args.length ≤ 4 := by
  unfold outG
  simp only
  split
  · exact Nat.le_refl 4
  · exact Nat.zero_le _
theorem types_fit {s : Sc} (h : s.okM mx) : DnFit (typesD s) := by
  obtain ⟨e1, e2, e3, e4, e5⟩ := h.enough
  refine ⟨by rw [types_len]; omega, fun d hd => ?_⟩
  have small : ∀ l : List Ot, l = [] → l.length ≤ 1000000 ∧ ∀ p ∈ l, p.args.length ≤ 1000000 := fun l e => by
    subst e
    exact ⟨Nat.zero_le _, fun p hp => by cases hp⟩
  rcases types_kinds hd with ⟨x, hx, rfl⟩ | ⟨e, he, rfl⟩ | ⟨o, ho, hd⟩ | hd | ⟨e, he, rfl⟩ | rfl | rfl
  · exact ⟨fun q => absurd q (show ¬ ((0 : Int) = 2) by decide), small _ rfl⟩
  · exact ⟨fun q => absurd q (show ¬ ((1 : Int) = 2) by decide), small _ rfl⟩
  · simp only [objD, List.mem_cons, List.not_mem_nil, or_false] at hd
    have := e4 o ho
    rcases hd with rfl | rfl | rfl | rfl | rfl | rfl
    · refine ⟨fun _ => Nat.succ_pos _, by rw [List.length_cons, List.length_map]; omega, fun p hp => ?_⟩
      rcases List.mem_cons.1 hp with rfl | hp
      · exact Nat.zero_le _
      · obtain ⟨f, _, rfl⟩ := List.mem_map.1 hp
        exact Nat.le_trans (argsG_le s f) (by decide)
    all_goals first | exact ⟨fun q => absurd q (show ¬ ((3 : Int) = 2) by decide), small _ rfl⟩ | exact ⟨fun q => absurd q (show ¬ ((1 : Int) = 2) by decide), small _ rfl⟩
  · simp only [midD, List.mem_cons, List.not_mem_nil, or_false] at hd
    rcases hd with rfl | rfl | rfl | rfl
    all_goals first | exact ⟨fun q => absurd q (show ¬ ((3 : Int) = 2) by decide), small _ rfl⟩ | exact ⟨fun q => absurd q (show ¬ ((1 : Int) = 2) by decide), small _ rfl⟩
  · exact ⟨fun q => absurd q (show ¬ ((3 : Int) = 2) by decide), small _ rfl⟩
  · refine ⟨fun _ => ?_, ?_, fun p hp => ?_⟩
    · show 0 < (s.os.flatMap qryO).length
      rw [flatMap_len (k := 2) (fun _ => rfl)]
      omega
    · show (s.os.flatMap qryO).length ≤ _
      rw [flatMap_len (k := 2) (fun _ => rfl)]
      omega
    · obtain ⟨o, _, hp⟩ := List.mem_flatMap.1 hp
      simp only [qryO, List.mem_cons, List.not_mem_nil, or_false] at hp
      rcases hp with rfl | rfl
      · exact Nat.succ_le_of_lt (by decide)
      · exact Nat.le_trans (Nat.le_refl 4) (by decide)
  · refine ⟨fun _ => ?_, ?_, fun p hp => ?_⟩
    · show 0 < (s.os.flatMap mutO).length
      rw [flatMap_len (k := 3) (fun _ => rfl)]
      omega
    · show (s.os.flatMap mutO).length ≤ _
      rw [flatMap_len (k := 3) (fun _ => rfl)]
      omega
    · obtain ⟨o, _, hp⟩ := List.mem_flatMap.1 hp
      simp only [mutO, List.mem_cons, List.not_mem_nil, or_false] at hp
      rcases hp with rfl | rfl | rfl
      · exact Nat.le_trans (Nat.le_refl 1) (by decide)
      · exact Nat.le_trans (Nat.le_refl 2) (by decide)
      · exact Nat.le_trans (Nat.le_refl 1) (by decide)
/-- A field that is there is found. -/
theorem outN_some {l : List Dn} {d : Dn} {i : Nat} (hi : dnAt l d.n = (i : Int)) (hd : l[i]? = some d) (hk : d.k = 2) {p : Ot} (hp : p ∈ d.outs) : (outN l d.n p.n).isSome = true := by
  unfold outN
  rw [hi, if_neg (by omega), Int.toNat_natCast, hd]
  simp only [hk, if_true]
  split
  · rfl
  · have h0 : 0 ≤ otAt d p.n := by unfold otAt; exact idx_pos.2 ⟨p, hp, by simp⟩
    rw [if_neg (by omega)]
    rcases idx_range (fun q : Ot => decide (q.n = p.n)) d.outs 0 with q | ⟨j, q, q1, q2, _⟩
    · exact absurd h0 (by unfold otAt; rw [q]; decide)
    · have e : otAt d p.n = (j : Int) := by unfold otAt; rw [q1]; simp
      rw [e, Int.toNat_natCast, q2]
      rfl
end Go.Proofs.YtcbngkmmmfaaoaaGreatDoor
/-
  THE API'S TYPES, H10: GenRoots.
-/
namespace Go.Proofs.YtcbngkmmmfaaoaaGreatDoor
open Go.RowKit Go.Lib Go.Ac
set_option linter.unusedSimpArgs false
set_option maxRecDepth 100000
variable {mx : Int}
theorem fixed10g_c (h : AH) (fr : Nat) : CR Tryz.prog (globM mx) md (.fn 30) [] h fr (.val (.bool true)) := pure_any rfl rfl ⟨2000, fixed10_run⟩ h fr
theorem ln51r (l : List Ot) : lenO Tryz.prog [rowN Ot.pv l] [51] = some (.q (.int .i64 l.length)) := lenR u51 (rowN_row Ot.pv l)
theorem bd43_5g (fr : Nat) (a b c d e : List UInt8) : buildO Tryz.prog fr 43 5 [(0, .str a), (1, .str b), (2, .str c), (3, .str d), (4, .str e)] = some (.w (.ow fr 5 0 5) fr (.cells 9 1 false [.str a, .str b, .str c, .str d, .str e])) := by kernel_rfl
/-- What stays through GenRoots' rounds. -/
structure RootS (s : Sc) (F : Fr) (h : AH) : Prop where
  f1 : F.at 1 = .ptr 0 2 0
  f3 : F.at 3 = rowV Dn.pv (typesD s)
  g0 : h.get 0 = some (.cells 25 0 false s.pv)
def invR1 (s : Sc) (k : Nat) (F : Fr) (h : AH) : Prop := ∃ i : Nat, k + i = s.os.length ∧ RootS s F h ∧ F.at 7 = .int .i64 i
def rootN (o : Ob) : List (List UInt8) := [[103, 101, 116] ++ o.n, [113, 117, 101, 114, 121] ++ o.n, [97, 100, 100] ++ o.n, [117, 112, 100, 97, 116, 101] ++ o.n, [100, 101, 108, 101, 116, 101] ++ o.n]
def invR2 (s : Sc) (i : Nat) (o : Ob) (k : Nat) (F : Fr) (h : AH) : Prop := ∃ j X : Nat, k + j = 5 ∧ RootS s F h ∧ F.at 7 = .int .i64 i ∧ F.at 8 = .str o.n ∧ F.at 9 = .ow X 5 0 5 ∧ F.at 10 = .int .i64 j ∧ X < h.next ∧ 0 < X ∧ h.get X = some (.cells 9 1 false (flat strV (rootN o)))
/-- Each root's field is found. -/
theorem root_some {s : Sc} (ok : s.okM mx) {o : Ob} (ho : o ∈ s.os) {j : Nat} (hj : j < 5) : ∃ x p, (rootN o)[j]? = some x ∧ outN (typesD s) (if 1 < j then bMutation else bQuery) x = some p := by
  obtain ⟨iq, q1, q2⟩ := types_in ok (qry_mem s)
  obtain ⟨im, m1, m2⟩ := types_in ok (mut_mem s)
  have hq : ∀ p ∈ qryO o, ∃ y, outN (typesD s) bQuery p.n = some y := fun p hp => Option.isSome_iff_exists.1 (outN_some (d := qryD s) q2 q1 rfl (List.mem_flatMap.2 ⟨o, ho, hp⟩))
  have hm : ∀ p ∈ mutO o, ∃ y, outN (typesD s) bMutation p.n = some y := fun p hp => Option.isSome_iff_exists.1 (outN_some (d := mutD s) m2 m1 rfl (List.mem_flatMap.2 ⟨o, ho, hp⟩))
  obtain rfl | rfl | rfl | rfl | rfl : j = 0 ∨ j = 1 ∨ j = 2 ∨ j = 3 ∨ j = 4 := by omega
  · obtain ⟨y, e⟩ := hq ⟨[103, 101, 116] ++ o.n, o.n, [], [⟨bid, bID, [33]⟩]⟩ (by simp [qryO])
    exact ⟨_, y, rfl, e⟩
  · obtain ⟨y, e⟩ := hq ⟨[113, 117, 101, 114, 121] ++ o.n, o.n, manyL, argsL o.n⟩ (by simp [qryO])
    exact ⟨_, y, rfl, e⟩
  · obtain ⟨y, e⟩ := hm ⟨[97, 100, 100] ++ o.n, o.n, manyL, [⟨[105, 110, 112, 117, 116], bAdd ++ o.n, manyL⟩]⟩ (by simp [mutO])
    exact ⟨_, y, rfl, e⟩
  · obtain ⟨y, e⟩ := hm ⟨[117, 112, 100, 97, 116, 101] ++ o.n, o.n, manyL, [⟨[102, 105, 108, 116, 101, 114], o.n ++ bFilter, [33]⟩, ⟨[115, 101, 116], bPatch ++ o.n, [33]⟩]⟩ (by simp [mutO])
    exact ⟨_, y, rfl, e⟩
  · obtain ⟨y, e⟩ := hm ⟨[100, 101, 108, 101, 116, 101] ++ o.n, bInt, [33], [⟨[102, 105, 108, 116, 101, 114], o.n ++ bFilter, [33]⟩]⟩ (by simp [mutO])
    exact ⟨_, y, rfl, e⟩
set_option maxHeartbeats 2000000 in
theorem genRoots_c {s : Sc} (hs : s.fits) (hm : s.small) (h : AH) (fr : Nat) : CR Tryz.prog (globM mx) md (.fn 12) [.agg s.pv] h fr (.val (.bool true)) := by
  refine CR.plain (rs := [.tmp 2]) Tryz.func12 rfl rfl rfl rfl rfl rfl rfl ?_ h fr
  by_cases c1 : checkV mx s = 0
  rotate_left
  · simp -implicitDefEqProofs only [wpC_seq, rowsA, if_true, if_false, opnd, ofVal, ofVal1, layArgs, Nat.reduceAdd, reduceIte, Nat.reduceEqDiff, reduceCtorEq, rowsB, cellsG, Nat.reduceMul, Sc.len, Ob.len, En.len, Fld.len, fda_ptr o25_0, fda_ptr o25_1, fda_ptr o33_0, fda_ptr o33_1, fda_ptr o33_2, fda_ptr o33_3, fda_ptr o31_0, fda_ptr o31_1, fda_ptr o41_0, fda_ptr o41_1, fda_ptr o45_0, fda_ptr o45_1, fda_rop o25_0, fda_rop o25_1, fda_rop o33_0, fda_rop o33_1, fda_rop o33_2, fda_rop o33_3, fda_rop o31_0, fda_rop o31_1, fda_rop o41_0, fda_rop o41_1, fda_rop o45_0, fda_rop o45_1,
    ld25, ld33, ld41, ld45, ld33r, ld41r, ld45r, ld22, ld23, ld9o, ld9or, ld39o, ld39or, ld9e, ld9er, ld43e, ld43er, ld9f0, ld9f0r, ld9f1, ld9f1r, ld9f2, ld9f2r, ld9f3, ld9f3r, ld9f4, ld9f4r, ld31f, ln22, ln23, ln39, ln43, List.drop_drop, goO_known (types_no (mx := mx) hs hm c1), goO_known fixed10g_c, c1]
  have ok := check_0.1 c1
  have fit := types_fit ok
  have hL : (typesD s).length ≤ 9223372036854775807 := Nat.le_trans fit.1 (by decide)
  obtain ⟨e1, e2, e3, e4, e5⟩ := ok.enough
  obtain ⟨iq, q1, q2⟩ := types_in ok (qry_mem s)
  obtain ⟨im, m1, m2⟩ := types_in ok (mut_mem s)
  have q3 := (List.getElem?_eq_some_iff.1 q1).1
  have m3 := (List.getElem?_eq_some_iff.1 m1).1
  obtain ⟨rq, hrq⟩ := ix47n (l := typesD s) (i := (iq : Int)) (by omega) (by rw [Int.toNat_natCast]; exact q1)
  obtain ⟨rm, hrm⟩ := ix47n (l := typesD s) (i := (im : Int)) (by omega) (by rw [Int.toNat_natCast]; exact m1)
  have hlen := types_len s
  have oq : (qryD s).outs.length = s.os.length * 2 := flatMap_len (k := 2) (fun _ => rfl) s.os
  have om : (mutD s).outs.length = s.os.length * 3 := flatMap_len (k := 3) (fun _ => rfl) s.os
  have kq := findN_c (mx := mx) (typesD s) hL bQuery
  have km := findN_c (mx := mx) (typesD s) hL bMutation
  rw [show dnAt (typesD s) bQuery = (iq : Int) from q2] at kq
  rw [show dnAt (typesD s) bMutation = (im : Int) from m2] at km
  have n1 : ¬ ((iq : Int) < 0) := by omega
  have n2 : ¬ ((im : Int) < 0) := by omega
  have n3 : ¬ (((typesD s).length : Int) ≤ (iq : Int)) := by omega
  have n4 : ¬ (((typesD s).length : Int) ≤ (im : Int)) := by omega
  have w1 := IntWalk.i64_in (2 * (s.os.length : Int)) (by omega)
  have w2 := IntWalk.i64_in (3 * (s.os.length : Int)) (by omega)
  have w3 := IntWalk.i64_in (2 * (s.es.length : Int)) (by omega)
  have w4 := IntWalk.i64_in (5 + 2 * (s.es.length : Int)) (by omega)
  have w5 := IntWalk.i64_in (6 * (s.os.length : Int)) (by omega)
  have w6 := IntWalk.i64_in (5 + 2 * (s.es.length : Int) + 6 * (s.os.length : Int)) (by omega)
  have w7 := IntWalk.i64_in (5 + 2 * (s.es.length : Int) + 6 * (s.os.length : Int) + 6) (by omega)
  have x1 : ((qryD s).outs.length : Int) = 2 * (s.os.length : Int) := by omega
  have x2 : ((mutD s).outs.length : Int) = 3 * (s.os.length : Int) := by omega
  have x3 : ((typesD s).length : Int) = 5 + 2 * (s.es.length : Int) + 6 * (s.os.length : Int) + 6 := by omega
  simp only [bQuery, bMutation] at kq km
  simp -implicitDefEqProofs only [wpC_seq, rowsA, if_true, if_false, opnd, ofVal, ofVal1, layArgs, Nat.reduceAdd, reduceIte, Nat.reduceEqDiff, reduceCtorEq, rowsB, cellsG, Nat.reduceMul, Sc.len, Ob.len, En.len, Fld.len, fda_ptr o25_0, fda_ptr o25_1, fda_ptr o33_0, fda_ptr o33_1, fda_ptr o33_2, fda_ptr o33_3, fda_ptr o31_0, fda_ptr o31_1, fda_ptr o41_0, fda_ptr o41_1, fda_ptr o45_0, fda_ptr o45_1, fda_rop o25_0, fda_rop o25_1, fda_rop o33_0, fda_rop o33_1, fda_rop o33_2, fda_rop o33_3, fda_rop o31_0, fda_rop o31_1, fda_rop o41_0, fda_rop o41_1, fda_rop o45_0, fda_rop o45_1,
    ld25, ld33, ld41, ld45, ld33r, ld41r, ld45r, ld22, ld23, ld9o, ld9or, ld39o, ld39or, ld9e, ld9er, ld43e, ld43er, ld9f0, ld9f0r, ld9f1, ld9f1r, ld9f2, ld9f2r, ld9f3, ld9f3r, ld9f4, ld9f4r, ld31f, ln22, ln23, ln39, ln43, List.drop_drop, goO_known (types_c (mx := mx) hs hm c1), goO_known fixed10g_c, goO_known kq, goO_known km, n1, n2, n3, n4, ln47n, hrq, hrm, fda_rop o54_3, ld51dn, ln51r, w1, w2, w3, w4, w5, w6, w7, x1, x2]
  simp -implicitDefEqProofs only [decide_eq_true x3, wpC_seq, rowsA, if_true, if_false, opnd, ofVal, ofVal1, layArgs, Nat.reduceAdd, reduceIte, Nat.reduceEqDiff, reduceCtorEq, rowsB, cellsG, Nat.reduceMul]
  refine wpC_loop (invR1 s) (k := s.os.length) ⟨0, by omega, ⟨?_, ?_, ?_⟩, ?_⟩ ?_
  · simp only [Fr.at_set, Nat.reduceEqDiff, reduceIte]
  · simp only [Fr.at_set, Nat.reduceEqDiff, reduceIte]
  · simp only [AH.get_set, AH.get_up, if_true]
  · simp only [Fr.at_set, Nat.reduceEqDiff, reduceIte]; rfl
  clear kq km n1 n2 n3 n4 hrq hrm w1 w2 w3 w4 w5 w6 w7 x1 x2 x3
  rintro k F h ⟨i, ki, ⟨f1, f3, g0⟩, f7⟩
  cases k with
  | zero =>
    have c2 : ¬ ((i : Int) < (s.os.length : Int)) := by omega
    simp -implicitDefEqProofs only [wpC_seq, rowsA, if_true, if_false, opnd, ofVal, ofVal1, layArgs, Nat.reduceAdd, reduceIte, Nat.reduceEqDiff, reduceCtorEq, rowsB, cellsG, Nat.reduceMul, Sc.len, Ob.len, En.len, Fld.len, fda_ptr o25_0, fda_ptr o25_1, fda_ptr o33_0, fda_ptr o33_1, fda_ptr o33_2, fda_ptr o33_3, fda_ptr o31_0, fda_ptr o31_1, fda_ptr o41_0, fda_ptr o41_1, fda_ptr o45_0, fda_ptr o45_1, fda_rop o25_0, fda_rop o25_1, fda_rop o33_0, fda_rop o33_1, fda_rop o33_2, fda_rop o33_3, fda_rop o31_0, fda_rop o31_1, fda_rop o41_0, fda_rop o41_1, fda_rop o45_0, fda_rop o45_1,
    ld25, ld33, ld41, ld45, ld33r, ld41r, ld45r, ld22, ld23, ld9o, ld9or, ld39o, ld39or, ld9e, ld9er, ld43e, ld43er, ld9f0, ld9f0r, ld9f1, ld9f1r, ld9f2, ld9f2r, ld9f3, ld9f3r, ld9f4, ld9f4r, ld31f, ln22, ln23, ln39, ln43, List.drop_drop, f1, f3, f7, g0, c2]
  | succ k =>
    have c2 : (i : Int) < (s.os.length : Int) := by omega
    obtain ⟨o, ho⟩ : ∃ o, s.os[i]? = some o := ⟨_, List.getElem?_eq_getElem (show i < s.os.length by omega)⟩
    have hom := List.mem_of_getElem? ho
    have w3 := (check_ok c1).olen hom
    obtain ⟨r, hr⟩ := ix22 (l := s.os) (i := (i : Int)) (by omega) (by rw [Int.toNat_natCast]; exact ho)
    have w := IntWalk.i64_in ((i : Int) + 1) (by omega)
    have a2 := fun (z : List UInt8) (hz : z.length ≤ 100) {h : AH} => bin_sadd (P := Tryz.prog) (h := h) (t := 9) (x := z) (y := o.n) (by omega)
    have a1 := fun (z : List UInt8) (hz : z.length ≤ 100) {h : AH} => bin_sadd (P := Tryz.prog) (h := h) (t := 9) (x := o.n) (y := z) (by omega)
    have b1 := @a2 [103, 101, 116] (by decide)
    have b2 := @a2 [113, 117, 101, 114, 121] (by decide)
    have b3 := @a2 [97, 100, 100] (by decide)
    have b4 := @a2 [117, 112, 100, 97, 116, 101] (by decide)
    have b5 := @a2 [100, 101, 108, 101, 116, 101] (by decide)
    simp -implicitDefEqProofs only [wpC_seq, rowsA, if_true, if_false, opnd, ofVal, ofVal1, layArgs, Nat.reduceAdd, reduceIte, Nat.reduceEqDiff, reduceCtorEq, rowsB, cellsG, Nat.reduceMul, Sc.len, Ob.len, En.len, Fld.len, fda_ptr o25_0, fda_ptr o25_1, fda_ptr o33_0, fda_ptr o33_1, fda_ptr o33_2, fda_ptr o33_3, fda_ptr o31_0, fda_ptr o31_1, fda_ptr o41_0, fda_ptr o41_1, fda_ptr o45_0, fda_ptr o45_1, fda_rop o25_0, fda_rop o25_1, fda_rop o33_0, fda_rop o33_1, fda_rop o33_2, fda_rop o33_3, fda_rop o31_0, fda_rop o31_1, fda_rop o41_0, fda_rop o41_1, fda_rop o45_0, fda_rop o45_1,
    ld25, ld33, ld41, ld45, ld33r, ld41r, ld45r, ld22, ld23, ld9o, ld9or, ld39o, ld39or, ld9e, ld9er, ld43e, ld43er, ld9f0, ld9f0r, ld9f1, ld9f1r, ld9f2, ld9f2r, ld9f3, ld9f3r, ld9f4, ld9f4r, ld31f, ln22, ln23, ln39, ln43, List.drop_drop, f1, f3, f7, g0, c2, hr, b1, b2, b3, b4, b5, bd43_5g]
    refine wpC_loop (invR2 s i o) (k := 5) ⟨0, h.next + 5 + 7 + 10, by omega, ⟨?_, ?_, ?_⟩, ?_, ?_, ?_, ?_, ?_, by omega, ?_⟩ ?_
    · simp only [Fr.at_set, Nat.reduceEqDiff, reduceIte, f1]
    · simp only [Fr.at_set, Nat.reduceEqDiff, reduceIte, f3]
    · simp only [AH.get_set, AH.get_up]; rw [if_neg (by omega)]; exact g0
    · simp only [Fr.at_set, Nat.reduceEqDiff, reduceIte, f7]
    · simp only [Fr.at_set, Nat.reduceEqDiff, reduceIte]
    · simp only [Fr.at_set, Nat.reduceEqDiff, reduceIte]
    · simp only [Fr.at_set, Nat.reduceEqDiff, reduceIte]; rfl
    · simp only [AH.next_set, AH.next_up]; omega
    · simp only [AH.get_set, AH.get_up, if_true]; rfl
    clear f1 f3 g0 f7
    rintro k2 F h ⟨j, X, kj, ⟨f1, f3, g0⟩, f7, f8, f9, f10, hX, hX0, gX⟩
    cases k2 with
    | zero =>
      have c3 : ¬ ((j : Int) < 5) := by omega
      simp -implicitDefEqProofs only [wpC_seq, rowsA, if_true, if_false, opnd, ofVal, ofVal1, layArgs, Nat.reduceAdd, reduceIte, Nat.reduceEqDiff, reduceCtorEq, rowsB, cellsG, Nat.reduceMul, f1, f3, f7, f8, f9, f10, c3]
      have f2 := fun x => findN_c (mx := mx) (typesD s) hL x
      obtain ⟨io, p1, p2⟩ := types_in ok (d := ⟨o.n, 2, [], ⟨bid, bID, [33], []⟩ :: o.fs.map (outG s), []⟩) (obj_mem hom (by simp [objD]))
      have p3 := (List.getElem?_eq_some_iff.1 p1).1
      obtain ⟨ro, hro⟩ := ix47n (l := typesD s) (i := (io : Int)) (by omega) (by rw [Int.toNat_natCast]; exact p1)
      have fo := f2 o.n
      rw [show dnAt (typesD s) o.n = (io : Int) from p2] at fo
      have n1 : ¬ ((io : Int) < 0) := by omega
      have n3 : ¬ (((typesD s).length : Int) ≤ (io : Int)) := by omega
      have hfl := (e4 o hom).2
      have wl := IntWalk.i64_in (1 + (o.fs.length : Int)) (by omega)
      have lo : (((o.fs.map (outG s)).length + 1 : Nat) : Int) = 1 + (o.fs.length : Int) := by rw [List.length_map]; omega
      have g1 := at_not (obj_mem hom (d := ⟨bAdd ++ o.n, 3, [], [], o.fs.map (inG s false)⟩) (by simp [objD]))
      have g2 := at_not (obj_mem hom (d := ⟨bPatch ++ o.n, 3, [], [], o.fs.map (inG s true)⟩) (by simp [objD]))
      have g3 := at_not (obj_mem hom (d := ⟨o.n ++ bFilter, 3, [], [], [⟨[97, 110, 100], o.n ++ bFilter, listL⟩, ⟨[111, 114], o.n ++ bFilter, listL⟩, ⟨[110, 111, 116], o.n ++ bFilter, []⟩, ⟨bid, bID, listL⟩] ++ (props s o).map filG⟩) (by simp [objD]))
      have g4 := at_not (obj_mem hom (d := ⟨o.n ++ bOrder, 3, [], [], [⟨[97, 115, 99], o.n ++ bOrderable, []⟩, ⟨[100, 101, 115, 99], o.n ++ bOrderable, []⟩, ⟨[116, 104, 101, 110], o.n ++ bOrder, []⟩]⟩) (by simp [objD]))
      have g5 := at_not (obj_mem hom (d := ⟨o.n ++ bOrderable, 1, bid :: (props s o).map (·.n), [], []⟩) (by simp [objD]))
      simp only [bAdd, bPatch, bFilter, bOrder, bOrderable] at g1 g2 g3 g4 g5
      have u1 := @a2 [65, 100, 100] (by decide)
      have u2 := @a2 [80, 97, 116, 99, 104] (by decide)
      have u3 := @a1 [70, 105, 108, 116, 101, 114] (by decide)
      have u4 := @a1 [79, 114, 100, 101, 114] (by decide)
      have u5 := @a1 [79, 114, 100, 101, 114, 97, 98, 108, 101] (by decide)
      simp only [List.cons_append, List.nil_append] at g1 g2 u1 u2
      simp -implicitDefEqProofs only [wpC_seq, rowsA, if_true, if_false, opnd, ofVal, ofVal1, layArgs, Nat.reduceAdd, reduceIte, Nat.reduceEqDiff, reduceCtorEq, rowsB, cellsG, Nat.reduceMul, Sc.len, Ob.len, En.len, Fld.len, fda_ptr o25_0, fda_ptr o25_1, fda_ptr o33_0, fda_ptr o33_1, fda_ptr o33_2, fda_ptr o33_3, fda_ptr o31_0, fda_ptr o31_1, fda_ptr o41_0, fda_ptr o41_1, fda_ptr o45_0, fda_ptr o45_1, fda_rop o25_0, fda_rop o25_1, fda_rop o33_0, fda_rop o33_1, fda_rop o33_2, fda_rop o33_3, fda_rop o31_0, fda_rop o31_1, fda_rop o41_0, fda_rop o41_1, fda_rop o45_0, fda_rop o45_1,
    ld25, ld33, ld41, ld45, ld33r, ld41r, ld45r, ld22, ld23, ld9o, ld9or, ld39o, ld39or, ld9e, ld9er, ld43e, ld43er, ld9f0, ld9f0r, ld9f1, ld9f1r, ld9f2, ld9f2r, ld9f3, ld9f3r, ld9f4, ld9f4r, ld31f, ln22, ln23, ln39, ln43, List.drop_drop, f1, f3, f7, f8, g0, goO_known fo, goD_known (f2 _), n1, n3, ln47n, hro, fda_rop o54_3, ld51dn, ln51r, hr, wl, lo, u1, u2, u3, u4, u5, g1, g2, g3, g4, g5, w]
      refine ⟨k, by omega, i + 1, by omega, ⟨?_, ?_, ?_⟩, ?_⟩
      · simp only [Fr.at_set, Nat.reduceEqDiff, reduceIte, f1]
      · simp only [Fr.at_set, Nat.reduceEqDiff, reduceIte, f3]
      · simp only [AH.get_up]; exact g0
      · simp only [Fr.at_set, Nat.reduceEqDiff, reduceIte]; rfl
    | succ k2 =>
      have c3 : (j : Int) < 5 := by omega
      obtain ⟨x, p, hx, hp⟩ := root_some ok hom (show j < 5 by omega)
      obtain ⟨r3, hr3⟩ := flat_drop (f := strV) (z := 1) (fun _ => rfl) (rootN o) j x hx
      rw [Nat.mul_one] at hr3
      have hlen5 : (flat strV (rootN o)).length = 5 := rfl
      have hld : loadO Tryz.prog 9 (some (strV x ++ r3)) = some (.q (.str x)) := loadO_one ag9 sz9
      have wj := IntWalk.i64_in ((j : Int) + 1) (by omega)
      have kO := outN_c (mx := mx) (typesD s) fit (if 1 < j then bMutation else bQuery) x
      rw [hp] at kO
      have done : ∀ (F' : Fr) (h' : AH), F'.at 1 = F.at 1 → F'.at 3 = F.at 3 → F'.at 7 = F.at 7 → F'.at 8 = F.at 8 → F'.at 9 = F.at 9 → F'.at 10 = .int .i64 ((j : Int) + 1) → (∀ y, y < h.next → h'.get y = h.get y) → h.next ≤ h'.next → ∃ k', k' < k2 + 1 ∧ invR2 s i o k' F' h' := fun F' h' q1 q3 q7 q8 q9 q10 qg qn => ⟨k2, by omega, j + 1, X, by omega, ⟨q1.trans f1, q3.trans f3, (qg 0 (by omega)).trans g0⟩, q7.trans f7, q8.trans f8, q9.trans f9, q10, by omega, hX0, (qg X hX).trans gX⟩
      by_cases c4 : 1 < j
      · have c4' : (1 : Int) < (j : Int) := by omega
        rw [if_pos c4] at kO
        simp only [bMutation, outV, Option.getD_some, Option.isSome_some] at kO
        simp -implicitDefEqProofs only [wpC_seq, rowsA, if_true, if_false, opnd, ofVal, ofVal1, layArgs, Nat.reduceAdd, reduceIte, Nat.reduceEqDiff, reduceCtorEq, rowsB, cellsG, Nat.reduceMul, f1, f3, f7, f8, f9, f10, c3, c4', ida_ow (n := 5) (i := (j : Int)) u43 sz9 (by omega) (by omega), gX, Int.toNat_natCast, hr3, hlen5, hld, goO_known kO, al58n, sz58, st58n, wj]
        refine done _ _ ?_ ?_ ?_ ?_ ?_ ?_ ?_ ?_
        · simp only [Fr.at_set, Nat.reduceEqDiff, reduceIte]
        · simp only [Fr.at_set, Nat.reduceEqDiff, reduceIte]
        · simp only [Fr.at_set, Nat.reduceEqDiff, reduceIte]
        · simp only [Fr.at_set, Nat.reduceEqDiff, reduceIte]
        · simp only [Fr.at_set, Nat.reduceEqDiff, reduceIte]
        · simp only [Fr.at_set, Nat.reduceEqDiff, reduceIte]
        · intro y hy
          simp only [AH.get_set, AH.get_up]
          repeat rw [if_neg (by omega)]
        · simp only [AH.next_set, AH.next_up]; omega
      · have c4' : ¬ (1 : Int) < (j : Int) := by omega
        rw [if_neg c4] at kO
        simp only [bQuery, outV, Option.getD_some, Option.isSome_some] at kO
        simp -implicitDefEqProofs only [wpC_seq, rowsA, if_true, if_false, opnd, ofVal, ofVal1, layArgs, Nat.reduceAdd, reduceIte, Nat.reduceEqDiff, reduceCtorEq, rowsB, cellsG, Nat.reduceMul, f1, f3, f7, f8, f9, f10, c3, c4', ida_ow (n := 5) (i := (j : Int)) u43 sz9 (by omega) (by omega), gX, Int.toNat_natCast, hr3, hlen5, hld, goO_known kO, al58n, sz58, st58n, wj]
        refine done _ _ ?_ ?_ ?_ ?_ ?_ ?_ ?_ ?_
        · simp only [Fr.at_set, Nat.reduceEqDiff, reduceIte]
        · simp only [Fr.at_set, Nat.reduceEqDiff, reduceIte]
        · simp only [Fr.at_set, Nat.reduceEqDiff, reduceIte]
        · simp only [Fr.at_set, Nat.reduceEqDiff, reduceIte]
        · simp only [Fr.at_set, Nat.reduceEqDiff, reduceIte]
        · simp only [Fr.at_set, Nat.reduceEqDiff, reduceIte]
        · intro y hy
          simp only [AH.get_set, AH.get_up]
          repeat rw [if_neg (by omega)]
        · simp only [AH.next_set, AH.next_up]; omega
end Go.Proofs.YtcbngkmmmfaaoaaGreatDoor
