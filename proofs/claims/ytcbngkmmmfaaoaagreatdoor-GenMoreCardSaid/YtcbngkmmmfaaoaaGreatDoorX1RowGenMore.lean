/-
  JOINED TEXTS (H8 N0 N1 H9 N2 N3 Q24 H11 H12 H10 H13 N4 H14 G3 G4 H15 H16): what this law wants beyond the shared ones.
-/
import Derived.Test.YtcbngkmmmfaaoaaGreatDoorX0RowGenMore
import Derived.Test.YtcbngkmmmfaaoaaGreatDoorM15
import Derived.Test.YtcbngkmmmfaaoaaGreatDoorM6
set_option linter.unusedVariables false
set_option linter.unusedSimpArgs false
namespace Go.Proofs.YtcbngkmmmfaaoaaGreatDoor
open Go.RowKit Go.Lib Go.Ac
set_option linter.unusedSimpArgs false
set_option maxRecDepth 100000
variable {mx : Int}
theorem types_no {s : Sc} (hs : s.fits) (hm : s.small) (hc : ¬ checkV mx s = 0) (h : AH) (fr : Nat) : CR Tryz.prog (globM mx) md (.fn 28) [.agg s.pv] h fr (.val (.tup [.nls, .int .i64 (checkV mx s)])) := by
  refine CR.frozen (rs := [.tmp 2, .tmp 3]) Tryz.func28 rfl rfl rfl rfl rfl rfl ?_ h fr
  simp -implicitDefEqProofs only [wpC_seq, rowsA, if_true, if_false, opnd, ofVal, ofVal1, layArgs, Nat.reduceAdd, reduceIte, Nat.reduceEqDiff, reduceCtorEq, rowsB, cellsG, Nat.reduceMul, rowsS, List.drop_drop, goO_known (check_s hs hm), hc]
  exact ⟨_, frz_clean _ rfl⟩
theorem bl54s (a : List UInt8) : bldO Tryz.prog 54 [(0, .str a)] = some (.q (.agg (scalD a).pv)) := by
  have : bldO Tryz.prog 54 [(0, .str a)] = some (.q (.agg [.str a, .int .i64 0, .nls, .nls, .nls])) := by kernel_rfl
  exact this
theorem bl54q (a : List UInt8) : bldO Tryz.prog 54 [(0, .str a), (1, .int .i64 2)] = some (.q (.agg [.str a, .int .i64 2, .nls, .nls, .nls])) := by kernel_rfl
theorem bd47_1 (fr : Nat) (a : List UInt8) (k : Int) (u v w : PV) : buildO Tryz.prog fr 47 1 [(0, .agg [.str a, .int .i64 k, u, v, w])] = some (.w (.ow fr 5 0 1) fr (.cells 54 5 false [.str a, .int .i64 k, u, v, w])) := by kernel_rfl
theorem bd47_d (fr : Nat) (d : Dn) : buildO Tryz.prog fr 47 1 [(0, .agg d.pv)] = some (.w (.ow fr 5 0 1) fr (.cells 54 5 false d.pv)) := bd47_1 ..
theorem bd43_5 (fr : Nat) : buildO Tryz.prog fr 43 5 [(0, .str bID), (1, .str bInt), (2, .str bFloat), (3, .str bString), (4, .str bBoolean)] = some (.w (.ow fr 5 0 5) fr (.cells 9 1 false (flat strV scalL))) := by kernel_rfl
theorem st45e (e : En) (id : Nat) (c : List PV) (hc : c.length = 2) : stoG id 2 0 (.agg e.pv) 2 (some (.cells 45 0 false c)) = some (.w .undef id (.cells 45 0 false e.pv)) := stoG_all id 2 0 45 (.agg e.pv) c hc rfl rfl
theorem cellR1 {h : AH} {X sz : Nat} {E : TypeId} {fz : Bool} {xs : List PV} (hX : h.get X = some (.cells E sz fz xs)) (hl : xs.length = sz) : Ac.cellsOf h sz (.ow X sz 0 1) = some (xs, 1) := by
  have := cellR_ow (sz := sz) (n := 1) hX (by rw [hl, Nat.one_mul])
  rwa [Nat.one_mul] at this
theorem flat1 {α : Type} (f : α → List PV) (x : α) : flat f [x] = f x := by simp [flat]
theorem RowD.keep {B B' : Nat} {h h' : AH} {v : PV} {l : List Dn} (q : RowD [] B h v l) (hB : B ≤ B') (hk : ∀ id, 10 ≤ id → id < B → h'.get id = h.get id) : RowD [] B' h' v l := RowP.keep q hB (fun _ hx => .inl hx) (fun id h1 h2 _ => hk id h1 h2)
def invT1 (s : Sc) (k : Nat) (F : Fr) (h : AH) : Prop := ∃ (i : Nat) (v : PV), k + i = s.es.length ∧ F.at 1 = .ptr 0 2 0 ∧ F.at 5 = v ∧ F.at 36 = rowV En.pv s.es ∧ F.at 37 = .int .i64 s.es.length ∧ F.at 38 = .int .i64 i ∧ h.get 0 = some (.cells 25 0 false s.pv) ∧ 12 ≤ h.next ∧ RowD [] h.next h v (scalL.map scalD ++ (s.es.take i).map enmD)
theorem st41o (o : Ob) (id : Nat) (c : List PV) (hc : c.length = 2) : stoG id 2 0 (.agg o.pv) 2 (some (.cells 41 0 false c)) = some (.w .undef id (.cells 41 0 false o.pv)) := stoG_all id 2 0 41 (.agg o.pv) c hc rfl rfl
def invT2 (s : Sc) (a b : Nat) (pre : List Dn) (k : Nat) (F : Fr) (h : AH) : Prop := ∃ (i : Nat) (vl vq vm : PV), k + i = s.os.length ∧ F.at 1 = .ptr 0 2 0 ∧ F.at 5 = vl ∧ F.at 10 = .ptr a 5 0 ∧ F.at 11 = .ptr b 5 0 ∧ F.at 55 = rowV Ob.pv s.os ∧ F.at 56 = .int .i64 s.os.length ∧ F.at 57 = .int .i64 i ∧ h.get 0 = some (.cells 25 0 false s.pv) ∧
  h.get a = some (.cells 54 0 false [.str bQuery, .int .i64 2, .nls, vq, .nls]) ∧ h.get b = some (.cells 54 0 false [.str bMutation, .int .i64 2, .nls, vm, .nls]) ∧ a ≠ b ∧ StD a b h.next h vl vq vm (pre ++ (s.os.take i).flatMap (objD s)) ((s.os.take i).flatMap qryO) ((s.os.take i).flatMap mutO)
theorem bd52_1 (fr : Nat) (a b c : List UInt8) : buildO Tryz.prog fr 52 1 [(0, .agg [.str a, .str b, .str c])] = some (.w (.ow fr 3 0 1) fr (.cells 56 3 false [.str a, .str b, .str c])) := by kernel_rfl
theorem bd52_2 (fr : Nat) (a b c d e f : List UInt8) : buildO Tryz.prog fr 52 2 [(0, .agg [.str a, .str b, .str c]), (1, .agg [.str d, .str e, .str f])] = some (.w (.ow fr 6 0 2) fr (.cells 56 3 false [.str a, .str b, .str c, .str d, .str e, .str f])) := by kernel_rfl
theorem bl58w (a b c : List UInt8) (id x y z : Nat) : bldO Tryz.prog 58 [(0, .str a), (1, .agg [.str b, .str c]), (2, .ow id x y z)] = some (.q (.agg [.str a, .str b, .str c, .ow id x y z])) := by kernel_rfl
theorem bl58r (a b c : List UInt8) (l : List PV) (n : Nat) : bldO Tryz.prog 58 [(0, .str a), (1, .agg [.str b, .str c]), (2, .ro l n)] = some (.q (.agg [.str a, .str b, .str c, .ro l n])) := by kernel_rfl
theorem bl58v (a b c : List UInt8) (l : List Inp) : bldO Tryz.prog 58 [(0, .str a), (1, .agg [.str b, .str c]), (2, rowV Inp.pv l)] = some (.q (.agg [.str a, .str b, .str c, rowV Inp.pv l])) := bl58r ..
theorem bd51_2 (fr : Nat) (a b c d e f : List UInt8) (u v : PV) : buildO Tryz.prog fr 51 2 [(0, .agg [.str a, .str b, .str c, u]), (1, .agg [.str d, .str e, .str f, v])] = some (.w (.ow fr 8 0 2) fr (.cells 58 4 false [.str a, .str b, .str c, u, .str d, .str e, .str f, v])) := by kernel_rfl
theorem bd51_3 (fr : Nat) (a b c d e f i j k : List UInt8) (u v w : PV) : buildO Tryz.prog fr 51 3 [(0, .agg [.str a, .str b, .str c, u]), (1, .agg [.str d, .str e, .str f, v]), (2, .agg [.str i, .str j, .str k, w])] = some (.w (.ow fr 12 0 3) fr (.cells 58 4 false [.str a, .str b, .str c, u, .str d, .str e, .str f, v, .str i, .str j, .str k, w])) := by kernel_rfl
theorem st54q (n : List UInt8) (k : Int) (v : PV) (id x y z w : Nat) : stoG id 5 3 (.ow x y z w) 1 (some (.cells 54 0 false [.str n, .int .i64 k, .nls, v, .nls])) = some (.w .undef id (.cells 54 0 false [.str n, .int .i64 k, .nls, .ow x y z w, .nls])) := rfl
theorem flatMap_le {α β : Type} {f : α → List β} {k m : Nat} (hf : ∀ x, (f x).length ≤ k) : ∀ {l : List α}, l.length ≤ m → (l.flatMap f).length ≤ m * k
  | [], _ => by simp
  | x :: l, h => by
    rw [List.flatMap_cons, List.length_append]
    have := flatMap_le (m := m - 1) hf (l := l) (by rw [List.length_cons] at h; omega)
    have h1 := hf x
    rw [List.length_cons] at h
    obtain ⟨m', rfl⟩ : ∃ m', m = m' + 1 := ⟨m - 1, by omega⟩
    rw [Nat.add_mul, Nat.one_mul]
    simp only [Nat.add_sub_cancel] at this
    omega
theorem bd47_4 (fr : Nat) (a b c : Dn) (d : List UInt8) (k : Int) (u v w : PV) : buildO Tryz.prog fr 47 4 [(0, .agg a.pv), (1, .agg b.pv), (2, .agg c.pv), (3, .agg [.str d, .int .i64 k, u, v, w])] = some (.w (.ow fr 20 0 4) fr (.cells 54 5 false (a.pv ++ (b.pv ++ (c.pv ++ [.str d, .int .i64 k, u, v, w]))))) := by
  have : ∀ (a b c d : List UInt8) (i j k l : Int) (a1 a2 a3 b1 b2 b3 c1 c2 c3 d1 d2 d3 : PV), buildO Tryz.prog fr 47 4 [(0, .agg [.str a, .int .i64 i, a1, a2, a3]), (1, .agg [.str b, .int .i64 j, b1, b2, b3]), (2, .agg [.str c, .int .i64 k, c1, c2, c3]), (3, .agg [.str d, .int .i64 l, d1, d2, d3])] = some (.w (.ow fr 20 0 4) fr (.cells 54 5 false [.str a, .int .i64 i, a1, a2, a3, .str b, .int .i64 j, b1, b2, b3, .str c, .int .i64 k, c1, c2, c3, .str d, .int .i64 l, d1, d2, d3])) := by
    intros
    kernel_rfl
  exact this ..
theorem bd47_2 (fr : Nat) (a b : List UInt8) (i j : Int) (a1 a2 a3 b1 b2 b3 : PV) : buildO Tryz.prog fr 47 2 [(0, .agg [.str a, .int .i64 i, a1, a2, a3]), (1, .agg [.str b, .int .i64 j, b1, b2, b3])] = some (.w (.ow fr 10 0 2) fr (.cells 54 5 false [.str a, .int .i64 i, a1, a2, a3, .str b, .int .i64 j, b1, b2, b3])) := by kernel_rfl
def invT3 (s : Sc) (a b : Nat) (vq vm : PV) (mid : List Dn) (qs ms : List Ot) (k : Nat) (F : Fr) (h : AH) : Prop := ∃ (i : Nat) (vl : PV), k + i = s.es.length ∧ F.at 5 = vl ∧ F.at 10 = .ptr a 5 0 ∧ F.at 11 = .ptr b 5 0 ∧ F.at 134 = rowV En.pv s.es ∧ F.at 135 = .int .i64 s.es.length ∧ F.at 136 = .int .i64 i ∧
  h.get a = some (.cells 54 0 false [.str bQuery, .int .i64 2, .nls, vq, .nls]) ∧ h.get b = some (.cells 54 0 false [.str bMutation, .int .i64 2, .nls, vm, .nls]) ∧ a ≠ b ∧ StD a b h.next h vl vq vm (mid ++ (s.es.take i).map enfD) qs ms
def invT0 (s : Sc) (k : Nat) (F : Fr) (h : AH) : Prop := ∃ (i : Nat) (v : PV), k + i = 5 ∧ F.at 1 = .ptr 0 2 0 ∧ F.at 5 = v ∧ F.at 23 = .ow 9 5 0 5 ∧ F.at 24 = .int .i64 5 ∧ F.at 25 = .int .i64 i ∧ h.get 0 = some (.cells 25 0 false s.pv) ∧ h.get 9 = some (.cells 9 1 false (flat strV scalL)) ∧ 12 ≤ h.next ∧ RowD [] h.next h v ((scalL.take i).map scalD)
set_option maxHeartbeats 2000000 in
theorem types_c {s : Sc} (hs : s.fits) (hm : s.small) (hc : checkV mx s = 0) (h : AH) (fr : Nat) : CR Tryz.prog (globM mx) md (.fn 28) [.agg s.pv] h fr (.val (.tup [rowV Dn.pv (typesD s), .int .i64 0])) := by
  have ok := check_ok hc
  refine CR.frozen (rs := [.tmp 2, .tmp 3]) Tryz.func28 rfl rfl rfl rfl rfl rfl ?_ h fr
  have hb := fun fr => bd43_5 fr
  simp only [bID, bInt, bFloat, bString, bBoolean] at hb
  simp -implicitDefEqProofs only [wpC_seq, rowsA, if_true, if_false, opnd, ofVal, ofVal1, layArgs, Nat.reduceAdd, reduceIte, Nat.reduceEqDiff, reduceCtorEq, rowsB, cellsG, Nat.reduceMul, rowsS, List.drop_drop, goO_known (check_s hs hm), hc, hb, len_ow u43]
  refine wpC_loop (invT0 s) (k := 5) ⟨0, .nls, by omega, ?_, ?_, ?_, ?_, ?_, ?_, ?_, ?_, RowP.nil⟩ ?_
  · simp only [Fr.at_set, Nat.reduceEqDiff, reduceIte, reduceCtorEq]
  · simp only [Fr.at_set, Nat.reduceEqDiff, reduceIte, reduceCtorEq]
  · simp only [Fr.at_set, Nat.reduceEqDiff, reduceIte, reduceCtorEq]
  · simp only [Fr.at_set, Nat.reduceEqDiff, reduceIte, reduceCtorEq]; rfl
  · simp only [Fr.at_set, Nat.reduceEqDiff, reduceIte, reduceCtorEq]; rfl
  · simp only [AH.get_set, AH.get_up, Nat.reduceEqDiff, if_true, if_false]
  · simp only [AH.get_set, AH.get_up, Nat.reduceEqDiff, if_true, if_false]
  · simp only [AH.next_set, AH.next_up]; exact Nat.le_add_left 12 _
  rintro k F h ⟨i, v, ki, f1, f5, f23, f24, f25, g0, g9, nx, hR⟩
  cases k with
  | zero =>
    have c1 : ¬ ((i : Int) < 5) := by omega
    simp -implicitDefEqProofs only [wpC_seq, rowsA, if_true, if_false, opnd, ofVal, ofVal1, layArgs, Nat.reduceAdd, reduceIte, Nat.reduceEqDiff, reduceCtorEq, rowsB, cellsG, Nat.reduceMul, rowsS, List.drop_drop, f1, f5, f23, f24, f25, g0, c1]
    have hi : i = 5 := by omega
    subst hi
    refine wpC_loop (invT1 s) (k := s.es.length) ⟨0, v, by omega, ?_, ?_, ?_, ?_, ?_, ?_, ?_, ?_⟩ ?_
    · simp only [Fr.at_set, Nat.reduceEqDiff, reduceIte, f1]
    · simp only [Fr.at_set, Nat.reduceEqDiff, reduceIte, f5]
    · simp only [Fr.at_set, Nat.reduceEqDiff, reduceIte]
    · simp only [Fr.at_set, Nat.reduceEqDiff, reduceIte]
    · simp only [Fr.at_set, Nat.reduceEqDiff, reduceIte]; rfl
    · simp only [AH.get_up]; exact g0
    · simp only [AH.next_up]; omega
    · exact hR.keep (by simp only [AH.next_up]; omega) fun id _ _ => by simp only [AH.get_up]
    clear f1 f5 f23 f24 f25 g0 g9 nx hR
    rintro k F h ⟨i, v, ki, f1, f5, f36, f37, f38, g0, nx, hR⟩
    cases k with
    | zero =>
      have c2 : ¬ ((i : Int) < (s.es.length : Int)) := by omega
      have hne : ¬ (h.next + 1 = h.next) := by omega
      simp -implicitDefEqProofs only [wpC_seq, rowsA, if_true, if_false, opnd, ofVal, ofVal1, layArgs, Nat.reduceAdd, reduceIte, Nat.reduceEqDiff, reduceCtorEq, rowsB, cellsG, Nat.reduceMul, rowsS, List.drop_drop, f1, f5, f36, f37, f38, g0, c2, bl54q, al54, sz54, ite_self, hne, st54 [81, 117, 101, 114, 121] 2 .nls .nls .nls _ [.str [], .int .i64 0, .nls, .nls, .nls] rfl, st54 [77, 117, 116, 97, 116, 105, 111, 110] 2 .nls .nls .nls _ [.str [], .int .i64 0, .nls, .nls, .nls] rfl]
      have hi : i = s.es.length := by omega
      subst hi
      rw [List.take_length] at hR
      refine wpC_loop (invT2 s (h.next + 1 + 2) (h.next + 1 + 3) (scalL.map scalD ++ s.es.map enmD)) (k := s.os.length) ⟨0, v, .nls, .nls, by omega, ?_, ?_, ?_, ?_, ?_, ?_, ?_, ?_, ?_, ?_, by omega, ⟨?_, RowP.nil, RowP.nil, ?_, ?_⟩⟩ ?_
      · simp only [Fr.at_set, Nat.reduceEqDiff, reduceIte, f1]
      · simp only [Fr.at_set, Nat.reduceEqDiff, reduceIte, f5]
      · simp only [Fr.at_set, Nat.reduceEqDiff, reduceIte]
      · simp only [Fr.at_set, Nat.reduceEqDiff, reduceIte]
      · simp only [Fr.at_set, Nat.reduceEqDiff, reduceIte]
      · simp only [Fr.at_set, Nat.reduceEqDiff, reduceIte]
      · simp only [Fr.at_set, Nat.reduceEqDiff, reduceIte]; rfl
      · simp only [AH.get_set, AH.get_up]
        rw [if_neg (by omega), if_neg (by omega), if_neg (by omega), if_neg (by omega)]
        exact g0
      · simp only [AH.get_set, AH.get_up, if_true]
        rw [if_neg (by omega)]
        rfl
      · simp only [AH.get_set, AH.get_up, if_true]
        rfl
      · rw [List.take_zero, List.flatMap_nil, List.append_nil]
        refine RowP.keep hR (by simp only [AH.next_set, AH.next_up]; omega) (fun x hx => ?_) (fun id h1 h2 _ => ?_)
        · simp only [rootL, List.append_nil, List.mem_cons, List.not_mem_nil, or_false] at hx
          omega
        · simp only [AH.get_set, AH.get_up]
          rw [if_neg (by omega), if_neg (by omega), if_neg (by omega), if_neg (by omega)]
      · simp only [AH.next_set, AH.next_up]; omega
      · simp only [AH.next_set, AH.next_up]; omega
      generalize h.next + 1 + 2 = a
      generalize h.next + 1 + 3 = b
      generalize hpre : scalL.map scalD ++ s.es.map enmD = pre
      clear f1 f5 f36 f37 f38 g0 nx hR
      rintro k F h ⟨i, vl, vq, vm, ki, f1, f5, f10, f11, f55, f56, f57, g0, ga, gb, hab, hS⟩
      cases k with
      | zero =>
        have c3 : ¬ ((i : Int) < (s.os.length : Int)) := by omega
        have hi : i = s.os.length := by omega
        subst hi
        rw [List.take_length] at hS
        have kc1 : ∀ (h : AH) (fr : Nat), CR Tryz.prog (globM mx) md (.fn 69) [.str [73, 110, 116], .nls] h fr (.val (.agg (cmpD bInt []).pv)) := compared_c bInt (by decide) [] (by decide)
        have kc2 : ∀ (h : AH) (fr : Nat), CR Tryz.prog (globM mx) md (.fn 69) [.str [70, 108, 111, 97, 116], .nls] h fr (.val (.agg (cmpD bFloat []).pv)) := compared_c bFloat (by decide) [] (by decide)
        have kc3 : ∀ (h : AH) (fr : Nat), CR Tryz.prog (globM mx) md (.fn 69) [.str bString, rowN Inp.pv [⟨[98, 101, 103, 105, 110, 115], bString, []⟩]] h fr (.val (.agg (cmpD bString [⟨[98, 101, 103, 105, 110, 115], bString, []⟩]).pv)) := compared_c bString (by decide) [⟨[98, 101, 103, 105, 110, 115], bString, []⟩] (by decide)
        simp -implicitDefEqProofs only [wpC_seq, rowsA, if_true, if_false, opnd, ofVal, ofVal1, layArgs, Nat.reduceAdd, reduceIte, Nat.reduceEqDiff, reduceCtorEq, rowsB, cellsG, Nat.reduceMul, rowsS, List.drop_drop, f1, f5, f10, f11, f55, f56, f57, g0, c3, goO_known kc1, goO_known kc2, goO_known (gin_c _ _ _), bd52_1]
        refine goO_val (via_rdP (p := fun id => id = h.next + 1 + 4) (args' := [.str bString, rowN Inp.pv [⟨[98, 101, 103, 105, 110, 115], bString, []⟩]]) Tryz.func69 rfl rfl rfl rfl ⟨Rd.of_clean rfl, rdOwP (f := Inp.pv) (sz := 3) (d := 99) rfl (fun _ => rfl) Inp.cl (by simp only [AH.get_set, if_true]; rfl) rfl rfl (Nat.succ_pos _), trivial⟩ kc3) ?_
        intro v h5 hq
        generalize hG : wpO _ _ _ _ _ _ _ _ _ _ _ = G
        obtain ⟨rfl, n5, k5⟩ := hq
        have pa := hS.ha
        have pb := hS.hb
        have x3 : ∀ y, y < h.next → h5.get y = h.get y := fun y hy => by
          rw [k5 y (by omega)]
          simp only [AH.get_set, AH.get_up]
          rw [if_neg (by omega)]
        have n5' : h5.next = h.next + 13 := n5.trans (by simp only [AH.next_set, AH.next_up])
        subst hG
        clear k5 n5
        simp -implicitDefEqProofs only [wpC_seq, rowsA, if_true, if_false, opnd, ofVal, ofVal1, layArgs, Nat.reduceAdd, reduceIte, Nat.reduceEqDiff, reduceCtorEq, rowsB, cellsG, Nat.reduceMul, f5, goO_known (gin_c _ _ _), bd52_1, bl54i, bd47_4]
        have hos := ok.enough.2.1
        have hes := ok.enough.2.2.1
        have hl1 : (pre ++ s.os.flatMap (objD s)).length ≤ 1000 := by
          have h1 : (s.os.flatMap (objD s)).length ≤ 8 * 6 := flatMap_le (fun _ => Nat.le_refl 6) hos
          have h2 : pre.length ≤ 13 := by rw [← hpre, List.length_append, List.length_map, List.length_map]; show 5 + _ ≤ 13; omega
          rw [List.length_append]
          omega
        generalize hH : AH.set _ _ _ = H5
        have z1 : H5.get (h.next + 1 + 7) = some (.cells 56 3 false (flat Inp.pv [⟨[101, 113], bBoolean, []⟩])) := by
          rw [← hH]
          simp only [AH.get_set, if_true]
          rw [if_neg (by omega)]
          rfl
        have z6 : H5.get (h.next + 1 + 9) = some (.cells 54 5 false ((cmpD bInt []).pv ++ ((cmpD bFloat []).pv ++ ((cmpD bString [⟨[98, 101, 103, 105, 110, 115], bString, []⟩]).pv ++ [.str (bBoolean ++ bFilter), .int .i64 3, .nls, .nls, .ow (h.next + 1 + 7) 3 0 1])))) := by
          rw [← hH]
          simp only [AH.get_set, if_true]
          rfl
        have z3 : ∀ y, y < h.next → H5.get y = h.get y := fun y hy => by
          rw [← hH]
          simp only [AH.get_set]
          rw [if_neg (by omega), if_neg (by omega), x3 y hy]
        have z4 : H5.next = h.next + 13 := by rw [← hH]; simp only [AH.next_set, n5']
        clear hH x3
        have hSk := St.keep hS (h' := H5) (Nat.le_refl _) (fun id q1 q2 _ _ => z3 id (by omega))
        obtain ⟨R1, ob1, e1, t3, t4, t5, t6, -, hS1⟩ := StD.addL hSk (B' := h.next + 13) (fr := h.next + 1 + 10) (x := .ow (h.next + 1 + 9) 20 0 4) (l' := midD) (by omega) (by omega) (cellR_ow (n := 4) z6 rfl) (Nat.succ_pos _) ((RdL.of_clean (Dn.cl (cmpD bInt []))).append ((RdL.of_clean (Dn.cl (cmpD bFloat []))).append ((RdL.of_clean (Dn.cl (cmpD bString [⟨[98, 101, 103, 105, 110, 115], bString, []⟩]))).append ⟨Rd.of_clean rfl, Rd.of_clean rfl, Rd.of_clean rfl, Rd.of_clean rfl, rdOwP (f := Inp.pv) (sz := 3) (d := 1) ⟨by omega, by omega⟩ (fun _ => rfl) Inp.cl z1 rfl rfl (Nat.succ_pos _), trivial⟩))) (by show _ + 4 ≤ 1000000; omega)
        rw [e1, goO_w]
        have q0 : (H5.set R1 ob1).get 0 = some (.cells 25 0 false s.pv) := by simp only [AH.get_set]; rw [if_neg (by omega), z3 0 (by omega)]; exact g0
        have qa : (H5.set R1 ob1).get a = some (.cells 54 0 false [.str bQuery, .int .i64 2, .nls, vq, .nls]) := by simp only [AH.get_set]; rw [if_neg (by omega), z3 a (by omega)]; exact ga
        have qb : (H5.set R1 ob1).get b = some (.cells 54 0 false [.str bMutation, .int .i64 2, .nls, vm, .nls]) := by simp only [AH.get_set]; rw [if_neg (by omega), z3 b (by omega)]; exact gb
        have qn : (H5.set R1 ob1).next = h.next + 13 := by simp only [AH.next_set, z4]
        generalize H5.set R1 ob1 = H6 at hS1 q0 qa qb qn ⊢
        clear e1 z1 z3 z4 z6 hSk hS
        simp -implicitDefEqProofs only [wpC_seq, rowsA, if_true, if_false, opnd, ofVal, ofVal1, layArgs, Nat.reduceAdd, reduceIte, Nat.reduceEqDiff, reduceCtorEq, rowsB, cellsG, Nat.reduceMul, rowsS, List.drop_drop, f1, q0]
        generalize hmid : (pre ++ s.os.flatMap (objD s)) ++ midD = mid at hS1
        have hl2 : mid.length ≤ 1004 := by rw [← hmid, List.length_append]; show _ + 4 ≤ 1004; omega
        generalize hq : s.os.flatMap qryO = qs at hS1
        generalize hm' : s.os.flatMap mutO = ms at hS1
        refine wpC_loop (invT3 s a b vq vm mid qs ms) (k := s.es.length) ⟨0, .ow R1 (mid.length * 5) 0 mid.length, by omega, ?_, ?_, ?_, ?_, ?_, ?_, ?_, ?_, hab, ?_⟩ ?_
        · simp only [Fr.at_set, Nat.reduceEqDiff, reduceIte, hmid]
        · simp only [Fr.at_set, Nat.reduceEqDiff, reduceIte, f10]
        · simp only [Fr.at_set, Nat.reduceEqDiff, reduceIte, f11]
        · simp only [Fr.at_set, Nat.reduceEqDiff, reduceIte]
        · simp only [Fr.at_set, Nat.reduceEqDiff, reduceIte]
        · simp only [Fr.at_set, Nat.reduceEqDiff, reduceIte]; rfl
        · simp only [AH.get_up]; exact qa
        · simp only [AH.get_up]; exact qb
        · rw [List.take_zero, List.map_nil, List.append_nil]
          exact St.keep hS1 (by simp only [AH.next_up]; omega) (fun id _ _ _ _ => by simp only [AH.get_up])
        clear f1 f5 f10 f11 f55 f56 f57 g0 ga gb hS1 q0 qa qb qn n5' t3 t4 t5 t6 c3 ki pa pb
        rintro k F h ⟨i, vl, ki, f5, f10, f11, f134, f135, f136, ga, gb, hab, hS⟩
        have pa := hS.ha
        have pb := hS.hb
        cases k with
        | zero =>
          have c4 : ¬ ((i : Int) < (s.es.length : Int)) := by omega
          have ldD := fun (n : List UInt8) (k : Int) (v : PV) => load_agg (P := Tryz.prog) (c := [.str n, .int .i64 k, .nls, v, .nls]) ag54 sz54 (Nat.le_refl 5)
          simp -implicitDefEqProofs only [wpC_seq, rowsA, if_true, if_false, opnd, ofVal, ofVal1, layArgs, Nat.reduceAdd, reduceIte, Nat.reduceEqDiff, reduceCtorEq, rowsB, cellsG, Nat.reduceMul, f5, f10, f11, f134, f135, f136, ga, gb, ldD, c4, bd47_2]
          have hi : i = s.es.length := by omega
          subst hi
          rw [List.take_length] at hS
          generalize hH : AH.set _ _ _ = H5
          have z6 : H5.get (h.next + 1 + 3) = some (.cells 54 5 false [.str bQuery, .int .i64 2, .nls, vq, .nls, .str bMutation, .int .i64 2, .nls, vm, .nls]) := by
            rw [← hH]
            simp only [AH.get_set, if_true]
          have z3 : ∀ y, y < h.next → H5.get y = h.get y := fun y hy => by
            rw [← hH]
            simp only [AH.get_set, AH.get_up]
            rw [if_neg (by omega)]
          clear hH
          have hSk := St.keep hS (h' := H5) (Nat.le_refl _) (fun id q1 q2 _ _ => z3 id (by omega))
          have hl3 : (mid ++ s.es.map enfD).length ≤ 2000 := by rw [List.length_append, List.length_map]; omega
          have hL : RowP 2 [] 10 h.next H5 54 5 vl (flat Dn.pv (mid ++ s.es.map enfD)) (mid ++ s.es.map enfD).length := RowP.keep hSk.l (Nat.le_refl _) (fun x hx => by cases hx) (fun _ _ _ _ => rfl)
          have rl := RowP.root hL
          have up : ∀ {v u : PV} {Y : List Nat}, Rd (fun id => 10 ≤ id ∧ id < h.next ∧ id ∉ a :: b :: (rootL vl ++ Y)) H5 2 v u → Rd (fun id => 10 ≤ id ∧ id < h.next + 1 + 4 ∧ id ∉ ([] : List Nat) ∧ id ∉ rootL vl) H5 2 v u := fun q => Rd.imp (fun id ⟨b1, b2, b3⟩ => ⟨⟨b1, by omega, by simp, fun hm => b3 (by simp [hm])⟩, fun E sz fz c hc => ⟨fz, hc⟩⟩) _ _ _ q
          have uq := up hSk.q.rd
          have um := up hSk.m.rd
          have eq1 : (if qs.length = 0 then PV.nls else .ro (flat Ot.pv qs) qs.length) = rowN Ot.pv qs := rfl
          have eq2 : (if ms.length = 0 then PV.nls else .ro (flat Ot.pv ms) ms.length) = rowN Ot.pv ms := rfl
          rw [eq1] at uq
          rw [eq2] at um
          obtain ⟨R1, ob1, e1, -, hL1⟩ := RowP.more hL (P := Tryz.prog) (fr := h.next + 1 + 4) (B' := h.next + 8) (t := 47) (x := .ow (h.next + 1 + 3) 10 0 2) (k := 2) (ys := flat Dn.pv [qryD s, mutD s]) u47 i54 (by decide) (by omega) (by omega) (by omega) (by simp) (cellR_ow (n := 2) z6 rfl) rfl (by decide) (by
            subst hq
            subst hm'
            exact ⟨Rd.of_clean rfl, Rd.of_clean rfl, Rd.of_clean rfl, uq, Rd.of_clean rfl, Rd.of_clean rfl, Rd.of_clean rfl, Rd.of_clean rfl, um, Rd.of_clean rfl, trivial⟩) (by omega) (by omega)
          rw [e1, goO_w]
          generalize H5.set R1 ob1 = H6 at hL1 ⊢
          simp -implicitDefEqProofs only [wpC_seq, rowsA, if_true, if_false, opnd, ofVal, ofVal1, layArgs, Nat.reduceAdd, reduceIte, Nat.reduceEqDiff, reduceCtorEq, rowsB, cellsG, Nat.reduceMul]
          have et : typesD s = (mid ++ s.es.map enfD) ++ [qryD s, mutD s] := by rw [← hmid, ← hpre]; rfl
          have hfin : Rd (fun _ => True) H6 99 (.ow R1 (((mid ++ s.es.map enfD).length + 2) * 5) 0 ((mid ++ s.es.map enfD).length + 2)) (rowV Dn.pv (typesD s)) := by
            have := hL1.rd
            rw [if_neg (by omega), ← flat_app] at this
            have el : ((mid ++ s.es.map enfD) ++ [qryD s, mutD s]).length = (mid ++ s.es.map enfD).length + 2 := List.length_append
            rw [et, rowV, el]
            exact Rd.le (show 3 ≤ 99 by decide) (Rd.imp (fun _ _ => ⟨trivial, fun E sz fz c hc => ⟨fz, hc⟩⟩) _ _ _ this)
          refine Rd.done (.inr ⟨rfl, [rowV Dn.pv (typesD s), .int .i64 0], ⟨hfin, Rd.of_clean rfl, trivial⟩, rfl⟩)
        | succ k =>
          have c4 : (i : Int) < (s.es.length : Int) := by omega
          obtain ⟨e, he⟩ : ∃ e, s.es[i]? = some e := ⟨_, List.getElem?_eq_getElem (show i < s.es.length by omega)⟩
          have hem := List.mem_of_getElem? he
          have w3 := ok.elen hem
          obtain ⟨r, hr⟩ := ix23 (l := s.es) (i := (i : Int)) (by omega) (by rw [Int.toNat_natCast]; exact he)
          have w := IntWalk.i64_in ((i : Int) + 1) (by omega)
          have a1 := fun {h : AH} => bin_sadd (P := Tryz.prog) (h := h) (t := 9) (x := e.n) (y := [70, 105, 108, 116, 101, 114]) (by simp only [List.length_cons, List.length_nil]; omega)
          simp -implicitDefEqProofs only [wpC_seq, rowsA, if_true, if_false, opnd, ofVal, ofVal1, layArgs, Nat.reduceAdd, reduceIte, Nat.reduceEqDiff, reduceCtorEq, rowsB, cellsG, Nat.reduceMul, rowsS, List.drop_drop, f5, f10, f11, f134, f135, f136, c4, hr, al45, sz45, st45e, a1, goD_known (gin_c _ _ _), bd52_2, bl54i, bd47_1, goD_eq]
          generalize hH : AH.set _ _ _ = H5
          have z1 : H5.get (h.next + 1 + 4 + 10) = some (.cells 56 3 false (flat Inp.pv [⟨[101, 113], e.n, []⟩, ⟨[105, 110], e.n, listL⟩])) := by
            rw [← hH]
            simp only [AH.get_set, if_true]
            rw [if_neg (by omega)]
            rfl
          have z6 : H5.get (h.next + 1 + 4 + 12) = some (.cells 54 5 false [.str (e.n ++ bFilter), .int .i64 3, .nls, .nls, .ow (h.next + 1 + 4 + 10) 6 0 2]) := by
            rw [← hH]
            simp only [AH.get_set, if_true]
            rfl
          have z3 : ∀ y, y < h.next → H5.get y = h.get y := fun y hy => by
            rw [← hH]
            simp only [AH.get_set, AH.get_up]
            rw [if_neg (by omega), if_neg (by omega), if_neg (by omega), if_neg (by omega)]
          have z4 : H5.next = h.next + 20 := by rw [← hH]; simp only [AH.next_set, AH.next_up]
          clear hH
          have hSk := St.keep hS (h' := H5) (Nat.le_refl _) (fun id q1 q2 _ _ => z3 id (by omega))
          have hl3 : (mid ++ (s.es.take i).map enfD).length ≤ 2000 := by rw [List.length_append, List.length_map, List.length_take]; omega
          obtain ⟨R1, ob1, e1, t3, t4, t5, t6, -, hS1⟩ := StD.addL hSk (B' := h.next + 20) (fr := h.next + 1 + 4 + 13) (x := .ow (h.next + 1 + 4 + 12) 5 0 1) (l' := [enfD e]) (by omega) (by omega) (cellR1 z6 rfl) (Nat.succ_pos _) (by
            rw [flat1]
            exact ⟨Rd.of_clean rfl, Rd.of_clean rfl, Rd.of_clean rfl, Rd.of_clean rfl, rdOwP (f := Inp.pv) (sz := 3) (d := 1) ⟨by omega, by omega⟩ (fun _ => rfl) Inp.cl z1 rfl rfl (Nat.succ_pos _), trivial⟩) (by show _ + 1 ≤ 1000000; omega)
          rw [e1, goD_any (by kernel_rfl)]
          have qa : (H5.set R1 ob1).get a = some (.cells 54 0 false [.str bQuery, .int .i64 2, .nls, vq, .nls]) := by simp only [AH.get_set]; rw [if_neg (by omega), z3 a (by omega)]; exact ga
          have qb : (H5.set R1 ob1).get b = some (.cells 54 0 false [.str bMutation, .int .i64 2, .nls, vm, .nls]) := by simp only [AH.get_set]; rw [if_neg (by omega), z3 b (by omega)]; exact gb
          have qn : (H5.set R1 ob1).next = h.next + 20 := by simp only [AH.next_set, z4]
          generalize H5.set R1 ob1 = H6 at hS1 qa qb qn ⊢
          simp -implicitDefEqProofs only [wpC_seq, rowsA, if_true, if_false, opnd, ofVal, ofVal1, layArgs, Nat.reduceAdd, reduceIte, Nat.reduceEqDiff, reduceCtorEq, rowsB, cellsG, Nat.reduceMul, f136, w]
          have ex : mid ++ (s.es.take (i + 1)).map enfD = (mid ++ (s.es.take i).map enfD) ++ [enfD e] := by rw [takeM he, List.map_append, List.append_assoc]; rfl
          refine ⟨k, by omega, i + 1, .ow R1 (((mid ++ (s.es.take i).map enfD) ++ [enfD e]).length * 5) 0 ((mid ++ (s.es.take i).map enfD) ++ [enfD e]).length, by omega, ?_, ?_, ?_, ?_, ?_, ?_, ?_, ?_, hab, ?_⟩
          · simp only [Fr.at_set, Nat.reduceEqDiff, reduceIte]
          · simp only [Fr.at_set, Nat.reduceEqDiff, reduceIte, f10]
          · simp only [Fr.at_set, Nat.reduceEqDiff, reduceIte, f11]
          · simp only [Fr.at_set, Nat.reduceEqDiff, reduceIte, f134]
          · simp only [Fr.at_set, Nat.reduceEqDiff, reduceIte, f135]
          · simp only [Fr.at_set, Nat.reduceEqDiff, reduceIte]; rfl
          · simp only [AH.get_up]; exact qa
          · simp only [AH.get_up]; exact qb
          · rw [ex]
            exact St.keep hS1 (by simp only [AH.next_up]; omega) (fun id _ _ _ _ => by simp only [AH.get_up])
      | succ k =>
        have c3 : (i : Int) < (s.os.length : Int) := by omega
        obtain ⟨o, ho⟩ : ∃ o, s.os[i]? = some o := ⟨_, List.getElem?_eq_getElem (show i < s.os.length by omega)⟩
        have hom := List.mem_of_getElem? ho
        obtain ⟨w1, w2⟩ := ok.enough.2.2.2.1 o hom
        have w3 := ok.olen hom
        obtain ⟨r, hr⟩ := ix22 (l := s.os) (i := (i : Int)) (by omega) (by rw [Int.toNat_natCast]; exact ho)
        have w := IntWalk.i64_in ((i : Int) + 1) (by have := ok.enough.2.1; omega)
        have a1 := fun {h : AH} => bin_sadd (P := Tryz.prog) (h := h) (t := 9) (x := o.n) (y := [70, 105, 108, 116, 101, 114]) (by simp only [List.length_cons, List.length_nil]; omega)
        have a2 := fun (z : List UInt8) (hz : z.length ≤ 100) {h : AH} => bin_sadd (P := Tryz.prog) (h := h) (t := 9) (x := z) (y := o.n) (by omega)
        have kO := objG_c (mx := mx) hs o (by omega) w1 (by omega) (fun f hf => by have := ok.tlen hom hf; omega)
        simp -implicitDefEqProofs only [wpC_seq, rowsA, if_true, if_false, opnd, ofVal, ofVal1, layArgs, Nat.reduceAdd, reduceIte, Nat.reduceEqDiff, reduceCtorEq, rowsB, cellsG, Nat.reduceMul, rowsS, List.drop_drop, f1, f5, f10, f11, f55, f56, f57, g0, c3, hr, al41, sz41, st41o, a1, goD_known (gin_c _ _ _), al56, sz56, goD_eq]
        rw [st56 _ _ _ _ [.str [], .str [], .str []] rfl, goD_st (by omega) (by kernel_rfl)]
        generalize hH : AH.set _ _ _ = H0
        have x1 : H0.get (h.next + 1 + 2) = some (.cells 41 0 false o.pv) := by
          rw [← hH]
          simp only [AH.get_set, AH.get_up, if_true]
          rw [if_neg (by omega), if_neg (by omega)]
        have x2 : H0.get (h.next + 1 + 4 + 6) = some (.cells 56 0 false [.str [102, 105, 108, 116, 101, 114], .str (o.n ++ bFilter), .str [33]]) := by
          rw [← hH]
          simp only [AH.get_set, if_true]
          rfl
        have x3 : ∀ y, y < h.next → H0.get y = h.get y := fun y hy => by
          rw [← hH]
          simp only [AH.get_set, AH.get_up]
          rw [if_neg (by omega), if_neg (by omega), if_neg (by omega), if_neg (by omega)]
        have x4 : H0.next = h.next + 14 := by rw [← hH]; simp only [AH.next_set, AH.next_up]
        clear hH
        have pa := hS.ha
        have pb := hS.hb
        have g0' := (x3 0 (by omega)).trans g0
        simp -implicitDefEqProofs only [wpC_seq, rowsA, if_true, if_false, opnd, ofVal, ofVal1, layArgs, Nat.reduceAdd, reduceIte, Nat.reduceEqDiff, reduceCtorEq, rowsB, cellsG, Nat.reduceMul, rowsS, List.drop_drop, f1, f5, g0', x1, goO_known kO]
        have hS0 := St.keep hS (h' := H0.up 6) (Nat.le_refl _) (fun id q1 q2 _ _ => by simp only [AH.get_up]; exact x3 id q2)
        have hl1 : (pre ++ (s.os.take i).flatMap (objD s)).length ≤ 1000 := by
          have := ok.enough.2.1
          have := ok.enough.2.2.1
          have h1 : ((s.os.take i).flatMap (objD s)).length ≤ 8 * 6 := flatMap_le (fun _ => Nat.le_refl 6) (by rw [List.length_take]; omega)
          have h2 : pre.length ≤ 13 := by rw [← hpre, List.length_append, List.length_map, List.length_map]; show 5 + _ ≤ 13; omega
          rw [List.length_append]
          omega
        obtain ⟨R1, ob1, e1, e2, e3, e4, e5, -, hS1⟩ := StD.addL hS0 (B' := h.next + 20) (fr := H0.next + 4) (x := rowV Dn.pv (objD s o)) (l' := objD s o) (by omega) (by omega) (cells_rowV (f := Dn.pv) (fun _ => rfl) _ _) (Nat.succ_pos _) (RdL.of_clean (flat_clean Dn.cl _)) (by show _ + 6 ≤ 1000000; omega)
        rw [e1, goO_w]
        have y0 : ((H0.up 6).set R1 ob1).get 0 = some (.cells 25 0 false s.pv) := by simp only [AH.get_set, AH.get_up]; rw [if_neg (by omega)]; exact g0'
        have ya : ((H0.up 6).set R1 ob1).get a = some (.cells 54 0 false [.str bQuery, .int .i64 2, .nls, vq, .nls]) := by simp only [AH.get_set, AH.get_up]; rw [if_neg (by omega)]; exact (x3 a (by omega)).trans ga
        have yb : ((H0.up 6).set R1 ob1).get b = some (.cells 54 0 false [.str bMutation, .int .i64 2, .nls, vm, .nls]) := by simp only [AH.get_set, AH.get_up]; rw [if_neg (by omega)]; exact (x3 b (by omega)).trans gb
        have y2 : ((H0.up 6).set R1 ob1).get (h.next + 1 + 4 + 6) = some (.cells 56 0 false [.str [102, 105, 108, 116, 101, 114], .str (o.n ++ bFilter), .str [33]]) := by simp only [AH.get_set, AH.get_up]; rw [if_neg (by omega)]; exact x2
        have yn : ((H0.up 6).set R1 ob1).next = h.next + 20 := by simp only [AH.next_set, AH.next_up, x4]
        generalize (H0.up 6).set R1 ob1 = H1 at hS1 y0 ya yb y2 yn ⊢
        have rq := RowP.root hS.q
        have rm := RowP.root hS.m
        clear e1 x1 x2 x3 x4 hS0 g0' hS
        have b1 := @a2 [103, 101, 116] (by decide)
        have b2 := @a2 [113, 117, 101, 114, 121] (by decide)
        have kA := args_c (mx := mx) o.n (by omega)
        simp -implicitDefEqProofs only [wpC_seq, rowsA, if_true, if_false, opnd, ofVal, ofVal1, layArgs, Nat.reduceAdd, reduceIte, Nat.reduceEqDiff, reduceCtorEq, rowsB, cellsG, Nat.reduceMul, rowsS, List.drop_drop, f10, f11, ya, fda_ptr o54_3, loadO_one ag51 sz51, b1, b2, goD_known (genRef_c _ _), goD_known (gin_c _ _ _), goD_known kA, bd52_1, bl58w, bl58v, bd51_2, goD_eq]
        clear b1 b2
        generalize hH : AH.set _ _ _ = H2
        have z1 : H2.get (H1.next + 7) = some (.cells 56 3 false (flat Inp.pv [⟨bid, bID, [33]⟩])) := by
          rw [← hH]
          simp only [AH.get_set, if_true]
          rw [if_neg (by omega)]
          rfl
        have z2 : H2.get (H1.next + 16) = some (.cells 58 4 false [.str (103 :: 101 :: 116 :: o.n), .str o.n, .str [], .ow (H1.next + 7) 3 0 1, .str (113 :: 117 :: 101 :: 114 :: 121 :: o.n), .str o.n, .str [33, 91, 33], rowV Inp.pv (argsL o.n)]) := by
          rw [← hH]
          simp only [AH.get_set, if_true]
        have z3 : ∀ y, y < H1.next → H2.get y = H1.get y := fun y hy => by
          rw [← hH]
          simp only [AH.get_set, AH.get_up]
          rw [if_neg (by omega), if_neg (by omega)]
        have z4 : H2.next = H1.next + 20 := by rw [← hH]; simp only [AH.next_set, AH.next_up]
        clear hH
        have hos := ok.enough.2.1
        have hl2 : ((s.os.take i).flatMap qryO).length ≤ 8 * 2 := flatMap_le (fun _ => Nat.le_refl 2) (by rw [List.length_take]; omega)
        have hl3 : ((s.os.take i).flatMap mutO).length ≤ 8 * 3 := flatMap_le (fun _ => Nat.le_refl 3) (by rw [List.length_take]; omega)
        have hS1k := St.keep hS1 (h' := H2) (Nat.le_refl _) (fun id q1 q2 _ _ => z3 id (by omega))
        obtain ⟨R2, ob2, e1, r2, r3, r4, r5, r6, hS2⟩ := StD.addQ hS1k (B' := H1.next + 20) (fr := H1.next + 17) (x := .ow (H1.next + 16) 8 0 2) (q' := qryO o) (by omega) (by omega) (cellR_ow (n := 2) z2 rfl) (Nat.succ_pos _) ⟨Rd.of_clean rfl, Rd.of_clean rfl, Rd.of_clean rfl, rdOwP (f := Inp.pv) (sz := 3) (d := 0) ⟨by omega, by omega⟩ (fun _ => rfl) Inp.cl z1 rfl rfl (Nat.succ_pos _), Rd.of_clean rfl, Rd.of_clean rfl, Rd.of_clean rfl, Rd.of_clean rfl, trivial⟩ (by show _ + 2 ≤ 1000000; omega)
        have r7 : R2 = H1.next + 17 ∨ R2 < h.next := by
          rcases r6 with q | q
          · exact .inl q
          · exact .inr (rq _ q).2.1
        rw [e1, goD_any (by kernel_rfl)]
        have y0' : (H2.set R2 ob2).get 0 = some (.cells 25 0 false s.pv) := by simp only [AH.get_set]; rw [if_neg (by omega), z3 0 (by omega)]; exact y0
        have ya' : (H2.set R2 ob2).get a = some (.cells 54 0 false [.str bQuery, .int .i64 2, .nls, vq, .nls]) := by simp only [AH.get_set]; rw [if_neg (by omega), z3 a (by omega)]; exact ya
        have yb' : (H2.set R2 ob2).get b = some (.cells 54 0 false [.str bMutation, .int .i64 2, .nls, vm, .nls]) := by simp only [AH.get_set]; rw [if_neg (by omega), z3 b (by omega)]; exact yb
        have y2' : (H2.set R2 ob2).get (h.next + 1 + 4 + 6) = some (.cells 56 0 false [.str [102, 105, 108, 116, 101, 114], .str (o.n ++ bFilter), .str [33]]) := by simp only [AH.get_set]; rw [if_neg (by omega), z3 _ (by omega)]; exact y2
        have yn' : (H2.set R2 ob2).next = h.next + 40 := by simp only [AH.next_set, z4, yn]
        generalize H2.set R2 ob2 = H3 at hS2 y0' ya' yb' y2' yn' ⊢
        clear e1 z1 z2 z3 z4 hS1 hS1k ya yb y2 y0
        simp -implicitDefEqProofs only [wpC_seq, rowsA, if_true, if_false, opnd, ofVal, ofVal1, layArgs, Nat.reduceAdd, reduceIte, Nat.reduceEqDiff, reduceCtorEq, rowsB, cellsG, Nat.reduceMul, rowsS, List.drop_drop, f10, ya', fda_ptr o54_3, sz51, st54q]
        rw [goD_st (by omega) (by kernel_rfl)]
        have v0 : (H3.set a (.cells 54 0 false [.str bQuery, .int .i64 2, .nls, .ow R2 (((s.os.take i).flatMap qryO ++ qryO o).length * 4) 0 ((s.os.take i).flatMap qryO ++ qryO o).length, .nls])).get 0 = some (.cells 25 0 false s.pv) := by simp only [AH.get_set]; rw [if_neg (by omega)]; exact y0'
        have va : (H3.set a (.cells 54 0 false [.str bQuery, .int .i64 2, .nls, .ow R2 (((s.os.take i).flatMap qryO ++ qryO o).length * 4) 0 ((s.os.take i).flatMap qryO ++ qryO o).length, .nls])).get a = some (.cells 54 0 false [.str bQuery, .int .i64 2, .nls, .ow R2 (((s.os.take i).flatMap qryO ++ qryO o).length * 4) 0 ((s.os.take i).flatMap qryO ++ qryO o).length, .nls]) := by simp only [AH.get_set, if_true]
        have vb : (H3.set a (.cells 54 0 false [.str bQuery, .int .i64 2, .nls, .ow R2 (((s.os.take i).flatMap qryO ++ qryO o).length * 4) 0 ((s.os.take i).flatMap qryO ++ qryO o).length, .nls])).get b = some (.cells 54 0 false [.str bMutation, .int .i64 2, .nls, vm, .nls]) := by simp only [AH.get_set]; rw [if_neg (by omega)]; exact yb'
        have v2 : (H3.set a (.cells 54 0 false [.str bQuery, .int .i64 2, .nls, .ow R2 (((s.os.take i).flatMap qryO ++ qryO o).length * 4) 0 ((s.os.take i).flatMap qryO ++ qryO o).length, .nls])).get (h.next + 1 + 4 + 6) = some (.cells 56 0 false [.str [102, 105, 108, 116, 101, 114], .str (o.n ++ bFilter), .str [33]]) := by simp only [AH.get_set]; rw [if_neg (by omega)]; exact y2'
        have vn : (H3.set a (.cells 54 0 false [.str bQuery, .int .i64 2, .nls, .ow R2 (((s.os.take i).flatMap qryO ++ qryO o).length * 4) 0 ((s.os.take i).flatMap qryO ++ qryO o).length, .nls])).next = h.next + 40 := by simp only [AH.next_set]; exact yn'
        have hS3 := St.keep hS2 (h' := H3.set a (.cells 54 0 false [.str bQuery, .int .i64 2, .nls, .ow R2 (((s.os.take i).flatMap qryO ++ qryO o).length * 4) 0 ((s.os.take i).flatMap qryO ++ qryO o).length, .nls])) (Nat.le_refl _) (fun id q1 q2 q3 q4 => by simp only [AH.get_set, q3, if_false])
        generalize H3.set a (.cells 54 0 false [.str bQuery, .int .i64 2, .nls, .ow R2 (((s.os.take i).flatMap qryO ++ qryO o).length * 4) 0 ((s.os.take i).flatMap qryO ++ qryO o).length, .nls]) = H4 at v0 va vb v2 vn hS3 ⊢
        clear y0' ya' yb' y2' yn' hS2
        have b1 := @a2 [97, 100, 100] (by decide)
        have b2 := @a2 [117, 112, 100, 97, 116, 101] (by decide)
        have b3 := @a2 [100, 101, 108, 101, 116, 101] (by decide)
        have b4 := @a2 [65, 100, 100] (by decide)
        have b5 := @a2 [80, 97, 116, 99, 104] (by decide)
        have l56 := load_agg (P := Tryz.prog) (c := [.str [102, 105, 108, 116, 101, 114], .str (o.n ++ bFilter), .str [33]]) ag56 sz56 (Nat.le_refl 3)
        have na : ¬ (h.next + 2 = H4.next) := by omega
        have nb : ¬ (h.next = H4.next + 8) := by omega
        have nc : ¬ (h.next = H4.next + 14) := by omega
        simp -implicitDefEqProofs only [wpC_seq, rowsA, if_true, if_false, opnd, ofVal, ofVal1, layArgs, Nat.reduceAdd, reduceIte, Nat.reduceEqDiff, reduceCtorEq, rowsB, cellsG, Nat.reduceMul, rowsS, List.drop_drop, f11, vb, v2, na, nb, nc, fda_ptr o54_3, loadO_one ag51 sz51, b1, b2, b3, b4, b5, l56, goD_known (genRef_c _ _), goD_known (gin_c _ _ _), bd52_1, bd52_2, bl58w, bd51_3, goD_eq]
        clear b1 b2 b3 b4 b5 na nb nc
        generalize hH : AH.set _ _ _ = H5
        have z1 : H5.get (H4.next + 9) = some (.cells 56 3 false (flat Inp.pv [⟨[105, 110, 112, 117, 116], bAdd ++ o.n, manyL⟩])) := by
          rw [← hH]
          simp only [AH.get_set, if_true]
          rw [if_neg (by omega), if_neg (by omega), if_neg (by omega)]
          rfl
        have z2 : H5.get (H4.next + 19) = some (.cells 56 3 false (flat Inp.pv [⟨[102, 105, 108, 116, 101, 114], o.n ++ bFilter, [33]⟩, ⟨[115, 101, 116], bPatch ++ o.n, [33]⟩])) := by
          rw [← hH]
          simp only [AH.get_set, if_true]
          rw [if_neg (by omega), if_neg (by omega)]
          rfl
        have z5 : H5.get (H4.next + 25) = some (.cells 56 3 false (flat Inp.pv [⟨[102, 105, 108, 116, 101, 114], o.n ++ bFilter, [33]⟩])) := by
          rw [← hH]
          simp only [AH.get_set, if_true]
          rw [if_neg (by omega)]
          rfl
        have z6 : H5.get (H4.next + 27) = some (.cells 58 4 false [.str (97 :: 100 :: 100 :: o.n), .str o.n, .str [33, 91, 33], .ow (H4.next + 9) 3 0 1, .str (117 :: 112 :: 100 :: 97 :: 116 :: 101 :: o.n), .str o.n, .str [33, 91, 33], .ow (H4.next + 19) 6 0 2, .str (100 :: 101 :: 108 :: 101 :: 116 :: 101 :: o.n), .str [73, 110, 116], .str [33], .ow (H4.next + 25) 3 0 1]) := by
          rw [← hH]
          simp only [AH.get_set, if_true]
        have z3 : ∀ y, y < H4.next → H5.get y = H4.get y := fun y hy => by
          rw [← hH]
          simp only [AH.get_set, AH.get_up]
          rw [if_neg (by omega), if_neg (by omega), if_neg (by omega), if_neg (by omega)]
        have z4 : H5.next = H4.next + 31 := by rw [← hH]; simp only [AH.next_set, AH.next_up]
        clear hH
        have hS3k := St.keep hS3 (h' := H5) (Nat.le_refl _) (fun id q1 q2 _ _ => z3 id (by omega))
        obtain ⟨R3, ob3, e1, t3, t4, t5, t6, t7, hS4⟩ := StD.addM hS3k (B' := H4.next + 31) (fr := H4.next + 28) (x := .ow (H4.next + 27) 12 0 3) (m' := mutO o) (by omega) (by omega) (cellR_ow (n := 3) z6 rfl) (Nat.succ_pos _) ⟨Rd.of_clean rfl, Rd.of_clean rfl, Rd.of_clean rfl, rdOwP (f := Inp.pv) (sz := 3) (d := 0) ⟨by omega, by omega⟩ (fun _ => rfl) Inp.cl z1 rfl rfl (Nat.succ_pos _), Rd.of_clean rfl, Rd.of_clean rfl, Rd.of_clean rfl, rdOwP (f := Inp.pv) (sz := 3) (d := 0) ⟨by omega, by omega⟩ (fun _ => rfl) Inp.cl z2 rfl rfl (Nat.succ_pos _), Rd.of_clean rfl, Rd.of_clean rfl, Rd.of_clean rfl, rdOwP (f := Inp.pv) (sz := 3) (d := 0) ⟨by omega, by omega⟩ (fun _ => rfl) Inp.cl z5 rfl rfl (Nat.succ_pos _), trivial⟩ (by show _ + 3 ≤ 1000000; omega)
        rw [e1, goD_any (by kernel_rfl)]
        have q0 : (H5.set R3 ob3).get 0 = some (.cells 25 0 false s.pv) := by simp only [AH.get_set]; rw [if_neg (by omega), z3 0 (by omega)]; exact v0
        have qa := (show (H5.set R3 ob3).get a = H4.get a by simp only [AH.get_set]; rw [if_neg (by omega), z3 a (by omega)]).trans va
        have qb : (H5.set R3 ob3).get b = some (.cells 54 0 false [.str bMutation, .int .i64 2, .nls, vm, .nls]) := by simp only [AH.get_set]; rw [if_neg (by omega), z3 b (by omega)]; exact vb
        have qn : (H5.set R3 ob3).next = H4.next + 31 := by simp only [AH.next_set, z4]
        generalize H5.set R3 ob3 = H6 at hS4 q0 qa qb qn ⊢
        clear e1 z1 z2 z3 z4 z5 z6 hS3 hS3k va vb v2 v0
        simp -implicitDefEqProofs only [wpC_seq, rowsA, if_true, if_false, opnd, ofVal, ofVal1, layArgs, Nat.reduceAdd, reduceIte, Nat.reduceEqDiff, reduceCtorEq, rowsB, cellsG, Nat.reduceMul, rowsS, List.drop_drop, f11, qb, fda_ptr o54_3, sz51, st54q]
        rw [goD_st (by omega) (by kernel_rfl)]
        simp -implicitDefEqProofs only [wpC_seq, rowsA, if_true, if_false, opnd, ofVal, ofVal1, layArgs, Nat.reduceAdd, reduceIte, Nat.reduceEqDiff, reduceCtorEq, rowsB, cellsG, Nat.reduceMul, f57, w]
        have ex1 : pre ++ (s.os.take (i + 1)).flatMap (objD s) = (pre ++ (s.os.take i).flatMap (objD s)) ++ objD s o := by rw [takeM ho, List.flatMap_append, List.append_assoc]; simp
        have ex2 : (s.os.take (i + 1)).flatMap qryO = (s.os.take i).flatMap qryO ++ qryO o := by rw [takeM ho, List.flatMap_append]; simp
        have ex3 : (s.os.take (i + 1)).flatMap mutO = (s.os.take i).flatMap mutO ++ mutO o := by rw [takeM ho, List.flatMap_append]; simp
        refine ⟨k, by omega, i + 1, .ow R1 (((pre ++ (s.os.take i).flatMap (objD s)) ++ objD s o).length * 5) 0 ((pre ++ (s.os.take i).flatMap (objD s)) ++ objD s o).length, .ow R2 (((s.os.take i).flatMap qryO ++ qryO o).length * 4) 0 ((s.os.take i).flatMap qryO ++ qryO o).length, .ow R3 (((s.os.take i).flatMap mutO ++ mutO o).length * 4) 0 ((s.os.take i).flatMap mutO ++ mutO o).length, by omega, ?_, ?_, ?_, ?_, ?_, ?_, ?_, ?_, ?_, ?_, hab, ?_⟩
        · simp only [Fr.at_set, Nat.reduceEqDiff, reduceIte, f1]
        · simp only [Fr.at_set, Nat.reduceEqDiff, reduceIte]
        · simp only [Fr.at_set, Nat.reduceEqDiff, reduceIte, f10]
        · simp only [Fr.at_set, Nat.reduceEqDiff, reduceIte, f11]
        · simp only [Fr.at_set, Nat.reduceEqDiff, reduceIte, f55]
        · simp only [Fr.at_set, Nat.reduceEqDiff, reduceIte, f56]
        · simp only [Fr.at_set, Nat.reduceEqDiff, reduceIte]; rfl
        · simp only [AH.get_set, AH.get_up]; rw [if_neg (by omega)]; exact q0
        · simp only [AH.get_set, AH.get_up]; rw [if_neg (by omega)]; exact qa
        · simp only [AH.get_set, AH.get_up, if_true]
        · rw [ex1, ex2, ex3]
          exact St.keep hS4 (by simp only [AH.next_set, AH.next_up]; omega) (fun id q1 q2 q3 q4 => by simp only [AH.get_set, AH.get_up, q4, if_false])
    | succ k =>
      have c2 : (i : Int) < (s.es.length : Int) := by omega
      obtain ⟨e, he⟩ : ∃ e, s.es[i]? = some e := ⟨_, List.getElem?_eq_getElem (show i < s.es.length by omega)⟩
      have hem := List.mem_of_getElem? he
      obtain ⟨w1, w2⟩ := ok.enough.2.2.2.2 e hem
      obtain ⟨r, hr⟩ := ix23 (l := s.es) (i := (i : Int)) (by omega) (by rw [Int.toNat_natCast]; exact he)
      have w := IntWalk.i64_in ((i : Int) + 1) (by have := ok.enough.2.2.1; omega)
      simp -implicitDefEqProofs only [wpC_seq, rowsA, if_true, if_false, opnd, ofVal, ofVal1, layArgs, Nat.reduceAdd, reduceIte, Nat.reduceEqDiff, reduceCtorEq, rowsB, cellsG, Nat.reduceMul, rowsS, List.drop_drop, f1, f5, f36, f37, f38, g0, c2, hr, al45, sz45, st45e, goD_own (v := fun fr => .ow fr (e.ws.length * 1) 0 e.ws.length) (clone_c (mx := mx) e.ws w1 (by omega)), bl54w, bd47_1, goD_eq, w]
      have hh : ∀ y, y < h.next → (((((((h.up 1).up 4).set (h.next + 1 + 2) (.cells 45 0 false [.str [], .nls])).set (h.next + 1 + 2) (.cells 45 0 false e.pv)).up 10).set (h.next + 1 + 4 + 5) (.cells 9 1 false (List.map PV.str e.ws))).set (h.next + 1 + 4 + 7) (.cells 54 5 false [.str e.n, .int .i64 1, .ow (h.next + 1 + 4 + 5) (e.ws.length * 1) 0 e.ws.length, .nls, .nls])).get y = h.get y := fun y hy => by
        simp only [AH.get_set, AH.get_up]
        rw [if_neg (by omega), if_neg (by omega), if_neg (by omega), if_neg (by omega)]
      have hg1 : (((((((h.up 1).up 4).set (h.next + 1 + 2) (.cells 45 0 false [.str [], .nls])).set (h.next + 1 + 2) (.cells 45 0 false e.pv)).up 10).set (h.next + 1 + 4 + 5) (.cells 9 1 false (List.map PV.str e.ws))).set (h.next + 1 + 4 + 7) (.cells 54 5 false [.str e.n, .int .i64 1, .ow (h.next + 1 + 4 + 5) (e.ws.length * 1) 0 e.ws.length, .nls, .nls])).get (h.next + 1 + 4 + 5) = some (.cells 9 1 false (flat strV e.ws)) := by
        simp only [AH.get_set, if_true]
        rw [if_neg (by omega), strs_flat]
      have hg2 : (((((((h.up 1).up 4).set (h.next + 1 + 2) (.cells 45 0 false [.str [], .nls])).set (h.next + 1 + 2) (.cells 45 0 false e.pv)).up 10).set (h.next + 1 + 4 + 5) (.cells 9 1 false (List.map PV.str e.ws))).set (h.next + 1 + 4 + 7) (.cells 54 5 false [.str e.n, .int .i64 1, .ow (h.next + 1 + 4 + 5) (e.ws.length * 1) 0 e.ws.length, .nls, .nls])).get (h.next + 1 + 4 + 7) = some (.cells 54 5 false [.str e.n, .int .i64 1, .ow (h.next + 1 + 4 + 5) (e.ws.length * 1) 0 e.ws.length, .nls, .nls]) := by
        simp only [AH.get_set, if_true]
      have hn1 : (((((((h.up 1).up 4).set (h.next + 1 + 2) (.cells 45 0 false [.str [], .nls])).set (h.next + 1 + 2) (.cells 45 0 false e.pv)).up 10).set (h.next + 1 + 4 + 5) (.cells 9 1 false (List.map PV.str e.ws))).set (h.next + 1 + 4 + 7) (.cells 54 5 false [.str e.n, .int .i64 1, .ow (h.next + 1 + 4 + 5) (e.ws.length * 1) 0 e.ws.length, .nls, .nls])).next = h.next + 15 := by simp only [AH.next_set, AH.next_up]
      generalize (((((((h.up 1).up 4).set (h.next + 1 + 2) (.cells 45 0 false [.str [], .nls])).set (h.next + 1 + 2) (.cells 45 0 false e.pv)).up 10).set (h.next + 1 + 4 + 5) (.cells 9 1 false (List.map PV.str e.ws))).set (h.next + 1 + 4 + 7) (.cells 54 5 false [.str e.n, .int .i64 1, .ow (h.next + 1 + 4 + 5) (e.ws.length * 1) 0 e.ws.length, .nls, .nls])) = H0 at hh hg1 hg2 hn1 ⊢
      have hil : (scalL.map scalD ++ (s.es.take i).map enmD).length ≤ 100 := by
        rw [List.length_append, List.length_map, List.length_map, List.length_take]
        have := ok.enough.2.2.1
        show 5 + _ ≤ 100
        omega
      obtain ⟨R, ob, e1, e2, e3, e4⟩ := (hR.keep (h' := H0) (Nat.le_refl _) (fun id h1 h2 => hh id h2)).add (B' := h.next + 15) (fr := h.next + 1 + 4 + 8) (x := .ow (h.next + 1 + 4 + 7) 5 0 1) (m := [enmD e]) (by omega) (by omega) (by omega) (cellR1 hg2 rfl) (Nat.succ_pos _) (by
        rw [flat1]
        exact ⟨Rd.of_clean rfl, Rd.of_clean rfl, rdOwP (f := strV) (sz := 1) (d := 1) ⟨by omega, by omega⟩ (fun _ => rfl) (fun _ => rfl) hg1 rfl rfl w1, Rd.of_clean rfl, Rd.of_clean rfl, trivial⟩) (by show _ + 1 ≤ 1000000; omega)
      rw [e1, goD_any (by kernel_rfl)]
      have hk : ∀ y, y < 10 → (H0.set R ob).get y = h.get y := fun y hy => by simp only [AH.get_set]; rw [if_neg (by omega), hh y (by omega)]
      have hnx : (H0.set R ob).next = h.next + 15 := by simp only [AH.next_set, hn1]
      generalize H0.set R ob = H at e4 hk hnx ⊢
      simp -implicitDefEqProofs only [wpC_seq, rowsA, if_true, if_false, opnd, ofVal, ofVal1, layArgs, Nat.reduceAdd, reduceIte, Nat.reduceEqDiff, reduceCtorEq, rowsB, cellsG, Nat.reduceMul, f38, w]
      have ex : scalL.map scalD ++ (s.es.take (i + 1)).map enmD = (scalL.map scalD ++ (s.es.take i).map enmD) ++ [enmD e] := by rw [takeM he, List.map_append, List.append_assoc]; rfl
      refine ⟨k, by omega, i + 1, .ow R (((scalL.map scalD ++ (s.es.take i).map enmD) ++ [enmD e]).length * 5) 0 ((scalL.map scalD ++ (s.es.take i).map enmD) ++ [enmD e]).length, by omega, ?_, ?_, ?_, ?_, ?_, ?_, ?_, ?_⟩
      · simp only [Fr.at_set, Nat.reduceEqDiff, reduceIte, f1]
      · simp only [Fr.at_set, Nat.reduceEqDiff, reduceIte]
      · simp only [Fr.at_set, Nat.reduceEqDiff, reduceIte, f36]
      · simp only [Fr.at_set, Nat.reduceEqDiff, reduceIte, f37]
      · simp only [Fr.at_set, Nat.reduceEqDiff, reduceIte]; rfl
      · simp only [AH.get_up]; exact (hk 0 (by decide)).trans g0
      · simp only [AH.next_up]; omega
      · rw [ex]
        exact e4.keep (by simp only [AH.next_up]; omega) fun id _ _ => by simp only [AH.get_up]
  | succ k =>
    have c1 : (i : Int) < 5 := by omega
    obtain ⟨x, hx⟩ : ∃ x, scalL[i]? = some x := ⟨_, List.getElem?_eq_getElem (show i < scalL.length by show i < 5; omega)⟩
    obtain ⟨r, hr⟩ := flat_drop (f := strV) (z := 1) (fun _ => rfl) scalL i x hx
    rw [Nat.mul_one] at hr
    have w := IntWalk.i64_in ((i : Int) + 1) (by omega)
    have hlen : (flat strV scalL).length = 5 := rfl
    have hld : loadO Tryz.prog 9 (some (strV x ++ r)) = some (.q (.str x)) := loadO_one ag9 sz9
    simp -implicitDefEqProofs only [wpC_seq, rowsA, if_true, if_false, opnd, ofVal, ofVal1, layArgs, Nat.reduceAdd, reduceIte, Nat.reduceEqDiff, reduceCtorEq, rowsB, cellsG, Nat.reduceMul, rowsS, List.drop_drop, f1, f5, f23, f24, f25, g0, g9, c1, ida_ow (n := 5) (i := (i : Int)) u43 sz9 (by omega) (by omega), Int.toNat_natCast, hr, hlen, hld, bl54s, bd47_d, w]
    have hRk := hR.keep (h' := (((h.up 1).up 3).up 6).set (h.next + 1 + 3 + 3) (.cells 54 5 false (scalD x).pv)) (Nat.le_refl _) (fun id h1 h2 => by simp only [AH.get_set, AH.get_up]; rw [if_neg (by omega)])
    have hil : ((scalL.take i).map scalD).length ≤ 5 := by rw [List.length_map, List.length_take]; exact Nat.min_le_right _ _
    obtain ⟨R, ob, e1, e2, e3, e4⟩ := hRk.add (B' := h.next + 10) (fr := h.next + 1 + 3 + 4) (x := .ow (h.next + 1 + 3 + 3) 5 0 1) (m := [scalD x]) (xs := (scalD x).pv) (by omega) (by omega) (by omega) (cellR1 (by simp only [AH.get_set, if_true]; rfl) rfl) (Nat.succ_pos _) (by rw [flat1]; exact RdL.of_clean rfl) (by show _ + 1 ≤ 1000000; omega)
    rw [e1, goO_w]
    have hk : ∀ y, y < 10 → (((((h.up 1).up 3).up 6).set (h.next + 1 + 3 + 3) (.cells 54 5 false (scalD x).pv)).set R ob).get y = h.get y := fun y hy => by simp only [AH.get_set, AH.get_up]; rw [if_neg (by omega), if_neg (by omega)]
    have hnx : (((((h.up 1).up 3).up 6).set (h.next + 1 + 3 + 3) (.cells 54 5 false (scalD x).pv)).set R ob).next = h.next + 10 := by simp only [AH.next_set, AH.next_up]
    generalize ((((h.up 1).up 3).up 6).set (h.next + 1 + 3 + 3) (.cells 54 5 false (scalD x).pv)).set R ob = H at e4 hk hnx ⊢
    simp -implicitDefEqProofs only [wpC_seq, rowsA, if_true, if_false, opnd, ofVal, ofVal1, layArgs, Nat.reduceAdd, reduceIte, Nat.reduceEqDiff, reduceCtorEq, rowsB, cellsG, Nat.reduceMul, f25, w]
    have ex : (scalL.take (i + 1)).map scalD = (scalL.take i).map scalD ++ [scalD x] := by rw [takeM hx, List.map_append]; rfl
    refine ⟨k, by omega, i + 1, .ow R (((scalL.take i).map scalD ++ [scalD x]).length * 5) 0 ((scalL.take i).map scalD ++ [scalD x]).length, by omega, ?_, ?_, ?_, ?_, ?_, ?_, ?_, ?_, ?_⟩
    · simp only [Fr.at_set, Nat.reduceEqDiff, reduceIte, f1]
    · simp only [Fr.at_set, Nat.reduceEqDiff, reduceIte]
    · simp only [Fr.at_set, Nat.reduceEqDiff, reduceIte, f23]
    · simp only [Fr.at_set, Nat.reduceEqDiff, reduceIte, f24]
    · simp only [Fr.at_set, Nat.reduceEqDiff, reduceIte]; rfl
    · simp only [AH.get_up]; exact (hk 0 (by decide)).trans g0
    · simp only [AH.get_up]; exact (hk 9 (by decide)).trans g9
    · simp only [AH.next_up]; omega
    · rw [ex]
      exact e4.keep (by simp only [AH.next_up]; omega) fun id _ _ => by simp only [AH.get_up]
end Go.Proofs.YtcbngkmmmfaaoaaGreatDoor
namespace Go.Proofs.YtcbngkmmmfaaoaaGreatDoor
open Go.RowKit Go.Lib Go.Ac
variable {mx : Int}
structure Good (x : List UInt8) : Prop where
  add : ∀ y, x ≠ bAdd ++ y
  patch : ∀ y, x ≠ bPatch ++ y
  filter : ∀ y, x ≠ y ++ bFilter
  order : ∀ y, x ≠ y ++ bOrder
  orderable : ∀ y, x ≠ y ++ bOrderable
theorem hasP_app (p y : List UInt8) : hasP (p ++ y) p = true := by simp [hasP]
theorem endsB_app (p y : List UInt8) : endsB (y ++ p) p = true := by simp [endsB]
theorem good_of {x : List UInt8} (h1 : frontL.all (fun p => !(hasP x p)) = true) (h2 : tailL.all (fun p => !(endsB x p)) = true) : Good x := by
  simp only [List.all_eq_true, Bool.not_eq_true'] at h1 h2
  refine ⟨fun y e => ?_, fun y e => ?_, fun y e => ?_, fun y e => ?_, fun y e => ?_⟩
  · have := h1 bAdd (by decide)
    rw [e, hasP_app] at this
    cases this
  · have := h1 bPatch (by decide)
    rw [e, hasP_app] at this
    cases this
  · have := h2 bFilter (by decide)
    rw [e, endsB_app] at this
    cases this
  · have := h2 bOrder (by decide)
    rw [e, endsB_app] at this
    cases this
  · have := h2 bOrderable (by decide)
    rw [e, endsB_app] at this
    cases this
def app : Nat → List UInt8 → List UInt8
  | 0, x => x
  | 1, x => x ++ bFilter
  | 2, x => x ++ bOrder
  | 3, x => x ++ bOrderable
  | 4, x => bAdd ++ x
  | _, x => bPatch ++ x
theorem tail_ne {a b s t : List UInt8} (hl : s.length = t.length) (hn : s ≠ t) : a ++ s ≠ b ++ t := fun e => hn (List.append_inj_right' e hl)
theorem fo {a b : List UInt8} : a ++ bFilter ≠ b ++ bOrder := fun e => tail_ne (a := a ++ [70]) (b := b) (s := [105, 108, 116, 101, 114]) (t := bOrder) rfl (by decide) (by rw [List.append_assoc]; exact e)
theorem fr' {a b : List UInt8} : a ++ bFilter ≠ b ++ bOrderable := fun e => tail_ne (a := a) (b := b ++ [79, 114, 100]) (s := bFilter) (t := [101, 114, 97, 98, 108, 101]) rfl (by decide) (by rw [List.append_assoc]; exact e)
theorem or' {a b : List UInt8} : a ++ bOrder ≠ b ++ bOrderable := fun e => tail_ne (a := a) (b := b ++ [79, 114, 100, 101]) (s := bOrder) (t := [114, 97, 98, 108, 101]) rfl (by decide) (by rw [List.append_assoc]; exact e)
theorem add_ne {x z : List UInt8} {c : UInt8} {s : List UInt8} (hz : ∀ y, z ≠ bAdd ++ y) (h1 : c ≠ 65) (h2 : c ≠ 100) : bAdd ++ x ≠ z ++ c :: s := by
  intro e
  match z, hz, e with
  | [], _, e =>
    simp only [bAdd, List.cons_append, List.nil_append, List.cons.injEq] at e
    exact h1 e.1.symm
  | [a], _, e =>
    simp only [bAdd, List.cons_append, List.nil_append, List.cons.injEq] at e
    exact h2 e.2.1.symm
  | [a, b], _, e =>
    simp only [bAdd, List.cons_append, List.nil_append, List.cons.injEq] at e
    exact h2 e.2.2.1.symm
  | a :: b :: d :: y, hz, e =>
    simp only [bAdd, List.cons_append, List.nil_append, List.cons.injEq] at e
    obtain ⟨rfl, rfl, rfl, _⟩ := e
    exact hz y rfl
theorem patch_ne {x z : List UInt8} {c : UInt8} {s : List UInt8} (hz : ∀ y, z ≠ bPatch ++ y) (h1 : c ≠ 80) (h2 : c ≠ 97) (h3 : c ≠ 116) (h4 : c ≠ 99) (h5 : c ≠ 104) : bPatch ++ x ≠ z ++ c :: s := by
  intro e
  match z, hz, e with
  | [], _, e =>
    simp only [bPatch, List.cons_append, List.nil_append, List.cons.injEq] at e
    exact h1 e.1.symm
  | [a], _, e =>
    simp only [bPatch, List.cons_append, List.nil_append, List.cons.injEq] at e
    exact h2 e.2.1.symm
  | [a, b], _, e =>
    simp only [bPatch, List.cons_append, List.nil_append, List.cons.injEq] at e
    exact h3 e.2.2.1.symm
  | [a, b, d], _, e =>
    simp only [bPatch, List.cons_append, List.nil_append, List.cons.injEq] at e
    exact h4 e.2.2.2.1.symm
  | [a, b, d, f], _, e =>
    simp only [bPatch, List.cons_append, List.nil_append, List.cons.injEq] at e
    exact h5 e.2.2.2.2.1.symm
  | a :: b :: d :: f :: g :: y, hz, e =>
    simp only [bPatch, List.cons_append, List.nil_append, List.cons.injEq] at e
    obtain ⟨rfl, rfl, rfl, rfl, rfl, _⟩ := e
    exact hz y rfl
theorem app_inj {i j : Nat} {x y : List UInt8} (hx : Good x) (hy : Good y) (hi : i < 6) (hj : j < 6) (e : app i x = app j y) : i = j ∧ x = y := by
  have sym : ∀ {p q : Nat} {u v : List UInt8}, Good u → Good v → p < q → q < 6 → app p u ≠ app q v := by
    intro p q u v hu hv hpq hq e
    obtain rfl | rfl | rfl | rfl | rfl : q = 1 ∨ q = 2 ∨ q = 3 ∨ q = 4 ∨ q = 5 := by omega
    · obtain rfl : p = 0 := by omega
      exact hu.filter _ e
    · obtain rfl | rfl : p = 0 ∨ p = 1 := by omega
      · exact hu.order _ e
      · exact fo e
    · obtain rfl | rfl | rfl : p = 0 ∨ p = 1 ∨ p = 2 := by omega
      · exact hu.orderable _ e
      · exact fr' e
      · exact or' e
    · obtain rfl | rfl | rfl | rfl : p = 0 ∨ p = 1 ∨ p = 2 ∨ p = 3 := by omega
      · exact hu.add _ e
      · exact add_ne hu.add (by decide) (by decide) e.symm
      · exact add_ne hu.add (by decide) (by decide) e.symm
      · exact add_ne hu.add (by decide) (by decide) e.symm
    · obtain rfl | rfl | rfl | rfl | rfl : p = 0 ∨ p = 1 ∨ p = 2 ∨ p = 3 ∨ p = 4 := by omega
      · exact hu.patch _ e
      · exact patch_ne hu.patch (by decide) (by decide) (by decide) (by decide) (by decide) e.symm
      · exact patch_ne hu.patch (by decide) (by decide) (by decide) (by decide) (by decide) e.symm
      · exact patch_ne hu.patch (by decide) (by decide) (by decide) (by decide) (by decide) e.symm
      · simp [app, bAdd, bPatch] at e
  rcases Nat.lt_trichotomy i j with h | h | h
  · exact absurd e (sym hx hy h hj)
  · subst h
    refine ⟨rfl, ?_⟩
    obtain rfl | rfl | rfl | rfl | rfl | rfl : i = 0 ∨ i = 1 ∨ i = 2 ∨ i = 3 ∨ i = 4 ∨ i = 5 := by omega
    · exact e
    · exact List.append_cancel_right e
    · exact List.append_cancel_right e
    · exact List.append_cancel_right e
    · exact List.append_cancel_left e
    · exact List.append_cancel_left e
  · exact absurd e.symm (sym hy hx h hi)
end Go.Proofs.YtcbngkmmmfaaoaaGreatDoor
namespace Go.Proofs.YtcbngkmmmfaaoaaGreatDoor
open Go.RowKit Go.Lib Go.Ac
variable {mx : Int}
def six (o : Ob) : List (Nat × List UInt8) := [(0, o.n), (3, o.n), (2, o.n), (1, o.n), (4, o.n), (5, o.n)]
def midP : List (Nat × List UInt8) := [(1, bInt), (1, bFloat), (1, bString), (1, bBoolean)]
def typesP (s : Sc) : List (Nat × List UInt8) := scalL.map (fun x => (0, x)) ++ s.es.map (fun e => (0, e.n)) ++ s.os.flatMap six ++ midP ++ s.es.map (fun e => (1, e.n)) ++ [(0, bQuery), (0, bMutation)]
def appP (p : Nat × List UInt8) : List UInt8 := app p.1 p.2
theorem names_types (s : Sc) : (typesD s).map (·.n) = (typesP s).map appP := by
  simp only [typesD, typesP, List.map_append, List.map_map, List.map_flatMap]
  rfl
def resv : List (List UInt8) := [bID, bInt, bFloat, bString, bBoolean, bQuery, bMutation]
theorem own_resv {x : List UInt8} (h : ownB mx x = true) : x ∉ resv := by
  simp only [ownB, nmB, Bool.and_eq_true, Bool.not_eq_true'] at h
  obtain ⟨⟨_, _, h1⟩, h2⟩ := h
  intro hm
  simp only [resv, List.mem_cons, List.not_mem_nil, or_false] at hm
  have h1' : ¬ (0 ≤ idx (fun y => decide (x = y)) notL 0) := by simpa [memB] using h1
  have no : ∀ y ∈ notL, x ≠ y := fun y hy e => h1' (idx_pos.2 ⟨y, hy, by simp [e]⟩)
  have ns : ∀ y, scalar y = true → x ≠ y := fun y hy e => by
    rw [← e, h2] at hy
    cases hy
  rcases hm with hm | hm | hm | hm | hm | hm | hm
  · exact no _ (by decide) hm
  · exact ns _ (by decide) hm
  · exact ns _ (by decide) hm
  · exact ns _ (by decide) hm
  · exact ns _ (by decide) hm
  · exact no _ (by decide) hm
  · exact no _ (by decide) hm
theorem own_good {x : List UInt8} (h : ownB mx x = true) : Good x := by
  simp only [ownB, Bool.and_eq_true] at h
  exact good_of h.1.1.1 h.1.1.2
theorem resv_good {x : List UInt8} (h : x ∈ resv) : Good x := by
  simp only [resv, List.mem_cons, List.not_mem_nil, or_false] at h
  rcases h with rfl | rfl | rfl | rfl | rfl | rfl | rfl <;> exact good_of (by decide) (by decide)
theorem Sc.okM.oown {s : Sc} (h : s.okM mx) {o : Ob} (ho : o ∈ s.os) : ownB mx o.n = true := by
  have := h.named
  simp only [namedB, Bool.and_eq_true, List.all_eq_true] at this
  exact this.1.1 o ho
theorem Sc.okM.eown {s : Sc} (h : s.okM mx) {e : En} (he : e ∈ s.es) : ownB mx e.n = true := by
  have := h.named
  simp only [namedB, Bool.and_eq_true, List.all_eq_true, enmB] at this
  exact (this.2 e he).1
theorem six_mem {o : Ob} {p : Nat × List UInt8} (h : p ∈ six o) : p.1 < 6 ∧ p.2 = o.n := by
  simp only [six, List.mem_cons, List.not_mem_nil, or_false] at h
  rcases h with rfl | rfl | rfl | rfl | rfl | rfl <;> exact ⟨by simp, rfl⟩
theorem six_nodup : ∀ {l : List Ob}, (l.map (·.n)).Nodup → (l.flatMap six).Nodup
  | [], _ => by simp
  | o :: l, h => by
    rw [List.map_cons, List.nodup_cons] at h
    rw [List.flatMap_cons, List.nodup_append]
    refine ⟨by simp [six], six_nodup h.2, fun p hp q hq e => ?_⟩
    obtain ⟨r, hr, hq⟩ := List.mem_flatMap.1 hq
    subst e
    exact h.1 (List.mem_map.2 ⟨r, hr, (six_mem hq).2.symm.trans (six_mem hp).2⟩)
theorem nodup_map {α β : Type} {f : α → β} (hf : ∀ a b, f a = f b → a = b) {l : List α} (h : l.Nodup) : (l.map f).Nodup := by
  rw [List.nodup_iff_pairwise_ne, List.pairwise_map]
  rw [List.nodup_iff_pairwise_ne] at h
  exact h.imp fun hab e => hab (hf _ _ e)
theorem typesP_mem {s : Sc} {p : Nat × List UInt8} (h : p ∈ typesP s) : p.1 < 6 ∧ (p.2 ∈ resv ∨ (∃ e ∈ s.es, p.2 = e.n) ∨ ∃ o ∈ s.os, p.2 = o.n) := by
  simp only [typesP, List.mem_append, List.mem_map, List.mem_flatMap] at h
  rcases h with ((((⟨x, hx, rfl⟩ | ⟨e, he, rfl⟩) | ⟨o, ho, hp⟩) | hp) | ⟨e, he, rfl⟩) | hp
  · refine ⟨by show 0 < 6; decide, .inl ?_⟩
    simp only [scalL, List.mem_cons, List.not_mem_nil, or_false] at hx
    rcases hx with rfl | rfl | rfl | rfl | rfl <;> decide
  · exact ⟨by show 0 < 6; decide, .inr (.inl ⟨e, he, rfl⟩)⟩
  · exact ⟨(six_mem hp).1, .inr (.inr ⟨o, ho, (six_mem hp).2⟩)⟩
  · simp only [midP, List.mem_cons, List.not_mem_nil, or_false] at hp
    rcases hp with rfl | rfl | rfl | rfl <;> exact ⟨by decide, .inl (by decide)⟩
  · exact ⟨by show 1 < 6; decide, .inr (.inl ⟨e, he, rfl⟩)⟩
  · simp only [List.mem_cons, List.not_mem_nil, or_false] at hp
    rcases hp with rfl | rfl <;> exact ⟨by decide, .inl (by decide)⟩
theorem typesP_good {s : Sc} (h : s.okM mx) {p : Nat × List UInt8} (hp : p ∈ typesP s) : Good p.2 := by
  rcases (typesP_mem hp).2 with q | ⟨e, he, q⟩ | ⟨o, ho, q⟩
  · exact resv_good q
  · rw [q]; exact own_good (h.eown he)
  · rw [q]; exact own_good (h.oown ho)
theorem typesP_nodup {s : Sc} (h : s.okM mx) : (typesP s).Nodup := by
  obtain ⟨n1, n2, n3⟩ := List.nodup_append.1 h.all
  have ne0 : ∀ e ∈ s.es, e.n ∉ resv := fun e he => own_resv (h.eown he)
  have no0 : ∀ o ∈ s.os, o.n ∉ resv := fun o ho => own_resv (h.oown ho)
  have noe : ∀ o ∈ s.os, ∀ e ∈ s.es, o.n ≠ e.n := fun o ho e he => n3 _ (List.mem_map.2 ⟨o, ho, rfl⟩) _ (List.mem_map.2 ⟨e, he, rfl⟩)
  have pe : ∀ k : Nat, (s.es.map (fun e => (k, e.n))).Nodup := fun k => by
    have := nodup_map (f := fun x : List UInt8 => (k, x)) (fun a b e => by simpa using e) n2
    rw [List.map_map] at this
    exact this
  have sc : ∀ x ∈ scalL, x ∈ resv := fun x hx => by
    simp only [scalL, List.mem_cons, List.not_mem_nil, or_false] at hx
    rcases hx with rfl | rfl | rfl | rfl | rfl <;> decide
  have mp : ∀ p ∈ midP, p.1 = 1 ∧ p.2 ∈ resv := fun p hp => by
    simp only [midP, List.mem_cons, List.not_mem_nil, or_false] at hp
    rcases hp with rfl | rfl | rfl | rfl <;> exact ⟨rfl, by decide⟩
  have qm : ∀ p : Nat × List UInt8, p ∈ [(0, bQuery), (0, bMutation)] → p.1 = 0 ∧ p.2 ∈ resv ∧ p.2 ∉ scalL := fun p hp => by
    simp only [List.mem_cons, List.not_mem_nil, or_false] at hp
    rcases hp with rfl | rfl <;> exact ⟨rfl, by decide, by decide⟩
  unfold typesP
  rw [List.nodup_append, List.nodup_append, List.nodup_append, List.nodup_append, List.nodup_append]
  refine ⟨⟨⟨⟨⟨by decide, pe 0, ?_⟩, six_nodup n1, ?_⟩, by decide, ?_⟩, pe 1, ?_⟩, by decide, ?_⟩
  · intro p hp q hq e
    obtain ⟨x, hx, rfl⟩ := List.mem_map.1 hp
    obtain ⟨y, hy, rfl⟩ := List.mem_map.1 hq
    simp only [Prod.mk.injEq, true_and] at e
    exact ne0 y hy (e ▸ sc x hx)
  · intro p hp q hq e
    obtain ⟨o, ho, hq⟩ := List.mem_flatMap.1 hq
    have q2 := (six_mem hq).2
    subst e
    rcases List.mem_append.1 hp with hp | hp
    · obtain ⟨x, hx, rfl⟩ := List.mem_map.1 hp
      exact no0 o ho (q2 ▸ sc x hx)
    · obtain ⟨y, hy, rfl⟩ := List.mem_map.1 hp
      exact noe o ho y hy q2.symm
  · intro p hp q hq e
    subst e
    obtain ⟨m1, m2⟩ := mp p hq
    rcases List.mem_append.1 hp with hp | hp
    · rcases List.mem_append.1 hp with hp | hp
      · obtain ⟨x, hx, rfl⟩ := List.mem_map.1 hp
        cases m1
      · obtain ⟨y, hy, rfl⟩ := List.mem_map.1 hp
        cases m1
    · obtain ⟨o, ho, hp⟩ := List.mem_flatMap.1 hp
      exact no0 o ho ((six_mem hp).2 ▸ m2)
  · intro p hp q hq e
    subst e
    obtain ⟨y, hy, rfl⟩ := List.mem_map.1 hq
    rcases List.mem_append.1 hp with hp | hp
    · rcases List.mem_append.1 hp with hp | hp
      · rcases List.mem_append.1 hp with hp | hp
        · obtain ⟨x, hx, e⟩ := List.mem_map.1 hp
          cases e
        · obtain ⟨z, hz, e⟩ := List.mem_map.1 hp
          cases e
      · obtain ⟨o, ho, hp⟩ := List.mem_flatMap.1 hp
        exact noe o ho y hy (six_mem hp).2.symm
    · exact ne0 y hy (mp _ hp).2
  · intro p hp q hq e
    subst e
    obtain ⟨m1, m2, m3⟩ := qm p hq
    rcases List.mem_append.1 hp with hp | hp
    · rcases List.mem_append.1 hp with hp | hp
      · rcases List.mem_append.1 hp with hp | hp
        · rcases List.mem_append.1 hp with hp | hp
          · obtain ⟨x, hx, rfl⟩ := List.mem_map.1 hp
            exact m3 hx
          · obtain ⟨z, hz, rfl⟩ := List.mem_map.1 hp
            exact ne0 z hz m2
        · obtain ⟨o, ho, hp⟩ := List.mem_flatMap.1 hp
          exact no0 o ho ((six_mem hp).2 ▸ m2)
      · have := (mp _ hp).1
        omega
    · obtain ⟨y, hy, rfl⟩ := List.mem_map.1 hp
      cases m1
theorem types_nodup {s : Sc} (h : s.okM mx) : ((typesD s).map (·.n)).Nodup := by
  rw [names_types, List.nodup_iff_pairwise_ne, List.pairwise_map]
  have := typesP_nodup h
  rw [List.nodup_iff_pairwise_ne] at this
  refine List.Pairwise.imp_of_mem (fun {a b} ha hb hab e => hab ?_) this
  obtain ⟨e1, e2⟩ := app_inj (typesP_good h ha) (typesP_good h hb) (typesP_mem ha).1 (typesP_mem hb).1 e
  exact Prod.ext e1 e2
def dnAt (l : List Dn) (x : List UInt8) : Int := idx (fun o => decide (o.n = x)) l 0
theorem types_at {s : Sc} (h : s.okM mx) {i : Nat} {d : Dn} (hd : (typesD s)[i]? = some d) : dnAt (typesD s) d.n = (i : Int) := nodup_idx (fun d : Dn => d.n) (types_nodup h) hd
theorem types_in {s : Sc} (h : s.okM mx) {d : Dn} (hd : d ∈ typesD s) : ∃ i : Nat, (typesD s)[i]? = some d ∧ dnAt (typesD s) d.n = (i : Int) := by
  obtain ⟨i, hi⟩ := List.getElem?_of_mem hd
  exact ⟨i, hi, types_at h hi⟩
end Go.Proofs.YtcbngkmmmfaaoaaGreatDoor
namespace Go.Proofs.YtcbngkmmmfaaoaaGreatDoor
open Go.RowKit Go.Lib Go.Ac
set_option linter.unusedSimpArgs false
set_option maxRecDepth 100000
variable {mx : Int}
theorem defPn_c (o : Dn) (x : List UInt8) (h : AH) (fr : Nat) : CR Tryz.prog (globM mx) md (.fn 76) [.agg o.pv, .rop [.str x]] h fr (.val (.bool (decide (o.n = x)))) := by
  refine CR.plain (rs := [.tmp 3]) Tryz.func76 rfl rfl rfl rfl rfl (by simp [PV.cleans, PV.clean, Dn.cl]) rfl ?_ h fr
  simp -implicitDefEqProofs only [wpC_seq, rowsA, if_true, if_false, opnd, ofVal, ofVal1, layArgs, Nat.reduceAdd, reduceIte, Nat.reduceEqDiff, reduceCtorEq, rowsB, cellsG, Nat.reduceMul, fda_ptr o54_0, Dn.pv, loadO_one ag9 sz9]
theorem indexDn_c (p : Dn → Bool) (l : List Dn) (hl : l.length ≤ 9223372036854775807) (kf : FuncId) (cap : List PV) (hcap : PV.cleans cap = true) (hp : ∀ o h fr, CR Tryz.prog (globM mx) md (.fn kf) (.agg o.pv :: cap) h fr (.val (.bool (p o)))) (h : AH) (fr : Nat) :
    CR Tryz.prog (globM mx) md (.fn 75) [rowV Dn.pv l, .fn (.func kf) [] cap] h fr (.val (.int .i64 (idx p l 0))) := by
  refine CR.plain (rs := [.tmp 4]) Tryz.func75 rfl rfl rfl rfl rfl (by simp [rowV, PV.cleans, PV.clean, hcap]) rfl ?_ h fr
  simp -implicitDefEqProofs only [wpC_seq, rowsA, if_true, if_false, opnd, ofVal, ofVal1, layArgs, Nat.reduceAdd, reduceIte, Nat.reduceEqDiff, reduceCtorEq, rowsB, cellsG, Nat.reduceMul, rowV, len_ro u47]
  refine wpC_loop (invIdx Dn.pv p l (.fn (.func kf) [] cap)) (k := l.length) ⟨0, by omega, ?_, ?_, ?_, ?_, rfl⟩ ?_
  · simp only [Fr.at_set, Nat.reduceEqDiff, reduceIte, reduceCtorEq]; rfl
  · simp only [Fr.at_set, Nat.reduceEqDiff, reduceIte, reduceCtorEq]
  · simp only [Fr.at_set, Nat.reduceEqDiff, reduceIte, reduceCtorEq]
  · simp only [Fr.at_set, Nat.reduceEqDiff, reduceIte, reduceCtorEq]; rfl
  rintro k F h' ⟨i, hi, f0, f1, f7, f8, hx⟩
  cases k with
  | zero =>
    have c1 : decide ((i : Int) < (l.length : Int)) = false := decide_eq_false (by omega)
    rw [idx_end p l i (by omega)] at hx
    simp -implicitDefEqProofs only [wpC_seq, rowsA, if_true, if_false, opnd, ofVal, ofVal1, layArgs, Nat.reduceAdd, reduceIte, Nat.reduceEqDiff, reduceCtorEq, rowsB, cellsG, Nat.reduceMul, f0, f1, f7, f8, c1, ← hx]
  | succ k =>
    have c1 : decide ((i : Int) < (l.length : Int)) = true := decide_eq_true (by omega)
    obtain ⟨o, ho⟩ : ∃ o, l[i]? = some o := ⟨l[i], List.getElem?_eq_getElem (by omega)⟩
    obtain ⟨r, hr⟩ := flat_drop (f := Dn.pv) (z := 5) (fun _ => rfl) l i o ho
    rw [idx_drop p l i o ho] at hx
    have w := IntWalk.i64_in ((i : Int) + 1) (by omega)
    have hld : loadO Tryz.prog 54 (some (o.pv ++ r)) = some (.q (.agg o.pv)) := by
      rw [load_agg ag54 sz54 (by rw [List.length_append]; show 5 ≤ 5 + _; omega)]
      rw [List.take_left' (show o.pv.length = 5 from rfl)]
    cases hpo : p o with
    | true =>
      rw [hpo, if_pos rfl] at hx
      simp -implicitDefEqProofs only [wpC_seq, rowsA, if_true, if_false, opnd, ofVal, ofVal1, layArgs, Nat.reduceAdd, reduceIte, Nat.reduceEqDiff, reduceCtorEq, rowsB, cellsG, Nat.reduceMul, f0, f1, f7, f8, c1, rowV, ida_roN (n := l.length) (i := (i : Int)) u47 sz54 (by omega) (by omega), Int.toNat_natCast, hr, hld, goO_known (hp o), hpo, ← hx]
    | false =>
      rw [hpo, if_neg (by simp)] at hx
      simp -implicitDefEqProofs only [wpC_seq, rowsA, if_true, if_false, opnd, ofVal, ofVal1, layArgs, Nat.reduceAdd, reduceIte, Nat.reduceEqDiff, reduceCtorEq, rowsB, cellsG, Nat.reduceMul, f0, f1, f7, f8, c1, rowV, ida_roN (n := l.length) (i := (i : Int)) u47 sz54 (by omega) (by omega), Int.toNat_natCast, hr, hld, goO_known (hp o), hpo, w]
      refine ⟨k, by omega, i + 1, by omega, ?_, ?_, ?_, ?_, hx⟩
      · simp only [Fr.at_set, Nat.reduceEqDiff, reduceIte, reduceCtorEq, f0]
      · simp only [Fr.at_set, Nat.reduceEqDiff, reduceIte, reduceCtorEq, f1]
      · simp only [Fr.at_set, Nat.reduceEqDiff, reduceIte, reduceCtorEq, f7]
      · simp only [Fr.at_set, Nat.reduceEqDiff, reduceIte, reduceCtorEq]; rfl
theorem indexDn_sh (l : List Dn) (hl : l.length ≤ 9223372036854775807) (x : List UInt8) (id : Nat) (h : AH) (hg : h.get id = some (.cells 9 0 false [.str x])) (fr : Nat) :
    CR Tryz.prog (globM mx) md (.fn 75) [rowV Dn.pv l, .fn (.func 76) [] [.ptr id 1 0]] h fr (.sh (.int .i64 (idx (fun o => decide (o.n = x)) l 0)) (h.set id (.cells 9 0 true [.str x]))) := by
  refine CR.viaFrz (args' := [rowV Dn.pv l, .fn (.func 76) [] [.rop [.str x]]]) Tryz.func75 rfl rfl rfl rfl ?_ rfl (fun h fr => indexDn_c _ l hl 76 [.rop [.str x]] rfl (fun o h fr => defPn_c o x h fr) h fr) fr
  simp only [frzL, frz_clean h (show (rowV Dn.pv l).clean = true from rfl), frz_cap100 (tot := 1) 76 hg rfl rfl]
theorem findN_c (l : List Dn) (hs : l.length ≤ 9223372036854775807) (x : List UInt8) (h : AH) (fr : Nat) : CR Tryz.prog (globM mx) md (.fn 33) [rowV Dn.pv l, .str x] h fr (.val (.int .i64 (dnAt l x))) := by
  refine CR.plain (rs := [.tmp 4]) Tryz.func33 rfl rfl rfl rfl rfl rfl rfl ?_ h fr
  simp -implicitDefEqProofs only [wpC_seq, rowsA, if_true, if_false, opnd, ofVal, ofVal1, layArgs, Nat.reduceAdd, reduceIte, Nat.reduceEqDiff, reduceCtorEq, rowsB, cellsG, Nat.reduceMul]
  rw [goO_shared (indexDn_sh l hs x 0 _ (by simp only [AH.get_set, AH.get_up, Nat.reduceEqDiff, if_false, if_true]))]
  simp -implicitDefEqProofs only [wpC_seq, rowsA, if_true, if_false, opnd, ofVal, ofVal1, layArgs, Nat.reduceAdd, reduceIte, Nat.reduceEqDiff, reduceCtorEq, rowsB, cellsG, Nat.reduceMul]
  rfl
theorem ix47n {l : List Dn} {i : Int} {o : Dn} (h0 : 0 ≤ i) (ho : l[i.toNat]? = some o) : ∃ r, ∀ h, idaO Tryz.prog h 47 (rowV Dn.pv l) (.int .i64 i) = some (.q (.rop (o.pv ++ r))) := by
  obtain ⟨r, hr⟩ := flat_drop (f := Dn.pv) (z := 5) (fun _ => rfl) l i.toNat o ho
  have := (List.getElem?_eq_some_iff.1 ho).1
  exact ⟨r, fun h => by rw [← hr]; exact ida_roN u47 sz54 h0 (by omega)⟩
theorem ix51n {l : List Ot} {i : Int} {o : Ot} (h0 : 0 ≤ i) (ho : l[i.toNat]? = some o) : ∃ r, ∀ h, idaO Tryz.prog h 51 (rowV Ot.pv l) (.int .i64 i) = some (.q (.rop (o.pv ++ r))) := by
  obtain ⟨r, hr⟩ := flat_drop (f := Ot.pv) (z := 4) (fun _ => rfl) l i.toNat o ho
  have := (List.getElem?_eq_some_iff.1 ho).1
  exact ⟨r, fun h => by rw [← hr]; exact ida_roN u51 sz58 h0 (by omega)⟩
theorem ln47n (l : List Dn) : lenO Tryz.prog [rowV Dn.pv l] [47] = some (.q (.int .i64 l.length)) := len_ro u47
theorem ld51dn (o : Dn) (r : List PV) : loadO Tryz.prog 51 (some (List.drop 3 (o.pv ++ r))) = some (.q (rowN Ot.pv o.outs)) := loadO_one ag51 sz51

def DnFit (l : List Dn) : Prop := l.length ≤ 1000000 ∧ ∀ d ∈ l, (d.k = 2 → 0 < d.outs.length) ∧ d.outs.length ≤ 1000000 ∧ ∀ p ∈ d.outs, p.args.length ≤ 1000000
end Go.Proofs.YtcbngkmmmfaaoaaGreatDoor
namespace Go.Proofs.YtcbngkmmmfaaoaaGreatDoor
open Go.RowKit Go.Lib Go.Ac
variable {mx : Int}
theorem flatMap_len {α β : Type} {f : α → List β} {k : Nat} (hf : ∀ x, (f x).length = k) : ∀ (l : List α), (l.flatMap f).length = l.length * k
  | [] => by simp
  | x :: l => by rw [List.flatMap_cons, List.length_append, hf, flatMap_len hf l, List.length_cons, Nat.add_mul, Nat.one_mul, Nat.add_comm]
theorem types_len (s : Sc) : (typesD s).length = 5 + 2 * s.es.length + 6 * s.os.length + 6 := by
  simp only [typesD, List.length_append, List.length_map, flatMap_len (f := objD s) (k := 6) (fun _ => rfl)]
  show 5 + s.es.length + s.os.length * 6 + 4 + s.es.length + 2 = _
  omega
theorem qry_mem (s : Sc) : qryD s ∈ typesD s := by simp [typesD]
theorem mut_mem (s : Sc) : mutD s ∈ typesD s := by simp [typesD]
theorem obj_mem {s : Sc} {o : Ob} (ho : o ∈ s.os) {d : Dn} (hd : d ∈ objD s o) : d ∈ typesD s := by
  simp only [typesD, List.mem_append, List.mem_flatMap]
  exact .inl (.inl (.inl (.inr ⟨o, ho, hd⟩)))
theorem types_kinds {s : Sc} {d : Dn} (hd : d ∈ typesD s) : (∃ x ∈ scalL, d = scalD x) ∨ (∃ e ∈ s.es, d = enmD e) ∨ (∃ o ∈ s.os, d ∈ objD s o) ∨ d ∈ midD ∨ (∃ e ∈ s.es, d = enfD e) ∨ d = qryD s ∨ d = mutD s := by
  simp only [typesD, List.mem_append, List.mem_map, List.mem_flatMap, List.mem_cons, List.not_mem_nil, or_false] at hd
  rcases hd with ((((⟨x, hx, rfl⟩ | ⟨e, he, rfl⟩) | ⟨o, ho, hd⟩) | hd) | ⟨e, he, rfl⟩) | rfl | rfl
  · exact .inl ⟨x, hx, rfl⟩
  · exact .inr (.inl ⟨e, he, rfl⟩)
  · exact .inr (.inr (.inl ⟨o, ho, hd⟩))
  · exact .inr (.inr (.inr (.inl hd)))
  · exact .inr (.inr (.inr (.inr (.inl ⟨e, he, rfl⟩))))
  · exact .inr (.inr (.inr (.inr (.inr (.inl rfl)))))
  · exact .inr (.inr (.inr (.inr (.inr (.inr rfl)))))
theorem argsG_le (s : Sc) (f : Fld) : (outG s f).args.length ≤ 4 := by
  unfold outG
  simp only
  split
  · exact Nat.le_refl 4
  · exact Nat.zero_le _
theorem types_fit {s : Sc} (h : s.okM mx) : DnFit (typesD s) := by
  obtain ⟨e1, e2, e3, e4, e5⟩ := h.enough
  refine ⟨by rw [types_len]; omega, fun d hd => ?_⟩
  have small : ∀ l : List Ot, l = [] → l.length ≤ 1000000 ∧ ∀ p ∈ l, p.args.length ≤ 1000000 := fun l e => by
    subst e
    exact ⟨Nat.zero_le _, fun p hp => by cases hp⟩
  rcases types_kinds hd with ⟨x, hx, rfl⟩ | ⟨e, he, rfl⟩ | ⟨o, ho, hd⟩ | hd | ⟨e, he, rfl⟩ | rfl | rfl
  · exact ⟨fun q => absurd q (show ¬ ((0 : Int) = 2) by decide), small _ rfl⟩
  · exact ⟨fun q => absurd q (show ¬ ((1 : Int) = 2) by decide), small _ rfl⟩
  · simp only [objD, List.mem_cons, List.not_mem_nil, or_false] at hd
    have := e4 o ho
    rcases hd with rfl | rfl | rfl | rfl | rfl | rfl
    · refine ⟨fun _ => Nat.succ_pos _, by rw [List.length_cons, List.length_map]; omega, fun p hp => ?_⟩
      rcases List.mem_cons.1 hp with rfl | hp
      · exact Nat.zero_le _
      · obtain ⟨f, _, rfl⟩ := List.mem_map.1 hp
        exact Nat.le_trans (argsG_le s f) (by decide)
    all_goals first | exact ⟨fun q => absurd q (show ¬ ((3 : Int) = 2) by decide), small _ rfl⟩ | exact ⟨fun q => absurd q (show ¬ ((1 : Int) = 2) by decide), small _ rfl⟩
  · simp only [midD, List.mem_cons, List.not_mem_nil, or_false] at hd
    rcases hd with rfl | rfl | rfl | rfl
    all_goals first | exact ⟨fun q => absurd q (show ¬ ((3 : Int) = 2) by decide), small _ rfl⟩ | exact ⟨fun q => absurd q (show ¬ ((1 : Int) = 2) by decide), small _ rfl⟩
  · exact ⟨fun q => absurd q (show ¬ ((3 : Int) = 2) by decide), small _ rfl⟩
  · refine ⟨fun _ => ?_, ?_, fun p hp => ?_⟩
    · show 0 < (s.os.flatMap qryO).length
      rw [flatMap_len (k := 2) (fun _ => rfl)]
      omega
    · show (s.os.flatMap qryO).length ≤ _
      rw [flatMap_len (k := 2) (fun _ => rfl)]
      omega
    · obtain ⟨o, _, hp⟩ := List.mem_flatMap.1 hp
      simp only [qryO, List.mem_cons, List.not_mem_nil, or_false] at hp
      rcases hp with rfl | rfl
      · exact Nat.succ_le_of_lt (by decide)
      · exact Nat.le_trans (Nat.le_refl 4) (by decide)
  · refine ⟨fun _ => ?_, ?_, fun p hp => ?_⟩
    · show 0 < (s.os.flatMap mutO).length
      rw [flatMap_len (k := 3) (fun _ => rfl)]
      omega
    · show (s.os.flatMap mutO).length ≤ _
      rw [flatMap_len (k := 3) (fun _ => rfl)]
      omega
    · obtain ⟨o, _, hp⟩ := List.mem_flatMap.1 hp
      simp only [mutO, List.mem_cons, List.not_mem_nil, or_false] at hp
      rcases hp with rfl | rfl | rfl
      · exact Nat.le_trans (Nat.le_refl 1) (by decide)
      · exact Nat.le_trans (Nat.le_refl 2) (by decide)
      · exact Nat.le_trans (Nat.le_refl 1) (by decide)
end Go.Proofs.YtcbngkmmmfaaoaaGreatDoor
namespace Go.Proofs.YtcbngkmmmfaaoaaGreatDoor
open Go.RowKit Go.Lib Go.Ac
variable {mx : Int}
def Named (l : List Dn) (x : List UInt8) (k : Int) : Prop := ∃ q ∈ l, q.n = x ∧ q.k ≠ k
def GoesIn (l : List Dn) (ins : List Inp) : Prop := (∀ p ∈ ins, Named l p.t 2) ∧ (ins.map (·.n)).Nodup
structure Closed (l : List Dn) (d : Dn) : Prop where
  k0 : 0 ≤ d.k ∧ d.k < 4
  k1 : d.k = 1 ↔ 0 < d.ws.length
  k2 : d.k = 2 ↔ 0 < d.outs.length
  k3 : d.k = 3 ↔ 0 < d.ins.length
  outs : ∀ o ∈ d.outs, Named l o.t 3 ∧ GoesIn l o.args
  ins : GoesIn l d.ins
  names : (d.ws ++ d.outs.map (·.n) ++ d.ins.map (·.n)).Nodup
section
variable {s : Sc}
theorem edgeB_iff {f : Fld} : edgeB s f = true ↔ propB s f = false ∧ f.t ∈ s.os.map (·.n) := by
  simp only [edgeB, decide_eq_true_eq, edge_iff]
end
end Go.Proofs.YtcbngkmmmfaaoaaGreatDoor
namespace Go.Proofs.YtcbngkmmmfaaoaaGreatDoor
open Go.RowKit Go.Lib Go.Ac
set_option linter.unusedSimpArgs false
set_option maxRecDepth 100000
variable {mx : Int}
structure OrdS (s : Sc) (vO vE : PV) (F : Fr) (h : AH) : Prop where
  f1 : F.at 1 = .ptr 0 2 0
  f3 : F.at 3 = .ptr 3 2 0
  g0 : h.get 0 = some (.cells 25 0 false s.pv)
  g3 : h.get 3 = some (.cells 25 0 false [vO, vE])
  nx : 4 ≤ h.next
theorem ix43 {l : List (List UInt8)} {i : Int} {o : List UInt8} (h0 : 0 ≤ i) (ho : l[i.toNat]? = some o) : ∃ r, ∀ h, idaO Tryz.prog h 43 (rowV strV l) (.int .i64 i) = some (.q (.rop (.str o :: r))) := by
  obtain ⟨r, hr⟩ := flat_drop (f := strV) (z := 1) (fun _ => rfl) l i.toNat o ho
  have := (List.getElem?_eq_some_iff.1 ho).1
  exact ⟨r, fun h => by rw [show PV.str o :: r = strV o ++ r from rfl, ← hr]; exact ida_roN u43 sz9 h0 (by omega)⟩
end Go.Proofs.YtcbngkmmmfaaoaaGreatDoor
namespace Go.Proofs.YtcbngkmmmfaaoaaGreatDoor
open Go.RowKit Go.Lib Go.Ac
set_option linter.unusedSimpArgs false
set_option maxRecDepth 100000
variable {mx : Int}
end Go.Proofs.YtcbngkmmmfaaoaaGreatDoor
namespace Go.Proofs.YtcbngkmmmfaaoaaGreatDoor
open Go.RowKit Go.Lib Go.Ac
set_option linter.unusedSimpArgs false
set_option maxRecDepth 100000
variable {mx : Int}
def RowE (A : Nat) (h : AH) (v : PV) (L : List (List UInt8)) : Prop := (L = [] ∧ v = .els) ∨ (0 < L.length ∧ ∃ R, v = .ow R L.length 0 L.length ∧ A ≤ R ∧ R < h.next ∧ h.get R = some (.cells 9 1 false (L.map PV.str)))
theorem RowE.keep {A : Nat} {h h' : AH} {v : PV} {L : List (List UInt8)} (q : RowE A h v L) (hn : h.next ≤ h'.next) (hk : ∀ id, A ≤ id → id < h.next → h'.get id = h.get id) : RowE A h' v L := by
  rcases q with q | ⟨h0, R, rfl, a1, a2, a3⟩
  · exact .inl q
  · exact .inr ⟨h0, R, rfl, a1, by omega, by rw [hk R a1 a2]; exact a3⟩
theorem RowE.push {A fr X : Nat} {h : AH} {v : PV} {L : List (List UInt8)} {x : List UInt8} (q : RowE A h v L) (hA : A ≤ fr) (hfr : fr < h.next) {fz : Bool} (hX : h.get X = some (.cells 9 1 fz [.str x])) (hL : L.length ≤ 100000000) :
    ∃ id ob, appO Tryz.prog h fr [v, .ow X 1 0 1] [43, 43] = some (.w (.ow id (L.length + 1) 0 (L.length + 1)) id ob) ∧ A ≤ id ∧ (id = fr ∨ h.get id = some (.cells 9 1 false (L.map PV.str))) ∧ RowE A (h.set id ob) (.ow id (L.length + 1) 0 (L.length + 1)) (L ++ [x]) := by
  have hc : Ac.cellsOf h 1 (.ow X 1 0 1) = some ([.str x], 1) := cellR_ow (sz := 1) (n := 1) hX rfl
  rcases q with ⟨rfl, rfl⟩ | ⟨h0, R, rfl, a1, a2, a3⟩
  · exact ⟨fr, _, ap_new u43 i9 (by decide) (.inr rfl) hc (by decide) (by decide) (by decide), hA, .inl rfl, .inr ⟨by simp, fr, rfl, hA, by simpa only [AH.next_set] using hfr, by simp only [AH.get_set, if_true]; rfl⟩⟩
  · have := ap_more (P := Tryz.prog) (fr := fr) u43 i9 (by decide) (m := L.length) a3 (by rw [List.length_map, Nat.mul_one]) hc (by decide) (by omega) (by omega)
    simp only [Nat.mul_one] at this
    exact ⟨R, _, this, a1, .inr a3, .inr ⟨by simp, R, by simp, a1, by simpa only [AH.next_set] using a2, by simp only [AH.get_set, if_true, List.map_append]; rfl⟩⟩
end Go.Proofs.YtcbngkmmmfaaoaaGreatDoor
namespace Go.Proofs.YtcbngkmmmfaaoaaGreatDoor
open Go.RowKit Go.Lib Go.Ac
set_option linter.unusedSimpArgs false
set_option maxRecDepth 100000
variable {mx : Int}
theorem fixed10g_c (h : AH) (fr : Nat) : CR Tryz.prog (globM mx) md (.fn 30) [] h fr (.val (.bool true)) := pure_any rfl rfl ⟨2000, fixed10_run⟩ h fr
structure RootS (s : Sc) (F : Fr) (h : AH) : Prop where
  f1 : F.at 1 = .ptr 0 2 0
  f3 : F.at 3 = rowV Dn.pv (typesD s)
  g0 : h.get 0 = some (.cells 25 0 false s.pv)
end Go.Proofs.YtcbngkmmmfaaoaaGreatDoor
namespace Go.Proofs.YtcbngkmmmfaaoaaGreatDoor
open Go.RowKit Go.Lib Go.Ac
set_option linter.unusedSimpArgs false
set_option maxRecDepth 100000
variable {mx : Int}
end Go.Proofs.YtcbngkmmmfaaoaaGreatDoor
namespace Go.Proofs.YtcbngkmmmfaaoaaGreatDoor
open Go.RowKit Go.Lib Go.Ac
variable {mx : Int}
theorem types_lens {s : Sc} (h : s.okM mx) {d : Dn} (hd : d ∈ typesD s) : d.ws.length ≤ 1000000 ∧ d.ins.length ≤ 1000000 := by
  obtain ⟨e1, e2, e3, e4, e5⟩ := h.enough
  rcases types_kinds hd with ⟨x, hx, rfl⟩ | ⟨e, he, rfl⟩ | ⟨o, ho, hd⟩ | hd | ⟨e, he, rfl⟩ | rfl | rfl
  · exact ⟨Nat.zero_le _, Nat.zero_le _⟩
  · exact ⟨Nat.le_trans (e5 e he).2 (by decide), Nat.zero_le _⟩
  · have hf := (e4 o ho).2
    have hp : (props s o).length ≤ o.fs.length := List.length_filter_le _ _
    simp only [objD, List.mem_cons, List.not_mem_nil, or_false] at hd
    rcases hd with rfl | rfl | rfl | rfl | rfl | rfl
    all_goals simp only [List.length_cons, List.length_nil, List.length_map, List.length_append]; omega
  · simp only [midD, List.mem_cons, List.not_mem_nil, or_false] at hd
    rcases hd with rfl | rfl | rfl | rfl
    all_goals simp only [cmpD, cmpL, List.length_cons, List.length_nil, List.length_append]; omega
  · simp only [enfD, List.length_cons, List.length_nil]; omega
  · exact ⟨Nat.zero_le _, Nat.zero_le _⟩
  · exact ⟨Nat.zero_le _, Nat.zero_le _⟩
theorem edgeG_more {s : Sc} (h : s.okM mx) (x : Ob) {o : Ob} (ho : o ∈ s.os) {f : Fld} (hf : f ∈ o.fs) : edgeB ⟨s.os ++ [x], s.es⟩ f = edgeB s f := by
  have hp : propB ⟨s.os ++ [x], s.es⟩ f = propB s f := rfl
  rw [Bool.eq_iff_iff, edgeB_iff, edgeB_iff, hp]
  refine ⟨fun ⟨a, _⟩ => ⟨a, ?_⟩, fun ⟨a, b⟩ => ⟨a, by simp only [List.map_append, List.mem_append]; exact .inl b⟩⟩
  rcases typedB_iff.1 (h.typed o ho f hf) with ⟨q, _⟩ | ⟨_, q, _⟩
  · rw [a] at q
    cases q
  · exact q
theorem objD_more {s : Sc} (h : s.okM mx) (x : Ob) {o : Ob} (ho : o ∈ s.os) : objD ⟨s.os ++ [x], s.es⟩ o = objD s o := by
  have e := fun f hf => edgeG_more h x ho (f := f) hf
  have e1 : o.fs.map (outG ⟨s.os ++ [x], s.es⟩) = o.fs.map (outG s) := List.map_congr_left fun f hf => by simp only [outG, e f hf]
  have e2 : ∀ b, o.fs.map (inG ⟨s.os ++ [x], s.es⟩ b) = o.fs.map (inG s b) := fun b => List.map_congr_left fun f hf => by simp only [inG, e f hf]
  have e3 : props ⟨s.os ++ [x], s.es⟩ o = props s o := List.filter_congr fun f hf => by rw [e f hf]
  simp only [objD, e1, e2, e3]
structure More (d d' : Dn) : Prop where
  n : d'.n = d.n
  k : d'.k = d.k
  ws : d'.ws = d.ws
  ins : d'.ins = d.ins
  le : d.outs.length ≤ d'.outs.length
  outs : d'.outs.take d.outs.length = d.outs
  root : d.n = bQuery ∨ d.n = bMutation → 0 < d.outs.length
  no : ¬ (d.n = bQuery ∨ d.n = bMutation) → d'.outs = d.outs
theorem same_name {s : Sc} (h : s.okM mx) {d e : Dn} (hd : d ∈ typesD s) (he : e ∈ typesD s) (q : d.n = e.n) : d = e := by
  obtain ⟨i, a1, a2⟩ := types_in h hd
  obtain ⟨j, b1, b2⟩ := types_in h he
  rw [q, b2] at a2
  obtain rfl : j = i := by omega
  rw [a1] at b1
  exact Option.some.inj b1
theorem types_more {s : Sc} (h : s.okM mx) (x : Ob) {d : Dn} (hd : d ∈ typesD s) : ∃ d' ∈ typesD ⟨s.os ++ [x], s.es⟩, More d d' := by
  have hpos : 0 < s.os.length := h.enough.1
  have root : d.n = bQuery ∨ d.n = bMutation → 0 < d.outs.length := fun q => by
    rcases q with q | q
    · rw [same_name h hd (qry_mem s) q]
      show 0 < (s.os.flatMap qryO).length
      rw [flatMap_len (k := 2) (fun _ => rfl)]
      omega
    · rw [same_name h hd (mut_mem s) q]
      show 0 < (s.os.flatMap mutO).length
      rw [flatMap_len (k := 3) (fun _ => rfl)]
      omega
  have same : d ∈ typesD ⟨s.os ++ [x], s.es⟩ → ∃ d' ∈ typesD ⟨s.os ++ [x], s.es⟩, More d d' := fun q => ⟨d, q, rfl, rfl, rfl, rfl, Nat.le_refl _, List.take_length, root, fun _ => rfl⟩
  rcases types_kinds hd with ⟨y, hy, rfl⟩ | ⟨e, he, rfl⟩ | ⟨o, ho, hd'⟩ | hd' | ⟨e, he, rfl⟩ | rfl | rfl
  · exact same (by simp only [typesD, List.mem_append]; exact .inl (.inl (.inl (.inl (.inl (List.mem_map_of_mem hy))))))
  · exact same (by simp only [typesD, List.mem_append]; exact .inl (.inl (.inl (.inl (.inr (List.mem_map_of_mem he))))))
  · exact same (obj_mem (s := ⟨s.os ++ [x], s.es⟩) (o := o) (List.mem_append_left _ ho) (by rw [objD_more h x ho]; exact hd'))
  · exact same (by simp only [typesD, List.mem_append]; exact .inl (.inl (.inr hd')))
  · exact same (by simp only [typesD, List.mem_append]; exact .inl (.inr (List.mem_map_of_mem he)))
  · refine ⟨_, qry_mem _, rfl, rfl, rfl, rfl, ?_, ?_, root, fun q => absurd (.inl rfl) q⟩
    · simp only [qryD, List.flatMap_append, List.length_append]
      omega
    · simp only [qryD, List.flatMap_append, List.take_left]
  · refine ⟨_, mut_mem _, rfl, rfl, rfl, rfl, ?_, ?_, root, fun q => absurd (.inr rfl) q⟩
    · simp only [mutD, List.flatMap_append, List.length_append]
      omega
    · simp only [mutD, List.flatMap_append, List.take_left]
end Go.Proofs.YtcbngkmmmfaaoaaGreatDoor
namespace Go.Proofs.YtcbngkmmmfaaoaaGreatDoor
open Go.RowKit Go.Lib Go.Ac
set_option linter.unusedSimpArgs false
set_option maxRecDepth 100000
variable {mx : Int}
theorem st54n (d : Dn) (id : Nat) (c : List PV) (hc : c.length = 5) : stoG id 5 0 (.agg d.pv) 5 (some (.cells 54 0 false c)) = some (.w .undef id (.cells 54 0 false d.pv)) := stoG_all id 5 0 54 (.agg d.pv) c hc rfl rfl
theorem ld54n (d : Dn) (r : List PV) : loadO Tryz.prog 54 (some (d.pv ++ r)) = some (.q (.agg d.pv)) := by
  rw [load_agg ag54 sz54 (by rw [List.length_append]; show 5 ≤ 5 + _; omega)]
  rw [List.take_left' (show d.pv.length = 5 from rfl)]
theorem ld58a (d : Ot) (r : List PV) : loadO Tryz.prog 58 (some (d.pv ++ r)) = some (.q (.agg d.pv)) := by
  rw [load_agg ag58 sz58 (by rw [List.length_append]; show 4 ≤ 4 + _; omega)]
  rw [List.take_left' (show d.pv.length = 4 from rfl)]
theorem fld0 (d : Dn) : loadO Tryz.prog 9 (some d.pv) = some (.q (.str d.n)) := loadO_one ag9 sz9
theorem fld1 (d : Dn) : loadO Tryz.prog 3 (some (List.drop 1 d.pv)) = some (.q (.int .i64 d.k)) := loadO_one ag3 sz3
theorem fld2 (d : Dn) : loadO Tryz.prog 43 (some (List.drop 2 d.pv)) = some (.q (rowN strV d.ws)) := loadO_one ag43 sz43
theorem fld3 (d : Dn) : loadO Tryz.prog 51 (some (List.drop 3 d.pv)) = some (.q (rowN Ot.pv d.outs)) := loadO_one ag51 sz51
theorem fld4 (d : Dn) : loadO Tryz.prog 52 (some (List.drop 4 d.pv)) = some (.q (rowN Inp.pv d.ins)) := loadO_one ag52 sz52
theorem dl5 (d : Dn) : d.pv.length = 5 := rfl
theorem goO_row {P : Program} {G : Glob} {md : FuncId → Md} {rd : Bool} {ops : Array Oper} {base i : Nat} {rest : List Oper} {d : Option Tmp} {f : Fr} {h : AH} {Q : OX → Prop} {r : Option OR} (I : PV → AH → Prop) (e : (∃ v, r = some (.q v) ∧ I v h) ∨ ∃ v id ob, r = some (.w v id ob) ∧ I v (h.set id ob)) (H : ∀ v h', I v h' → wpO P G md rd ops base (i + 1) rest (putA f d v) h' Q) : goO P G md rd ops base i rest d f h Q r := by
  rcases e with ⟨v, rfl, q⟩ | ⟨v, id, ob, rfl, q⟩
  · rw [goO_q]
    exact H _ _ q
  · rw [goO_w]
    exact H _ _ q
structure CS (s : Sc) (i : Nat) (d : Dn) (X : Nat) (F : Fr) (h : AH) : Prop where
  f3 : F.at 3 = rowV Dn.pv (typesD s)
  f5 : F.at 5 = .int .i64 i
  f6 : F.at 6 = .ptr X 5 0
  gX : h.get X = some (.cells 54 0 false d.pv)
  lt : X + 1 ≤ h.next
end Go.Proofs.YtcbngkmmmfaaoaaGreatDoor
namespace Go.Proofs.YtcbngkmmmfaaoaaGreatDoor
open Go.RowKit Go.Lib Go.Ac
set_option linter.unusedSimpArgs false
set_option maxRecDepth 100000
variable {mx : Int}

theorem g56 : Tryz.prog.eqGuardType Tryz.prog.depth 56 = false := by kernel_rfl
theorem eqS56 (p : Inp) : eqS Tryz.prog 50 56 p.pv p.pv = some true := by
  simp [eqS, Inp.pv, sz56, eqP, eqGo, Tryz.underlying56, Tryz.underlying31, show Tryz.prog.stoodInHeld 56 = false by kernel_rfl, show Tryz.prog.stoodInHeld 31 = false by kernel_rfl, sz31]
theorem ne56 (p : Inp) (h : AH) : binO Tryz.prog h .neq 56 (.agg p.pv) (.agg p.pv) = some (.q (.bool false)) := by
  have : sameV Tryz.prog 56 (.agg p.pv) (.agg p.pv) = some true := by
    simp only [sameV, Tryz.underlying56, g56, eqS56]
    rfl
  simp [binO, liveB, binV, this]
theorem ld56r (f : Inp) (r : List PV) : loadO Tryz.prog 56 (some (f.pv ++ r)) = some (.q (.agg f.pv)) := by
  rw [load_agg ag56 sz56 (by rw [List.length_append]; exact Nat.le_add_right 3 _), List.take_left' (show f.pv.length = 3 from rfl)]
def ArgR (x : PV) (l : List Inp) : Prop := x = rowV Inp.pv l ∨ (l = [] ∧ (x = .nls ∨ x = .els ∨ x = .emp))
theorem ArgR.len {x : PV} {l : List Inp} (a : ArgR x l) : lenO Tryz.prog [x] [52] = some (.q (.int .i64 l.length)) := by
  rcases a with rfl | ⟨rfl, rfl | rfl | rfl⟩
  · exact len_ro u52
  all_goals simp [lenO, lenV, u52]
theorem ArgR.at {x : PV} {l : List Inp} (a : ArgR x l) {i : Int} {o : Inp} (h0 : 0 ≤ i) (ho : l[i.toNat]? = some o) : ∃ r, ∀ h, idaO Tryz.prog h 52 x (.int .i64 i) = some (.q (.rop (o.pv ++ r))) := by
  rcases a with rfl | ⟨rfl, _⟩
  · obtain ⟨r, hr⟩ := flat_drop (f := Inp.pv) (z := 3) (fun _ => rfl) l i.toNat o ho
    have := (List.getElem?_eq_some_iff.1 ho).1
    exact ⟨r, fun h => by rw [← hr]; exact ida_roN u52 sz56 h0 (by omega)⟩
  · simp at ho
theorem ArgR.clean {x : PV} {l : List Inp} (a : ArgR x l) : x.clean = true := by
  rcases a with rfl | ⟨rfl, rfl | rfl | rfl⟩ <;> rfl
def invIns (x y : PV) (n : Nat) (k : Nat) (F : Fr) (_ : AH) : Prop := ∃ i : Nat, i + k = n ∧ F.at 0 = x ∧ F.at 1 = y ∧ F.at 5 = .int .i64 i
theorem sameIns_c {x y : PV} {l : List Inp} (hx : ArgR x l) (hy : ArgR y l) (hl : l.length ≤ 9223372036854775807) (h : AH) (fr : Nat) : CR Tryz.prog (globM mx) md (.fn 71) [x, y] h fr (.val (.bool true)) := by
  refine CR.plain (rs := [.tmp 4]) Tryz.func71 rfl rfl rfl rfl rfl (by simp [PV.cleans, hx.clean, hy.clean]) rfl ?_ h fr
  simp -implicitDefEqProofs only [wpC_seq, rowsA, if_true, if_false, opnd, ofVal, ofVal1, layArgs, Nat.reduceAdd, reduceIte, Nat.reduceEqDiff, reduceCtorEq, rowsB, cellsG, Nat.reduceMul, hx.len, hy.len]
  refine wpC_loop (invIns x y l.length) (k := l.length) ⟨0, by omega, ?_, ?_, ?_⟩ ?_
  · simp only [Fr.at_set, Nat.reduceEqDiff, reduceIte, reduceCtorEq]
  · simp only [Fr.at_set, Nat.reduceEqDiff, reduceIte, reduceCtorEq]
  · simp only [Fr.at_set, Nat.reduceEqDiff, reduceIte, reduceCtorEq]; rfl
  rintro k F h' ⟨i, hi, f0, f1, f5⟩
  cases k with
  | zero =>
    have c1 : decide ((i : Int) < (l.length : Int)) = false := decide_eq_false (by omega)
    simp -implicitDefEqProofs only [wpC_seq, rowsA, if_true, if_false, opnd, ofVal, ofVal1, layArgs, Nat.reduceAdd, reduceIte, Nat.reduceEqDiff, reduceCtorEq, rowsB, cellsG, Nat.reduceMul, f0, f1, f5, hx.len, c1]
  | succ k =>
    have c1 : decide ((i : Int) < (l.length : Int)) = true := decide_eq_true (by omega)
    obtain ⟨o, ho⟩ : ∃ o, l[i]? = some o := ⟨l[i], List.getElem?_eq_getElem (by omega)⟩
    obtain ⟨r1, hr1⟩ := hx.at (i := (i : Int)) (by omega) (by rw [Int.toNat_natCast]; exact ho)
    obtain ⟨r2, hr2⟩ := hy.at (i := (i : Int)) (by omega) (by rw [Int.toNat_natCast]; exact ho)
    have w := IntWalk.i64_in ((i : Int) + 1) (by omega)
    simp -implicitDefEqProofs only [wpC_seq, rowsA, if_true, if_false, opnd, ofVal, ofVal1, layArgs, Nat.reduceAdd, reduceIte, Nat.reduceEqDiff, reduceCtorEq, rowsB, cellsG, Nat.reduceMul, f0, f1, f5, hx.len, c1, hr1, hr2, ld56r, ne56, w]
    refine ⟨k, by omega, i + 1, by omega, ?_, ?_, ?_⟩
    · simp only [Fr.at_set, Nat.reduceEqDiff, reduceIte, reduceCtorEq, f0]
    · simp only [Fr.at_set, Nat.reduceEqDiff, reduceIte, reduceCtorEq, f1]
    · simp only [Fr.at_set, Nat.reduceEqDiff, reduceIte, reduceCtorEq]; rfl
end Go.Proofs.YtcbngkmmmfaaoaaGreatDoor
namespace Go.Proofs.YtcbngkmmmfaaoaaGreatDoor
open Go.RowKit Go.Lib Go.Ac
set_option linter.unusedSimpArgs false
set_option maxRecDepth 100000
variable {mx : Int}

theorem eqS31 (a b : List UInt8) : eqS Tryz.prog 50 31 [.str a, .str b] [.str a, .str b] = some true := by
  simp [eqS, eqP, eqGo, Tryz.underlying31, u9, show Tryz.prog.stoodInHeld 31 = false by kernel_rfl, sz31]
theorem eq31 (a b : List UInt8) (h : AH) : binO Tryz.prog h .eql 31 (.agg [.str a, .str b]) (.agg [.str a, .str b]) = some (.q (.bool true)) := by
  have : sameV Tryz.prog 31 (.agg [.str a, .str b]) (.agg [.str a, .str b]) = some true := by
    simp only [sameV, Tryz.underlying31, show Tryz.prog.eqGuardType Tryz.prog.depth 31 = false by kernel_rfl, eqS31]
    rfl
  simp [binO, liveB, binV, this]
def outC (n t w : List UInt8) (x : PV) : List PV := [.str n, .str t, .str w, x]
theorem outC_len (n t w : List UInt8) (x : PV) : (outC n t w x).length = 4 := rfl
theorem ldo0 (n t w : List UInt8) (x : PV) : loadO Tryz.prog 9 (some (outC n t w x)) = some (.q (.str n)) := loadO_one ag9 sz9
theorem ldo1 (n t w : List UInt8) (x : PV) : loadO Tryz.prog 31 (some (List.drop 1 (outC n t w x))) = some (.q (.agg [.str t, .str w])) := load_agg (c := List.drop 1 (outC n t w x)) ag31 sz31 (by show 2 ≤ 3; omega)
theorem ldo3 (n t w : List UInt8) (x : PV) : loadO Tryz.prog 52 (some (List.drop 3 (outC n t w x))) = some (.q x) := loadO_one ag52 sz52
theorem sameOut_c (n t w : List UInt8) {x y : PV} {l : List Inp} (hx : ArgR x l) (hy : ArgR y l) (hl : l.length ≤ 9223372036854775807) (h : AH) (fr : Nat) : CR Tryz.prog (globM mx) md (.fn 35) [.agg (outC n t w x), .agg (outC n t w y)] h fr (.val (.bool true)) := by
  refine CR.plain (rs := [.tmp 4]) Tryz.func35 rfl rfl rfl rfl rfl (by simp [PV.cleans, PV.clean, outC, hx.clean, hy.clean]) rfl ?_ h fr
  simp -implicitDefEqProofs only [wpC_seq, rowsA, if_true, if_false, opnd, ofVal, ofVal1, layArgs, Nat.reduceAdd, reduceIte, Nat.reduceEqDiff, reduceCtorEq, rowsB, cellsG, Nat.reduceMul, outC_len, fda_ptr o58_0, fda_ptr o58_1, fda_ptr o58_2, ldo0, ldo1, ldo3, eq31, goO_known (sameIns_c hx hy hl)]
end Go.Proofs.YtcbngkmmmfaaoaaGreatDoor
namespace Go.Proofs.YtcbngkmmmfaaoaaGreatDoor
open Go.RowKit Go.Lib Go.Ac
set_option linter.unusedSimpArgs false
set_option maxRecDepth 100000
variable {mx : Int}
def invTx (x y : PV) (n : Nat) (k : Nat) (F : Fr) (_ : AH) : Prop := ∃ i : Nat, i + k = n ∧ F.at 0 = x ∧ F.at 1 = y ∧ F.at 5 = .int .i64 i
theorem sameTexts_c {x y : PV} {l : List (List UInt8)} (hx : RowR strV x l) (hy : RowR strV y l) (hl : l.length ≤ 1000000000) (h : AH) (fr : Nat) : CR Tryz.prog (globM mx) md (.fn 70) [x, y] h fr (.val (.bool true)) := by
  refine CR.plain (rs := [.tmp 4]) Tryz.func70 rfl rfl rfl rfl rfl (by simp [PV.cleans, hx.clean, hy.clean]) rfl ?_ h fr
  simp -implicitDefEqProofs only [wpC_seq, rowsA, if_true, if_false, opnd, ofVal, ofVal1, layArgs, Nat.reduceAdd, reduceIte, Nat.reduceEqDiff, reduceCtorEq, rowsB, cellsG, Nat.reduceMul, lenR u43 hx, lenR u43 hy]
  refine wpC_loop (invTx x y l.length) (k := l.length) ⟨0, by omega, ?_, ?_, ?_⟩ ?_
  · simp only [Fr.at_set, Nat.reduceEqDiff, reduceIte, reduceCtorEq]
  · simp only [Fr.at_set, Nat.reduceEqDiff, reduceIte, reduceCtorEq]
  · simp only [Fr.at_set, Nat.reduceEqDiff, reduceIte, reduceCtorEq]; rfl
  rintro k F h' ⟨i, hi, f0, f1, f5⟩
  cases k with
  | zero =>
    have c1 : ¬ ((i : Int) < (l.length : Int)) := by omega
    simp -implicitDefEqProofs only [wpC_seq, rowsA, if_true, if_false, opnd, ofVal, ofVal1, layArgs, Nat.reduceAdd, reduceIte, Nat.reduceEqDiff, reduceCtorEq, rowsB, cellsG, Nat.reduceMul, f0, f1, f5, lenR u43 hx, c1]
  | succ k =>
    have c1 : (i : Int) < (l.length : Int) := by omega
    have hpos : 0 < l.length := by omega
    obtain ⟨o, ho⟩ : ∃ o, l[i]? = some o := ⟨l[i], List.getElem?_eq_getElem (by omega)⟩
    obtain ⟨r1, hr1⟩ := ix43 (l := l) (i := (i : Int)) (by omega) (by rw [Int.toNat_natCast]; exact ho)
    obtain rfl : x = rowV strV l := by
      rcases hx with q | ⟨rfl, _⟩
      · exact q
      · cases hpos
    obtain rfl : y = rowV strV l := by
      rcases hy with q | ⟨rfl, _⟩
      · exact q
      · cases hpos
    have w := IntWalk.i64_in ((i : Int) + 1) (by omega)
    simp -implicitDefEqProofs only [wpC_seq, rowsA, if_true, if_false, opnd, ofVal, ofVal1, layArgs, Nat.reduceAdd, reduceIte, Nat.reduceEqDiff, reduceCtorEq, rowsB, cellsG, Nat.reduceMul, f0, f1, f5, lenR u43 hx, c1, hr1, w]
    simp -implicitDefEqProofs only [wpC_seq, rowsA, if_true, if_false, opnd, ofVal, ofVal1, layArgs, Nat.reduceAdd, reduceIte, Nat.reduceEqDiff, reduceCtorEq, rowsB, cellsG, Nat.reduceMul, rowsR, f0, f1, f5, c1, hr1, w]
    refine ⟨k, by omega, i + 1, by omega, ?_, ?_, ?_⟩
    · simp only [Fr.at_set, Nat.reduceEqDiff, reduceIte, reduceCtorEq, f0]
    · simp only [Fr.at_set, Nat.reduceEqDiff, reduceIte, reduceCtorEq, f1]
    · simp only [Fr.at_set, Nat.reduceEqDiff, reduceIte, reduceCtorEq]; rfl
theorem argR_N (l : List Inp) : ArgR (rowN Inp.pv l) l := by
  rcases rowN_row Inp.pv l with q | ⟨q, q' | q'⟩
  · exact .inl q
  · exact .inr ⟨q, .inl q'⟩
  · exact .inr ⟨q, .inr (.inl q')⟩
theorem sameOt_c (o : Ot) (hl : o.args.length ≤ 1000000) (h : AH) (fr : Nat) : CR Tryz.prog (globM mx) md (.fn 35) [.agg o.pv, .agg o.pv] h fr (.val (.bool true)) :=
  sameOut_c o.n o.t o.w (argR_N o.args) (argR_N o.args) (by omega) h fr
structure DF (d : Dn) : Prop where
  ws : d.ws.length ≤ 1000000
  ins : d.ins.length ≤ 1000000
  outs : d.outs.length ≤ 1000000
  args : ∀ p ∈ d.outs, p.args.length ≤ 1000000
def invS1 (l : List Dn) (k : Nat) (F : Fr) (_ : AH) : Prop := ∃ i : Nat, k + i = l.length ∧ F.at 0 = rowV Dn.pv l ∧ F.at 1 = rowV Dn.pv l ∧ F.at 5 = .int .i64 i
def invS2 (l : List Dn) (i : Nat) (d : Dn) (X Y : Nat) (k : Nat) (F : Fr) (h : AH) : Prop := ∃ j : Nat, k + j = d.outs.length ∧ F.at 0 = rowV Dn.pv l ∧ F.at 1 = rowV Dn.pv l ∧ F.at 5 = .int .i64 i ∧ F.at 6 = .ptr X 5 0 ∧ F.at 7 = .ptr Y 5 0 ∧ F.at 8 = .int .i64 j ∧
  h.get X = some (.cells 54 0 false d.pv) ∧ h.get Y = some (.cells 54 0 false d.pv)
set_option maxHeartbeats 1000000 in
theorem sameDn_c {l : List Dn} (hl : l.length ≤ 1000000) (hf : ∀ d ∈ l, DF d) (h : AH) (fr : Nat) : CR Tryz.prog (globM mx) md (.fn 29) [rowV Dn.pv l, rowV Dn.pv l] h fr (.val (.bool true)) := by
  refine CR.plain (rs := [.tmp 4]) Tryz.func29 rfl rfl rfl rfl rfl rfl rfl ?_ h fr
  simp -implicitDefEqProofs only [wpC_seq, rowsA, if_true, if_false, opnd, ofVal, ofVal1, layArgs, Nat.reduceAdd, reduceIte, Nat.reduceEqDiff, reduceCtorEq, rowsB, cellsG, Nat.reduceMul, ln47n]
  refine wpC_loop (invS1 l) (k := l.length) ⟨0, by omega, ?_, ?_, ?_⟩ ?_
  · simp only [Fr.at_set, Nat.reduceEqDiff, reduceIte]
  · simp only [Fr.at_set, Nat.reduceEqDiff, reduceIte]
  · simp only [Fr.at_set, Nat.reduceEqDiff, reduceIte]; rfl
  rintro k F h ⟨i, ki, f0, f1, f5⟩
  cases k with
  | zero =>
    have c2 : ¬ ((i : Int) < (l.length : Int)) := by omega
    simp -implicitDefEqProofs only [wpC_seq, rowsA, if_true, if_false, opnd, ofVal, ofVal1, layArgs, Nat.reduceAdd, reduceIte, Nat.reduceEqDiff, reduceCtorEq, rowsB, cellsG, Nat.reduceMul, f0, f1, f5, ln47n, c2]
  | succ k =>
    have c2 : (i : Int) < (l.length : Int) := by omega
    obtain ⟨d, hd⟩ : ∃ d, l[i]? = some d := ⟨_, List.getElem?_eq_getElem (show i < l.length by omega)⟩
    obtain ⟨l1, l2, l3, l4⟩ := hf d (List.mem_of_getElem? hd)
    obtain ⟨r, hr⟩ := ix47n (l := l) (i := (i : Int)) (by omega) (by rw [Int.toNat_natCast]; exact hd)
    have w := IntWalk.i64_in ((i : Int) + 1) (by omega)
    have kt := sameTexts_c (mx := mx) (rowN_row strV d.ws) (rowN_row strV d.ws) (by omega)
    have ki' := sameIns_c (mx := mx) (argR_N d.ins) (argR_N d.ins) (by omega)
    simp -implicitDefEqProofs only [wpC_seq, rowsA, if_true, if_false, opnd, ofVal, ofVal1, layArgs, Nat.reduceAdd, reduceIte, Nat.reduceEqDiff, reduceCtorEq, rowsB, cellsG, Nat.reduceMul, f0, f1, f5, ln47n, c2, hr, ld54n, al54, sz54, st54n, dl5, Nat.left_eq_add, Nat.add_eq_left]
    rw [goD_sl (by omega) [6, 7] (by kernel_rfl) (by kernel_rfl) ?_ (by kernel_rfl)]
    rotate_left
    · intro j hj
      simp only [List.mem_cons, List.not_mem_nil, or_false] at hj
      refine ⟨by omega, fun o ho => ?_⟩
      rcases hj with rfl | rfl
      all_goals
        simp only [List.getElem?_toArray, List.getElem?_cons_zero, List.getElem?_cons_succ, Option.some.injEq] at ho
        subst ho
        simp [foot, Op.operands, opnd, Fr.at_set, footV, rowV]
    simp -implicitDefEqProofs only [wpC_seq, rowsA, if_true, if_false, opnd, ofVal, ofVal1, layArgs, Nat.reduceAdd, reduceIte, Nat.reduceEqDiff, reduceCtorEq, rowsB, cellsG, Nat.reduceMul, rowsR, gdD_log, foot_st, footV_ptr, f0, f1, f5, ln47n, c2, hr, ld54n, al54, sz54, st54n, dl5, Nat.left_eq_add, Nat.add_eq_left]
    refine ⟨by kernel_rfl, ?_⟩
    rw [goD_st (by omega) (by kernel_rfl)]
    have eL : lenO Tryz.prog [rowN Ot.pv d.outs] [51] = some (.q (.int .i64 d.outs.length)) := lenR u51 (rowN_row Ot.pv _)
    simp -implicitDefEqProofs only [wpC_seq, rowsA, if_true, if_false, opnd, ofVal, ofVal1, layArgs, Nat.reduceAdd, reduceIte, Nat.reduceEqDiff, reduceCtorEq, rowsB, cellsG, Nat.reduceMul, rowsR, f0, f1, f5, dl5, fda_ptr o54_0, fda_ptr o54_1, fda_ptr o54_2, fda_ptr o54_3, fda_ptr o54_4, fld0, fld1, fld2, fld3, fld4, goO_known kt, goO_known ki', eL, Nat.left_eq_add, Nat.add_eq_left]
    refine wpC_loop (invS2 l i d (h.next + 12) (h.next + 13)) (k := d.outs.length) ⟨0, by omega, ?_, ?_, ?_, ?_, ?_, ?_, ?_, ?_⟩ ?_
    · simp only [Fr.at_set, Nat.reduceEqDiff, reduceIte, f0]
    · simp only [Fr.at_set, Nat.reduceEqDiff, reduceIte, f1]
    · simp only [Fr.at_set, Nat.reduceEqDiff, reduceIte, f5]
    · simp only [Fr.at_set, Nat.reduceEqDiff, reduceIte]
    · simp only [Fr.at_set, Nat.reduceEqDiff, reduceIte]
    · simp only [Fr.at_set, Nat.reduceEqDiff, reduceIte]; rfl
    · simp only [AH.get_set, AH.get_up]
      rw [if_neg (by omega)]
      simp only [if_true]
    · simp only [AH.get_set, AH.get_up]
      simp only [if_true]
    clear f0 f1 f5
    generalize h.next + 12 = X
    generalize h.next + 13 = Y
    clear h
    rintro k2 F h ⟨j, kj, f0, f1, f5, f6, f7, f8, gX, gY⟩
    cases k2 with
    | zero =>
      have c3 : ¬ ((j : Int) < (d.outs.length : Int)) := by omega
      simp -implicitDefEqProofs only [wpC_seq, rowsA, if_true, if_false, opnd, ofVal, ofVal1, layArgs, Nat.reduceAdd, reduceIte, Nat.reduceEqDiff, reduceCtorEq, rowsB, cellsG, Nat.reduceMul, f0, f1, f5, f6, f7, f8, gX, gY, dl5, fda_ptr o54_3, fld3, eL, c3, w]
      refine ⟨k, by omega, i + 1, by omega, ?_, ?_, ?_⟩
      · simp only [Fr.at_set, Nat.reduceEqDiff, reduceIte, f0]
      · simp only [Fr.at_set, Nat.reduceEqDiff, reduceIte, f1]
      · simp only [Fr.at_set, Nat.reduceEqDiff, reduceIte]; rfl
    | succ k2 =>
      have c3 : (j : Int) < (d.outs.length : Int) := by omega
      have w' := IntWalk.i64_in ((j : Int) + 1) (by omega)
      have hrow : rowN Ot.pv d.outs = rowV Ot.pv d.outs := rowN_pos (by omega)
      rw [hrow] at eL
      obtain ⟨p, hp⟩ : ∃ p, d.outs[j]? = some p := ⟨_, List.getElem?_eq_getElem (show j < d.outs.length by omega)⟩
      obtain ⟨r2, hr2⟩ := ix51n (l := d.outs) (i := (j : Int)) (by omega) (by rw [Int.toNat_natCast]; exact hp)
      have ko := sameOt_c (mx := mx) p (l4 p (List.mem_of_getElem? hp))
      simp -implicitDefEqProofs only [wpC_seq, rowsA, if_true, if_false, opnd, ofVal, ofVal1, layArgs, Nat.reduceAdd, reduceIte, Nat.reduceEqDiff, reduceCtorEq, rowsB, cellsG, Nat.reduceMul, f0, f1, f5, f6, f7, f8, gX, gY, dl5, fda_ptr o54_3, fld3, hrow, eL, c3, hr2, ld58a, goD_known ko, w']
      refine ⟨k2, by omega, j + 1, by omega, ?_, ?_, ?_, ?_, ?_, ?_, ?_, ?_⟩
      · simp only [Fr.at_set, Nat.reduceEqDiff, reduceIte, f0]
      · simp only [Fr.at_set, Nat.reduceEqDiff, reduceIte, f1]
      · simp only [Fr.at_set, Nat.reduceEqDiff, reduceIte, f5]
      · simp only [Fr.at_set, Nat.reduceEqDiff, reduceIte, f6]
      · simp only [Fr.at_set, Nat.reduceEqDiff, reduceIte, f7]
      · simp only [Fr.at_set, Nat.reduceEqDiff, reduceIte]; rfl
      · simp only [AH.get_up]; exact gX
      · simp only [AH.get_up]; exact gY
end Go.Proofs.YtcbngkmmmfaaoaaGreatDoor
namespace Go.Proofs.YtcbngkmmmfaaoaaGreatDoor
open Go.RowKit Go.Lib Go.Ac
set_option linter.unusedSimpArgs false
set_option maxRecDepth 100000
variable {mx : Int}
theorem flat_takeN {α : Type} (f : α → List PV) {z : Nat} (hz : ∀ x, (f x).length = z) : ∀ (l : List α) (n : Nat), (flat f l).take (n * z) = flat f (l.take n)
  | [], n => by simp [flat]
  | x :: l, 0 => by simp [flat]
  | x :: l, n + 1 => by
    rw [List.take_succ_cons, flat, flat, List.take_append, hz, Nat.add_mul, Nat.one_mul, Nat.add_sub_cancel, flat_takeN f hz l n, List.take_of_length_le (by rw [hz]; omega)]
theorem sl51 {l : List Ot} {n : Nat} (h0 : 0 < n) (hn : n ≤ l.length) (h : AH) : (if liveB h (rowV Ot.pv l) && sizeB Tryz.prog h 51 (rowV Ot.pv l) then (sliceV Tryz.prog 51 (rowV Ot.pv l) none (some (.int .i64 (n : Int))) none).map OR.q else none) = some (.q (rowV Ot.pv (l.take n))) := by
  have hlen : (flat Ot.pv l).length = l.length * 4 := flat_len (f := Ot.pv) (fun _ => rfl) l
  have e : liveB h (rowV Ot.pv l) = true := rfl
  have e' : sizeB Tryz.prog h 51 (rowV Ot.pv l) = true := rfl
  rw [e, e', Bool.and_self, if_pos rfl]
  simp only [rowV, sliceV, u51, sz58, hlen, if_true, boundD, bound, Option.bind_some]
  rw [if_pos (by omega)]
  simp only [Option.bind_some, Int.toNat_natCast, Nat.zero_mul, List.drop_zero, Nat.sub_zero]
  rw [if_neg (by omega), flat_takeN Ot.pv (fun _ => rfl), List.length_take, Nat.min_eq_left hn]
  rfl
theorem sl47 {l : List Dn} {i : Nat} {d : Dn} (hd : l[i]? = some d) (h : AH) : (if liveB h (rowV Dn.pv l) && sizeB Tryz.prog h 47 (rowV Dn.pv l) then (sliceV Tryz.prog 47 (rowV Dn.pv l) (some (.int .i64 (i : Int))) (some (.int .i64 ((i : Int) + 1))) none).map OR.q else none) = some (.q (rowV Dn.pv [d])) := by
  have hlen : (flat Dn.pv l).length = l.length * 5 := flat_len (f := Dn.pv) (fun _ => rfl) l
  have hi := (List.getElem?_eq_some_iff.1 hd).1
  obtain ⟨r, hr⟩ := flat_drop (f := Dn.pv) (z := 5) (fun _ => rfl) l i d hd
  have e : liveB h (rowV Dn.pv l) = true := rfl
  have e' : sizeB Tryz.prog h 47 (rowV Dn.pv l) = true := rfl
  rw [e, e', Bool.and_self, if_pos rfl]
  simp only [rowV, sliceV, u47, sz54, hlen, if_true, boundD, bound, Option.bind_some]
  rw [if_pos (by omega)]
  simp only [Option.bind_some]
  rw [if_pos (by omega)]
  simp only [Option.bind_some, Int.toNat_natCast]
  rw [show ((i : Int) + 1).toNat = i + 1 by omega, if_neg (by omega), hr, show i + 1 - i = 1 by omega, List.take_left' (show d.pv.length = 1 * 5 from rfl)]
  rfl
theorem st54o (d : Dn) (l : List Ot) (id : Nat) : stoG id 5 3 (rowV Ot.pv l) 1 (some (.cells 54 0 false d.pv)) = some (.w .undef id (.cells 54 0 false [.str d.n, .int .i64 d.k, rowN strV d.ws, rowV Ot.pv l, rowN Inp.pv d.ins])) := rfl
theorem bd47_1x (fr : Nat) (a : List UInt8) (k : Int) (u v w : PV) : buildO Tryz.prog fr 47 1 [(0, .agg [.str a, .int .i64 k, u, v, w])] = some (.w (.ow fr 5 0 1) fr (.cells 54 5 false [.str a, .int .i64 k, u, v, w])) := by kernel_rfl
theorem bd47_1d (fr : Nat) (d : Dn) : buildO Tryz.prog fr 47 1 [(0, .agg d.pv)] = some (.w (.ow fr 5 0 1) fr (.cells 54 5 false d.pv)) := bd47_1x ..
theorem ld54p (d : Dn) : loadO Tryz.prog 54 (some d.pv) = some (.q (.agg d.pv)) := load_agg (c := d.pv) ag54 sz54 (Nat.le_refl 5)
def oneS (s : Sc) (name : List UInt8) : Sc := ⟨s.os ++ [oneX name], s.es⟩
theorem fits_oneS {s : Sc} (name : List UInt8) (hf : s.fit) : (oneS s name).fits := by
  have hs := hf.fits
  have hb := hf.2.2.2.2.1
  exact ⟨by simp only [oneS, List.length_append, List.length_cons, List.length_nil]; omega, hs.2.1, fun o ho => by
    rcases List.mem_append.1 ho with q | q
    · exact hs.2.2 o q
    · rw [List.mem_singleton.1 q]
      show 1 ≤ _
      decide⟩
theorem ap22o (s : Sc) (hb : s.os.length * 40 ≤ 140737488351232) (h : AH) (fr : Nat) : (s.os.length = 0 ∧ appO Tryz.prog h fr [.els, rowV Ob.pv s.os] [22, 22] = some (.q .els)) ∨ (0 < s.os.length ∧ appO Tryz.prog h fr [.els, rowV Ob.pv s.os] [22, 22] = some (.w (.ow fr (s.os.length * 2) 0 s.os.length) fr (.cells 41 2 false (flat Ob.pv s.os)))) := by
  by_cases h0 : 0 < s.os.length
  · exact .inr ⟨h0, ap_new u22 i41 (by decide) (.inr rfl) (cellR_ro (flat_len (f := Ob.pv) (fun _ => rfl) s.os)) h0 (by omega) (by omega)⟩
  · have e : s.os = [] := List.eq_nil_of_length_eq_zero (by omega)
    refine .inl ⟨by omega, ?_⟩
    rw [e]
    exact ap_none u22 i41 (by decide) (.inr (.inl rfl)) (xs := []) rfl
def invM (s t : Sc) (k : Nat) (F : Fr) (_h : AH) : Prop := ∃ i : Nat, k + i = (typesD s).length ∧ F.at 6 = rowV Dn.pv (typesD s) ∧ F.at 8 = rowV Dn.pv (typesD t) ∧ F.at 10 = .int .i64 i
def BothQ (n : Nat) (s : Sc) (name : List UInt8) (v : PV) (H : AH) : Prop := H.next = 18 ∧ H.get 0 = some (.cells 25 0 false s.pv) ∧ H.get 3 = some (.cells 25 0 false s.pv) ∧ H.get 12 = some (.cells 33 5 false fldX.pv) ∧ ∃ R, v = .ow R (n * 2) 0 n ∧ (R = 8 ∨ R = 15) ∧ H.get R = some (.cells 41 2 false (flat Ob.pv s.os ++ [.str name, .ow 12 5 0 1]))
set_option maxHeartbeats 2000000 in
theorem genMore_c {s : Sc} (hf : s.fit) (name : List UInt8) (hn : name.length ≤ 140737488355328) (h : AH) (fr : Nat) : CR Tryz.prog (globM mx) md (.fn 13) [.agg s.pv, .str name] h fr (.val (.bool true)) := by
  have hs := hf.fits
  have hm := hf.small
  have hb := hf.2.2.2.2.1
  refine CR.plain (rs := [.tmp 4]) Tryz.func13 rfl rfl rfl rfl rfl rfl rfl ?_ h fr
  simp -implicitDefEqProofs only [wpC_seq, rowsA, if_true, if_false, opnd, ofVal, ofVal1, layArgs, Nat.reduceAdd, reduceIte, Nat.reduceEqDiff, reduceCtorEq, rowsB, cellsG, Nat.reduceMul, rowsS, List.drop_drop, ld25 s, al25, sz25, st25 s, bd22_0]
  refine goO_row (fun v H => H.next = 18 ∧ H.get 0 = some (.cells 25 0 false s.pv) ∧ H.get 3 = some (.cells 25 0 false s.pv) ∧ ((s.os.length = 0 ∧ v = .els) ∨ (0 < s.os.length ∧ v = .ow 8 (s.os.length * 2) 0 s.os.length ∧ H.get 8 = some (.cells 41 2 false (flat Ob.pv s.os))))) ?_ ?_
  · rcases ap22o s hb _ _ with ⟨q1, q2⟩ | ⟨q1, q2⟩
    · exact .inl ⟨_, q2, rfl, by simp only [AH.get_set, AH.get_up, Nat.reduceEqDiff, if_true, if_false], by simp only [AH.get_set, AH.get_up, Nat.reduceEqDiff, if_true, if_false], .inl ⟨q1, rfl⟩⟩
    · exact .inr ⟨_, _, _, q2, rfl, by simp only [AH.get_set, AH.get_up, Nat.reduceEqDiff, if_true, if_false], by simp only [AH.get_set, AH.get_up, Nat.reduceEqDiff, if_true, if_false], .inr ⟨q1, rfl, by simp only [AH.get_set, if_true]⟩⟩
  rintro v H ⟨n0, g0, g3, hv⟩
  simp -implicitDefEqProofs only [wpC_seq, rowsA, if_true, if_false, opnd, ofVal, ofVal1, layArgs, Nat.reduceAdd, reduceIte, Nat.reduceEqDiff, reduceCtorEq, rowsB, cellsG, Nat.reduceMul, bld31, bld33, bd39_1, bld41, bd22_1]
  refine goO_row (BothQ (s.os.length + 1) s name) ?_ ?_
  · rcases hv with ⟨q0, rfl⟩ | ⟨q0, rfl, g8⟩
    · have e : s.os = [] := List.eq_nil_of_length_eq_zero q0
      refine .inr ⟨_, _, _, ap_new u22 i41 (by decide) (.inr rfl) (n := 1) (xs := [.str name, .ow 12 5 0 1]) (cellR_ow (n := 1) (by simp only [AH.get_set, AH.get_up, Nat.reduceEqDiff, if_true, if_false]; rfl) rfl) (by decide) (by decide) (by decide), by simp only [AH.next_set]; exact n0, by simp only [AH.get_set, Nat.reduceEqDiff, if_false]; exact g0, by simp only [AH.get_set, Nat.reduceEqDiff, if_false]; exact g3, by simp only [AH.get_set, Nat.reduceEqDiff, if_true, if_false]; rfl, 15, by rw [q0], .inr rfl, ?_⟩
      simp only [AH.get_set, if_true, e, flat, List.nil_append]
    · refine .inr ⟨_, _, _, ap_more (P := Tryz.prog) (sz := 2) (id := 8) (m := s.os.length) (d := flat Ob.pv s.os) (n := 1) (x := .ow 14 2 0 1) (xs := [.str name, .ow 12 5 0 1]) u22 i41 (by decide) (by simp only [AH.get_set, Nat.reduceEqDiff, if_false]; exact g8) (flat_len (f := Ob.pv) (fun _ => rfl) s.os) (cellR_ow (n := 1) (by simp only [AH.get_set, AH.get_up, Nat.reduceEqDiff, if_true, if_false]; rfl) rfl) (by decide) (by omega) (by omega), by simp only [AH.next_set]; exact n0, by simp only [AH.get_set, Nat.reduceEqDiff, if_false]; exact g0, by simp only [AH.get_set, Nat.reduceEqDiff, if_false]; exact g3, by simp only [AH.get_set, Nat.reduceEqDiff, if_true, if_false]; rfl, 8, rfl, .inl rfl, ?_⟩
      simp only [AH.get_set, if_true]
  clear hv g0 g3 n0
  rintro v' H ⟨n0, g0, g3, g12, R, rfl, hR, gR⟩
  have ldT := fun (id a b c : Nat) => load_agg (c := [.ow id a b c, rowV En.pv s.es]) ag25 sz25 (Nat.le_refl 2)
  have eT : Sc.pv (oneS s name) = [.ro (flat Ob.pv s.os ++ Ob.pv (oneX name)) (s.os.length + 1), rowV En.pv s.es] := by simp [oneS, Sc.pv, rowV, flat_app, flat]
  obtain ⟨a, e, kT, he⟩ : ∃ a e, (∀ h fr, CR Tryz.prog (globM mx) md (.fn 28) [.agg [.ro (flat Ob.pv s.os ++ Ob.pv (oneX name)) (s.os.length + 1), rowV En.pv s.es]] h fr (.val (.tup [a, .int .i64 e]))) ∧ ((e = 0 ∧ checkV mx (oneS s name) = 0 ∧ a = rowV Dn.pv (typesD (oneS s name))) ∨ e ≠ 0) := by
    rw [← eT]
    by_cases c2 : checkV mx (oneS s name) = 0
    · exact ⟨_, _, types_c (fits_oneS name hf) (small_more hm hn) c2, .inl ⟨rfl, c2, rfl⟩⟩
    · exact ⟨_, _, types_no (fits_oneS name hf) (small_more hm hn) c2, .inr c2⟩
  have nR : R ≠ 3 := by omega
  have rdT : ∀ H' : AH, H'.get R = some (.cells 41 2 false (flat Ob.pv s.os ++ [.str name, .ow 12 5 0 1])) → H'.get 12 = some (.cells 33 5 false fldX.pv) → RdL (Rd (fun _ => True) H' 100) [.agg [.ow R ((s.os.length + 1) * 2) 0 (s.os.length + 1), rowV En.pv s.es]] [.agg [.ro (flat Ob.pv s.os ++ Ob.pv (oneX name)) (s.os.length + 1), rowV En.pv s.es]] := fun H' q1 q2 =>
    ⟨Rd.agg ⟨Rd.row (n := s.os.length + 1) (sz := 2) trivial q1 (by rw [List.length_append, flat_len (f := Ob.pv) (z := 2) (fun _ => rfl), Nat.add_mul]; rfl) ((RdL.of_clean (flat_clean Ob.cl s.os)).append ⟨Rd.of_clean rfl, Rd.row (n := 1) (sz := 5) (c := fldX.pv) trivial q2 rfl (RdL.of_clean rfl), trivial⟩), Rd.of_clean rfl, trivial⟩ rfl, trivial⟩
  by_cases c1 : checkV mx s = 0
  rotate_left
  · simp -implicitDefEqProofs only [wpC_seq, rowsA, if_true, if_false, opnd, ofVal, ofVal1, layArgs, Nat.reduceAdd, reduceIte, Nat.reduceEqDiff, reduceCtorEq, rowsB, cellsG, Nat.reduceMul, rowsS, List.drop_drop, g0, g3, ld25 s, sz22, st25a, goO_known (types_no (mx := mx) hs hm c1), ldT]
    refine goO_val (via_rd (p := fun _ => True) Tryz.func28 rfl rfl rfl rfl (rdT _ ?_ ?_) kT) ?_
    · simp only [AH.get_set, AH.get_up]; rw [if_neg nR]; exact gR
    · simp only [AH.get_set, AH.get_up, Nat.reduceEqDiff, if_false]; exact g12
    rintro _ h2 ⟨rfl, _⟩
    simp -implicitDefEqProofs only [wpC_seq, rowsA, if_true, if_false, opnd, ofVal, ofVal1, layArgs, Nat.reduceAdd, reduceIte, Nat.reduceEqDiff, reduceCtorEq, rowsB, cellsG, Nat.reduceMul, goO_known fixed10g_c, c1]
  simp -implicitDefEqProofs only [wpC_seq, rowsA, if_true, if_false, opnd, ofVal, ofVal1, layArgs, Nat.reduceAdd, reduceIte, Nat.reduceEqDiff, reduceCtorEq, rowsB, cellsG, Nat.reduceMul, rowsS, List.drop_drop, g0, g3, ld25 s, sz22, st25a, goO_known (types_c (mx := mx) hs hm c1), ldT]
  refine goO_val (via_rd (p := fun _ => True) Tryz.func28 rfl rfl rfl rfl (rdT _ ?_ ?_) kT) ?_
  · simp only [AH.get_set, AH.get_up]; rw [if_neg nR]; exact gR
  · simp only [AH.get_set, AH.get_up, Nat.reduceEqDiff, if_false]; exact g12
  rintro _ h2 ⟨rfl, _⟩
  rcases he with ⟨rfl, c2, rfl⟩ | he
  rotate_left
  · simp -implicitDefEqProofs only [wpC_seq, rowsA, if_true, if_false, opnd, ofVal, ofVal1, layArgs, Nat.reduceAdd, reduceIte, Nat.reduceEqDiff, reduceCtorEq, rowsB, cellsG, Nat.reduceMul, goO_known fixed10g_c, he]
  simp -implicitDefEqProofs only [wpC_seq, rowsA, if_true, if_false, opnd, ofVal, ofVal1, layArgs, Nat.reduceAdd, reduceIte, Nat.reduceEqDiff, reduceCtorEq, rowsB, cellsG, Nat.reduceMul, goO_known fixed10g_c]
  clear kT rdT eT ldT n0 g0 g3 g12 gR nR hR
  have ok := check_0.1 c1
  have ok' := check_0.1 c2
  have fit := types_fit ok
  have fit' := types_fit ok'
  have hlen := types_len s
  have hlen' : (typesD (oneS s name)).length = (typesD s).length + 6 := by
    rw [types_len, types_len]
    simp only [oneS, List.length_append, List.length_cons, List.length_nil]
    omega
  have hL' : (typesD (oneS s name)).length ≤ 9223372036854775807 := Nat.le_trans fit'.1 (by decide)
  have hL := fit.1
  refine wpC_loop (invM s (oneS s name)) (k := (typesD s).length) ⟨0, by omega, ?_, ?_, ?_⟩ ?_
  · simp only [Fr.at_set, Nat.reduceEqDiff, reduceIte]
  · simp only [Fr.at_set, Nat.reduceEqDiff, reduceIte]
  · simp only [Fr.at_set, Nat.reduceEqDiff, reduceIte]; rfl
  rintro k F h ⟨i, ki, f6, f8, f10⟩
  cases k with
  | zero =>
    have c3 : ¬ ((i : Int) < ((typesD s).length : Int)) := by omega
    have w6 := IntWalk.i64_in (((typesD s).length : Int) + 6) (by omega)
    have e6 : (((typesD (oneS s name)).length : Int) = ((typesD s).length : Int) + 6) := by omega
    simp -implicitDefEqProofs only [wpC_seq, rowsA, if_true, if_false, opnd, ofVal, ofVal1, layArgs, Nat.reduceAdd, reduceIte, Nat.reduceEqDiff, reduceCtorEq, rowsB, cellsG, Nat.reduceMul, f6, f8, f10, ln47n, c3, w6, eq_true e6, decide_true]
  | succ k =>
    have c3 : (i : Int) < ((typesD s).length : Int) := by omega
    obtain ⟨d, hd⟩ : ∃ d, (typesD s)[i]? = some d := ⟨_, List.getElem?_eq_getElem (show i < (typesD s).length by omega)⟩
    have hdm := List.mem_of_getElem? hd
    obtain ⟨d', hdm', q⟩ := types_more ok (oneX name) hdm
    obtain ⟨m, m1, m2⟩ := types_in ok' hdm'
    have m4 := (List.getElem?_eq_some_iff.1 m1).1
    have lens := types_lens ok hdm
    have dfd : DF d := ⟨lens.1, lens.2, (fit.2 d hdm).2.1, (fit.2 d hdm).2.2⟩
    have dfd' := (fit'.2 d' hdm').2.1
    obtain ⟨r, hr⟩ := ix47n (l := typesD s) (i := (i : Int)) (by omega) (by rw [Int.toNat_natCast]; exact hd)
    obtain ⟨r', hr'⟩ := ix47n (l := typesD (oneS s name)) (i := (m : Int)) (by omega) (by rw [Int.toNat_natCast]; exact m1)
    have kf := findN_c (mx := mx) (typesD (oneS s name)) hL' d.n
    rw [← q.n, m2, q.n] at kf
    have n1 : ¬ ((m : Int) < 0) := by omega
    have n2 : ¬ (((typesD (oneS s name)).length : Int) ≤ (m : Int)) := by omega
    have w := IntWalk.i64_in ((i : Int) + 1) (by omega)
    have fld0' : loadO Tryz.prog 9 (some d'.pv) = some (.q (.str d.n)) := by rw [fld0, q.n]
    have fldr0 : loadO Tryz.prog 9 (some (d.pv ++ r)) = some (.q (.str d.n)) := loadO_one ag9 sz9
    have kS := sameDn_c (mx := mx) (l := [d]) (by simp) (fun x hx => by rw [List.mem_singleton.1 hx]; exact dfd)
    have eR : rowV Dn.pv [d] = .ro d.pv 1 := by simp [rowV, flat]
    have fin : ∀ (F' : Fr) (h' : AH), F'.at 6 = F.at 6 → F'.at 8 = F.at 8 → F'.at 10 = .int .i64 ((i : Int) + 1) → ∃ k', k' < k + 1 ∧ invM s (oneS s name) k' F' h' := fun F' h' q6 q8 q10 => ⟨k, by omega, i + 1, by omega, q6.trans f6, q8.trans f8, q10⟩
    simp -implicitDefEqProofs only [wpC_seq, rowsA, if_true, if_false, opnd, ofVal, ofVal1, layArgs, Nat.reduceAdd, reduceIte, Nat.reduceEqDiff, reduceCtorEq, rowsB, cellsG, Nat.reduceMul, f6, f8, f10, ln47n, c3, hr, hr', fda_rop o54_0, List.drop_zero, fldr0, goO_known kf, n1, n2, ld54n, al54, sz54, st54n, dl5, fda_ptr o54_0, fld0']
    by_cases hQ : d.n = bQuery
    · have hQ' : d.n = [81, 117, 101, 114, 121] := hQ
      have h0 := q.root (.inl hQ)
      have hrow' : rowN Ot.pv d'.outs = rowV Ot.pv d'.outs := rowN_pos (by have := q.le; omega)
      have hrow : rowN Ot.pv d.outs = rowV Ot.pv d.outs := rowN_pos h0
      have le' : ¬ ((d'.outs.length : Int) < (d.outs.length : Int)) := by have := q.le; omega
      have hsl := fun (h : AH) => sl51 (l := d'.outs) h0 q.le h
      rw [q.outs] at hsl
      have hst : ∀ id : Nat, stoG id 5 3 (rowV Ot.pv d.outs) 1 (some (.cells 54 0 false d'.pv)) = some (.w .undef id (.cells 54 0 false d.pv)) := fun id => by
        rw [st54o, q.n, q.k, q.ws, q.ins, ← hrow]
        rfl
      have eL : lenO Tryz.prog [rowV Ot.pv d.outs] [51] = some (.q (.int .i64 d.outs.length)) := len_ro u51
      have eL' : lenO Tryz.prog [rowV Ot.pv d'.outs] [51] = some (.q (.int .i64 d'.outs.length)) := len_ro u51
      simp -implicitDefEqProofs only [wpC_seq, rowsA, if_true, if_false, opnd, ofVal, ofVal1, layArgs, Nat.reduceAdd, reduceIte, Nat.reduceEqDiff, reduceCtorEq, rowsB, cellsG, Nat.reduceMul, f6, f8, f10, dl5, fda_ptr o54_0, fda_ptr o54_3, fld0', fld3, eq_true hQ', decide_true, hr, fda_rop o54_3, ld51dn, hrow, hrow', eL, eL', le', hsl, sz51, hst]
      rw [goD_st (by omega) (by kernel_rfl)]
      simp -implicitDefEqProofs only [wpC_seq, rowsA, if_true, if_false, opnd, ofVal, ofVal1, layArgs, Nat.reduceAdd, reduceIte, Nat.reduceEqDiff, reduceCtorEq, rowsB, cellsG, Nat.reduceMul, f6, f8, f10, dl5, ld54p, bd47_1d, sl47 hd, w]
      refine goD_val (via_rd (p := fun _ => True) (args' := [rowV Dn.pv [d], rowV Dn.pv [d]]) Tryz.func29 rfl rfl rfl rfl ⟨?_, Rd.of_clean rfl, trivial⟩ kS) (by kernel_rfl) ?_
      · rw [eR]
        exact Rd.row (n := 1) (sz := 5) (c := d.pv) trivial (by simp only [AH.get_set, if_true]; rfl) rfl (RdL.of_clean (Dn.cl d))
      rintro _ h3 ⟨rfl, _⟩
      simp -implicitDefEqProofs only [wpC_seq, rowsA, if_true, if_false, opnd, ofVal, ofVal1, layArgs, Nat.reduceAdd, reduceIte, Nat.reduceEqDiff, reduceCtorEq, rowsB, cellsG, Nat.reduceMul, f10, w]
      refine fin _ _ ?_ ?_ ?_
      · simp only [Fr.at_set, Nat.reduceEqDiff, reduceIte]
      · simp only [Fr.at_set, Nat.reduceEqDiff, reduceIte]
      · simp only [Fr.at_set, Nat.reduceEqDiff, reduceIte]
    by_cases hM : d.n = bMutation
    · have hQ' : ¬ d.n = [81, 117, 101, 114, 121] := hQ
      have hM' : d.n = [77, 117, 116, 97, 116, 105, 111, 110] := hM
      have h0 := q.root (.inr hM)
      have hrow' : rowN Ot.pv d'.outs = rowV Ot.pv d'.outs := rowN_pos (by have := q.le; omega)
      have hrow : rowN Ot.pv d.outs = rowV Ot.pv d.outs := rowN_pos h0
      have le' : ¬ ((d'.outs.length : Int) < (d.outs.length : Int)) := by have := q.le; omega
      have hsl := fun (h : AH) => sl51 (l := d'.outs) h0 q.le h
      rw [q.outs] at hsl
      have hst : ∀ id : Nat, stoG id 5 3 (rowV Ot.pv d.outs) 1 (some (.cells 54 0 false d'.pv)) = some (.w .undef id (.cells 54 0 false d.pv)) := fun id => by
        rw [st54o, q.n, q.k, q.ws, q.ins, ← hrow]
        rfl
      have eL : lenO Tryz.prog [rowV Ot.pv d.outs] [51] = some (.q (.int .i64 d.outs.length)) := len_ro u51
      have eL' : lenO Tryz.prog [rowV Ot.pv d'.outs] [51] = some (.q (.int .i64 d'.outs.length)) := len_ro u51
      simp -implicitDefEqProofs only [wpC_seq, rowsA, if_true, if_false, opnd, ofVal, ofVal1, layArgs, Nat.reduceAdd, reduceIte, Nat.reduceEqDiff, reduceCtorEq, rowsB, cellsG, Nat.reduceMul, f6, f8, f10, dl5, fda_ptr o54_0, fda_ptr o54_3, fld0', fld3, eq_false hQ', eq_true hM', decide_true, decide_false, hr, fda_rop o54_3, ld51dn, hrow, hrow', eL, eL', le', hsl, sz51, hst]
      rw [goD_st (by omega) (by kernel_rfl)]
      simp -implicitDefEqProofs only [wpC_seq, rowsA, if_true, if_false, opnd, ofVal, ofVal1, layArgs, Nat.reduceAdd, reduceIte, Nat.reduceEqDiff, reduceCtorEq, rowsB, cellsG, Nat.reduceMul, f6, f8, f10, dl5, ld54p, bd47_1d, sl47 hd, w]
      refine goD_val (via_rd (p := fun _ => True) (args' := [rowV Dn.pv [d], rowV Dn.pv [d]]) Tryz.func29 rfl rfl rfl rfl ⟨?_, Rd.of_clean rfl, trivial⟩ kS) (by kernel_rfl) ?_
      · rw [eR]
        exact Rd.row (n := 1) (sz := 5) (c := d.pv) trivial (by simp only [AH.get_set, if_true]; rfl) rfl (RdL.of_clean (Dn.cl d))
      rintro _ h3 ⟨rfl, _⟩
      simp -implicitDefEqProofs only [wpC_seq, rowsA, if_true, if_false, opnd, ofVal, ofVal1, layArgs, Nat.reduceAdd, reduceIte, Nat.reduceEqDiff, reduceCtorEq, rowsB, cellsG, Nat.reduceMul, f10, w]
      refine fin _ _ ?_ ?_ ?_
      · simp only [Fr.at_set, Nat.reduceEqDiff, reduceIte]
      · simp only [Fr.at_set, Nat.reduceEqDiff, reduceIte]
      · simp only [Fr.at_set, Nat.reduceEqDiff, reduceIte]
    have hQ' : ¬ d.n = [81, 117, 101, 114, 121] := hQ
    have hM' : ¬ d.n = [77, 117, 116, 97, 116, 105, 111, 110] := hM
    have edd : d'.pv = d.pv := by
      unfold Dn.pv
      rw [q.n, q.k, q.ws, q.ins, q.no (fun c => c.elim hQ hM)]
    rw [edd] at fld0'
    simp -implicitDefEqProofs only [wpC_seq, rowsA, if_true, if_false, opnd, ofVal, ofVal1, layArgs, Nat.reduceAdd, reduceIte, Nat.reduceEqDiff, reduceCtorEq, rowsB, cellsG, Nat.reduceMul, f6, f8, f10, dl5, edd, fda_ptr o54_0, fld0', eq_false hQ', eq_false hM', decide_false]
    simp -implicitDefEqProofs only [wpC_seq, rowsA, if_true, if_false, opnd, ofVal, ofVal1, layArgs, Nat.reduceAdd, reduceIte, Nat.reduceEqDiff, reduceCtorEq, rowsB, cellsG, Nat.reduceMul, f6, f8, f10, dl5, edd, ld54p, bd47_1d, sl47 hd, w]
    refine goD_val (via_rd (p := fun _ => True) (args' := [rowV Dn.pv [d], rowV Dn.pv [d]]) Tryz.func29 rfl rfl rfl rfl ⟨?_, Rd.of_clean rfl, trivial⟩ kS) (by kernel_rfl) ?_
    · rw [eR]
      exact Rd.row (n := 1) (sz := 5) (c := d.pv) trivial (by simp only [AH.get_set, if_true]; rfl) rfl (RdL.of_clean (Dn.cl d))
    rintro _ h3 ⟨rfl, _⟩
    simp -implicitDefEqProofs only [wpC_seq, rowsA, if_true, if_false, opnd, ofVal, ofVal1, layArgs, Nat.reduceAdd, reduceIte, Nat.reduceEqDiff, reduceCtorEq, rowsB, cellsG, Nat.reduceMul, f10, w]
    refine fin _ _ ?_ ?_ ?_
    · simp only [Fr.at_set, Nat.reduceEqDiff, reduceIte]
    · simp only [Fr.at_set, Nat.reduceEqDiff, reduceIte]
    · simp only [Fr.at_set, Nat.reduceEqDiff, reduceIte]
end Go.Proofs.YtcbngkmmmfaaoaaGreatDoor
