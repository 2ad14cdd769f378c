/-
  JOINED TEXTS (H8 N0 N1 H9 N2 N3 Q24 H11 H12 H10 H13 N4 H14): what this law wants beyond the shared ones.
-/
import Derived.Test.YtcbngkmmmfaaoaaGreatDoorX0RowGenClosed
import Derived.Test.YtcbngkmmmfaaoaaGreatDoorM15
import Derived.Test.YtcbngkmmmfaaoaaGreatDoorM6
set_option linter.unusedVariables false
set_option linter.unusedSimpArgs false
namespace Go.Proofs.YtcbngkmmmfaaoaaGreatDoor
open Go.RowKit Go.Lib Go.Ac
set_option linter.unusedSimpArgs false
set_option maxRecDepth 100000
variable {mx : Int}
theorem types_no {s : Sc} (hs : s.fits) (hm : s.small) (hc : ¬ checkV mx s = 0) (h : AH) (fr : Nat) : CR Tryz.prog (globM mx) md (.fn 28) [.agg s.pv] h fr (.val (.tup [.nls, .int .i64 (checkV mx s)])) := by
  refine CR.frozen (rs := [.tmp 2, .tmp 3]) Tryz.func28 rfl rfl rfl rfl rfl rfl ?_ h fr
  simp -implicitDefEqProofs only [wpC_seq, rowsA, if_true, if_false, opnd, ofVal, ofVal1, layArgs, Nat.reduceAdd, reduceIte, Nat.reduceEqDiff, reduceCtorEq, rowsB, cellsG, Nat.reduceMul, rowsS, List.drop_drop, goO_known (check_s hs hm), hc]
  exact ⟨_, frz_clean _ rfl⟩
theorem bl54s (a : List UInt8) : bldO Tryz.prog 54 [(0, .str a)] = some (.q (.agg (scalD a).pv)) := by
  have : bldO Tryz.prog 54 [(0, .str a)] = some (.q (.agg [.str a, .int .i64 0, .nls, .nls, .nls])) := by kernel_rfl
  exact this
theorem bl54q (a : List UInt8) : bldO Tryz.prog 54 [(0, .str a), (1, .int .i64 2)] = some (.q (.agg [.str a, .int .i64 2, .nls, .nls, .nls])) := by kernel_rfl
theorem bd47_1 (fr : Nat) (a : List UInt8) (k : Int) (u v w : PV) : buildO Tryz.prog fr 47 1 [(0, .agg [.str a, .int .i64 k, u, v, w])] = some (.w (.ow fr 5 0 1) fr (.cells 54 5 false [.str a, .int .i64 k, u, v, w])) := by kernel_rfl
theorem bd47_d (fr : Nat) (d : Dn) : buildO Tryz.prog fr 47 1 [(0, .agg d.pv)] = some (.w (.ow fr 5 0 1) fr (.cells 54 5 false d.pv)) := bd47_1 ..
theorem bd43_5 (fr : Nat) : buildO Tryz.prog fr 43 5 [(0, .str bID), (1, .str bInt), (2, .str bFloat), (3, .str bString), (4, .str bBoolean)] = some (.w (.ow fr 5 0 5) fr (.cells 9 1 false (flat strV scalL))) := by kernel_rfl
theorem st45e (e : En) (id : Nat) (c : List PV) (hc : c.length = 2) : stoG id 2 0 (.agg e.pv) 2 (some (.cells 45 0 false c)) = some (.w .undef id (.cells 45 0 false e.pv)) := stoG_all id 2 0 45 (.agg e.pv) c hc rfl rfl
theorem cellR1 {h : AH} {X sz : Nat} {E : TypeId} {fz : Bool} {xs : List PV} (hX : h.get X = some (.cells E sz fz xs)) (hl : xs.length = sz) : Ac.cellsOf h sz (.ow X sz 0 1) = some (xs, 1) := by
  have := cellR_ow (sz := sz) (n := 1) hX (by rw [hl, Nat.one_mul])
  rwa [Nat.one_mul] at this
theorem flat1 {α : Type} (f : α → List PV) (x : α) : flat f [x] = f x := by simp [flat]
theorem RowD.keep {B B' : Nat} {h h' : AH} {v : PV} {l : List Dn} (q : RowD [] B h v l) (hB : B ≤ B') (hk : ∀ id, 10 ≤ id → id < B → h'.get id = h.get id) : RowD [] B' h' v l := RowP.keep q hB (fun _ hx => .inl hx) (fun id h1 h2 _ => hk id h1 h2)
def invT1 (s : Sc) (k : Nat) (F : Fr) (h : AH) : Prop := ∃ (i : Nat) (v : PV), k + i = s.es.length ∧ F.at 1 = .ptr 0 2 0 ∧ F.at 5 = v ∧ F.at 36 = rowV En.pv s.es ∧ F.at 37 = .int .i64 s.es.length ∧ F.at 38 = .int .i64 i ∧ h.get 0 = some (.cells 25 0 false s.pv) ∧ 12 ≤ h.next ∧ RowD [] h.next h v (scalL.map scalD ++ (s.es.take i).map enmD)
theorem st41o (o : Ob) (id : Nat) (c : List PV) (hc : c.length = 2) : stoG id 2 0 (.agg o.pv) 2 (some (.cells 41 0 false c)) = some (.w .undef id (.cells 41 0 false o.pv)) := stoG_all id 2 0 41 (.agg o.pv) c hc rfl rfl
def invT2 (s : Sc) (a b : Nat) (pre : List Dn) (k : Nat) (F : Fr) (h : AH) : Prop := ∃ (i : Nat) (vl vq vm : PV), k + i = s.os.length ∧ F.at 1 = .ptr 0 2 0 ∧ F.at 5 = vl ∧ F.at 10 = .ptr a 5 0 ∧ F.at 11 = .ptr b 5 0 ∧ F.at 55 = rowV Ob.pv s.os ∧ F.at 56 = .int .i64 s.os.length ∧ F.at 57 = .int .i64 i ∧ h.get 0 = some (.cells 25 0 false s.pv) ∧
  h.get a = some (.cells 54 0 false [.str bQuery, .int .i64 2, .nls, vq, .nls]) ∧ h.get b = some (.cells 54 0 false [.str bMutation, .int .i64 2, .nls, vm, .nls]) ∧ a ≠ b ∧ StD a b h.next h vl vq vm (pre ++ (s.os.take i).flatMap (objD s)) ((s.os.take i).flatMap qryO) ((s.os.take i).flatMap mutO)
theorem bd52_1 (fr : Nat) (a b c : List UInt8) : buildO Tryz.prog fr 52 1 [(0, .agg [.str a, .str b, .str c])] = some (.w (.ow fr 3 0 1) fr (.cells 56 3 false [.str a, .str b, .str c])) := by kernel_rfl
theorem bd52_2 (fr : Nat) (a b c d e f : List UInt8) : buildO Tryz.prog fr 52 2 [(0, .agg [.str a, .str b, .str c]), (1, .agg [.str d, .str e, .str f])] = some (.w (.ow fr 6 0 2) fr (.cells 56 3 false [.str a, .str b, .str c, .str d, .str e, .str f])) := by kernel_rfl
theorem bl58w (a b c : List UInt8) (id x y z : Nat) : bldO Tryz.prog 58 [(0, .str a), (1, .agg [.str b, .str c]), (2, .ow id x y z)] = some (.q (.agg [.str a, .str b, .str c, .ow id x y z])) := by kernel_rfl
theorem bl58r (a b c : List UInt8) (l : List PV) (n : Nat) : bldO Tryz.prog 58 [(0, .str a), (1, .agg [.str b, .str c]), (2, .ro l n)] = some (.q (.agg [.str a, .str b, .str c, .ro l n])) := by kernel_rfl
theorem bl58v (a b c : List UInt8) (l : List Inp) : bldO Tryz.prog 58 [(0, .str a), (1, .agg [.str b, .str c]), (2, rowV Inp.pv l)] = some (.q (.agg [.str a, .str b, .str c, rowV Inp.pv l])) := bl58r ..
theorem bd51_2 (fr : Nat) (a b c d e f : List UInt8) (u v : PV) : buildO Tryz.prog fr 51 2 [(0, .agg [.str a, .str b, .str c, u]), (1, .agg [.str d, .str e, .str f, v])] = some (.w (.ow fr 8 0 2) fr (.cells 58 4 false [.str a, .str b, .str c, u, .str d, .str e, .str f, v])) := by kernel_rfl
theorem bd51_3 (fr : Nat) (a b c d e f i j k : List UInt8) (u v w : PV) : buildO Tryz.prog fr 51 3 [(0, .agg [.str a, .str b, .str c, u]), (1, .agg [.str d, .str e, .str f, v]), (2, .agg [.str i, .str j, .str k, w])] = some (.w (.ow fr 12 0 3) fr (.cells 58 4 false [.str a, .str b, .str c, u, .str d, .str e, .str f, v, .str i, .str j, .str k, w])) := by kernel_rfl
theorem st54q (n : List UInt8) (k : Int) (v : PV) (id x y z w : Nat) : stoG id 5 3 (.ow x y z w) 1 (some (.cells 54 0 false [.str n, .int .i64 k, .nls, v, .nls])) = some (.w .undef id (.cells 54 0 false [.str n, .int .i64 k, .nls, .ow x y z w, .nls])) := rfl
theorem flatMap_le {α β : Type} {f : α → List β} {k m : Nat} (hf : ∀ x, (f x).length ≤ k) : ∀ {l : List α}, l.length ≤ m → (l.flatMap f).length ≤ m * k
  | [], _ => by simp
  | x :: l, h => by
    rw [List.flatMap_cons, List.length_append]
    have := flatMap_le (m := m - 1) hf (l := l) (by rw [List.length_cons] at h; omega)
    have h1 := hf x
    rw [List.length_cons] at h
    obtain ⟨m', rfl⟩ : ∃ m', m = m' + 1 := ⟨m - 1, by omega⟩
    rw [Nat.add_mul, Nat.one_mul]
    simp only [Nat.add_sub_cancel] at this
    omega
theorem bd47_4 (fr : Nat) (a b c : Dn) (d : List UInt8) (k : Int) (u v w : PV) : buildO Tryz.prog fr 47 4 [(0, .agg a.pv), (1, .agg b.pv), (2, .agg c.pv), (3, .agg [.str d, .int .i64 k, u, v, w])] = some (.w (.ow fr 20 0 4) fr (.cells 54 5 false (a.pv ++ (b.pv ++ (c.pv ++ [.str d, .int .i64 k, u, v, w]))))) := by
  have : ∀ (a b c d : List UInt8) (i j k l : Int) (a1 a2 a3 b1 b2 b3 c1 c2 c3 d1 d2 d3 : PV), buildO Tryz.prog fr 47 4 [(0, .agg [.str a, .int .i64 i, a1, a2, a3]), (1, .agg [.str b, .int .i64 j, b1, b2, b3]), (2, .agg [.str c, .int .i64 k, c1, c2, c3]), (3, .agg [.str d, .int .i64 l, d1, d2, d3])] = some (.w (.ow fr 20 0 4) fr (.cells 54 5 false [.str a, .int .i64 i, a1, a2, a3, .str b, .int .i64 j, b1, b2, b3, .str c, .int .i64 k, c1, c2, c3, .str d, .int .i64 l, d1, d2, d3])) := by
    intros
    kernel_rfl
  exact this ..
theorem bd47_2 (fr : Nat) (a b : List UInt8) (i j : Int) (a1 a2 a3 b1 b2 b3 : PV) : buildO Tryz.prog fr 47 2 [(0, .agg [.str a, .int .i64 i, a1, a2, a3]), (1, .agg [.str b, .int .i64 j, b1, b2, b3])] = some (.w (.ow fr 10 0 2) fr (.cells 54 5 false [.str a, .int .i64 i, a1, a2, a3, .str b, .int .i64 j, b1, b2, b3])) := by kernel_rfl
def invT3 (s : Sc) (a b : Nat) (vq vm : PV) (mid : List Dn) (qs ms : List Ot) (k : Nat) (F : Fr) (h : AH) : Prop := ∃ (i : Nat) (vl : PV), k + i = s.es.length ∧ F.at 5 = vl ∧ F.at 10 = .ptr a 5 0 ∧ F.at 11 = .ptr b 5 0 ∧ F.at 134 = rowV En.pv s.es ∧ F.at 135 = .int .i64 s.es.length ∧ F.at 136 = .int .i64 i ∧
  h.get a = some (.cells 54 0 false [.str bQuery, .int .i64 2, .nls, vq, .nls]) ∧ h.get b = some (.cells 54 0 false [.str bMutation, .int .i64 2, .nls, vm, .nls]) ∧ a ≠ b ∧ StD a b h.next h vl vq vm (mid ++ (s.es.take i).map enfD) qs ms
def invT0 (s : Sc) (k : Nat) (F : Fr) (h : AH) : Prop := ∃ (i : Nat) (v : PV), k + i = 5 ∧ F.at 1 = .ptr 0 2 0 ∧ F.at 5 = v ∧ F.at 23 = .ow 9 5 0 5 ∧ F.at 24 = .int .i64 5 ∧ F.at 25 = .int .i64 i ∧ h.get 0 = some (.cells 25 0 false s.pv) ∧ h.get 9 = some (.cells 9 1 false (flat strV scalL)) ∧ 12 ≤ h.next ∧ RowD [] h.next h v ((scalL.take i).map scalD)
set_option maxHeartbeats 2000000 in
theorem types_c {s : Sc} (hs : s.fits) (hm : s.small) (hc : checkV mx s = 0) (h : AH) (fr : Nat) : CR Tryz.prog (globM mx) md (.fn 28) [.agg s.pv] h fr (.val (.tup [rowV Dn.pv (typesD s), .int .i64 0])) := by
  have ok := check_ok hc
  refine CR.frozen (rs := [.tmp 2, .tmp 3]) Tryz.func28 rfl rfl rfl rfl rfl rfl ?_ h fr
  have hb := fun fr => bd43_5 fr
  simp only [bID, bInt, bFloat, bString, bBoolean] at hb
  simp -implicitDefEqProofs only [wpC_seq, rowsA, if_true, if_false, opnd, ofVal, ofVal1, layArgs, Nat.reduceAdd, reduceIte, Nat.reduceEqDiff, reduceCtorEq, rowsB, cellsG, Nat.reduceMul, rowsS, List.drop_drop, goO_known (check_s hs hm), hc, hb, len_ow u43]
  refine wpC_loop (invT0 s) (k := 5) ⟨0, .nls, by omega, ?_, ?_, ?_, ?_, ?_, ?_, ?_, ?_, RowP.nil⟩ ?_
  · simp only [Fr.at_set, Nat.reduceEqDiff, reduceIte, reduceCtorEq]
  · simp only [Fr.at_set, Nat.reduceEqDiff, reduceIte, reduceCtorEq]
  · simp only [Fr.at_set, Nat.reduceEqDiff, reduceIte, reduceCtorEq]
  · simp only [Fr.at_set, Nat.reduceEqDiff, reduceIte, reduceCtorEq]; rfl
  · simp only [Fr.at_set, Nat.reduceEqDiff, reduceIte, reduceCtorEq]; rfl
  · simp only [AH.get_set, AH.get_up, Nat.reduceEqDiff, if_true, if_false]
  · simp only [AH.get_set, AH.get_up, Nat.reduceEqDiff, if_true, if_false]
  · simp only [AH.next_set, AH.next_up]; exact Nat.le_add_left 12 _
  rintro k F h ⟨i, v, ki, f1, f5, f23, f24, f25, g0, g9, nx, hR⟩
  cases k with
  | zero =>
    have c1 : ¬ ((i : Int) < 5) := by omega
    simp -implicitDefEqProofs only [wpC_seq, rowsA, if_true, if_false, opnd, ofVal, ofVal1, layArgs, Nat.reduceAdd, reduceIte, Nat.reduceEqDiff, reduceCtorEq, rowsB, cellsG, Nat.reduceMul, rowsS, List.drop_drop, f1, f5, f23, f24, f25, g0, c1]
    have hi : i = 5 := by omega
    subst hi
    refine wpC_loop (invT1 s) (k := s.es.length) ⟨0, v, by omega, ?_, ?_, ?_, ?_, ?_, ?_, ?_, ?_⟩ ?_
    · simp only [Fr.at_set, Nat.reduceEqDiff, reduceIte, f1]
    · simp only [Fr.at_set, Nat.reduceEqDiff, reduceIte, f5]
    · simp only [Fr.at_set, Nat.reduceEqDiff, reduceIte]
    · simp only [Fr.at_set, Nat.reduceEqDiff, reduceIte]
    · simp only [Fr.at_set, Nat.reduceEqDiff, reduceIte]; rfl
    · simp only [AH.get_up]; exact g0
    · simp only [AH.next_up]; omega
    · exact hR.keep (by simp only [AH.next_up]; omega) fun id _ _ => by simp only [AH.get_up]
    clear f1 f5 f23 f24 f25 g0 g9 nx hR
    rintro k F h ⟨i, v, ki, f1, f5, f36, f37, f38, g0, nx, hR⟩
    cases k with
    | zero =>
      have c2 : ¬ ((i : Int) < (s.es.length : Int)) := by omega
      have hne : ¬ (h.next + 1 = h.next) := by omega
      simp -implicitDefEqProofs only [wpC_seq, rowsA, if_true, if_false, opnd, ofVal, ofVal1, layArgs, Nat.reduceAdd, reduceIte, Nat.reduceEqDiff, reduceCtorEq, rowsB, cellsG, Nat.reduceMul, rowsS, List.drop_drop, f1, f5, f36, f37, f38, g0, c2, bl54q, al54, sz54, ite_self, hne, st54 [81, 117, 101, 114, 121] 2 .nls .nls .nls _ [.str [], .int .i64 0, .nls, .nls, .nls] rfl, st54 [77, 117, 116, 97, 116, 105, 111, 110] 2 .nls .nls .nls _ [.str [], .int .i64 0, .nls, .nls, .nls] rfl]
      have hi : i = s.es.length := by omega
      subst hi
      rw [List.take_length] at hR
      refine wpC_loop (invT2 s (h.next + 1 + 2) (h.next + 1 + 3) (scalL.map scalD ++ s.es.map enmD)) (k := s.os.length) ⟨0, v, .nls, .nls, by omega, ?_, ?_, ?_, ?_, ?_, ?_, ?_, ?_, ?_, ?_, by omega, ⟨?_, RowP.nil, RowP.nil, ?_, ?_⟩⟩ ?_
      · simp only [Fr.at_set, Nat.reduceEqDiff, reduceIte, f1]
      · simp only [Fr.at_set, Nat.reduceEqDiff, reduceIte, f5]
      · simp only [Fr.at_set, Nat.reduceEqDiff, reduceIte]
      · simp only [Fr.at_set, Nat.reduceEqDiff, reduceIte]
      · simp only [Fr.at_set, Nat.reduceEqDiff, reduceIte]
      · simp only [Fr.at_set, Nat.reduceEqDiff, reduceIte]
      · simp only [Fr.at_set, Nat.reduceEqDiff, reduceIte]; rfl
      · simp only [AH.get_set, AH.get_up]
        rw [if_neg (by omega), if_neg (by omega), if_neg (by omega), if_neg (by omega)]
        exact g0
      · simp only [AH.get_set, AH.get_up, if_true]
        rw [if_neg (by omega)]
        rfl
      · simp only [AH.get_set, AH.get_up, if_true]
        rfl
      · rw [List.take_zero, List.flatMap_nil, List.append_nil]
        refine RowP.keep hR (by simp only [AH.next_set, AH.next_up]; omega) (fun x hx => ?_) (fun id h1 h2 _ => ?_)
        · simp only [rootL, List.append_nil, List.mem_cons, List.not_mem_nil, or_false] at hx
          omega
        · simp only [AH.get_set, AH.get_up]
          rw [if_neg (by omega), if_neg (by omega), if_neg (by omega), if_neg (by omega)]
      · simp only [AH.next_set, AH.next_up]; omega
      · simp only [AH.next_set, AH.next_up]; omega
      generalize h.next + 1 + 2 = a
      generalize h.next + 1 + 3 = b
      generalize hpre : scalL.map scalD ++ s.es.map enmD = pre
      clear f1 f5 f36 f37 f38 g0 nx hR
      rintro k F h ⟨i, vl, vq, vm, ki, f1, f5, f10, f11, f55, f56, f57, g0, ga, gb, hab, hS⟩
      cases k with
      | zero =>
        have c3 : ¬ ((i : Int) < (s.os.length : Int)) := by omega
        have hi : i = s.os.length := by omega
        subst hi
        rw [List.take_length] at hS
        have kc1 : ∀ (h : AH) (fr : Nat), CR Tryz.prog (globM mx) md (.fn 69) [.str [73, 110, 116], .nls] h fr (.val (.agg (cmpD bInt []).pv)) := compared_c bInt (by decide) [] (by decide)
        have kc2 : ∀ (h : AH) (fr : Nat), CR Tryz.prog (globM mx) md (.fn 69) [.str [70, 108, 111, 97, 116], .nls] h fr (.val (.agg (cmpD bFloat []).pv)) := compared_c bFloat (by decide) [] (by decide)
        have kc3 : ∀ (h : AH) (fr : Nat), CR Tryz.prog (globM mx) md (.fn 69) [.str bString, rowN Inp.pv [⟨[98, 101, 103, 105, 110, 115], bString, []⟩]] h fr (.val (.agg (cmpD bString [⟨[98, 101, 103, 105, 110, 115], bString, []⟩]).pv)) := compared_c bString (by decide) [⟨[98, 101, 103, 105, 110, 115], bString, []⟩] (by decide)
        simp -implicitDefEqProofs only [wpC_seq, rowsA, if_true, if_false, opnd, ofVal, ofVal1, layArgs, Nat.reduceAdd, reduceIte, Nat.reduceEqDiff, reduceCtorEq, rowsB, cellsG, Nat.reduceMul, rowsS, List.drop_drop, f1, f5, f10, f11, f55, f56, f57, g0, c3, goO_known kc1, goO_known kc2, goO_known (gin_c _ _ _), bd52_1]
        refine goO_val (via_rdP (p := fun id => id = h.next + 1 + 4) (args' := [.str bString, rowN Inp.pv [⟨[98, 101, 103, 105, 110, 115], bString, []⟩]]) Tryz.func69 rfl rfl rfl rfl ⟨Rd.of_clean rfl, rdOwP (f := Inp.pv) (sz := 3) (d := 99) rfl (fun _ => rfl) Inp.cl (by simp only [AH.get_set, if_true]; rfl) rfl rfl (Nat.succ_pos _), trivial⟩ kc3) ?_
        intro v h5 hq
        generalize hG : wpO _ _ _ _ _ _ _ _ _ _ _ = G
        obtain ⟨rfl, n5, k5⟩ := hq
        have pa := hS.ha
        have pb := hS.hb
        have x3 : ∀ y, y < h.next → h5.get y = h.get y := fun y hy => by
          rw [k5 y (by omega)]
          simp only [AH.get_set, AH.get_up]
          rw [if_neg (by omega)]
        have n5' : h5.next = h.next + 13 := n5.trans (by simp only [AH.next_set, AH.next_up])
        subst hG
        clear k5 n5
        simp -implicitDefEqProofs only [wpC_seq, rowsA, if_true, if_false, opnd, ofVal, ofVal1, layArgs, Nat.reduceAdd, reduceIte, Nat.reduceEqDiff, reduceCtorEq, rowsB, cellsG, Nat.reduceMul, f5, goO_known (gin_c _ _ _), bd52_1, bl54i, bd47_4]
        have hos := ok.enough.2.1
        have hes := ok.enough.2.2.1
        have hl1 : (pre ++ s.os.flatMap (objD s)).length ≤ 1000 := by
          have h1 : (s.os.flatMap (objD s)).length ≤ 8 * 6 := flatMap_le (fun _ => Nat.le_refl 6) hos
          have h2 : pre.length ≤ 13 := by rw [← hpre, List.length_append, List.length_map, List.length_map]; show 5 + _ ≤ 13; omega
          rw [List.length_append]
          omega
        generalize hH : AH.set _ _ _ = H5
        have z1 : H5.get (h.next + 1 + 7) = some (.cells 56 3 false (flat Inp.pv [⟨[101, 113], bBoolean, []⟩])) := by
          rw [← hH]
          simp only [AH.get_set, if_true]
          rw [if_neg (by omega)]
          rfl
        have z6 : H5.get (h.next + 1 + 9) = some (.cells 54 5 false ((cmpD bInt []).pv ++ ((cmpD bFloat []).pv ++ ((cmpD bString [⟨[98, 101, 103, 105, 110, 115], bString, []⟩]).pv ++ [.str (bBoolean ++ bFilter), .int .i64 3, .nls, .nls, .ow (h.next + 1 + 7) 3 0 1])))) := by
          rw [← hH]
          simp only [AH.get_set, if_true]
          rfl
        have z3 : ∀ y, y < h.next → H5.get y = h.get y := fun y hy => by
          rw [← hH]
          simp only [AH.get_set]
          rw [if_neg (by omega), if_neg (by omega), x3 y hy]
        have z4 : H5.next = h.next + 13 := by rw [← hH]; simp only [AH.next_set, n5']
        clear hH x3
        have hSk := St.keep hS (h' := H5) (Nat.le_refl _) (fun id q1 q2 _ _ => z3 id (by omega))
        obtain ⟨R1, ob1, e1, t3, t4, t5, t6, -, hS1⟩ := StD.addL hSk (B' := h.next + 13) (fr := h.next + 1 + 10) (x := .ow (h.next + 1 + 9) 20 0 4) (l' := midD) (by omega) (by omega) (cellR_ow (n := 4) z6 rfl) (Nat.succ_pos _) ((RdL.of_clean (Dn.cl (cmpD bInt []))).append ((RdL.of_clean (Dn.cl (cmpD bFloat []))).append ((RdL.of_clean (Dn.cl (cmpD bString [⟨[98, 101, 103, 105, 110, 115], bString, []⟩]))).append ⟨Rd.of_clean rfl, Rd.of_clean rfl, Rd.of_clean rfl, Rd.of_clean rfl, rdOwP (f := Inp.pv) (sz := 3) (d := 1) ⟨by omega, by omega⟩ (fun _ => rfl) Inp.cl z1 rfl rfl (Nat.succ_pos _), trivial⟩))) (by show _ + 4 ≤ 1000000; omega)
        rw [e1, goO_w]
        have q0 : (H5.set R1 ob1).get 0 = some (.cells 25 0 false s.pv) := by simp only [AH.get_set]; rw [if_neg (by omega), z3 0 (by omega)]; exact g0
        have qa : (H5.set R1 ob1).get a = some (.cells 54 0 false [.str bQuery, .int .i64 2, .nls, vq, .nls]) := by simp only [AH.get_set]; rw [if_neg (by omega), z3 a (by omega)]; exact ga
        have qb : (H5.set R1 ob1).get b = some (.cells 54 0 false [.str bMutation, .int .i64 2, .nls, vm, .nls]) := by simp only [AH.get_set]; rw [if_neg (by omega), z3 b (by omega)]; exact gb
        have qn : (H5.set R1 ob1).next = h.next + 13 := by simp only [AH.next_set, z4]
        generalize H5.set R1 ob1 = H6 at hS1 q0 qa qb qn ⊢
        clear e1 z1 z3 z4 z6 hSk hS
        simp -implicitDefEqProofs only [wpC_seq, rowsA, if_true, if_false, opnd, ofVal, ofVal1, layArgs, Nat.reduceAdd, reduceIte, Nat.reduceEqDiff, reduceCtorEq, rowsB, cellsG, Nat.reduceMul, rowsS, List.drop_drop, f1, q0]
        generalize hmid : (pre ++ s.os.flatMap (objD s)) ++ midD = mid at hS1
        have hl2 : mid.length ≤ 1004 := by rw [← hmid, List.length_append]; show _ + 4 ≤ 1004; omega
        generalize hq : s.os.flatMap qryO = qs at hS1
        generalize hm' : s.os.flatMap mutO = ms at hS1
        refine wpC_loop (invT3 s a b vq vm mid qs ms) (k := s.es.length) ⟨0, .ow R1 (mid.length * 5) 0 mid.length, by omega, ?_, ?_, ?_, ?_, ?_, ?_, ?_, ?_, hab, ?_⟩ ?_
        · simp only [Fr.at_set, Nat.reduceEqDiff, reduceIte, hmid]
        · simp only [Fr.at_set, Nat.reduceEqDiff, reduceIte, f10]
        · simp only [Fr.at_set, Nat.reduceEqDiff, reduceIte, f11]
        · simp only [Fr.at_set, Nat.reduceEqDiff, reduceIte]
        · simp only [Fr.at_set, Nat.reduceEqDiff, reduceIte]
        · simp only [Fr.at_set, Nat.reduceEqDiff, reduceIte]; rfl
        · simp only [AH.get_up]; exact qa
        · simp only [AH.get_up]; exact qb
        · rw [List.take_zero, List.map_nil, List.append_nil]
          exact St.keep hS1 (by simp only [AH.next_up]; omega) (fun id _ _ _ _ => by simp only [AH.get_up])
        clear f1 f5 f10 f11 f55 f56 f57 g0 ga gb hS1 q0 qa qb qn n5' t3 t4 t5 t6 c3 ki pa pb
        rintro k F h ⟨i, vl, ki, f5, f10, f11, f134, f135, f136, ga, gb, hab, hS⟩
        have pa := hS.ha
        have pb := hS.hb
        cases k with
        | zero =>
          have c4 : ¬ ((i : Int) < (s.es.length : Int)) := by omega
          have ldD := fun (n : List UInt8) (k : Int) (v : PV) => load_agg (P := Tryz.prog) (c := [.str n, .int .i64 k, .nls, v, .nls]) ag54 sz54 (Nat.le_refl 5)
          simp -implicitDefEqProofs only [wpC_seq, rowsA, if_true, if_false, opnd, ofVal, ofVal1, layArgs, Nat.reduceAdd, reduceIte, Nat.reduceEqDiff, reduceCtorEq, rowsB, cellsG, Nat.reduceMul, f5, f10, f11, f134, f135, f136, ga, gb, ldD, c4, bd47_2]
          have hi : i = s.es.length := by omega
          subst hi
          rw [List.take_length] at hS
          generalize hH : AH.set _ _ _ = H5
          have z6 : H5.get (h.next + 1 + 3) = some (.cells 54 5 false [.str bQuery, .int .i64 2, .nls, vq, .nls, .str bMutation, .int .i64 2, .nls, vm, .nls]) := by
            rw [← hH]
            simp only [AH.get_set, if_true]
          have z3 : ∀ y, y < h.next → H5.get y = h.get y := fun y hy => by
            rw [← hH]
            simp only [AH.get_set, AH.get_up]
            rw [if_neg (by omega)]
          clear hH
          have hSk := St.keep hS (h' := H5) (Nat.le_refl _) (fun id q1 q2 _ _ => z3 id (by omega))
          have hl3 : (mid ++ s.es.map enfD).length ≤ 2000 := by rw [List.length_append, List.length_map]; omega
          have hL : RowP 2 [] 10 h.next H5 54 5 vl (flat Dn.pv (mid ++ s.es.map enfD)) (mid ++ s.es.map enfD).length := RowP.keep hSk.l (Nat.le_refl _) (fun x hx => by cases hx) (fun _ _ _ _ => rfl)
          have rl := RowP.root hL
          have up : ∀ {v u : PV} {Y : List Nat}, Rd (fun id => 10 ≤ id ∧ id < h.next ∧ id ∉ a :: b :: (rootL vl ++ Y)) H5 2 v u → Rd (fun id => 10 ≤ id ∧ id < h.next + 1 + 4 ∧ id ∉ ([] : List Nat) ∧ id ∉ rootL vl) H5 2 v u := fun q => Rd.imp (fun id ⟨b1, b2, b3⟩ => ⟨⟨b1, by omega, by simp, fun hm => b3 (by simp [hm])⟩, fun E sz fz c hc => ⟨fz, hc⟩⟩) _ _ _ q
          have uq := up hSk.q.rd
          have um := up hSk.m.rd
          have eq1 : (if qs.length = 0 then PV.nls else .ro (flat Ot.pv qs) qs.length) = rowN Ot.pv qs := rfl
          have eq2 : (if ms.length = 0 then PV.nls else .ro (flat Ot.pv ms) ms.length) = rowN Ot.pv ms := rfl
          rw [eq1] at uq
          rw [eq2] at um
          obtain ⟨R1, ob1, e1, -, hL1⟩ := RowP.more hL (P := Tryz.prog) (fr := h.next + 1 + 4) (B' := h.next + 8) (t := 47) (x := .ow (h.next + 1 + 3) 10 0 2) (k := 2) (ys := flat Dn.pv [qryD s, mutD s]) u47 i54 (by decide) (by omega) (by omega) (by omega) (by simp) (cellR_ow (n := 2) z6 rfl) rfl (by decide) (by
            subst hq
            subst hm'
            exact ⟨Rd.of_clean rfl, Rd.of_clean rfl, Rd.of_clean rfl, uq, Rd.of_clean rfl, Rd.of_clean rfl, Rd.of_clean rfl, Rd.of_clean rfl, um, Rd.of_clean rfl, trivial⟩) (by omega) (by omega)
          rw [e1, goO_w]
          generalize H5.set R1 ob1 = H6 at hL1 ⊢
          simp -implicitDefEqProofs only [wpC_seq, rowsA, if_true, if_false, opnd, ofVal, ofVal1, layArgs, Nat.reduceAdd, reduceIte, Nat.reduceEqDiff, reduceCtorEq, rowsB, cellsG, Nat.reduceMul]
          have et : typesD s = (mid ++ s.es.map enfD) ++ [qryD s, mutD s] := by rw [← hmid, ← hpre]; rfl
          have hfin : Rd (fun _ => True) H6 99 (.ow R1 (((mid ++ s.es.map enfD).length + 2) * 5) 0 ((mid ++ s.es.map enfD).length + 2)) (rowV Dn.pv (typesD s)) := by
            have := hL1.rd
            rw [if_neg (by omega), ← flat_app] at this
            have el : ((mid ++ s.es.map enfD) ++ [qryD s, mutD s]).length = (mid ++ s.es.map enfD).length + 2 := List.length_append
            rw [et, rowV, el]
            exact Rd.le (show 3 ≤ 99 by decide) (Rd.imp (fun _ _ => ⟨trivial, fun E sz fz c hc => ⟨fz, hc⟩⟩) _ _ _ this)
          refine Rd.done (.inr ⟨rfl, [rowV Dn.pv (typesD s), .int .i64 0], ⟨hfin, Rd.of_clean rfl, trivial⟩, rfl⟩)
        | succ k =>
          have c4 : (i : Int) < (s.es.length : Int) := by omega
          obtain ⟨e, he⟩ : ∃ e, s.es[i]? = some e := ⟨_, List.getElem?_eq_getElem (show i < s.es.length by omega)⟩
          have hem := List.mem_of_getElem? he
          have w3 := ok.elen hem
          obtain ⟨r, hr⟩ := ix23 (l := s.es) (i := (i : Int)) (by omega) (by rw [Int.toNat_natCast]; exact he)
          have w := IntWalk.i64_in ((i : Int) + 1) (by omega)
          have a1 := fun {h : AH} => bin_sadd (P := Tryz.prog) (h := h) (t := 9) (x := e.n) (y := [70, 105, 108, 116, 101, 114]) (by simp only [List.length_cons, List.length_nil]; omega)
          simp -implicitDefEqProofs only [wpC_seq, rowsA, if_true, if_false, opnd, ofVal, ofVal1, layArgs, Nat.reduceAdd, reduceIte, Nat.reduceEqDiff, reduceCtorEq, rowsB, cellsG, Nat.reduceMul, rowsS, List.drop_drop, f5, f10, f11, f134, f135, f136, c4, hr, al45, sz45, st45e, a1, goD_known (gin_c _ _ _), bd52_2, bl54i, bd47_1, goD_eq]
          generalize hH : AH.set _ _ _ = H5
          have z1 : H5.get (h.next + 1 + 4 + 10) = some (.cells 56 3 false (flat Inp.pv [⟨[101, 113], e.n, []⟩, ⟨[105, 110], e.n, listL⟩])) := by
            rw [← hH]
            simp only [AH.get_set, if_true]
            rw [if_neg (by omega)]
            rfl
          have z6 : H5.get (h.next + 1 + 4 + 12) = some (.cells 54 5 false [.str (e.n ++ bFilter), .int .i64 3, .nls, .nls, .ow (h.next + 1 + 4 + 10) 6 0 2]) := by
            rw [← hH]
            simp only [AH.get_set, if_true]
            rfl
          have z3 : ∀ y, y < h.next → H5.get y = h.get y := fun y hy => by
            rw [← hH]
            simp only [AH.get_set, AH.get_up]
            rw [if_neg (by omega), if_neg (by omega), if_neg (by omega), if_neg (by omega)]
          have z4 : H5.next = h.next + 20 := by rw [← hH]; simp only [AH.next_set, AH.next_up]
          clear hH
          have hSk := St.keep hS (h' := H5) (Nat.le_refl _) (fun id q1 q2 _ _ => z3 id (by omega))
          have hl3 : (mid ++ (s.es.take i).map enfD).length ≤ 2000 := by rw [List.length_append, List.length_map, List.length_take]; omega
          obtain ⟨R1, ob1, e1, t3, t4, t5, t6, -, hS1⟩ := StD.addL hSk (B' := h.next + 20) (fr := h.next + 1 + 4 + 13) (x := .ow (h.next + 1 + 4 + 12) 5 0 1) (l' := [enfD e]) (by omega) (by omega) (cellR1 z6 rfl) (Nat.succ_pos _) (by
            rw [flat1]
            exact ⟨Rd.of_clean rfl, Rd.of_clean rfl, Rd.of_clean rfl, Rd.of_clean rfl, rdOwP (f := Inp.pv) (sz := 3) (d := 1) ⟨by omega, by omega⟩ (fun _ => rfl) Inp.cl z1 rfl rfl (Nat.succ_pos _), trivial⟩) (by show _ + 1 ≤ 1000000; omega)
          rw [e1, goD_any (by kernel_rfl)]
          have qa : (H5.set R1 ob1).get a = some (.cells 54 0 false [.str bQuery, .int .i64 2, .nls, vq, .nls]) := by simp only [AH.get_set]; rw [if_neg (by omega), z3 a (by omega)]; exact ga
          have qb : (H5.set R1 ob1).get b = some (.cells 54 0 false [.str bMutation, .int .i64 2, .nls, vm, .nls]) := by simp only [AH.get_set]; rw [if_neg (by omega), z3 b (by omega)]; exact gb
          have qn : (H5.set R1 ob1).next = h.next + 20 := by simp only [AH.next_set, z4]
          generalize H5.set R1 ob1 = H6 at hS1 qa qb qn ⊢
          simp -implicitDefEqProofs only [wpC_seq, rowsA, if_true, if_false, opnd, ofVal, ofVal1, layArgs, Nat.reduceAdd, reduceIte, Nat.reduceEqDiff, reduceCtorEq, rowsB, cellsG, Nat.reduceMul, f136, w]
          have ex : mid ++ (s.es.take (i + 1)).map enfD = (mid ++ (s.es.take i).map enfD) ++ [enfD e] := by rw [takeM he, List.map_append, List.append_assoc]; rfl
          refine ⟨k, by omega, i + 1, .ow R1 (((mid ++ (s.es.take i).map enfD) ++ [enfD e]).length * 5) 0 ((mid ++ (s.es.take i).map enfD) ++ [enfD e]).length, by omega, ?_, ?_, ?_, ?_, ?_, ?_, ?_, ?_, hab, ?_⟩
          · simp only [Fr.at_set, Nat.reduceEqDiff, reduceIte]
          · simp only [Fr.at_set, Nat.reduceEqDiff, reduceIte, f10]
          · simp only [Fr.at_set, Nat.reduceEqDiff, reduceIte, f11]
          · simp only [Fr.at_set, Nat.reduceEqDiff, reduceIte, f134]
          · simp only [Fr.at_set, Nat.reduceEqDiff, reduceIte, f135]
          · simp only [Fr.at_set, Nat.reduceEqDiff, reduceIte]; rfl
          · simp only [AH.get_up]; exact qa
          · simp only [AH.get_up]; exact qb
          · rw [ex]
            exact St.keep hS1 (by simp only [AH.next_up]; omega) (fun id _ _ _ _ => by simp only [AH.get_up])
      | succ k =>
        have c3 : (i : Int) < (s.os.length : Int) := by omega
        obtain ⟨o, ho⟩ : ∃ o, s.os[i]? = some o := ⟨_, List.getElem?_eq_getElem (show i < s.os.length by omega)⟩
        have hom := List.mem_of_getElem? ho
        obtain ⟨w1, w2⟩ := ok.enough.2.2.2.1 o hom
        have w3 := ok.olen hom
        obtain ⟨r, hr⟩ := ix22 (l := s.os) (i := (i : Int)) (by omega) (by rw [Int.toNat_natCast]; exact ho)
        have w := IntWalk.i64_in ((i : Int) + 1) (by have := ok.enough.2.1; omega)
        have a1 := fun {h : AH} => bin_sadd (P := Tryz.prog) (h := h) (t := 9) (x := o.n) (y := [70, 105, 108, 116, 101, 114]) (by simp only [List.length_cons, List.length_nil]; omega)
        have a2 := fun (z : List UInt8) (hz : z.length ≤ 100) {h : AH} => bin_sadd (P := Tryz.prog) (h := h) (t := 9) (x := z) (y := o.n) (by omega)
        have kO := objG_c (mx := mx) hs o (by omega) w1 (by omega) (fun f hf => by have := ok.tlen hom hf; omega)
        simp -implicitDefEqProofs only [wpC_seq, rowsA, if_true, if_false, opnd, ofVal, ofVal1, layArgs, Nat.reduceAdd, reduceIte, Nat.reduceEqDiff, reduceCtorEq, rowsB, cellsG, Nat.reduceMul, rowsS, List.drop_drop, f1, f5, f10, f11, f55, f56, f57, g0, c3, hr, al41, sz41, st41o, a1, goD_known (gin_c _ _ _), al56, sz56, goD_eq]
        rw [st56 _ _ _ _ [.str [], .str [], .str []] rfl, goD_st (by omega) (by kernel_rfl)]
        generalize hH : AH.set _ _ _ = H0
        have x1 : H0.get (h.next + 1 + 2) = some (.cells 41 0 false o.pv) := by
          rw [← hH]
          simp only [AH.get_set, AH.get_up, if_true]
          rw [if_neg (by omega), if_neg (by omega)]
        have x2 : H0.get (h.next + 1 + 4 + 6) = some (.cells 56 0 false [.str [102, 105, 108, 116, 101, 114], .str (o.n ++ bFilter), .str [33]]) := by
          rw [← hH]
          simp only [AH.get_set, if_true]
          rfl
        have x3 : ∀ y, y < h.next → H0.get y = h.get y := fun y hy => by
          rw [← hH]
          simp only [AH.get_set, AH.get_up]
          rw [if_neg (by omega), if_neg (by omega), if_neg (by omega), if_neg (by omega)]
        have x4 : H0.next = h.next + 14 := by rw [← hH]; simp only [AH.next_set, AH.next_up]
        clear hH
        have pa := hS.ha
        have pb := hS.hb
        have g0' := (x3 0 (by omega)).trans g0
        simp -implicitDefEqProofs only [wpC_seq, rowsA, if_true, if_false, opnd, ofVal, ofVal1, layArgs, Nat.reduceAdd, reduceIte, Nat.reduceEqDiff, reduceCtorEq, rowsB, cellsG, Nat.reduceMul, rowsS, List.drop_drop, f1, f5, g0', x1, goO_known kO]
        have hS0 := St.keep hS (h' := H0.up 6) (Nat.le_refl _) (fun id q1 q2 _ _ => by simp only [AH.get_up]; exact x3 id q2)
        have hl1 : (pre ++ (s.os.take i).flatMap (objD s)).length ≤ 1000 := by
          have := ok.enough.2.1
          have := ok.enough.2.2.1
          have h1 : ((s.os.take i).flatMap (objD s)).length ≤ 8 * 6 := flatMap_le (fun _ => Nat.le_refl 6) (by rw [List.length_take]; omega)
          have h2 : pre.length ≤ 13 := by rw [← hpre, List.length_append, List.length_map, List.length_map]; show 5 + _ ≤ 13; omega
          rw [List.length_append]
          omega
        obtain ⟨R1, ob1, e1, e2, e3, e4, e5, -, hS1⟩ := StD.addL hS0 (B' := h.next + 20) (fr := H0.next + 4) (x := rowV Dn.pv (objD s o)) (l' := objD s o) (by omega) (by omega) (cells_rowV (f := Dn.pv) (fun _ => rfl) _ _) (Nat.succ_pos _) (RdL.of_clean (flat_clean Dn.cl _)) (by show _ + 6 ≤ 1000000; omega)
        rw [e1, goO_w]
        have y0 : ((H0.up 6).set R1 ob1).get 0 = some (.cells 25 0 false s.pv) := by simp only [AH.get_set, AH.get_up]; rw [if_neg (by omega)]; exact g0'
        have ya : ((H0.up 6).set R1 ob1).get a = some (.cells 54 0 false [.str bQuery, .int .i64 2, .nls, vq, .nls]) := by simp only [AH.get_set, AH.get_up]; rw [if_neg (by omega)]; exact (x3 a (by omega)).trans ga
        have yb : ((H0.up 6).set R1 ob1).get b = some (.cells 54 0 false [.str bMutation, .int .i64 2, .nls, vm, .nls]) := by simp only [AH.get_set, AH.get_up]; rw [if_neg (by omega)]; exact (x3 b (by omega)).trans gb
        have y2 : ((H0.up 6).set R1 ob1).get (h.next + 1 + 4 + 6) = some (.cells 56 0 false [.str [102, 105, 108, 116, 101, 114], .str (o.n ++ bFilter), .str [33]]) := by simp only [AH.get_set, AH.get_up]; rw [if_neg (by omega)]; exact x2
        have yn : ((H0.up 6).set R1 ob1).next = h.next + 20 := by simp only [AH.next_set, AH.next_up, x4]
        generalize (H0.up 6).set R1 ob1 = H1 at hS1 y0 ya yb y2 yn ⊢
        have rq := RowP.root hS.q
        have rm := RowP.root hS.m
        clear e1 x1 x2 x3 x4 hS0 g0' hS
        have b1 := @a2 [103, 101, 116] (by decide)
        have b2 := @a2 [113, 117, 101, 114, 121] (by decide)
        have kA := args_c (mx := mx) o.n (by omega)
        simp -implicitDefEqProofs only [wpC_seq, rowsA, if_true, if_false, opnd, ofVal, ofVal1, layArgs, Nat.reduceAdd, reduceIte, Nat.reduceEqDiff, reduceCtorEq, rowsB, cellsG, Nat.reduceMul, rowsS, List.drop_drop, f10, f11, ya, fda_ptr o54_3, loadO_one ag51 sz51, b1, b2, goD_known (genRef_c _ _), goD_known (gin_c _ _ _), goD_known kA, bd52_1, bl58w, bl58v, bd51_2, goD_eq]
        clear b1 b2
        generalize hH : AH.set _ _ _ = H2
        have z1 : H2.get (H1.next + 7) = some (.cells 56 3 false (flat Inp.pv [⟨bid, bID, [33]⟩])) := by
          rw [← hH]
          simp only [AH.get_set, if_true]
          rw [if_neg (by omega)]
          rfl
        have z2 : H2.get (H1.next + 16) = some (.cells 58 4 false [.str (103 :: 101 :: 116 :: o.n), .str o.n, .str [], .ow (H1.next + 7) 3 0 1, .str (113 :: 117 :: 101 :: 114 :: 121 :: o.n), .str o.n, .str [33, 91, 33], rowV Inp.pv (argsL o.n)]) := by
          rw [← hH]
          simp only [AH.get_set, if_true]
        have z3 : ∀ y, y < H1.next → H2.get y = H1.get y := fun y hy => by
          rw [← hH]
          simp only [AH.get_set, AH.get_up]
          rw [if_neg (by omega), if_neg (by omega)]
        have z4 : H2.next = H1.next + 20 := by rw [← hH]; simp only [AH.next_set, AH.next_up]
        clear hH
        have hos := ok.enough.2.1
        have hl2 : ((s.os.take i).flatMap qryO).length ≤ 8 * 2 := flatMap_le (fun _ => Nat.le_refl 2) (by rw [List.length_take]; omega)
        have hl3 : ((s.os.take i).flatMap mutO).length ≤ 8 * 3 := flatMap_le (fun _ => Nat.le_refl 3) (by rw [List.length_take]; omega)
        have hS1k := St.keep hS1 (h' := H2) (Nat.le_refl _) (fun id q1 q2 _ _ => z3 id (by omega))
        obtain ⟨R2, ob2, e1, r2, r3, r4, r5, r6, hS2⟩ := StD.addQ hS1k (B' := H1.next + 20) (fr := H1.next + 17) (x := .ow (H1.next + 16) 8 0 2) (q' := qryO o) (by omega) (by omega) (cellR_ow (n := 2) z2 rfl) (Nat.succ_pos _) ⟨Rd.of_clean rfl, Rd.of_clean rfl, Rd.of_clean rfl, rdOwP (f := Inp.pv) (sz := 3) (d := 0) ⟨by omega, by omega⟩ (fun _ => rfl) Inp.cl z1 rfl rfl (Nat.succ_pos _), Rd.of_clean rfl, Rd.of_clean rfl, Rd.of_clean rfl, Rd.of_clean rfl, trivial⟩ (by show _ + 2 ≤ 1000000; omega)
        have r7 : R2 = H1.next + 17 ∨ R2 < h.next := by
          rcases r6 with q | q
          · exact .inl q
          · exact .inr (rq _ q).2.1
        rw [e1, goD_any (by kernel_rfl)]
        have y0' : (H2.set R2 ob2).get 0 = some (.cells 25 0 false s.pv) := by simp only [AH.get_set]; rw [if_neg (by omega), z3 0 (by omega)]; exact y0
        have ya' : (H2.set R2 ob2).get a = some (.cells 54 0 false [.str bQuery, .int .i64 2, .nls, vq, .nls]) := by simp only [AH.get_set]; rw [if_neg (by omega), z3 a (by omega)]; exact ya
        have yb' : (H2.set R2 ob2).get b = some (.cells 54 0 false [.str bMutation, .int .i64 2, .nls, vm, .nls]) := by simp only [AH.get_set]; rw [if_neg (by omega), z3 b (by omega)]; exact yb
        have y2' : (H2.set R2 ob2).get (h.next + 1 + 4 + 6) = some (.cells 56 0 false [.str [102, 105, 108, 116, 101, 114], .str (o.n ++ bFilter), .str [33]]) := by simp only [AH.get_set]; rw [if_neg (by omega), z3 _ (by omega)]; exact y2
        have yn' : (H2.set R2 ob2).next = h.next + 40 := by simp only [AH.next_set, z4, yn]
        generalize H2.set R2 ob2 = H3 at hS2 y0' ya' yb' y2' yn' ⊢
        clear e1 z1 z2 z3 z4 hS1 hS1k ya yb y2 y0
        simp -implicitDefEqProofs only [wpC_seq, rowsA, if_true, if_false, opnd, ofVal, ofVal1, layArgs, Nat.reduceAdd, reduceIte, Nat.reduceEqDiff, reduceCtorEq, rowsB, cellsG, Nat.reduceMul, rowsS, List.drop_drop, f10, ya', fda_ptr o54_3, sz51, st54q]
        rw [goD_st (by omega) (by kernel_rfl)]
        have v0 : (H3.set a (.cells 54 0 false [.str bQuery, .int .i64 2, .nls, .ow R2 (((s.os.take i).flatMap qryO ++ qryO o).length * 4) 0 ((s.os.take i).flatMap qryO ++ qryO o).length, .nls])).get 0 = some (.cells 25 0 false s.pv) := by simp only [AH.get_set]; rw [if_neg (by omega)]; exact y0'
        have va : (H3.set a (.cells 54 0 false [.str bQuery, .int .i64 2, .nls, .ow R2 (((s.os.take i).flatMap qryO ++ qryO o).length * 4) 0 ((s.os.take i).flatMap qryO ++ qryO o).length, .nls])).get a = some (.cells 54 0 false [.str bQuery, .int .i64 2, .nls, .ow R2 (((s.os.take i).flatMap qryO ++ qryO o).length * 4) 0 ((s.os.take i).flatMap qryO ++ qryO o).length, .nls]) := by simp only [AH.get_set, if_true]
        have vb : (H3.set a (.cells 54 0 false [.str bQuery, .int .i64 2, .nls, .ow R2 (((s.os.take i).flatMap qryO ++ qryO o).length * 4) 0 ((s.os.take i).flatMap qryO ++ qryO o).length, .nls])).get b = some (.cells 54 0 false [.str bMutation, .int .i64 2, .nls, vm, .nls]) := by simp only [AH.get_set]; rw [if_neg (by omega)]; exact yb'
        have v2 : (H3.set a (.cells 54 0 false [.str bQuery, .int .i64 2, .nls, .ow R2 (((s.os.take i).flatMap qryO ++ qryO o).length * 4) 0 ((s.os.take i).flatMap qryO ++ qryO o).length, .nls])).get (h.next + 1 + 4 + 6) = some (.cells 56 0 false [.str [102, 105, 108, 116, 101, 114], .str (o.n ++ bFilter), .str [33]]) := by simp only [AH.get_set]; rw [if_neg (by omega)]; exact y2'
        have vn : (H3.set a (.cells 54 0 false [.str bQuery, .int .i64 2, .nls, .ow R2 (((s.os.take i).flatMap qryO ++ qryO o).length * 4) 0 ((s.os.take i).flatMap qryO ++ qryO o).length, .nls])).next = h.next + 40 := by simp only [AH.next_set]; exact yn'
        have hS3 := St.keep hS2 (h' := H3.set a (.cells 54 0 false [.str bQuery, .int .i64 2, .nls, .ow R2 (((s.os.take i).flatMap qryO ++ qryO o).length * 4) 0 ((s.os.take i).flatMap qryO ++ qryO o).length, .nls])) (Nat.le_refl _) (fun id q1 q2 q3 q4 => by simp only [AH.get_set, q3, if_false])
        generalize H3.set a (.cells 54 0 false [.str bQuery, .int .i64 2, .nls, .ow R2 (((s.os.take i).flatMap qryO ++ qryO o).length * 4) 0 ((s.os.take i).flatMap qryO ++ qryO o).length, .nls]) = H4 at v0 va vb v2 vn hS3 ⊢
        clear y0' ya' yb' y2' yn' hS2
        have b1 := @a2 [97, 100, 100] (by decide)
        have b2 := @a2 [117, 112, 100, 97, 116, 101] (by decide)
        have b3 := @a2 [100, 101, 108, 101, 116, 101] (by decide)
        have b4 := @a2 [65, 100, 100] (by decide)
        have b5 := @a2 [80, 97, 116, 99, 104] (by decide)
        have l56 := load_agg (P := Tryz.prog) (c := [.str [102, 105, 108, 116, 101, 114], .str (o.n ++ bFilter), .str [33]]) ag56 sz56 (Nat.le_refl 3)
        have na : ¬ (h.next + 2 = H4.next) := by omega
        have nb : ¬ (h.next = H4.next + 8) := by omega
        have nc : ¬ (h.next = H4.next + 14) := by omega
        simp -implicitDefEqProofs only [wpC_seq, rowsA, if_true, if_false, opnd, ofVal, ofVal1, layArgs, Nat.reduceAdd, reduceIte, Nat.reduceEqDiff, reduceCtorEq, rowsB, cellsG, Nat.reduceMul, rowsS, List.drop_drop, f11, vb, v2, na, nb, nc, fda_ptr o54_3, loadO_one ag51 sz51, b1, b2, b3, b4, b5, l56, goD_known (genRef_c _ _), goD_known (gin_c _ _ _), bd52_1, bd52_2, bl58w, bd51_3, goD_eq]
        clear b1 b2 b3 b4 b5 na nb nc
        generalize hH : AH.set _ _ _ = H5
        have z1 : H5.get (H4.next + 9) = some (.cells 56 3 false (flat Inp.pv [⟨[105, 110, 112, 117, 116], bAdd ++ o.n, manyL⟩])) := by
          rw [← hH]
          simp only [AH.get_set, if_true]
          rw [if_neg (by omega), if_neg (by omega), if_neg (by omega)]
          rfl
        have z2 : H5.get (H4.next + 19) = some (.cells 56 3 false (flat Inp.pv [⟨[102, 105, 108, 116, 101, 114], o.n ++ bFilter, [33]⟩, ⟨[115, 101, 116], bPatch ++ o.n, [33]⟩])) := by
          rw [← hH]
          simp only [AH.get_set, if_true]
          rw [if_neg (by omega), if_neg (by omega)]
          rfl
        have z5 : H5.get (H4.next + 25) = some (.cells 56 3 false (flat Inp.pv [⟨[102, 105, 108, 116, 101, 114], o.n ++ bFilter, [33]⟩])) := by
          rw [← hH]
          simp only [AH.get_set, if_true]
          rw [if_neg (by omega)]
          rfl
        have z6 : H5.get (H4.next + 27) = some (.cells 58 4 false [.str (97 :: 100 :: 100 :: o.n), .str o.n, .str [33, 91, 33], .ow (H4.next + 9) 3 0 1, .str (117 :: 112 :: 100 :: 97 :: 116 :: 101 :: o.n), .str o.n, .str [33, 91, 33], .ow (H4.next + 19) 6 0 2, .str (100 :: 101 :: 108 :: 101 :: 116 :: 101 :: o.n), .str [73, 110, 116], .str [33], .ow (H4.next + 25) 3 0 1]) := by
          rw [← hH]
          simp only [AH.get_set, if_true]
        have z3 : ∀ y, y < H4.next → H5.get y = H4.get y := fun y hy => by
          rw [← hH]
          simp only [AH.get_set, AH.get_up]
          rw [if_neg (by omega), if_neg (by omega), if_neg (by omega), if_neg (by omega)]
        have z4 : H5.next = H4.next + 31 := by rw [← hH]; simp only [AH.next_set, AH.next_up]
        clear hH
        have hS3k := St.keep hS3 (h' := H5) (Nat.le_refl _) (fun id q1 q2 _ _ => z3 id (by omega))
        obtain ⟨R3, ob3, e1, t3, t4, t5, t6, t7, hS4⟩ := StD.addM hS3k (B' := H4.next + 31) (fr := H4.next + 28) (x := .ow (H4.next + 27) 12 0 3) (m' := mutO o) (by omega) (by omega) (cellR_ow (n := 3) z6 rfl) (Nat.succ_pos _) ⟨Rd.of_clean rfl, Rd.of_clean rfl, Rd.of_clean rfl, rdOwP (f := Inp.pv) (sz := 3) (d := 0) ⟨by omega, by omega⟩ (fun _ => rfl) Inp.cl z1 rfl rfl (Nat.succ_pos _), Rd.of_clean rfl, Rd.of_clean rfl, Rd.of_clean rfl, rdOwP (f := Inp.pv) (sz := 3) (d := 0) ⟨by omega, by omega⟩ (fun _ => rfl) Inp.cl z2 rfl rfl (Nat.succ_pos _), Rd.of_clean rfl, Rd.of_clean rfl, Rd.of_clean rfl, rdOwP (f := Inp.pv) (sz := 3) (d := 0) ⟨by omega, by omega⟩ (fun _ => rfl) Inp.cl z5 rfl rfl (Nat.succ_pos _), trivial⟩ (by show _ + 3 ≤ 1000000; omega)
        rw [e1, goD_any (by kernel_rfl)]
        have q0 : (H5.set R3 ob3).get 0 = some (.cells 25 0 false s.pv) := by simp only [AH.get_set]; rw [if_neg (by omega), z3 0 (by omega)]; exact v0
        have qa := (show (H5.set R3 ob3).get a = H4.get a by simp only [AH.get_set]; rw [if_neg (by omega), z3 a (by omega)]).trans va
        have qb : (H5.set R3 ob3).get b = some (.cells 54 0 false [.str bMutation, .int .i64 2, .nls, vm, .nls]) := by simp only [AH.get_set]; rw [if_neg (by omega), z3 b (by omega)]; exact vb
        have qn : (H5.set R3 ob3).next = H4.next + 31 := by simp only [AH.next_set, z4]
        generalize H5.set R3 ob3 = H6 at hS4 q0 qa qb qn ⊢
        clear e1 z1 z2 z3 z4 z5 z6 hS3 hS3k va vb v2 v0
        simp -implicitDefEqProofs only [wpC_seq, rowsA, if_true, if_false, opnd, ofVal, ofVal1, layArgs, Nat.reduceAdd, reduceIte, Nat.reduceEqDiff, reduceCtorEq, rowsB, cellsG, Nat.reduceMul, rowsS, List.drop_drop, f11, qb, fda_ptr o54_3, sz51, st54q]
        rw [goD_st (by omega) (by kernel_rfl)]
        simp -implicitDefEqProofs only [wpC_seq, rowsA, if_true, if_false, opnd, ofVal, ofVal1, layArgs, Nat.reduceAdd, reduceIte, Nat.reduceEqDiff, reduceCtorEq, rowsB, cellsG, Nat.reduceMul, f57, w]
        have ex1 : pre ++ (s.os.take (i + 1)).flatMap (objD s) = (pre ++ (s.os.take i).flatMap (objD s)) ++ objD s o := by rw [takeM ho, List.flatMap_append, List.append_assoc]; simp
        have ex2 : (s.os.take (i + 1)).flatMap qryO = (s.os.take i).flatMap qryO ++ qryO o := by rw [takeM ho, List.flatMap_append]; simp
        have ex3 : (s.os.take (i + 1)).flatMap mutO = (s.os.take i).flatMap mutO ++ mutO o := by rw [takeM ho, List.flatMap_append]; simp
        refine ⟨k, by omega, i + 1, .ow R1 (((pre ++ (s.os.take i).flatMap (objD s)) ++ objD s o).length * 5) 0 ((pre ++ (s.os.take i).flatMap (objD s)) ++ objD s o).length, .ow R2 (((s.os.take i).flatMap qryO ++ qryO o).length * 4) 0 ((s.os.take i).flatMap qryO ++ qryO o).length, .ow R3 (((s.os.take i).flatMap mutO ++ mutO o).length * 4) 0 ((s.os.take i).flatMap mutO ++ mutO o).length, by omega, ?_, ?_, ?_, ?_, ?_, ?_, ?_, ?_, ?_, ?_, hab, ?_⟩
        · simp only [Fr.at_set, Nat.reduceEqDiff, reduceIte, f1]
        · simp only [Fr.at_set, Nat.reduceEqDiff, reduceIte]
        · simp only [Fr.at_set, Nat.reduceEqDiff, reduceIte, f10]
        · simp only [Fr.at_set, Nat.reduceEqDiff, reduceIte, f11]
        · simp only [Fr.at_set, Nat.reduceEqDiff, reduceIte, f55]
        · simp only [Fr.at_set, Nat.reduceEqDiff, reduceIte, f56]
        · simp only [Fr.at_set, Nat.reduceEqDiff, reduceIte]; rfl
        · simp only [AH.get_set, AH.get_up]; rw [if_neg (by omega)]; exact q0
        · simp only [AH.get_set, AH.get_up]; rw [if_neg (by omega)]; exact qa
        · simp only [AH.get_set, AH.get_up, if_true]
        · rw [ex1, ex2, ex3]
          exact St.keep hS4 (by simp only [AH.next_set, AH.next_up]; omega) (fun id q1 q2 q3 q4 => by simp only [AH.get_set, AH.get_up, q4, if_false])
    | succ k =>
      have c2 : (i : Int) < (s.es.length : Int) := by omega
      obtain ⟨e, he⟩ : ∃ e, s.es[i]? = some e := ⟨_, List.getElem?_eq_getElem (show i < s.es.length by omega)⟩
      have hem := List.mem_of_getElem? he
      obtain ⟨w1, w2⟩ := ok.enough.2.2.2.2 e hem
      obtain ⟨r, hr⟩ := ix23 (l := s.es) (i := (i : Int)) (by omega) (by rw [Int.toNat_natCast]; exact he)
      have w := IntWalk.i64_in ((i : Int) + 1) (by have := ok.enough.2.2.1; omega)
      simp -implicitDefEqProofs only [wpC_seq, rowsA, if_true, if_false, opnd, ofVal, ofVal1, layArgs, Nat.reduceAdd, reduceIte, Nat.reduceEqDiff, reduceCtorEq, rowsB, cellsG, Nat.reduceMul, rowsS, List.drop_drop, f1, f5, f36, f37, f38, g0, c2, hr, al45, sz45, st45e, goD_own (v := fun fr => .ow fr (e.ws.length * 1) 0 e.ws.length) (clone_c (mx := mx) e.ws w1 (by omega)), bl54w, bd47_1, goD_eq, w]
      have hh : ∀ y, y < h.next → (((((((h.up 1).up 4).set (h.next + 1 + 2) (.cells 45 0 false [.str [], .nls])).set (h.next + 1 + 2) (.cells 45 0 false e.pv)).up 10).set (h.next + 1 + 4 + 5) (.cells 9 1 false (List.map PV.str e.ws))).set (h.next + 1 + 4 + 7) (.cells 54 5 false [.str e.n, .int .i64 1, .ow (h.next + 1 + 4 + 5) (e.ws.length * 1) 0 e.ws.length, .nls, .nls])).get y = h.get y := fun y hy => by
        simp only [AH.get_set, AH.get_up]
        rw [if_neg (by omega), if_neg (by omega), if_neg (by omega), if_neg (by omega)]
      have hg1 : (((((((h.up 1).up 4).set (h.next + 1 + 2) (.cells 45 0 false [.str [], .nls])).set (h.next + 1 + 2) (.cells 45 0 false e.pv)).up 10).set (h.next + 1 + 4 + 5) (.cells 9 1 false (List.map PV.str e.ws))).set (h.next + 1 + 4 + 7) (.cells 54 5 false [.str e.n, .int .i64 1, .ow (h.next + 1 + 4 + 5) (e.ws.length * 1) 0 e.ws.length, .nls, .nls])).get (h.next + 1 + 4 + 5) = some (.cells 9 1 false (flat strV e.ws)) := by
        simp only [AH.get_set, if_true]
        rw [if_neg (by omega), strs_flat]
      have hg2 : (((((((h.up 1).up 4).set (h.next + 1 + 2) (.cells 45 0 false [.str [], .nls])).set (h.next + 1 + 2) (.cells 45 0 false e.pv)).up 10).set (h.next + 1 + 4 + 5) (.cells 9 1 false (List.map PV.str e.ws))).set (h.next + 1 + 4 + 7) (.cells 54 5 false [.str e.n, .int .i64 1, .ow (h.next + 1 + 4 + 5) (e.ws.length * 1) 0 e.ws.length, .nls, .nls])).get (h.next + 1 + 4 + 7) = some (.cells 54 5 false [.str e.n, .int .i64 1, .ow (h.next + 1 + 4 + 5) (e.ws.length * 1) 0 e.ws.length, .nls, .nls]) := by
        simp only [AH.get_set, if_true]
      have hn1 : (((((((h.up 1).up 4).set (h.next + 1 + 2) (.cells 45 0 false [.str [], .nls])).set (h.next + 1 + 2) (.cells 45 0 false e.pv)).up 10).set (h.next + 1 + 4 + 5) (.cells 9 1 false (List.map PV.str e.ws))).set (h.next + 1 + 4 + 7) (.cells 54 5 false [.str e.n, .int .i64 1, .ow (h.next + 1 + 4 + 5) (e.ws.length * 1) 0 e.ws.length, .nls, .nls])).next = h.next + 15 := by simp only [AH.next_set, AH.next_up]
      generalize (((((((h.up 1).up 4).set (h.next + 1 + 2) (.cells 45 0 false [.str [], .nls])).set (h.next + 1 + 2) (.cells 45 0 false e.pv)).up 10).set (h.next + 1 + 4 + 5) (.cells 9 1 false (List.map PV.str e.ws))).set (h.next + 1 + 4 + 7) (.cells 54 5 false [.str e.n, .int .i64 1, .ow (h.next + 1 + 4 + 5) (e.ws.length * 1) 0 e.ws.length, .nls, .nls])) = H0 at hh hg1 hg2 hn1 ⊢
      have hil : (scalL.map scalD ++ (s.es.take i).map enmD).length ≤ 100 := by
        rw [List.length_append, List.length_map, List.length_map, List.length_take]
        have := ok.enough.2.2.1
        show 5 + _ ≤ 100
        omega
      obtain ⟨R, ob, e1, e2, e3, e4⟩ := (hR.keep (h' := H0) (Nat.le_refl _) (fun id h1 h2 => hh id h2)).add (B' := h.next + 15) (fr := h.next + 1 + 4 + 8) (x := .ow (h.next + 1 + 4 + 7) 5 0 1) (m := [enmD e]) (by omega) (by omega) (by omega) (cellR1 hg2 rfl) (Nat.succ_pos _) (by
        rw [flat1]
        exact ⟨Rd.of_clean rfl, Rd.of_clean rfl, rdOwP (f := strV) (sz := 1) (d := 1) ⟨by omega, by omega⟩ (fun _ => rfl) (fun _ => rfl) hg1 rfl rfl w1, Rd.of_clean rfl, Rd.of_clean rfl, trivial⟩) (by show _ + 1 ≤ 1000000; omega)
      rw [e1, goD_any (by kernel_rfl)]
      have hk : ∀ y, y < 10 → (H0.set R ob).get y = h.get y := fun y hy => by simp only [AH.get_set]; rw [if_neg (by omega), hh y (by omega)]
      have hnx : (H0.set R ob).next = h.next + 15 := by simp only [AH.next_set, hn1]
      generalize H0.set R ob = H at e4 hk hnx ⊢
      simp -implicitDefEqProofs only [wpC_seq, rowsA, if_true, if_false, opnd, ofVal, ofVal1, layArgs, Nat.reduceAdd, reduceIte, Nat.reduceEqDiff, reduceCtorEq, rowsB, cellsG, Nat.reduceMul, f38, w]
      have ex : scalL.map scalD ++ (s.es.take (i + 1)).map enmD = (scalL.map scalD ++ (s.es.take i).map enmD) ++ [enmD e] := by rw [takeM he, List.map_append, List.append_assoc]; rfl
      refine ⟨k, by omega, i + 1, .ow R (((scalL.map scalD ++ (s.es.take i).map enmD) ++ [enmD e]).length * 5) 0 ((scalL.map scalD ++ (s.es.take i).map enmD) ++ [enmD e]).length, by omega, ?_, ?_, ?_, ?_, ?_, ?_, ?_, ?_⟩
      · simp only [Fr.at_set, Nat.reduceEqDiff, reduceIte, f1]
      · simp only [Fr.at_set, Nat.reduceEqDiff, reduceIte]
      · simp only [Fr.at_set, Nat.reduceEqDiff, reduceIte, f36]
      · simp only [Fr.at_set, Nat.reduceEqDiff, reduceIte, f37]
      · simp only [Fr.at_set, Nat.reduceEqDiff, reduceIte]; rfl
      · simp only [AH.get_up]; exact (hk 0 (by decide)).trans g0
      · simp only [AH.next_up]; omega
      · rw [ex]
        exact e4.keep (by simp only [AH.next_up]; omega) fun id _ _ => by simp only [AH.get_up]
  | succ k =>
    have c1 : (i : Int) < 5 := by omega
    obtain ⟨x, hx⟩ : ∃ x, scalL[i]? = some x := ⟨_, List.getElem?_eq_getElem (show i < scalL.length by show i < 5; omega)⟩
    obtain ⟨r, hr⟩ := flat_drop (f := strV) (z := 1) (fun _ => rfl) scalL i x hx
    rw [Nat.mul_one] at hr
    have w := IntWalk.i64_in ((i : Int) + 1) (by omega)
    have hlen : (flat strV scalL).length = 5 := rfl
    have hld : loadO Tryz.prog 9 (some (strV x ++ r)) = some (.q (.str x)) := loadO_one ag9 sz9
    simp -implicitDefEqProofs only [wpC_seq, rowsA, if_true, if_false, opnd, ofVal, ofVal1, layArgs, Nat.reduceAdd, reduceIte, Nat.reduceEqDiff, reduceCtorEq, rowsB, cellsG, Nat.reduceMul, rowsS, List.drop_drop, f1, f5, f23, f24, f25, g0, g9, c1, ida_ow (n := 5) (i := (i : Int)) u43 sz9 (by omega) (by omega), Int.toNat_natCast, hr, hlen, hld, bl54s, bd47_d, w]
    have hRk := hR.keep (h' := (((h.up 1).up 3).up 6).set (h.next + 1 + 3 + 3) (.cells 54 5 false (scalD x).pv)) (Nat.le_refl _) (fun id h1 h2 => by simp only [AH.get_set, AH.get_up]; rw [if_neg (by omega)])
    have hil : ((scalL.take i).map scalD).length ≤ 5 := by rw [List.length_map, List.length_take]; exact Nat.min_le_right _ _
    obtain ⟨R, ob, e1, e2, e3, e4⟩ := hRk.add (B' := h.next + 10) (fr := h.next + 1 + 3 + 4) (x := .ow (h.next + 1 + 3 + 3) 5 0 1) (m := [scalD x]) (xs := (scalD x).pv) (by omega) (by omega) (by omega) (cellR1 (by simp only [AH.get_set, if_true]; rfl) rfl) (Nat.succ_pos _) (by rw [flat1]; exact RdL.of_clean rfl) (by show _ + 1 ≤ 1000000; omega)
    rw [e1, goO_w]
    have hk : ∀ y, y < 10 → (((((h.up 1).up 3).up 6).set (h.next + 1 + 3 + 3) (.cells 54 5 false (scalD x).pv)).set R ob).get y = h.get y := fun y hy => by simp only [AH.get_set, AH.get_up]; rw [if_neg (by omega), if_neg (by omega)]
    have hnx : (((((h.up 1).up 3).up 6).set (h.next + 1 + 3 + 3) (.cells 54 5 false (scalD x).pv)).set R ob).next = h.next + 10 := by simp only [AH.next_set, AH.next_up]
    generalize ((((h.up 1).up 3).up 6).set (h.next + 1 + 3 + 3) (.cells 54 5 false (scalD x).pv)).set R ob = H at e4 hk hnx ⊢
    simp -implicitDefEqProofs only [wpC_seq, rowsA, if_true, if_false, opnd, ofVal, ofVal1, layArgs, Nat.reduceAdd, reduceIte, Nat.reduceEqDiff, reduceCtorEq, rowsB, cellsG, Nat.reduceMul, f25, w]
    have ex : (scalL.take (i + 1)).map scalD = (scalL.take i).map scalD ++ [scalD x] := by rw [takeM hx, List.map_append]; rfl
    refine ⟨k, by omega, i + 1, .ow R (((scalL.take i).map scalD ++ [scalD x]).length * 5) 0 ((scalL.take i).map scalD ++ [scalD x]).length, by omega, ?_, ?_, ?_, ?_, ?_, ?_, ?_, ?_, ?_⟩
    · simp only [Fr.at_set, Nat.reduceEqDiff, reduceIte, f1]
    · simp only [Fr.at_set, Nat.reduceEqDiff, reduceIte]
    · simp only [Fr.at_set, Nat.reduceEqDiff, reduceIte, f23]
    · simp only [Fr.at_set, Nat.reduceEqDiff, reduceIte, f24]
    · simp only [Fr.at_set, Nat.reduceEqDiff, reduceIte]; rfl
    · simp only [AH.get_up]; exact (hk 0 (by decide)).trans g0
    · simp only [AH.get_up]; exact (hk 9 (by decide)).trans g9
    · simp only [AH.next_up]; omega
    · rw [ex]
      exact e4.keep (by simp only [AH.next_up]; omega) fun id _ _ => by simp only [AH.get_up]
end Go.Proofs.YtcbngkmmmfaaoaaGreatDoor
namespace Go.Proofs.YtcbngkmmmfaaoaaGreatDoor
open Go.RowKit Go.Lib Go.Ac
variable {mx : Int}
structure Good (x : List UInt8) : Prop where
  add : ∀ y, x ≠ bAdd ++ y
  patch : ∀ y, x ≠ bPatch ++ y
  filter : ∀ y, x ≠ y ++ bFilter
  order : ∀ y, x ≠ y ++ bOrder
  orderable : ∀ y, x ≠ y ++ bOrderable
theorem hasP_app (p y : List UInt8) : hasP (p ++ y) p = true := by simp [hasP]
theorem endsB_app (p y : List UInt8) : endsB (y ++ p) p = true := by simp [endsB]
theorem good_of {x : List UInt8} (h1 : frontL.all (fun p => !(hasP x p)) = true) (h2 : tailL.all (fun p => !(endsB x p)) = true) : Good x := by
  simp only [List.all_eq_true, Bool.not_eq_true'] at h1 h2
  refine ⟨fun y e => ?_, fun y e => ?_, fun y e => ?_, fun y e => ?_, fun y e => ?_⟩
  · have := h1 bAdd (by decide)
    rw [e, hasP_app] at this
    cases this
  · have := h1 bPatch (by decide)
    rw [e, hasP_app] at this
    cases this
  · have := h2 bFilter (by decide)
    rw [e, endsB_app] at this
    cases this
  · have := h2 bOrder (by decide)
    rw [e, endsB_app] at this
    cases this
  · have := h2 bOrderable (by decide)
    rw [e, endsB_app] at this
    cases this
def app : Nat → List UInt8 → List UInt8
  | 0, x => x
  | 1, x => x ++ bFilter
  | 2, x => x ++ bOrder
  | 3, x => x ++ bOrderable
  | 4, x => bAdd ++ x
  | _, x => bPatch ++ x
theorem tail_ne {a b s t : List UInt8} (hl : s.length = t.length) (hn : s ≠ t) : a ++ s ≠ b ++ t := fun e => hn (List.append_inj_right' e hl)
theorem fo {a b : List UInt8} : a ++ bFilter ≠ b ++ bOrder := fun e => tail_ne (a := a ++ [70]) (b := b) (s := [105, 108, 116, 101, 114]) (t := bOrder) rfl (by decide) (by rw [List.append_assoc]; exact e)
theorem fr' {a b : List UInt8} : a ++ bFilter ≠ b ++ bOrderable := fun e => tail_ne (a := a) (b := b ++ [79, 114, 100]) (s := bFilter) (t := [101, 114, 97, 98, 108, 101]) rfl (by decide) (by rw [List.append_assoc]; exact e)
theorem or' {a b : List UInt8} : a ++ bOrder ≠ b ++ bOrderable := fun e => tail_ne (a := a) (b := b ++ [79, 114, 100, 101]) (s := bOrder) (t := [114, 97, 98, 108, 101]) rfl (by decide) (by rw [List.append_assoc]; exact e)
theorem add_ne {x z : List UInt8} {c : UInt8} {s : List UInt8} (hz : ∀ y, z ≠ bAdd ++ y) (h1 : c ≠ 65) (h2 : c ≠ 100) : bAdd ++ x ≠ z ++ c :: s := by
  intro e
  match z, hz, e with
  | [], _, e =>
    simp only [bAdd, List.cons_append, List.nil_append, List.cons.injEq] at e
    exact h1 e.1.symm
  | [a], _, e =>
    simp only [bAdd, List.cons_append, List.nil_append, List.cons.injEq] at e
    exact h2 e.2.1.symm
  | [a, b], _, e =>
    simp only [bAdd, List.cons_append, List.nil_append, List.cons.injEq] at e
    exact h2 e.2.2.1.symm
  | a :: b :: d :: y, hz, e =>
    simp only [bAdd, List.cons_append, List.nil_append, List.cons.injEq] at e
    obtain ⟨rfl, rfl, rfl, _⟩ := e
    exact hz y rfl
theorem patch_ne {x z : List UInt8} {c : UInt8} {s : List UInt8} (hz : ∀ y, z ≠ bPatch ++ y) (h1 : c ≠ 80) (h2 : c ≠ 97) (h3 : c ≠ 116) (h4 : c ≠ 99) (h5 : c ≠ 104) : bPatch ++ x ≠ z ++ c :: s := by
  intro e
  match z, hz, e with
  | [], _, e =>
    simp only [bPatch, List.cons_append, List.nil_append, List.cons.injEq] at e
    exact h1 e.1.symm
  | [a], _, e =>
    simp only [bPatch, List.cons_append, List.nil_append, List.cons.injEq] at e
    exact h2 e.2.1.symm
  | [a, b], _, e =>
    simp only [bPatch, List.cons_append, List.nil_append, List.cons.injEq] at e
    exact h3 e.2.2.1.symm
  | [a, b, d], _, e =>
    simp only [bPatch, List.cons_append, List.nil_append, List.cons.injEq] at e
    exact h4 e.2.2.2.1.symm
  | [a, b, d, f], _, e =>
    simp only [bPatch, List.cons_append, List.nil_append, List.cons.injEq] at e
    exact h5 e.2.2.2.2.1.symm
  | a :: b :: d :: f :: g :: y, hz, e =>
    simp only [bPatch, List.cons_append, List.nil_append, List.cons.injEq] at e
    obtain ⟨rfl, rfl, rfl, rfl, rfl, _⟩ := e
    exact hz y rfl
theorem app_inj {i j : Nat} {x y : List UInt8} (hx : Good x) (hy : Good y) (hi : i < 6) (hj : j < 6) (e : app i x = app j y) : i = j ∧ x = y := by
  have sym : ∀ {p q : Nat} {u v : List UInt8}, Good u → Good v → p < q → q < 6 → app p u ≠ app q v := by
    intro p q u v hu hv hpq hq e
    obtain rfl | rfl | rfl | rfl | rfl : q = 1 ∨ q = 2 ∨ q = 3 ∨ q = 4 ∨ q = 5 := by omega
    · obtain rfl : p = 0 := by omega
      exact hu.filter _ e
    · obtain rfl | rfl : p = 0 ∨ p = 1 := by omega
      · exact hu.order _ e
      · exact fo e
    · obtain rfl | rfl | rfl : p = 0 ∨ p = 1 ∨ p = 2 := by omega
      · exact hu.orderable _ e
      · exact fr' e
      · exact or' e
    · obtain rfl | rfl | rfl | rfl : p = 0 ∨ p = 1 ∨ p = 2 ∨ p = 3 := by omega
      · exact hu.add _ e
      · exact add_ne hu.add (by decide) (by decide) e.symm
      · exact add_ne hu.add (by decide) (by decide) e.symm
      · exact add_ne hu.add (by decide) (by decide) e.symm
    · obtain rfl | rfl | rfl | rfl | rfl : p = 0 ∨ p = 1 ∨ p = 2 ∨ p = 3 ∨ p = 4 := by omega
      · exact hu.patch _ e
      · exact patch_ne hu.patch (by decide) (by decide) (by decide) (by decide) (by decide) e.symm
      · exact patch_ne hu.patch (by decide) (by decide) (by decide) (by decide) (by decide) e.symm
      · exact patch_ne hu.patch (by decide) (by decide) (by decide) (by decide) (by decide) e.symm
      · simp [app, bAdd, bPatch] at e
  rcases Nat.lt_trichotomy i j with h | h | h
  · exact absurd e (sym hx hy h hj)
  · subst h
    refine ⟨rfl, ?_⟩
    obtain rfl | rfl | rfl | rfl | rfl | rfl : i = 0 ∨ i = 1 ∨ i = 2 ∨ i = 3 ∨ i = 4 ∨ i = 5 := by omega
    · exact e
    · exact List.append_cancel_right e
    · exact List.append_cancel_right e
    · exact List.append_cancel_right e
    · exact List.append_cancel_left e
    · exact List.append_cancel_left e
  · exact absurd e.symm (sym hy hx h hi)
end Go.Proofs.YtcbngkmmmfaaoaaGreatDoor
namespace Go.Proofs.YtcbngkmmmfaaoaaGreatDoor
open Go.RowKit Go.Lib Go.Ac
variable {mx : Int}
def six (o : Ob) : List (Nat × List UInt8) := [(0, o.n), (3, o.n), (2, o.n), (1, o.n), (4, o.n), (5, o.n)]
def midP : List (Nat × List UInt8) := [(1, bInt), (1, bFloat), (1, bString), (1, bBoolean)]
def typesP (s : Sc) : List (Nat × List UInt8) := scalL.map (fun x => (0, x)) ++ s.es.map (fun e => (0, e.n)) ++ s.os.flatMap six ++ midP ++ s.es.map (fun e => (1, e.n)) ++ [(0, bQuery), (0, bMutation)]
def appP (p : Nat × List UInt8) : List UInt8 := app p.1 p.2
theorem names_types (s : Sc) : (typesD s).map (·.n) = (typesP s).map appP := by
  simp only [typesD, typesP, List.map_append, List.map_map, List.map_flatMap]
  rfl
def resv : List (List UInt8) := [bID, bInt, bFloat, bString, bBoolean, bQuery, bMutation]
theorem own_resv {x : List UInt8} (h : ownB mx x = true) : x ∉ resv := by
  simp only [ownB, nmB, Bool.and_eq_true, Bool.not_eq_true'] at h
  obtain ⟨⟨_, _, h1⟩, h2⟩ := h
  intro hm
  simp only [resv, List.mem_cons, List.not_mem_nil, or_false] at hm
  have h1' : ¬ (0 ≤ idx (fun y => decide (x = y)) notL 0) := by simpa [memB] using h1
  have no : ∀ y ∈ notL, x ≠ y := fun y hy e => h1' (idx_pos.2 ⟨y, hy, by simp [e]⟩)
  have ns : ∀ y, scalar y = true → x ≠ y := fun y hy e => by
    rw [← e, h2] at hy
    cases hy
  rcases hm with hm | hm | hm | hm | hm | hm | hm
  · exact no _ (by decide) hm
  · exact ns _ (by decide) hm
  · exact ns _ (by decide) hm
  · exact ns _ (by decide) hm
  · exact ns _ (by decide) hm
  · exact no _ (by decide) hm
  · exact no _ (by decide) hm
theorem own_good {x : List UInt8} (h : ownB mx x = true) : Good x := by
  simp only [ownB, Bool.and_eq_true] at h
  exact good_of h.1.1.1 h.1.1.2
theorem resv_good {x : List UInt8} (h : x ∈ resv) : Good x := by
  simp only [resv, List.mem_cons, List.not_mem_nil, or_false] at h
  rcases h with rfl | rfl | rfl | rfl | rfl | rfl | rfl <;> exact good_of (by decide) (by decide)
theorem Sc.okM.oown {s : Sc} (h : s.okM mx) {o : Ob} (ho : o ∈ s.os) : ownB mx o.n = true := by
  have := h.named
  simp only [namedB, Bool.and_eq_true, List.all_eq_true] at this
  exact this.1.1 o ho
theorem Sc.okM.eown {s : Sc} (h : s.okM mx) {e : En} (he : e ∈ s.es) : ownB mx e.n = true := by
  have := h.named
  simp only [namedB, Bool.and_eq_true, List.all_eq_true, enmB] at this
  exact (this.2 e he).1
theorem six_mem {o : Ob} {p : Nat × List UInt8} (h : p ∈ six o) : p.1 < 6 ∧ p.2 = o.n := by
  simp only [six, List.mem_cons, List.not_mem_nil, or_false] at h
  rcases h with rfl | rfl | rfl | rfl | rfl | rfl <;> exact ⟨by simp, rfl⟩
theorem six_nodup : ∀ {l : List Ob}, (l.map (·.n)).Nodup → (l.flatMap six).Nodup
  | [], _ => by simp
  | o :: l, h => by
    rw [List.map_cons, List.nodup_cons] at h
    rw [List.flatMap_cons, List.nodup_append]
    refine ⟨by simp [six], six_nodup h.2, fun p hp q hq e => ?_⟩
    obtain ⟨r, hr, hq⟩ := List.mem_flatMap.1 hq
    subst e
    exact h.1 (List.mem_map.2 ⟨r, hr, (six_mem hq).2.symm.trans (six_mem hp).2⟩)
theorem nodup_map {α β : Type} {f : α → β} (hf : ∀ a b, f a = f b → a = b) {l : List α} (h : l.Nodup) : (l.map f).Nodup := by
  rw [List.nodup_iff_pairwise_ne, List.pairwise_map]
  rw [List.nodup_iff_pairwise_ne] at h
  exact h.imp fun hab e => hab (hf _ _ e)
theorem typesP_mem {s : Sc} {p : Nat × List UInt8} (h : p ∈ typesP s) : p.1 < 6 ∧ (p.2 ∈ resv ∨ (∃ e ∈ s.es, p.2 = e.n) ∨ ∃ o ∈ s.os, p.2 = o.n) := by
  simp only [typesP, List.mem_append, List.mem_map, List.mem_flatMap] at h
  rcases h with ((((⟨x, hx, rfl⟩ | ⟨e, he, rfl⟩) | ⟨o, ho, hp⟩) | hp) | ⟨e, he, rfl⟩) | hp
  · refine ⟨by show 0 < 6; decide, .inl ?_⟩
    simp only [scalL, List.mem_cons, List.not_mem_nil, or_false] at hx
    rcases hx with rfl | rfl | rfl | rfl | rfl <;> decide
  · exact ⟨by show 0 < 6; decide, .inr (.inl ⟨e, he, rfl⟩)⟩
  · exact ⟨(six_mem hp).1, .inr (.inr ⟨o, ho, (six_mem hp).2⟩)⟩
  · simp only [midP, List.mem_cons, List.not_mem_nil, or_false] at hp
    rcases hp with rfl | rfl | rfl | rfl <;> exact ⟨by decide, .inl (by decide)⟩
  · exact ⟨by show 1 < 6; decide, .inr (.inl ⟨e, he, rfl⟩)⟩
  · simp only [List.mem_cons, List.not_mem_nil, or_false] at hp
    rcases hp with rfl | rfl <;> exact ⟨by decide, .inl (by decide)⟩
theorem typesP_good {s : Sc} (h : s.okM mx) {p : Nat × List UInt8} (hp : p ∈ typesP s) : Good p.2 := by
  rcases (typesP_mem hp).2 with q | ⟨e, he, q⟩ | ⟨o, ho, q⟩
  · exact resv_good q
  · rw [q]; exact own_good (h.eown he)
  · rw [q]; exact own_good (h.oown ho)
theorem typesP_nodup {s : Sc} (h : s.okM mx) : (typesP s).Nodup := by
  obtain ⟨n1, n2, n3⟩ := List.nodup_append.1 h.all
  have ne0 : ∀ e ∈ s.es, e.n ∉ resv := fun e he => own_resv (h.eown he)
  have no0 : ∀ o ∈ s.os, o.n ∉ resv := fun o ho => own_resv (h.oown ho)
  have noe : ∀ o ∈ s.os, ∀ e ∈ s.es, o.n ≠ e.n := fun o ho e he => n3 _ (List.mem_map.2 ⟨o, ho, rfl⟩) _ (List.mem_map.2 ⟨e, he, rfl⟩)
  have pe : ∀ k : Nat, (s.es.map (fun e => (k, e.n))).Nodup := fun k => by
    have := nodup_map (f := fun x : List UInt8 => (k, x)) (fun a b e => by simpa using e) n2
    rw [List.map_map] at this
    exact this
  have sc : ∀ x ∈ scalL, x ∈ resv := fun x hx => by
    simp only [scalL, List.mem_cons, List.not_mem_nil, or_false] at hx
    rcases hx with rfl | rfl | rfl | rfl | rfl <;> decide
  have mp : ∀ p ∈ midP, p.1 = 1 ∧ p.2 ∈ resv := fun p hp => by
    simp only [midP, List.mem_cons, List.not_mem_nil, or_false] at hp
    rcases hp with rfl | rfl | rfl | rfl <;> exact ⟨rfl, by decide⟩
  have qm : ∀ p : Nat × List UInt8, p ∈ [(0, bQuery), (0, bMutation)] → p.1 = 0 ∧ p.2 ∈ resv ∧ p.2 ∉ scalL := fun p hp => by
    simp only [List.mem_cons, List.not_mem_nil, or_false] at hp
    rcases hp with rfl | rfl <;> exact ⟨rfl, by decide, by decide⟩
  unfold typesP
  rw [List.nodup_append, List.nodup_append, List.nodup_append, List.nodup_append, List.nodup_append]
  refine ⟨⟨⟨⟨⟨by decide, pe 0, ?_⟩, six_nodup n1, ?_⟩, by decide, ?_⟩, pe 1, ?_⟩, by decide, ?_⟩
  · intro p hp q hq e
    obtain ⟨x, hx, rfl⟩ := List.mem_map.1 hp
    obtain ⟨y, hy, rfl⟩ := List.mem_map.1 hq
    simp only [Prod.mk.injEq, true_and] at e
    exact ne0 y hy (e ▸ sc x hx)
  · intro p hp q hq e
    obtain ⟨o, ho, hq⟩ := List.mem_flatMap.1 hq
    have q2 := (six_mem hq).2
    subst e
    rcases List.mem_append.1 hp with hp | hp
    · obtain ⟨x, hx, rfl⟩ := List.mem_map.1 hp
      exact no0 o ho (q2 ▸ sc x hx)
    · obtain ⟨y, hy, rfl⟩ := List.mem_map.1 hp
      exact noe o ho y hy q2.symm
  · intro p hp q hq e
    subst e
    obtain ⟨m1, m2⟩ := mp p hq
    rcases List.mem_append.1 hp with hp | hp
    · rcases List.mem_append.1 hp with hp | hp
      · obtain ⟨x, hx, rfl⟩ := List.mem_map.1 hp
        cases m1
      · obtain ⟨y, hy, rfl⟩ := List.mem_map.1 hp
        cases m1
    · obtain ⟨o, ho, hp⟩ := List.mem_flatMap.1 hp
      exact no0 o ho ((six_mem hp).2 ▸ m2)
  · intro p hp q hq e
    subst e
    obtain ⟨y, hy, rfl⟩ := List.mem_map.1 hq
    rcases List.mem_append.1 hp with hp | hp
    · rcases List.mem_append.1 hp with hp | hp
      · rcases List.mem_append.1 hp with hp | hp
        · obtain ⟨x, hx, e⟩ := List.mem_map.1 hp
          cases e
        · obtain ⟨z, hz, e⟩ := List.mem_map.1 hp
          cases e
      · obtain ⟨o, ho, hp⟩ := List.mem_flatMap.1 hp
        exact noe o ho y hy (six_mem hp).2.symm
    · exact ne0 y hy (mp _ hp).2
  · intro p hp q hq e
    subst e
    obtain ⟨m1, m2, m3⟩ := qm p hq
    rcases List.mem_append.1 hp with hp | hp
    · rcases List.mem_append.1 hp with hp | hp
      · rcases List.mem_append.1 hp with hp | hp
        · rcases List.mem_append.1 hp with hp | hp
          · obtain ⟨x, hx, rfl⟩ := List.mem_map.1 hp
            exact m3 hx
          · obtain ⟨z, hz, rfl⟩ := List.mem_map.1 hp
            exact ne0 z hz m2
        · obtain ⟨o, ho, hp⟩ := List.mem_flatMap.1 hp
          exact no0 o ho ((six_mem hp).2 ▸ m2)
      · have := (mp _ hp).1
        omega
    · obtain ⟨y, hy, rfl⟩ := List.mem_map.1 hp
      cases m1
theorem types_nodup {s : Sc} (h : s.okM mx) : ((typesD s).map (·.n)).Nodup := by
  rw [names_types, List.nodup_iff_pairwise_ne, List.pairwise_map]
  have := typesP_nodup h
  rw [List.nodup_iff_pairwise_ne] at this
  refine List.Pairwise.imp_of_mem (fun {a b} ha hb hab e => hab ?_) this
  obtain ⟨e1, e2⟩ := app_inj (typesP_good h ha) (typesP_good h hb) (typesP_mem ha).1 (typesP_mem hb).1 e
  exact Prod.ext e1 e2
def dnAt (l : List Dn) (x : List UInt8) : Int := idx (fun o => decide (o.n = x)) l 0
theorem types_at {s : Sc} (h : s.okM mx) {i : Nat} {d : Dn} (hd : (typesD s)[i]? = some d) : dnAt (typesD s) d.n = (i : Int) := nodup_idx (fun d : Dn => d.n) (types_nodup h) hd
theorem types_in {s : Sc} (h : s.okM mx) {d : Dn} (hd : d ∈ typesD s) : ∃ i : Nat, (typesD s)[i]? = some d ∧ dnAt (typesD s) d.n = (i : Int) := by
  obtain ⟨i, hi⟩ := List.getElem?_of_mem hd
  exact ⟨i, hi, types_at h hi⟩
end Go.Proofs.YtcbngkmmmfaaoaaGreatDoor
namespace Go.Proofs.YtcbngkmmmfaaoaaGreatDoor
open Go.RowKit Go.Lib Go.Ac
set_option linter.unusedSimpArgs false
set_option maxRecDepth 100000
variable {mx : Int}
theorem defPn_c (o : Dn) (x : List UInt8) (h : AH) (fr : Nat) : CR Tryz.prog (globM mx) md (.fn 76) [.agg o.pv, .rop [.str x]] h fr (.val (.bool (decide (o.n = x)))) := by
  refine CR.plain (rs := [.tmp 3]) Tryz.func76 rfl rfl rfl rfl rfl (by simp [PV.cleans, PV.clean, Dn.cl]) rfl ?_ h fr
  simp -implicitDefEqProofs only [wpC_seq, rowsA, if_true, if_false, opnd, ofVal, ofVal1, layArgs, Nat.reduceAdd, reduceIte, Nat.reduceEqDiff, reduceCtorEq, rowsB, cellsG, Nat.reduceMul, fda_ptr o54_0, Dn.pv, loadO_one ag9 sz9]
theorem indexDn_c (p : Dn → Bool) (l : List Dn) (hl : l.length ≤ 9223372036854775807) (kf : FuncId) (cap : List PV) (hcap : PV.cleans cap = true) (hp : ∀ o h fr, CR Tryz.prog (globM mx) md (.fn kf) (.agg o.pv :: cap) h fr (.val (.bool (p o)))) (h : AH) (fr : Nat) :
    CR Tryz.prog (globM mx) md (.fn 75) [rowV Dn.pv l, .fn (.func kf) [] cap] h fr (.val (.int .i64 (idx p l 0))) := by
  refine CR.plain (rs := [.tmp 4]) Tryz.func75 rfl rfl rfl rfl rfl (by simp [rowV, PV.cleans, PV.clean, hcap]) rfl ?_ h fr
  simp -implicitDefEqProofs only [wpC_seq, rowsA, if_true, if_false, opnd, ofVal, ofVal1, layArgs, Nat.reduceAdd, reduceIte, Nat.reduceEqDiff, reduceCtorEq, rowsB, cellsG, Nat.reduceMul, rowV, len_ro u47]
  refine wpC_loop (invIdx Dn.pv p l (.fn (.func kf) [] cap)) (k := l.length) ⟨0, by omega, ?_, ?_, ?_, ?_, rfl⟩ ?_
  · simp only [Fr.at_set, Nat.reduceEqDiff, reduceIte, reduceCtorEq]; rfl
  · simp only [Fr.at_set, Nat.reduceEqDiff, reduceIte, reduceCtorEq]
  · simp only [Fr.at_set, Nat.reduceEqDiff, reduceIte, reduceCtorEq]
  · simp only [Fr.at_set, Nat.reduceEqDiff, reduceIte, reduceCtorEq]; rfl
  rintro k F h' ⟨i, hi, f0, f1, f7, f8, hx⟩
  cases k with
  | zero =>
    have c1 : decide ((i : Int) < (l.length : Int)) = false := decide_eq_false (by omega)
    rw [idx_end p l i (by omega)] at hx
    simp -implicitDefEqProofs only [wpC_seq, rowsA, if_true, if_false, opnd, ofVal, ofVal1, layArgs, Nat.reduceAdd, reduceIte, Nat.reduceEqDiff, reduceCtorEq, rowsB, cellsG, Nat.reduceMul, f0, f1, f7, f8, c1, ← hx]
  | succ k =>
    have c1 : decide ((i : Int) < (l.length : Int)) = true := decide_eq_true (by omega)
    obtain ⟨o, ho⟩ : ∃ o, l[i]? = some o := ⟨l[i], List.getElem?_eq_getElem (by omega)⟩
    obtain ⟨r, hr⟩ := flat_drop (f := Dn.pv) (z := 5) (fun _ => rfl) l i o ho
    rw [idx_drop p l i o ho] at hx
    have w := IntWalk.i64_in ((i : Int) + 1) (by omega)
    have hld : loadO Tryz.prog 54 (some (o.pv ++ r)) = some (.q (.agg o.pv)) := by
      rw [load_agg ag54 sz54 (by rw [List.length_append]; show 5 ≤ 5 + _; omega)]
      rw [List.take_left' (show o.pv.length = 5 from rfl)]
    cases hpo : p o with
    | true =>
      rw [hpo, if_pos rfl] at hx
      simp -implicitDefEqProofs only [wpC_seq, rowsA, if_true, if_false, opnd, ofVal, ofVal1, layArgs, Nat.reduceAdd, reduceIte, Nat.reduceEqDiff, reduceCtorEq, rowsB, cellsG, Nat.reduceMul, f0, f1, f7, f8, c1, rowV, ida_roN (n := l.length) (i := (i : Int)) u47 sz54 (by omega) (by omega), Int.toNat_natCast, hr, hld, goO_known (hp o), hpo, ← hx]
    | false =>
      rw [hpo, if_neg (by simp)] at hx
      simp -implicitDefEqProofs only [wpC_seq, rowsA, if_true, if_false, opnd, ofVal, ofVal1, layArgs, Nat.reduceAdd, reduceIte, Nat.reduceEqDiff, reduceCtorEq, rowsB, cellsG, Nat.reduceMul, f0, f1, f7, f8, c1, rowV, ida_roN (n := l.length) (i := (i : Int)) u47 sz54 (by omega) (by omega), Int.toNat_natCast, hr, hld, goO_known (hp o), hpo, w]
      refine ⟨k, by omega, i + 1, by omega, ?_, ?_, ?_, ?_, hx⟩
      · simp only [Fr.at_set, Nat.reduceEqDiff, reduceIte, reduceCtorEq, f0]
      · simp only [Fr.at_set, Nat.reduceEqDiff, reduceIte, reduceCtorEq, f1]
      · simp only [Fr.at_set, Nat.reduceEqDiff, reduceIte, reduceCtorEq, f7]
      · simp only [Fr.at_set, Nat.reduceEqDiff, reduceIte, reduceCtorEq]; rfl
theorem indexDn_sh (l : List Dn) (hl : l.length ≤ 9223372036854775807) (x : List UInt8) (id : Nat) (h : AH) (hg : h.get id = some (.cells 9 0 false [.str x])) (fr : Nat) :
    CR Tryz.prog (globM mx) md (.fn 75) [rowV Dn.pv l, .fn (.func 76) [] [.ptr id 1 0]] h fr (.sh (.int .i64 (idx (fun o => decide (o.n = x)) l 0)) (h.set id (.cells 9 0 true [.str x]))) := by
  refine CR.viaFrz (args' := [rowV Dn.pv l, .fn (.func 76) [] [.rop [.str x]]]) Tryz.func75 rfl rfl rfl rfl ?_ rfl (fun h fr => indexDn_c _ l hl 76 [.rop [.str x]] rfl (fun o h fr => defPn_c o x h fr) h fr) fr
  simp only [frzL, frz_clean h (show (rowV Dn.pv l).clean = true from rfl), frz_cap100 (tot := 1) 76 hg rfl rfl]
theorem findN_c (l : List Dn) (hs : l.length ≤ 9223372036854775807) (x : List UInt8) (h : AH) (fr : Nat) : CR Tryz.prog (globM mx) md (.fn 33) [rowV Dn.pv l, .str x] h fr (.val (.int .i64 (dnAt l x))) := by
  refine CR.plain (rs := [.tmp 4]) Tryz.func33 rfl rfl rfl rfl rfl rfl rfl ?_ h fr
  simp -implicitDefEqProofs only [wpC_seq, rowsA, if_true, if_false, opnd, ofVal, ofVal1, layArgs, Nat.reduceAdd, reduceIte, Nat.reduceEqDiff, reduceCtorEq, rowsB, cellsG, Nat.reduceMul]
  rw [goO_shared (indexDn_sh l hs x 0 _ (by simp only [AH.get_set, AH.get_up, Nat.reduceEqDiff, if_false, if_true]))]
  simp -implicitDefEqProofs only [wpC_seq, rowsA, if_true, if_false, opnd, ofVal, ofVal1, layArgs, Nat.reduceAdd, reduceIte, Nat.reduceEqDiff, reduceCtorEq, rowsB, cellsG, Nat.reduceMul]
  rfl
theorem ix47n {l : List Dn} {i : Int} {o : Dn} (h0 : 0 ≤ i) (ho : l[i.toNat]? = some o) : ∃ r, ∀ h, idaO Tryz.prog h 47 (rowV Dn.pv l) (.int .i64 i) = some (.q (.rop (o.pv ++ r))) := by
  obtain ⟨r, hr⟩ := flat_drop (f := Dn.pv) (z := 5) (fun _ => rfl) l i.toNat o ho
  have := (List.getElem?_eq_some_iff.1 ho).1
  exact ⟨r, fun h => by rw [← hr]; exact ida_roN u47 sz54 h0 (by omega)⟩
theorem ix51n {l : List Ot} {i : Int} {o : Ot} (h0 : 0 ≤ i) (ho : l[i.toNat]? = some o) : ∃ r, ∀ h, idaO Tryz.prog h 51 (rowV Ot.pv l) (.int .i64 i) = some (.q (.rop (o.pv ++ r))) := by
  obtain ⟨r, hr⟩ := flat_drop (f := Ot.pv) (z := 4) (fun _ => rfl) l i.toNat o ho
  have := (List.getElem?_eq_some_iff.1 ho).1
  exact ⟨r, fun h => by rw [← hr]; exact ida_roN u51 sz58 h0 (by omega)⟩
theorem ln47n (l : List Dn) : lenO Tryz.prog [rowV Dn.pv l] [47] = some (.q (.int .i64 l.length)) := len_ro u47
def DnFit (l : List Dn) : Prop := l.length ≤ 1000000 ∧ ∀ d ∈ l, (d.k = 2 → 0 < d.outs.length) ∧ d.outs.length ≤ 1000000 ∧ ∀ p ∈ d.outs, p.args.length ≤ 1000000
end Go.Proofs.YtcbngkmmmfaaoaaGreatDoor
namespace Go.Proofs.YtcbngkmmmfaaoaaGreatDoor
open Go.RowKit Go.Lib Go.Ac
variable {mx : Int}
theorem flatMap_len {α β : Type} {f : α → List β} {k : Nat} (hf : ∀ x, (f x).length = k) : ∀ (l : List α), (l.flatMap f).length = l.length * k
  | [] => by simp
  | x :: l => by rw [List.flatMap_cons, List.length_append, hf, flatMap_len hf l, List.length_cons, Nat.add_mul, Nat.one_mul, Nat.add_comm]
theorem types_len (s : Sc) : (typesD s).length = 5 + 2 * s.es.length + 6 * s.os.length + 6 := by
  simp only [typesD, List.length_append, List.length_map, flatMap_len (f := objD s) (k := 6) (fun _ => rfl)]
  show 5 + s.es.length + s.os.length * 6 + 4 + s.es.length + 2 = _
  omega
theorem obj_mem {s : Sc} {o : Ob} (ho : o ∈ s.os) {d : Dn} (hd : d ∈ objD s o) : d ∈ typesD s := by
  simp only [typesD, List.mem_append, List.mem_flatMap]
  exact .inl (.inl (.inl (.inr ⟨o, ho, hd⟩)))
theorem types_kinds {s : Sc} {d : Dn} (hd : d ∈ typesD s) : (∃ x ∈ scalL, d = scalD x) ∨ (∃ e ∈ s.es, d = enmD e) ∨ (∃ o ∈ s.os, d ∈ objD s o) ∨ d ∈ midD ∨ (∃ e ∈ s.es, d = enfD e) ∨ d = qryD s ∨ d = mutD s := by
  simp only [typesD, List.mem_append, List.mem_map, List.mem_flatMap, List.mem_cons, List.not_mem_nil, or_false] at hd
  rcases hd with ((((⟨x, hx, rfl⟩ | ⟨e, he, rfl⟩) | ⟨o, ho, hd⟩) | hd) | ⟨e, he, rfl⟩) | rfl | rfl
  · exact .inl ⟨x, hx, rfl⟩
  · exact .inr (.inl ⟨e, he, rfl⟩)
  · exact .inr (.inr (.inl ⟨o, ho, hd⟩))
  · exact .inr (.inr (.inr (.inl hd)))
  · exact .inr (.inr (.inr (.inr (.inl ⟨e, he, rfl⟩))))
  · exact .inr (.inr (.inr (.inr (.inr (.inl rfl)))))
  · exact .inr (.inr (.inr (.inr (.inr (.inr rfl)))))
theorem argsG_le (s : Sc) (f : Fld) : (outG s f).args.length ≤ 4 := by
  unfold outG
  simp only
  split
  · exact Nat.le_refl 4
  · exact Nat.zero_le _
theorem types_fit {s : Sc} (h : s.okM mx) : DnFit (typesD s) := by
  obtain ⟨e1, e2, e3, e4, e5⟩ := h.enough
  refine ⟨by rw [types_len]; omega, fun d hd => ?_⟩
  have small : ∀ l : List Ot, l = [] → l.length ≤ 1000000 ∧ ∀ p ∈ l, p.args.length ≤ 1000000 := fun l e => by
    subst e
    exact ⟨Nat.zero_le _, fun p hp => by cases hp⟩
  rcases types_kinds hd with ⟨x, hx, rfl⟩ | ⟨e, he, rfl⟩ | ⟨o, ho, hd⟩ | hd | ⟨e, he, rfl⟩ | rfl | rfl
  · exact ⟨fun q => absurd q (show ¬ ((0 : Int) = 2) by decide), small _ rfl⟩
  · exact ⟨fun q => absurd q (show ¬ ((1 : Int) = 2) by decide), small _ rfl⟩
  · simp only [objD, List.mem_cons, List.not_mem_nil, or_false] at hd
    have := e4 o ho
    rcases hd with rfl | rfl | rfl | rfl | rfl | rfl
    · refine ⟨fun _ => Nat.succ_pos _, by rw [List.length_cons, List.length_map]; omega, fun p hp => ?_⟩
      rcases List.mem_cons.1 hp with rfl | hp
      · exact Nat.zero_le _
      · obtain ⟨f, _, rfl⟩ := List.mem_map.1 hp
        exact Nat.le_trans (argsG_le s f) (by decide)
    all_goals first | exact ⟨fun q => absurd q (show ¬ ((3 : Int) = 2) by decide), small _ rfl⟩ | exact ⟨fun q => absurd q (show ¬ ((1 : Int) = 2) by decide), small _ rfl⟩
  · simp only [midD, List.mem_cons, List.not_mem_nil, or_false] at hd
    rcases hd with rfl | rfl | rfl | rfl
    all_goals first | exact ⟨fun q => absurd q (show ¬ ((3 : Int) = 2) by decide), small _ rfl⟩ | exact ⟨fun q => absurd q (show ¬ ((1 : Int) = 2) by decide), small _ rfl⟩
  · exact ⟨fun q => absurd q (show ¬ ((3 : Int) = 2) by decide), small _ rfl⟩
  · refine ⟨fun _ => ?_, ?_, fun p hp => ?_⟩
    · show 0 < (s.os.flatMap qryO).length
      rw [flatMap_len (k := 2) (fun _ => rfl)]
      omega
    · show (s.os.flatMap qryO).length ≤ _
      rw [flatMap_len (k := 2) (fun _ => rfl)]
      omega
    · obtain ⟨o, _, hp⟩ := List.mem_flatMap.1 hp
      simp only [qryO, List.mem_cons, List.not_mem_nil, or_false] at hp
      rcases hp with rfl | rfl
      · exact Nat.succ_le_of_lt (by decide)
      · exact Nat.le_trans (Nat.le_refl 4) (by decide)
  · refine ⟨fun _ => ?_, ?_, fun p hp => ?_⟩
    · show 0 < (s.os.flatMap mutO).length
      rw [flatMap_len (k := 3) (fun _ => rfl)]
      omega
    · show (s.os.flatMap mutO).length ≤ _
      rw [flatMap_len (k := 3) (fun _ => rfl)]
      omega
    · obtain ⟨o, _, hp⟩ := List.mem_flatMap.1 hp
      simp only [mutO, List.mem_cons, List.not_mem_nil, or_false] at hp
      rcases hp with rfl | rfl | rfl
      · exact Nat.le_trans (Nat.le_refl 1) (by decide)
      · exact Nat.le_trans (Nat.le_refl 2) (by decide)
      · exact Nat.le_trans (Nat.le_refl 1) (by decide)
end Go.Proofs.YtcbngkmmmfaaoaaGreatDoor
namespace Go.Proofs.YtcbngkmmmfaaoaaGreatDoor
open Go.RowKit Go.Lib Go.Ac
variable {mx : Int}
def Named (l : List Dn) (x : List UInt8) (k : Int) : Prop := ∃ q ∈ l, q.n = x ∧ q.k ≠ k
def GoesIn (l : List Dn) (ins : List Inp) : Prop := (∀ p ∈ ins, Named l p.t 2) ∧ (ins.map (·.n)).Nodup
structure Closed (l : List Dn) (d : Dn) : Prop where
  k0 : 0 ≤ d.k ∧ d.k < 4
  k1 : d.k = 1 ↔ 0 < d.ws.length
  k2 : d.k = 2 ↔ 0 < d.outs.length
  k3 : d.k = 3 ↔ 0 < d.ins.length
  outs : ∀ o ∈ d.outs, Named l o.t 3 ∧ GoesIn l o.args
  ins : GoesIn l d.ins
  names : (d.ws ++ d.outs.map (·.n) ++ d.ins.map (·.n)).Nodup
theorem scal_mem (s : Sc) {x : List UInt8} (hx : x ∈ scalL) : scalD x ∈ typesD s := by
  simp only [typesD, List.mem_append, List.mem_map]
  exact .inl (.inl (.inl (.inl (.inl ⟨x, hx, rfl⟩))))
theorem enm_mem {s : Sc} {e : En} (he : e ∈ s.es) : enmD e ∈ typesD s := by
  simp only [typesD, List.mem_append, List.mem_map]
  exact .inl (.inl (.inl (.inl (.inr ⟨e, he, rfl⟩))))
theorem enf_mem {s : Sc} {e : En} (he : e ∈ s.es) : enfD e ∈ typesD s := by
  simp only [typesD, List.mem_append, List.mem_map]
  exact .inl (.inr ⟨e, he, rfl⟩)
theorem mid_mem {s : Sc} {d : Dn} (hd : d ∈ midD) : d ∈ typesD s := by
  simp only [typesD, List.mem_append]
  exact .inl (.inl (.inr hd))
section
variable {s : Sc}
theorem nm_scal {x : List UInt8} {k : Int} (hx : x ∈ scalL) (hk : k ≠ 0) : Named (typesD s) x k := ⟨_, scal_mem s hx, rfl, fun e => hk e.symm⟩
theorem nm_obj {o : Ob} (ho : o ∈ s.os) {k : Int} (hk : k ≠ 2) : Named (typesD s) o.n k := ⟨⟨o.n, 2, [], ⟨bid, bID, [33], []⟩ :: o.fs.map (outG s), []⟩, obj_mem ho (by simp [objD]), rfl, fun e => hk e.symm⟩
theorem nm_filter {o : Ob} (ho : o ∈ s.os) {k : Int} (hk : k ≠ 3) : Named (typesD s) (o.n ++ bFilter) k := ⟨⟨o.n ++ bFilter, 3, [], [], [⟨[97, 110, 100], o.n ++ bFilter, listL⟩, ⟨[111, 114], o.n ++ bFilter, listL⟩, ⟨[110, 111, 116], o.n ++ bFilter, []⟩, ⟨bid, bID, listL⟩] ++ (props s o).map filG⟩, obj_mem ho (by simp [objD]), rfl, fun e => hk e.symm⟩
theorem nm_order {o : Ob} (ho : o ∈ s.os) {k : Int} (hk : k ≠ 3) : Named (typesD s) (o.n ++ bOrder) k := ⟨⟨o.n ++ bOrder, 3, [], [], [⟨[97, 115, 99], o.n ++ bOrderable, []⟩, ⟨[100, 101, 115, 99], o.n ++ bOrderable, []⟩, ⟨[116, 104, 101, 110], o.n ++ bOrder, []⟩]⟩, obj_mem ho (by simp [objD]), rfl, fun e => hk e.symm⟩
theorem nm_orderable {o : Ob} (ho : o ∈ s.os) {k : Int} (hk : k ≠ 1) : Named (typesD s) (o.n ++ bOrderable) k := ⟨⟨o.n ++ bOrderable, 1, bid :: (props s o).map (·.n), [], []⟩, obj_mem ho (by simp [objD]), rfl, fun e => hk e.symm⟩
theorem nm_add {o : Ob} (ho : o ∈ s.os) {k : Int} (hk : k ≠ 3) : Named (typesD s) (bAdd ++ o.n) k := ⟨⟨bAdd ++ o.n, 3, [], [], o.fs.map (inG s false)⟩, obj_mem ho (by simp [objD]), rfl, fun e => hk e.symm⟩
theorem nm_patch {o : Ob} (ho : o ∈ s.os) {k : Int} (hk : k ≠ 3) : Named (typesD s) (bPatch ++ o.n) k := ⟨⟨bPatch ++ o.n, 3, [], [], o.fs.map (inG s true)⟩, obj_mem ho (by simp [objD]), rfl, fun e => hk e.symm⟩
theorem nm_enm {e : En} (he : e ∈ s.es) {k : Int} (hk : k ≠ 1) : Named (typesD s) e.n k := ⟨_, enm_mem he, rfl, fun q => hk q.symm⟩
theorem nm_enf {e : En} (he : e ∈ s.es) {k : Int} (hk : k ≠ 3) : Named (typesD s) (e.n ++ bFilter) k := ⟨_, enf_mem he, rfl, fun q => hk q.symm⟩
theorem edgeB_iff {f : Fld} : edgeB s f = true ↔ propB s f = false ∧ f.t ∈ s.os.map (·.n) := by
  simp only [edgeB, decide_eq_true_eq, edge_iff]
theorem fld_kind (h : s.okM mx) {o : Ob} (ho : o ∈ s.os) {f : Fld} (hf : f ∈ o.fs) : (edgeB s f = false ∧ (f.t ∈ scalL ∧ f.t ≠ bID ∨ ∃ e ∈ s.es, f.t = e.n)) ∨ (edgeB s f = true ∧ ∃ q ∈ s.os, f.t = q.n) := by
  rcases typedB_iff.1 (h.typed o ho f hf) with ⟨h1, _⟩ | ⟨h1, h2, _⟩
  · refine .inl ⟨by rw [Bool.eq_false_iff]; intro q; rw [edgeB_iff, h1] at q; exact absurd q.1 (by decide), ?_⟩
    rcases propB_iff.1 h1 with h2 | h2
    · simp only [scalar, Bool.or_eq_true, decide_eq_true_eq] at h2
      rcases h2 with ((h2 | h2) | h2) | h2 <;> rw [h2] <;> exact .inl (by decide)
    · obtain ⟨e, he, q⟩ := List.mem_map.1 h2
      exact .inr ⟨e, he, q.symm⟩
  · obtain ⟨q, hq, e⟩ := List.mem_map.1 h2
    exact .inr ⟨edgeB_iff.2 ⟨h1, h2⟩, q, hq, e.symm⟩
theorem args_in {q : Ob} (hq : q ∈ s.os) : GoesIn (typesD s) (argsL q.n) := by
  refine ⟨fun p hp => ?_, by show [[102, 105, 108, 116, 101, 114], [111, 114, 100, 101, 114], [102, 105, 114, 115, 116], [111, 102, 102, 115, 101, 116]].Nodup; decide⟩
  simp only [argsL, List.mem_cons, List.not_mem_nil, or_false] at hp
  rcases hp with rfl | rfl | rfl | rfl
  · exact nm_filter hq (by decide)
  · exact nm_order hq (by decide)
  · exact nm_scal (by decide) (by decide)
  · exact nm_scal (by decide) (by decide)
theorem fld_names (h : s.okM mx) {o : Ob} (ho : o ∈ s.os) {f : Fld} (hf : f ∈ o.fs) : f.n ∉ idL := by
  have := h.named
  simp only [namedB, Bool.and_eq_true, List.all_eq_true] at this
  have := this.1.2 o ho f hf
  simp only [nmB, Bool.and_eq_true] at this
  intro q
  have h2 := this.2
  have e : memB f.n idL = true := by unfold memB; exact decide_eq_true (idx_pos.2 ⟨f.n, q, by simp⟩)
  rw [e] at h2
  cases h2
theorem props_sub (s : Sc) (o : Ob) : (props s o).Sublist o.fs := List.filter_sublist
theorem props_kind (h : s.okM mx) {o : Ob} (ho : o ∈ s.os) {f : Fld} (hf : f ∈ props s o) : f ∈ o.fs ∧ (f.t ∈ scalL ∧ f.t ≠ bID ∨ ∃ e ∈ s.es, f.t = e.n) := by
  have h1 := List.mem_filter.1 hf
  refine ⟨h1.1, ?_⟩
  rcases fld_kind h ho h1.1 with ⟨_, q⟩ | ⟨q, _⟩
  · exact q
  · rw [q] at h1; cases h1.2
theorem nm_cmp {x : List UInt8} (hx : x ∈ scalL) (hi : x ≠ bID) {k : Int} (hk : k ≠ 3) : Named (typesD s) (x ++ bFilter) k := by
  simp only [scalL, List.mem_cons, List.not_mem_nil, or_false] at hx
  rcases hx with rfl | rfl | rfl | rfl | rfl
  · exact absurd rfl hi
  · exact ⟨cmpD bInt [], mid_mem (by simp [midD]), rfl, fun e => hk e.symm⟩
  · exact ⟨cmpD bFloat [], mid_mem (by simp [midD]), rfl, fun e => hk e.symm⟩
  · exact ⟨cmpD bString [⟨[98, 101, 103, 105, 110, 115], bString, []⟩], mid_mem (by simp [midD]), rfl, fun e => hk e.symm⟩
  · exact ⟨⟨bBoolean ++ bFilter, 3, [], [], [⟨[101, 113], bBoolean, []⟩]⟩, mid_mem (by simp [midD]), rfl, fun e => hk e.symm⟩
theorem inG_n (s : Sc) (b : Bool) (f : Fld) : (inG s b f).n = f.n := by
  unfold inG
  split
  · rfl
  · split
    · rfl
    · split <;> rfl
theorem inG_names (s : Sc) (b : Bool) (l : List Fld) : (l.map (inG s b)).map (fun p : Inp => p.n) = l.map (fun f : Fld => f.n) := by rw [List.map_map]; exact List.map_congr_left (fun f _ => inG_n s b f)
theorem out_fld (h : s.okM mx) {o : Ob} (ho : o ∈ s.os) {f : Fld} (hf : f ∈ o.fs) : Named (typesD s) (outG s f).t 3 ∧ GoesIn (typesD s) (outG s f).args := by
  have none_in : GoesIn (typesD s) [] := ⟨fun p hp => (by cases hp), List.nodup_nil⟩
  show Named (typesD s) f.t 3 ∧ GoesIn (typesD s) (if edgeB s f && decide (f.w = manyL) then argsL f.t else [])
  rcases fld_kind h ho hf with ⟨q, q1⟩ | ⟨q, r, hr, q1⟩
  · rw [q, Bool.false_and, if_neg (by decide)]
    refine ⟨?_, none_in⟩
    rcases q1 with ⟨q1, _⟩ | ⟨e, he, q1⟩
    · exact nm_scal q1 (by decide)
    · rw [q1]; exact nm_enm he (by decide)
  · rw [q1]
    refine ⟨nm_obj hr (by decide), ?_⟩
    split
    · exact args_in hr
    · exact none_in
theorem in_fld (h : s.okM mx) {o : Ob} (ho : o ∈ s.os) {f : Fld} (hf : f ∈ o.fs) (b : Bool) : Named (typesD s) (inG s b f).t 2 := by
  unfold inG
  rcases fld_kind h ho hf with ⟨q, q1⟩ | ⟨q, r, hr, q1⟩
  · rw [q, Bool.false_and, if_neg (by decide), if_neg (by decide)]
    have : Named (typesD s) f.t 2 := by
      rcases q1 with ⟨q1, _⟩ | ⟨e, he, q1⟩
      · exact nm_scal q1 (by decide)
      · rw [q1]; exact nm_enm he (by decide)
    split <;> exact this
  · rw [q, Bool.true_and]
    split
    · exact nm_scal (x := bID) (by decide) (by decide)
    · rw [if_pos rfl]; exact nm_scal (x := bID) (by decide) (by decide)
theorem fil_fld (h : s.okM mx) {o : Ob} (ho : o ∈ s.os) {f : Fld} (hf : f ∈ props s o) : Named (typesD s) (filG f).t 2 := by
  show Named (typesD s) (f.t ++ bFilter) 2
  rcases (props_kind h ho hf).2 with ⟨q1, q2⟩ | ⟨e, he, q1⟩
  · exact nm_cmp q1 q2 (by decide)
  · rw [q1]; exact nm_enf he (by decide)
theorem no_in (l : List Dn) : GoesIn l [] := ⟨fun p hp => (by cases hp), List.nodup_nil⟩
theorem one_in {l : List Dn} {n t w : List UInt8} (h : Named l t 2) : GoesIn l [⟨n, t, w⟩] :=
  ⟨fun p hp => (by rw [List.mem_singleton.1 hp]; exact h), by show [n].Nodup; simp⟩
theorem two_in {l : List Dn} {n n' t t' w w' : List UInt8} (h : Named l t 2) (h' : Named l t' 2) (hn : n ≠ n') : GoesIn l [⟨n, t, w⟩, ⟨n', t', w'⟩] :=
  ⟨fun p hp => (by
    rcases List.mem_cons.1 hp with rfl | hp
    · exact h
    · rw [List.mem_singleton.1 hp]; exact h'), by show [n, n'].Nodup; simp [hn]⟩
theorem closed_words {l : List Dn} {n : List UInt8} {ws : List (List UInt8)} (h : 0 < ws.length) (hw : ws.Nodup) : Closed l ⟨n, 1, ws, [], []⟩ where
  k0 := by show (0 : Int) ≤ 1 ∧ (1 : Int) < 4; decide
  k1 := by show (1 : Int) = 1 ↔ 0 < ws.length; exact ⟨fun _ => h, fun _ => rfl⟩
  k2 := by show (1 : Int) = 2 ↔ 0 < 0; decide
  k3 := by show (1 : Int) = 3 ↔ 0 < 0; decide
  outs := fun o ho => by cases ho
  ins := no_in l
  names := by show (ws ++ [] ++ []).Nodup; simpa using hw
theorem closed_ins {l : List Dn} {n : List UInt8} {ins : List Inp} (h : 0 < ins.length) (hw : GoesIn l ins) : Closed l ⟨n, 3, [], [], ins⟩ where
  k0 := by show (0 : Int) ≤ 3 ∧ (3 : Int) < 4; decide
  k1 := by show (3 : Int) = 1 ↔ 0 < 0; decide
  k2 := by show (3 : Int) = 2 ↔ 0 < 0; decide
  k3 := by show (3 : Int) = 3 ↔ 0 < ins.length; exact ⟨fun _ => h, fun _ => rfl⟩
  outs := fun o ho => by cases ho
  ins := hw
  names := by show ([] ++ [] ++ ins.map (fun p : Inp => p.n)).Nodup; simpa using hw.2
theorem closed_outs {l : List Dn} {n : List UInt8} {outs : List Ot} (h : 0 < outs.length) (hw : ∀ o ∈ outs, Named l o.t 3 ∧ GoesIn l o.args) (hn : (outs.map (·.n)).Nodup) : Closed l ⟨n, 2, [], outs, []⟩ where
  k0 := by show (0 : Int) ≤ 2 ∧ (2 : Int) < 4; decide
  k1 := by show (2 : Int) = 1 ↔ 0 < 0; decide
  k2 := by show (2 : Int) = 2 ↔ 0 < outs.length; exact ⟨fun _ => h, fun _ => rfl⟩
  k3 := by show (2 : Int) = 3 ↔ 0 < 0; decide
  outs := hw
  ins := no_in l
  names := by show ([] ++ outs.map (fun p : Ot => p.n) ++ []).Nodup; simpa using hn
theorem closed_scal {l : List Dn} {n : List UInt8} : Closed l (scalD n) where
  k0 := by show (0 : Int) ≤ 0 ∧ (0 : Int) < 4; decide
  k1 := by show (0 : Int) = 1 ↔ 0 < 0; decide
  k2 := by show (0 : Int) = 2 ↔ 0 < 0; decide
  k3 := by show (0 : Int) = 3 ↔ 0 < 0; decide
  outs := fun o ho => by cases ho
  ins := no_in l
  names := by exact List.nodup_nil
theorem props_nodup (h : s.okM mx) {o : Ob} (ho : o ∈ s.os) : ((props s o).map (·.n)).Nodup :=
  List.Sublist.nodup ((props_sub s o).map _) (h.fields o ho)
theorem props_no (h : s.okM mx) {o : Ob} (ho : o ∈ s.os) {x : List UInt8} (hx : x ∈ idL) : x ∉ (props s o).map (·.n) := by
  intro q
  obtain ⟨f, hf, e⟩ := List.mem_map.1 q
  exact fld_names h ho (List.mem_filter.1 hf).1 (by rw [e]; exact hx)
theorem flds_no (h : s.okM mx) {o : Ob} (ho : o ∈ s.os) {x : List UInt8} (hx : x ∈ idL) : x ∉ o.fs.map (·.n) := by
  intro q
  obtain ⟨f, hf, e⟩ := List.mem_map.1 q
  exact fld_names h ho hf (by rw [e]; exact hx)
theorem qry_nodup : ∀ {l : List Ob}, (l.map (·.n)).Nodup → ((l.flatMap qryO).map (·.n)).Nodup
  | [], _ => List.nodup_nil
  | o :: l, h => by
    rw [List.map_cons, List.nodup_cons] at h
    have ih := qry_nodup h.2
    have no1 : ([103, 101, 116] ++ o.n) ∉ (l.flatMap qryO).map (·.n) := by
      intro q
      obtain ⟨p, hp, e⟩ := List.mem_map.1 q
      obtain ⟨r, hr, hp⟩ := List.mem_flatMap.1 hp
      simp only [qryO, List.mem_cons, List.not_mem_nil, or_false] at hp
      rcases hp with rfl | rfl
      · exact h.1 (List.mem_map.2 ⟨r, hr, List.append_cancel_left e⟩)
      · simp at e
    have no2 : ([113, 117, 101, 114, 121] ++ o.n) ∉ (l.flatMap qryO).map (·.n) := by
      intro q
      obtain ⟨p, hp, e⟩ := List.mem_map.1 q
      obtain ⟨r, hr, hp⟩ := List.mem_flatMap.1 hp
      simp only [qryO, List.mem_cons, List.not_mem_nil, or_false] at hp
      rcases hp with rfl | rfl
      · simp at e
      · exact h.1 (List.mem_map.2 ⟨r, hr, List.append_cancel_left e⟩)
    show (([103, 101, 116] ++ o.n) :: ([113, 117, 101, 114, 121] ++ o.n) :: (l.flatMap qryO).map (·.n)).Nodup
    rw [List.nodup_cons, List.nodup_cons]
    refine ⟨?_, no2, ih⟩
    rw [List.mem_cons]
    rintro (q | q)
    · simp at q
    · exact no1 q
theorem mut_nodup : ∀ {l : List Ob}, (l.map (·.n)).Nodup → ((l.flatMap mutO).map (·.n)).Nodup
  | [], _ => List.nodup_nil
  | o :: l, h => by
    rw [List.map_cons, List.nodup_cons] at h
    have ih := mut_nodup h.2
    have no (x : List UInt8) (hx : x = [97, 100, 100] ∨ x = [117, 112, 100, 97, 116, 101] ∨ x = [100, 101, 108, 101, 116, 101]) : (x ++ o.n) ∉ (l.flatMap mutO).map (·.n) := by
      intro q
      obtain ⟨p, hp, e⟩ := List.mem_map.1 q
      obtain ⟨r, hr, hp⟩ := List.mem_flatMap.1 hp
      simp only [mutO, List.mem_cons, List.not_mem_nil, or_false] at hp
      have hn : r.n ≠ o.n := fun q => h.1 (List.mem_map.2 ⟨r, hr, q⟩)
      rcases hx with rfl | rfl | rfl <;> rcases hp with rfl | rfl | rfl <;> simp_all
    show (([97, 100, 100] ++ o.n) :: ([117, 112, 100, 97, 116, 101] ++ o.n) :: ([100, 101, 108, 101, 116, 101] ++ o.n) :: (l.flatMap mutO).map (·.n)).Nodup
    rw [List.nodup_cons, List.nodup_cons, List.nodup_cons]
    refine ⟨?_, ?_, no _ (.inr (.inr rfl)), ih⟩
    · rw [List.mem_cons, List.mem_cons]
      rintro (q | q | q)
      · simp at q
      · simp at q
      · exact no _ (.inl rfl) q
    · rw [List.mem_cons]
      rintro (q | q)
      · simp at q
      · exact no _ (.inr (.inl rfl)) q
theorem closed_types (h : s.okM mx) {d : Dn} (hd : d ∈ typesD s) : Closed (typesD s) d := by
  rcases types_kinds hd with ⟨x, hx, rfl⟩ | ⟨e, he, rfl⟩ | ⟨o, ho, hd⟩ | hd | ⟨e, he, rfl⟩ | rfl | rfl
  · exact closed_scal
  · exact closed_words (h.enough.2.2.2.2 e he).1 (h.words e he)
  · simp only [objD, List.mem_cons, List.not_mem_nil, or_false] at hd
    have hpos : 0 < o.fs.length := (h.enough.2.2.2.1 o ho).1
    rcases hd with rfl | rfl | rfl | rfl | rfl | rfl
    · refine closed_outs (Nat.succ_pos _) (fun p hp => ?_) ?_
      · rcases List.mem_cons.1 hp with rfl | hp
        · exact ⟨nm_scal (x := bID) (by decide) (by decide), no_in _⟩
        · obtain ⟨f, hf, rfl⟩ := List.mem_map.1 hp
          exact out_fld h ho hf
      · rw [List.map_cons, List.map_map, List.nodup_cons]
        exact ⟨flds_no h ho (x := bid) (by decide), h.fields o ho⟩
    · refine closed_words (Nat.succ_pos _) ?_
      rw [List.nodup_cons]
      exact ⟨props_no h ho (x := bid) (by decide), props_nodup h ho⟩
    · refine closed_ins (Nat.succ_pos _) ⟨fun p hp => ?_, ?_⟩
      · simp only [List.mem_cons, List.not_mem_nil, or_false] at hp
        rcases hp with rfl | rfl | rfl
        · exact nm_orderable ho (by decide)
        · exact nm_orderable ho (by decide)
        · exact nm_order ho (by decide)
      · show [[97, 115, 99], [100, 101, 115, 99], [116, 104, 101, 110]].Nodup
        decide
    · refine closed_ins (Nat.succ_pos _) ⟨fun p hp => ?_, ?_⟩
      · rcases List.mem_append.1 hp with hp | hp
        · simp only [List.mem_cons, List.not_mem_nil, or_false] at hp
          rcases hp with rfl | rfl | rfl | rfl
          · exact nm_filter ho (by decide)
          · exact nm_filter ho (by decide)
          · exact nm_filter ho (by decide)
          · exact nm_scal (x := bID) (by decide) (by decide)
        · obtain ⟨f, hf, rfl⟩ := List.mem_map.1 hp
          exact fil_fld h ho hf
      · show ([97, 110, 100] :: [111, 114] :: [110, 111, 116] :: bid :: ((props s o).map filG).map (·.n)).Nodup
        have e : ((props s o).map filG).map (·.n) = (props s o).map (·.n) := by rw [List.map_map]; rfl
        rw [e]
        refine List.nodup_append (l₁ := [[97, 110, 100], [111, 114], [110, 111, 116], bid]) |>.2 ⟨by decide, props_nodup h ho, ?_⟩
        intro a ha b hb e
        subst e
        refine props_no h ho (x := a) ?_ hb
        simp only [List.mem_cons, List.not_mem_nil, or_false] at ha
        rcases ha with rfl | rfl | rfl | rfl <;> decide
    all_goals
      refine closed_ins (by rw [List.length_map]; exact hpos) ⟨fun p hp => ?_, ?_⟩
      · obtain ⟨f, hf, rfl⟩ := List.mem_map.1 hp
        exact in_fld h ho hf _
      · rw [inG_names]
        exact h.fields o ho
  · simp only [midD, List.mem_cons, List.not_mem_nil, or_false] at hd
    have hcmp {x : List UInt8} (hx : x ∈ scalL) (m : List Inp) (hm : ∀ p ∈ m, Named (typesD s) p.t 2) (hn : ((cmpL x ++ m).map (fun p : Inp => p.n)).Nodup) : Closed (typesD s) (cmpD x m) := by
      refine closed_ins (Nat.succ_pos _) ⟨fun p hp => ?_, hn⟩
      rcases List.mem_append.1 hp with hp | hp
      · simp only [cmpL, List.mem_cons, List.not_mem_nil, or_false] at hp
        rcases hp with rfl | rfl | rfl | rfl | rfl | rfl <;> exact nm_scal hx (by decide)
      · exact hm p hp
    rcases hd with rfl | rfl | rfl | rfl
    · exact hcmp (by decide) [] (fun p hp => (by cases hp)) (by decide)
    · exact hcmp (by decide) [] (fun p hp => (by cases hp)) (by decide)
    · exact hcmp (by decide) _ (fun p hp => (by rw [List.mem_singleton.1 hp]; exact nm_scal (x := bString) (by decide) (by decide))) (by decide)
    · exact closed_ins (Nat.succ_pos _) (one_in (nm_scal (by decide) (by decide)))
  · exact closed_ins (Nat.succ_pos _) (two_in (nm_enm he (by decide)) (nm_enm he (by decide)) (by decide))
  · have hpos : 0 < s.os.length := h.enough.1
    refine closed_outs (by rw [flatMap_len (k := 2) (fun _ => rfl)]; omega) (fun p hp => ?_) (qry_nodup (List.nodup_append.1 h.all).1)
    obtain ⟨o, ho, hp⟩ := List.mem_flatMap.1 hp
    simp only [qryO, List.mem_cons, List.not_mem_nil, or_false] at hp
    rcases hp with rfl | rfl
    · exact ⟨nm_obj ho (by decide), one_in (nm_scal (x := bID) (by decide) (by decide))⟩
    · exact ⟨nm_obj ho (by decide), args_in ho⟩
  · have hpos : 0 < s.os.length := h.enough.1
    refine closed_outs (by rw [flatMap_len (k := 3) (fun _ => rfl)]; omega) (fun p hp => ?_) (mut_nodup (List.nodup_append.1 h.all).1)
    obtain ⟨o, ho, hp⟩ := List.mem_flatMap.1 hp
    simp only [mutO, List.mem_cons, List.not_mem_nil, or_false] at hp
    rcases hp with rfl | rfl | rfl
    · exact ⟨nm_obj ho (by decide), one_in (nm_add ho (by decide))⟩
    · exact ⟨nm_obj ho (by decide), two_in (nm_filter ho (by decide)) (nm_patch ho (by decide)) (by decide)⟩
    · exact ⟨nm_scal (x := bInt) (by decide) (by decide), one_in (nm_filter ho (by decide))⟩
end
end Go.Proofs.YtcbngkmmmfaaoaaGreatDoor
namespace Go.Proofs.YtcbngkmmmfaaoaaGreatDoor
open Go.RowKit Go.Lib Go.Ac
set_option linter.unusedSimpArgs false
set_option maxRecDepth 100000
variable {mx : Int}
structure OrdS (s : Sc) (vO vE : PV) (F : Fr) (h : AH) : Prop where
  f1 : F.at 1 = .ptr 0 2 0
  f3 : F.at 3 = .ptr 3 2 0
  g0 : h.get 0 = some (.cells 25 0 false s.pv)
  g3 : h.get 3 = some (.cells 25 0 false [vO, vE])
  nx : 4 ≤ h.next
theorem ix43 {l : List (List UInt8)} {i : Int} {o : List UInt8} (h0 : 0 ≤ i) (ho : l[i.toNat]? = some o) : ∃ r, ∀ h, idaO Tryz.prog h 43 (rowV strV l) (.int .i64 i) = some (.q (.rop (.str o :: r))) := by
  obtain ⟨r, hr⟩ := flat_drop (f := strV) (z := 1) (fun _ => rfl) l i.toNat o ho
  have := (List.getElem?_eq_some_iff.1 ho).1
  exact ⟨r, fun h => by rw [show PV.str o :: r = strV o ++ r from rfl, ← hr]; exact ida_roN u43 sz9 h0 (by omega)⟩
end Go.Proofs.YtcbngkmmmfaaoaaGreatDoor
namespace Go.Proofs.YtcbngkmmmfaaoaaGreatDoor
open Go.RowKit Go.Lib Go.Ac
set_option linter.unusedSimpArgs false
set_option maxRecDepth 100000
variable {mx : Int}
def invU1 (L : List (List UInt8)) (k : Nat) (F : Fr) (_h : AH) : Prop := ∃ i : Nat, k + i = L.length ∧ F.at 0 = rowV strV L ∧ F.at 3 = .int .i64 i
def invU2 (L : List (List UInt8)) (i : Nat) (k : Nat) (F : Fr) (_h : AH) : Prop := ∃ j : Nat, k + j = i ∧ F.at 0 = rowV strV L ∧ F.at 3 = .int .i64 i ∧ F.at 4 = .int .i64 j
theorem unlike_c {L : List (List UInt8)} (hl : L.length ≤ 1000000000) (hn : L.Nodup) (h : AH) (fr : Nat) : CR Tryz.prog (globM mx) md (.fn 37) [rowV strV L] h fr (.val (.bool true)) := by
  refine CR.plain (rs := [.tmp 2]) Tryz.func37 rfl rfl rfl rfl rfl rfl rfl ?_ h fr
  simp -implicitDefEqProofs only [wpC_seq, rowsA, if_true, if_false, opnd, ofVal, ofVal1, layArgs, Nat.reduceAdd, reduceIte, Nat.reduceEqDiff, reduceCtorEq, rowsB, cellsG, Nat.reduceMul]
  refine wpC_loop (invU1 L) (k := L.length) ⟨0, by omega, ?_, ?_⟩ ?_
  · simp only [Fr.at_set, Nat.reduceEqDiff, reduceIte]
  · simp only [Fr.at_set, Nat.reduceEqDiff, reduceIte]; rfl
  rintro k F h ⟨i, ki, f0, f3⟩
  cases k with
  | zero =>
    have c2 : ¬ ((i : Int) < (L.length : Int)) := by omega
    simp -implicitDefEqProofs only [wpC_seq, rowsA, if_true, if_false, opnd, ofVal, ofVal1, layArgs, Nat.reduceAdd, reduceIte, Nat.reduceEqDiff, reduceCtorEq, rowsB, cellsG, Nat.reduceMul, f0, f3, ln43, c2]
  | succ k =>
    have c2 : (i : Int) < (L.length : Int) := by omega
    have hi : i < L.length := by omega
    have w := IntWalk.i64_in ((i : Int) + 1) (by omega)
    obtain ⟨r, hr⟩ := ix43 (l := L) (i := (i : Int)) (by omega) (by rw [Int.toNat_natCast]; exact List.getElem?_eq_getElem hi)
    simp -implicitDefEqProofs only [wpC_seq, rowsA, if_true, if_false, opnd, ofVal, ofVal1, layArgs, Nat.reduceAdd, reduceIte, Nat.reduceEqDiff, reduceCtorEq, rowsB, cellsG, Nat.reduceMul, f0, f3, ln43, c2]
    refine wpC_loop (invU2 L i) (k := i) ⟨0, by omega, ?_, ?_, ?_⟩ ?_
    · simp only [Fr.at_set, Nat.reduceEqDiff, reduceIte, f0]
    · simp only [Fr.at_set, Nat.reduceEqDiff, reduceIte, f3]
    · simp only [Fr.at_set, Nat.reduceEqDiff, reduceIte]; rfl
    clear f0 f3
    rintro k2 F h ⟨j, kj, f0, f3, f4⟩
    cases k2 with
    | zero =>
      have c3 : ¬ ((j : Int) < (i : Int)) := by omega
      simp -implicitDefEqProofs only [wpC_seq, rowsA, if_true, if_false, opnd, ofVal, ofVal1, layArgs, Nat.reduceAdd, reduceIte, Nat.reduceEqDiff, reduceCtorEq, rowsB, cellsG, Nat.reduceMul, f0, f3, f4, c3, w]
      refine ⟨k, by omega, i + 1, by omega, ?_, ?_⟩
      · simp only [Fr.at_set, Nat.reduceEqDiff, reduceIte, f0]
      · simp only [Fr.at_set, Nat.reduceEqDiff, reduceIte]; rfl
    | succ k2 =>
      have c3 : (j : Int) < (i : Int) := by omega
      have hj : j < L.length := by omega
      have w' := IntWalk.i64_in ((j : Int) + 1) (by omega)
      obtain ⟨r', hr'⟩ := ix43 (l := L) (i := (j : Int)) (by omega) (by rw [Int.toNat_natCast]; exact List.getElem?_eq_getElem hj)
      have ne : ¬ (L[j] = L[i]) := fun e => absurd ((List.getElem_inj hn).1 e) (by omega)
      simp -implicitDefEqProofs only [wpC_seq, rowsA, if_true, if_false, opnd, ofVal, ofVal1, layArgs, Nat.reduceAdd, reduceIte, Nat.reduceEqDiff, reduceCtorEq, rowsB, cellsG, Nat.reduceMul, f0, f3, f4, c3, hr, hr', ne, w']
      simp -implicitDefEqProofs only [wpC_seq, rowsA, if_true, if_false, opnd, ofVal, ofVal1, layArgs, Nat.reduceAdd, reduceIte, Nat.reduceEqDiff, reduceCtorEq, rowsB, cellsG, Nat.reduceMul, rowsR, f0, f3, f4, c3, hr, hr', ne, w']
      refine ⟨k2, by omega, j + 1, by omega, ?_, ?_, ?_⟩
      · simp only [Fr.at_set, Nat.reduceEqDiff, reduceIte, f0]
      · simp only [Fr.at_set, Nat.reduceEqDiff, reduceIte, f3]
      · simp only [Fr.at_set, Nat.reduceEqDiff, reduceIte]; rfl
end Go.Proofs.YtcbngkmmmfaaoaaGreatDoor
namespace Go.Proofs.YtcbngkmmmfaaoaaGreatDoor
open Go.RowKit Go.Lib Go.Ac
set_option linter.unusedSimpArgs false
set_option maxRecDepth 100000
variable {mx : Int}
theorem unlike_e (h : AH) (fr : Nat) : CR Tryz.prog (globM mx) md (.fn 37) [.els] h fr (.val (.bool true)) := by
  refine CR.plain (rs := [.tmp 2]) Tryz.func37 rfl rfl rfl rfl rfl rfl rfl ?_ h fr
  simp -implicitDefEqProofs only [wpC_seq, rowsA, if_true, if_false, opnd, ofVal, ofVal1, layArgs, Nat.reduceAdd, reduceIte, Nat.reduceEqDiff, reduceCtorEq, rowsB, cellsG, Nat.reduceMul]
  refine wpC_loop (fun _ F _ => F.at 0 = .els ∧ F.at 3 = .int .i64 0) (k := 0) ⟨?_, ?_⟩ ?_
  · simp only [Fr.at_set, Nat.reduceEqDiff, reduceIte]
  · simp only [Fr.at_set, Nat.reduceEqDiff, reduceIte]
  rintro k F h ⟨f0, f3⟩
  have c0 : ¬ ((0 : Int) < 0) := by decide
  simp -implicitDefEqProofs only [wpC_seq, rowsA, if_true, if_false, opnd, ofVal, ofVal1, layArgs, Nat.reduceAdd, reduceIte, Nat.reduceEqDiff, reduceCtorEq, rowsB, cellsG, Nat.reduceMul, f0, f3, len_els u43, c0]
def RowE (A : Nat) (h : AH) (v : PV) (L : List (List UInt8)) : Prop := (L = [] ∧ v = .els) ∨ (0 < L.length ∧ ∃ R, v = .ow R L.length 0 L.length ∧ A ≤ R ∧ R < h.next ∧ h.get R = some (.cells 9 1 false (L.map PV.str)))
theorem RowE.keep {A : Nat} {h h' : AH} {v : PV} {L : List (List UInt8)} (q : RowE A h v L) (hn : h.next ≤ h'.next) (hk : ∀ id, A ≤ id → id < h.next → h'.get id = h.get id) : RowE A h' v L := by
  rcases q with q | ⟨h0, R, rfl, a1, a2, a3⟩
  · exact .inl q
  · exact .inr ⟨h0, R, rfl, a1, by omega, by rw [hk R a1 a2]; exact a3⟩
theorem RowE.push {A fr X : Nat} {h : AH} {v : PV} {L : List (List UInt8)} {x : List UInt8} (q : RowE A h v L) (hA : A ≤ fr) (hfr : fr < h.next) {fz : Bool} (hX : h.get X = some (.cells 9 1 fz [.str x])) (hL : L.length ≤ 100000000) :
    ∃ id ob, appO Tryz.prog h fr [v, .ow X 1 0 1] [43, 43] = some (.w (.ow id (L.length + 1) 0 (L.length + 1)) id ob) ∧ A ≤ id ∧ (id = fr ∨ h.get id = some (.cells 9 1 false (L.map PV.str))) ∧ RowE A (h.set id ob) (.ow id (L.length + 1) 0 (L.length + 1)) (L ++ [x]) := by
  have hc : Ac.cellsOf h 1 (.ow X 1 0 1) = some ([.str x], 1) := cellR_ow (sz := 1) (n := 1) hX rfl
  rcases q with ⟨rfl, rfl⟩ | ⟨h0, R, rfl, a1, a2, a3⟩
  · exact ⟨fr, _, ap_new u43 i9 (by decide) (.inr rfl) hc (by decide) (by decide) (by decide), hA, .inl rfl, .inr ⟨by simp, fr, rfl, hA, by simpa only [AH.next_set] using hfr, by simp only [AH.get_set, if_true]; rfl⟩⟩
  · have := ap_more (P := Tryz.prog) (fr := fr) u43 i9 (by decide) (m := L.length) a3 (by rw [List.length_map, Nat.mul_one]) hc (by decide) (by omega) (by omega)
    simp only [Nat.mul_one] at this
    exact ⟨R, _, this, a1, .inr a3, .inr ⟨by simp, R, by simp, a1, by simpa only [AH.next_set] using a2, by simp only [AH.get_set, if_true, List.map_append]; rfl⟩⟩
theorem unlike_r {L : List (List UInt8)} {R : Nat} {h : AH} (h0 : 0 < L.length) (hl : L.length ≤ 1000000000) (hn : L.Nodup) (hg : h.get R = some (.cells 9 1 false (L.map PV.str))) : ∃ v h', (∀ fr, CR Tryz.prog (globM mx) md (.fn 37) [.ow R L.length 0 L.length] h fr (.sh v h')) ∧ (v = .bool true ∧ h'.next = h.next ∧ ∀ id, ¬ (id = R) → h'.get id = h.get id) := by
  refine via_rdP (p := fun id => id = R) (args' := [rowV strV L]) Tryz.func37 rfl rfl rfl rfl ⟨?_, trivial⟩ (fun h fr => unlike_c hl hn h fr)
  rw [← rowN_pos h0]
  exact rdOwP (f := strV) (sz := 1) rfl (fun _ => rfl) (fun _ => rfl) (by rw [strs_flat]; exact hg) rfl (by rw [Nat.mul_one]) h0
end Go.Proofs.YtcbngkmmmfaaoaaGreatDoor
namespace Go.Proofs.YtcbngkmmmfaaoaaGreatDoor
open Go.RowKit Go.Lib Go.Ac
set_option linter.unusedSimpArgs false
set_option maxRecDepth 100000
variable {mx : Int}
theorem fixed10g_c (h : AH) (fr : Nat) : CR Tryz.prog (globM mx) md (.fn 30) [] h fr (.val (.bool true)) := pure_any rfl rfl ⟨2000, fixed10_run⟩ h fr
structure RootS (s : Sc) (F : Fr) (h : AH) : Prop where
  f1 : F.at 1 = .ptr 0 2 0
  f3 : F.at 3 = rowV Dn.pv (typesD s)
  g0 : h.get 0 = some (.cells 25 0 false s.pv)
end Go.Proofs.YtcbngkmmmfaaoaaGreatDoor
namespace Go.Proofs.YtcbngkmmmfaaoaaGreatDoor
open Go.RowKit Go.Lib Go.Ac
set_option linter.unusedSimpArgs false
set_option maxRecDepth 100000
variable {mx : Int}
theorem ix52n {l : List Inp} {i : Int} {o : Inp} (h0 : 0 ≤ i) (ho : l[i.toNat]? = some o) : ∃ r, ∀ h, idaO Tryz.prog h 52 (rowV Inp.pv l) (.int .i64 i) = some (.q (.rop (o.pv ++ r))) := by
  obtain ⟨r, hr⟩ := flat_drop (f := Inp.pv) (z := 3) (fun _ => rfl) l i.toNat o ho
  have := (List.getElem?_eq_some_iff.1 ho).1
  exact ⟨r, fun h => by rw [← hr]; exact ida_roN u52 sz56 h0 (by omega)⟩
def invG (D : List Dn) (ins : List Inp) (ve : PV) (k : Nat) (F : Fr) (h : AH) : Prop := ∃ (i : Nat) (v : PV), k + i = ins.length ∧ F.at 0 = rowV Dn.pv D ∧ F.at 1 = ve ∧ F.at 5 = v ∧ F.at 6 = .int .i64 i ∧ RowE 0 h v ((ins.take i).map (·.n))
theorem named_at {s : Sc} (ok : s.okM mx) {x : List UInt8} {k : Int} (h : Named (typesD s) x k) : ∃ (i : Nat) (d : Dn), dnAt (typesD s) x = (i : Int) ∧ (typesD s)[i]? = some d ∧ d.k ≠ k := by
  obtain ⟨q, hq, rfl, hk⟩ := h
  obtain ⟨i, p1, p2⟩ := types_in ok hq
  exact ⟨i, q, p2, p1, hk⟩
theorem goesIn_c {s : Sc} (ok : s.okM mx) {ins : List Inp} {ve : PV} (hv : RowR Inp.pv ve ins) (hl : ins.length ≤ 1000000) (hg : GoesIn (typesD s) ins) (h : AH) (fr : Nat) : CR Tryz.prog (globM mx) md (.fn 36) [rowV Dn.pv (typesD s), ve] h fr (.val (.bool true)) := by
  refine CR.plain (rs := [.tmp 4]) Tryz.func36 rfl rfl rfl rfl rfl (by simp [rowV, PV.cleans, PV.clean, hv.clean]) rfl ?_ h fr
  have fit := types_fit ok
  have hL : (typesD s).length ≤ 9223372036854775807 := Nat.le_trans fit.1 (by decide)
  simp -implicitDefEqProofs only [wpC_seq, rowsA, if_true, if_false, opnd, ofVal, ofVal1, layArgs, Nat.reduceAdd, reduceIte, Nat.reduceEqDiff, reduceCtorEq, rowsB, cellsG, Nat.reduceMul, bd43_0]
  refine wpC_loop (invG (typesD s) ins ve) (k := ins.length) ⟨0, .els, by omega, ?_, ?_, ?_, ?_, .inl ⟨rfl, rfl⟩⟩ ?_
  · simp only [Fr.at_set, Nat.reduceEqDiff, reduceIte]
  · simp only [Fr.at_set, Nat.reduceEqDiff, reduceIte]
  · simp only [Fr.at_set, Nat.reduceEqDiff, reduceIte]
  · simp only [Fr.at_set, Nat.reduceEqDiff, reduceIte]; rfl
  rintro k F h ⟨i, v, ki, f0, f1, f5, f6, hR⟩
  cases k with
  | zero =>
    have c2 : ¬ ((i : Int) < (ins.length : Int)) := by omega
    rw [List.take_of_length_le (by omega)] at hR
    simp -implicitDefEqProofs only [wpC_seq, rowsA, if_true, if_false, opnd, ofVal, ofVal1, layArgs, Nat.reduceAdd, reduceIte, Nat.reduceEqDiff, reduceCtorEq, rowsB, cellsG, Nat.reduceMul, f0, f1, f5, f6, lenR u52 hv, c2]
    rcases hR with ⟨hL0, rfl⟩ | ⟨h0, R, rfl, a1, a2, a3⟩
    · simp -implicitDefEqProofs only [wpC_seq, rowsA, if_true, if_false, opnd, ofVal, ofVal1, layArgs, Nat.reduceAdd, reduceIte, Nat.reduceEqDiff, reduceCtorEq, rowsB, cellsG, Nat.reduceMul, goO_known unlike_e]
    · refine goO_val (unlike_r h0 (by rw [List.length_map]; omega) hg.2 (by simp only [AH.get_up]; exact a3)) ?_
      rintro _ h2 ⟨rfl, _⟩
      simp -implicitDefEqProofs only [wpC_seq, rowsA, if_true, if_false, opnd, ofVal, ofVal1, layArgs, Nat.reduceAdd, reduceIte, Nat.reduceEqDiff, reduceCtorEq, rowsB, cellsG, Nat.reduceMul]
  | succ k =>
    have c2 : (i : Int) < (ins.length : Int) := by omega
    have hi : i < ins.length := by omega
    obtain rfl : ve = rowV Inp.pv ins := by
      rcases hv with q | ⟨rfl, _⟩
      · exact q
      · cases hi
    have w := IntWalk.i64_in ((i : Int) + 1) (by omega)
    obtain ⟨p, hp⟩ : ∃ p, ins[i]? = some p := ⟨_, List.getElem?_eq_getElem hi⟩
    obtain ⟨r, hr⟩ := ix52n (l := ins) (i := (i : Int)) (by omega) (by rw [Int.toNat_natCast]; exact hp)
    obtain ⟨j, d, j1, j2, j3⟩ := named_at ok (hg.1 p (List.mem_of_getElem? hp))
    have j4 := (List.getElem?_eq_some_iff.1 j2).1
    obtain ⟨r', hr'⟩ := ix47n (l := typesD s) (i := (j : Int)) (by omega) (by rw [Int.toNat_natCast]; exact j2)
    have kf := findN_c (mx := mx) (typesD s) hL p.t
    rw [j1] at kf
    have n1 : ¬ ((j : Int) < 0) := by omega
    have n2 : ¬ (((typesD s).length : Int) ≤ (j : Int)) := by omega
    simp -implicitDefEqProofs only [wpC_seq, rowsA, if_true, if_false, opnd, ofVal, ofVal1, layArgs, Nat.reduceAdd, reduceIte, Nat.reduceEqDiff, reduceCtorEq, rowsB, cellsG, Nat.reduceMul, rowsS, List.drop_drop, f0, f1, f5, f6, lenR u52 hv, c2, hr, hr', loadO_one ag9 sz9, loadO_one ag3 sz3, fda_rop o31_0, fda_rop o56_1, fda_rop o56_0, fda_rop o54_1, Inp.pv, Dn.pv, bd43_1, goO_known kf, n1, n2, ln47n, j3, w]
    generalize hH : AH.set _ _ _ = H
    have g1 : H.get (h.next + 4 + 9 + 16 + 6) = some (.cells 9 1 false [.str p.n]) := by rw [← hH]; simp only [AH.get_set, if_true]
    have g2 : ∀ x, x < h.next → H.get x = h.get x := by
      intro x hx
      rw [← hH]
      simp only [AH.get_set, AH.get_up]
      repeat rw [if_neg (by omega)]
    have g3 : H.next = h.next + 4 + 9 + 16 + 9 := by rw [← hH]; simp only [AH.next_set, AH.next_up]
    have hRk := hR.keep (h' := H) (by omega) fun id h1 h2 => g2 id h2
    have hlen : ((ins.take i).map (·.n)).length = i := by rw [List.length_map, List.length_take]; omega
    obtain ⟨id, ob, e1, e2, e3, e4⟩ := hRk.push (fr := h.next + 4 + 9 + 16 + 7) (x := p.n) (by omega) (by omega) g1 (by omega)
    rw [e1]
    clear hH
    simp -implicitDefEqProofs only [wpC_seq, rowsA, if_true, if_false, opnd, ofVal, ofVal1, layArgs, Nat.reduceAdd, reduceIte, Nat.reduceEqDiff, reduceCtorEq, rowsB, cellsG, Nat.reduceMul, f6, w]
    refine ⟨k, by omega, i + 1, .ow id (((ins.take i).map (·.n)).length + 1) 0 (((ins.take i).map (·.n)).length + 1), by omega, ?_, ?_, ?_, ?_, ?_⟩
    · simp only [Fr.at_set, Nat.reduceEqDiff, reduceIte, f0]
    · simp only [Fr.at_set, Nat.reduceEqDiff, reduceIte, f1]
    · simp only [Fr.at_set, Nat.reduceEqDiff, reduceIte]
    · simp only [Fr.at_set, Nat.reduceEqDiff, reduceIte]; rfl
    · rw [List.take_add_one, hp, List.map_append]
      exact e4.keep (by simp only [AH.next_set, AH.next_up]; omega) fun id h1 h2 => by simp only [AH.get_up]
end Go.Proofs.YtcbngkmmmfaaoaaGreatDoor
namespace Go.Proofs.YtcbngkmmmfaaoaaGreatDoor
open Go.RowKit Go.Lib Go.Ac
variable {mx : Int}
theorem types_lens {s : Sc} (h : s.okM mx) {d : Dn} (hd : d ∈ typesD s) : d.ws.length ≤ 1000000 ∧ d.ins.length ≤ 1000000 := by
  obtain ⟨e1, e2, e3, e4, e5⟩ := h.enough
  rcases types_kinds hd with ⟨x, hx, rfl⟩ | ⟨e, he, rfl⟩ | ⟨o, ho, hd⟩ | hd | ⟨e, he, rfl⟩ | rfl | rfl
  · exact ⟨Nat.zero_le _, Nat.zero_le _⟩
  · exact ⟨Nat.le_trans (e5 e he).2 (by decide), Nat.zero_le _⟩
  · have hf := (e4 o ho).2
    have hp : (props s o).length ≤ o.fs.length := List.length_filter_le _ _
    simp only [objD, List.mem_cons, List.not_mem_nil, or_false] at hd
    rcases hd with rfl | rfl | rfl | rfl | rfl | rfl
    all_goals simp only [List.length_cons, List.length_nil, List.length_map, List.length_append]; omega
  · simp only [midD, List.mem_cons, List.not_mem_nil, or_false] at hd
    rcases hd with rfl | rfl | rfl | rfl
    all_goals simp only [cmpD, cmpL, List.length_cons, List.length_nil, List.length_append]; omega
  · simp only [enfD, List.length_cons, List.length_nil]; omega
  · exact ⟨Nat.zero_le _, Nat.zero_le _⟩
  · exact ⟨Nat.zero_le _, Nat.zero_le _⟩
structure More (d d' : Dn) : Prop where
  n : d'.n = d.n
  k : d'.k = d.k
  ws : d'.ws = d.ws
  ins : d'.ins = d.ins
  le : d.outs.length ≤ d'.outs.length
  outs : d'.outs.take d.outs.length = d.outs
  root : d.n = bQuery ∨ d.n = bMutation → 0 < d.outs.length
  no : ¬ (d.n = bQuery ∨ d.n = bMutation) → d'.outs = d.outs
end Go.Proofs.YtcbngkmmmfaaoaaGreatDoor
namespace Go.Proofs.YtcbngkmmmfaaoaaGreatDoor
open Go.RowKit Go.Lib Go.Ac
set_option linter.unusedSimpArgs false
set_option maxRecDepth 100000
variable {mx : Int}
theorem st54n (d : Dn) (id : Nat) (c : List PV) (hc : c.length = 5) : stoG id 5 0 (.agg d.pv) 5 (some (.cells 54 0 false c)) = some (.w .undef id (.cells 54 0 false d.pv)) := stoG_all id 5 0 54 (.agg d.pv) c hc rfl rfl
theorem ld54n (d : Dn) (r : List PV) : loadO Tryz.prog 54 (some (d.pv ++ r)) = some (.q (.agg d.pv)) := by
  rw [load_agg ag54 sz54 (by rw [List.length_append]; show 5 ≤ 5 + _; omega)]
  rw [List.take_left' (show d.pv.length = 5 from rfl)]
theorem ld58a (d : Ot) (r : List PV) : loadO Tryz.prog 58 (some (d.pv ++ r)) = some (.q (.agg d.pv)) := by
  rw [load_agg ag58 sz58 (by rw [List.length_append]; show 4 ≤ 4 + _; omega)]
  rw [List.take_left' (show d.pv.length = 4 from rfl)]
theorem fld0 (d : Dn) : loadO Tryz.prog 9 (some d.pv) = some (.q (.str d.n)) := loadO_one ag9 sz9
theorem fld1 (d : Dn) : loadO Tryz.prog 3 (some (List.drop 1 d.pv)) = some (.q (.int .i64 d.k)) := loadO_one ag3 sz3
theorem fld1r (d : Dn) (r : List PV) : loadO Tryz.prog 3 (some (List.drop 1 (d.pv ++ r))) = some (.q (.int .i64 d.k)) := loadO_one ag3 sz3
theorem fld2 (d : Dn) : loadO Tryz.prog 43 (some (List.drop 2 d.pv)) = some (.q (rowN strV d.ws)) := loadO_one ag43 sz43
theorem fld3 (d : Dn) : loadO Tryz.prog 51 (some (List.drop 3 d.pv)) = some (.q (rowN Ot.pv d.outs)) := loadO_one ag51 sz51
theorem fld4 (d : Dn) : loadO Tryz.prog 52 (some (List.drop 4 d.pv)) = some (.q (rowN Inp.pv d.ins)) := loadO_one ag52 sz52
theorem oul0 (o : Ot) : loadO Tryz.prog 9 (some o.pv) = some (.q (.str o.n)) := loadO_one ag9 sz9
theorem oul1 (o : Ot) : loadO Tryz.prog 9 (some (List.drop 1 o.pv)) = some (.q (.str o.t)) := loadO_one ag9 sz9
theorem oul3 (o : Ot) : loadO Tryz.prog 52 (some (List.drop 3 o.pv)) = some (.q (rowN Inp.pv o.args)) := loadO_one ag52 sz52
theorem inl0 (o : Inp) (r : List PV) : loadO Tryz.prog 9 (some (o.pv ++ r)) = some (.q (.str o.n)) := loadO_one ag9 sz9
theorem dl5 (d : Dn) : d.pv.length = 5 := rfl
theorem ol4 (d : Ot) : d.pv.length = 4 := rfl
theorem goO_row {P : Program} {G : Glob} {md : FuncId → Md} {rd : Bool} {ops : Array Oper} {base i : Nat} {rest : List Oper} {d : Option Tmp} {f : Fr} {h : AH} {Q : OX → Prop} {r : Option OR} (I : PV → AH → Prop) (e : (∃ v, r = some (.q v) ∧ I v h) ∨ ∃ v id ob, r = some (.w v id ob) ∧ I v (h.set id ob)) (H : ∀ v h', I v h' → wpO P G md rd ops base (i + 1) rest (putA f d v) h' Q) : goO P G md rd ops base i rest d f h Q r := by
  rcases e with ⟨v, rfl, q⟩ | ⟨v, id, ob, rfl, q⟩
  · rw [goO_q]
    exact H _ _ q
  · rw [goO_w]
    exact H _ _ q
theorem ap_names (L : List (List UInt8)) (hl : L.length ≤ 1000000) : (∀ h fr, appO Tryz.prog h fr [.els, rowN strV L] [43, 43] = some (.q .els)) ∧ L = [] ∨ 0 < L.length ∧ ∀ h fr, appO Tryz.prog h fr [.els, rowN strV L] [43, 43] = some (.w (.ow fr L.length 0 L.length) fr (.cells 9 1 false (L.map PV.str))) := by
  cases L with
  | nil => exact .inl ⟨fun h fr => ap_none u43 i9 (by decide) (.inr (.inl rfl)) (xs := []) rfl, rfl⟩
  | cons x L =>
    refine .inr ⟨by simp, fun h fr => ?_⟩
    rw [rowN_pos (by simp), rowV, ap43r h fr _ _ (by rw [strs_flat, List.length_map]) (by simp) hl, strs_flat]
structure CS (s : Sc) (i : Nat) (d : Dn) (X : Nat) (F : Fr) (h : AH) : Prop where
  f3 : F.at 3 = rowV Dn.pv (typesD s)
  f5 : F.at 5 = .int .i64 i
  f6 : F.at 6 = .ptr X 5 0
  gX : h.get X = some (.cells 54 0 false d.pv)
  lt : X + 1 ≤ h.next
def invK1 (s : Sc) (k : Nat) (F : Fr) (_h : AH) : Prop := ∃ i : Nat, k + i = (typesD s).length ∧ F.at 3 = rowV Dn.pv (typesD s) ∧ F.at 5 = .int .i64 i
def invK2 (s : Sc) (i : Nat) (d : Dn) (X : Nat) (k : Nat) (F : Fr) (h : AH) : Prop := ∃ (j : Nat) (v : PV), k + j = d.outs.length ∧ CS s i d X F h ∧ F.at 7 = v ∧ F.at 8 = .int .i64 j ∧ RowE (X + 1) h v (d.ws ++ (d.outs.take j).map (·.n))
def invK3 (s : Sc) (i : Nat) (d : Dn) (X : Nat) (k : Nat) (F : Fr) (h : AH) : Prop := ∃ (j : Nat) (v : PV), k + j = d.ins.length ∧ CS s i d X F h ∧ F.at 7 = v ∧ F.at 11 = .int .i64 j ∧ RowE (X + 1) h v (d.ws ++ d.outs.map (·.n) ++ (d.ins.take j).map (·.n))
set_option maxHeartbeats 2000000 in
theorem genClosed_c {s : Sc} (hs : s.fits) (hm : s.small) (h : AH) (fr : Nat) : CR Tryz.prog (globM mx) md (.fn 11) [.agg s.pv] h fr (.val (.bool true)) := by
  refine CR.plain (rs := [.tmp 2]) Tryz.func11 rfl rfl rfl rfl rfl rfl rfl ?_ h fr
  by_cases c1 : checkV mx s = 0
  rotate_left
  · simp -implicitDefEqProofs only [wpC_seq, rowsA, if_true, if_false, opnd, ofVal, ofVal1, layArgs, Nat.reduceAdd, reduceIte, Nat.reduceEqDiff, reduceCtorEq, rowsB, cellsG, Nat.reduceMul, rowsS, List.drop_drop, goO_known (types_no (mx := mx) hs hm c1), goO_known fixed10g_c, goO_known (check_s hs hm), c1, bin_bneq u4]

    refine wpC_loop (fun _ F _ => F.at 3 = .nls ∧ F.at 5 = .int .i64 0) (k := 0) ⟨?_, ?_⟩ ?_
    · simp only [Fr.at_set, Nat.reduceEqDiff, reduceIte]
    · simp only [Fr.at_set, Nat.reduceEqDiff, reduceIte]
    rintro k F h ⟨f3, f5⟩
    have c0 : ¬ ((0 : Int) < 0) := by decide
    simp -implicitDefEqProofs only [wpC_seq, rowsA, if_true, if_false, opnd, ofVal, ofVal1, layArgs, Nat.reduceAdd, reduceIte, Nat.reduceEqDiff, reduceCtorEq, rowsB, cellsG, Nat.reduceMul, f3, f5, len_nls u47, c0]
  have ok := check_0.1 c1
  have fit := types_fit ok
  have hL : (typesD s).length ≤ 9223372036854775807 := Nat.le_trans fit.1 (by decide)
  simp -implicitDefEqProofs only [wpC_seq, rowsA, if_true, if_false, opnd, ofVal, ofVal1, layArgs, Nat.reduceAdd, reduceIte, Nat.reduceEqDiff, reduceCtorEq, rowsB, cellsG, Nat.reduceMul, rowsS, List.drop_drop, goO_known (types_c (mx := mx) hs hm c1), goO_known fixed10g_c, goO_known (check_s hs hm), c1, bin_bneq u4, beq_self_eq_true, Bool.not_true]
  refine wpC_loop (invK1 s) (k := (typesD s).length) ⟨0, by omega, ?_, ?_⟩ ?_
  · simp only [Fr.at_set, Nat.reduceEqDiff, reduceIte]
  · simp only [Fr.at_set, Nat.reduceEqDiff, reduceIte]; rfl
  rintro k F h ⟨i, ki, f3, f5⟩
  cases k with
  | zero =>
    have c2 : ¬ ((i : Int) < ((typesD s).length : Int)) := by omega
    simp -implicitDefEqProofs only [wpC_seq, rowsA, if_true, if_false, opnd, ofVal, ofVal1, layArgs, Nat.reduceAdd, reduceIte, Nat.reduceEqDiff, reduceCtorEq, rowsB, cellsG, Nat.reduceMul, f3, f5, ln47n, c2]
  | succ k =>
    have c2 : (i : Int) < ((typesD s).length : Int) := by omega
    have hi : i < (typesD s).length := by omega
    obtain ⟨d, hd⟩ : ∃ d, (typesD s)[i]? = some d := ⟨_, List.getElem?_eq_getElem hi⟩
    have hdm := List.mem_of_getElem? hd
    obtain ⟨⟨k01, k02⟩, k1, k2, k3, ho, hin, hnm⟩ := closed_types ok hdm
    have hlens := types_lens ok hdm
    have hfit := fit.2 d hdm
    have lo : d.outs.length ≤ 1000000 := hfit.2.1
    obtain ⟨r, hr⟩ := ix47n (l := typesD s) (i := (i : Int)) (by omega) (by rw [Int.toNat_natCast]; exact hd)
    have kf := findN_c (mx := mx) (typesD s) hL d.n
    rw [types_at ok hd] at kf
    have w := IntWalk.i64_in ((i : Int) + 1) (by omega)
    have n0 : ¬ (d.k < 0) := by omega
    have n4 : ¬ (4 ≤ d.k) := by omega
    have e1 : decide (d.k = 1) = decide ((0 : Int) < (d.ws.length : Int)) := by rw [decide_eq_decide, k1]; omega
    have e2 : decide (d.k = 2) = decide ((0 : Int) < (d.outs.length : Int)) := by rw [decide_eq_decide, k2]; omega
    have e3 : decide (d.k = 3) = decide ((0 : Int) < (d.ins.length : Int)) := by rw [decide_eq_decide, k3]; omega
    simp -implicitDefEqProofs only [wpC_seq, rowsA, if_true, if_false, opnd, ofVal, ofVal1, layArgs, Nat.reduceAdd, reduceIte, Nat.reduceEqDiff, reduceCtorEq, rowsB, cellsG, Nat.reduceMul, f3, f5, ln47n, c2, hr, ld54n, al54, sz54, st54n, dl5, fda_ptr o54_0, fda_ptr o54_1, fda_ptr o54_2, fda_ptr o54_3, fda_ptr o54_4, fld0, fld1, fld2, fld3, fld4, goO_known kf, n0, n4, lenR u43 (rowN_row strV _), lenR u51 (rowN_row Ot.pv _), lenR u52 (rowN_row Inp.pv _), e1, e2, e3, bd43_0, bin_bneq u4, beq_self_eq_true, Bool.not_true, Nat.left_eq_add, reduceCtorEq]
    refine goO_row (fun v h' => RowE (h.next + 8 + 1) h' v d.ws ∧ h'.get (h.next + 8) = some (.cells 54 0 false d.pv) ∧ h.next + 8 + 1 ≤ h'.next) ?_ ?_
    · rcases ap_names d.ws (by omega) with ⟨q, q1⟩ | ⟨h0, q⟩
      · refine .inl ⟨_, q _ _, ?_⟩
        refine ⟨.inl ⟨q1, rfl⟩, ?_, ?_⟩
        · simp only [AH.get_set, AH.get_up]
          rw [if_neg (by omega)]
          simp only [if_true]
        · simp only [AH.next_set, AH.next_up]
          exact (show h.next + 8 + 1 ≤ h.next + 4 + 6 + 46 + 5 by omega)
      · refine .inr ⟨_, _, _, q _ _, ?_⟩
        refine ⟨.inr ⟨h0, _, rfl, ?_, ?_, ?_⟩, ?_, ?_⟩
        · omega
        · simp only [AH.next_set, AH.next_up]; omega
        · simp only [AH.get_set, if_true]
        · simp only [AH.get_set, AH.get_up]
          rw [if_neg (by omega), if_neg (by omega)]
          simp only [if_true]
        · simp only [AH.next_set, AH.next_up]
          exact (show h.next + 8 + 1 ≤ h.next + 4 + 6 + 46 + 5 by omega)
    intro v H ⟨hR, gX, lt⟩
    simp -implicitDefEqProofs only [wpC_seq, rowsA, if_true, if_false, opnd, ofVal, ofVal1, layArgs, Nat.reduceAdd, reduceIte, Nat.reduceEqDiff, reduceCtorEq, rowsB, cellsG, Nat.reduceMul]
    refine wpC_loop (invK2 s i d (h.next + 8)) (k := d.outs.length) ⟨0, v, by omega, ⟨?_, ?_, ?_, ?_, ?_⟩, ?_, ?_, ?_⟩ ?_
    · simp only [Fr.at_set, Nat.reduceEqDiff, reduceIte, f3]
    · simp only [Fr.at_set, Nat.reduceEqDiff, reduceIte, f5]
    · simp only [Fr.at_set, Nat.reduceEqDiff, reduceIte]
    · simp only [AH.get_set, AH.get_up]; exact gX
    · simp only [AH.next_set, AH.next_up]; omega
    · simp only [Fr.at_set, Nat.reduceEqDiff, reduceIte]
    · simp only [Fr.at_set, Nat.reduceEqDiff, reduceIte]; rfl
    · rw [List.take_zero, List.map_nil, List.append_nil]
      exact hR.keep (by simp only [AH.next_set, AH.next_up]; omega) fun id h1 h2 => by simp only [AH.get_set, AH.get_up]
    clear f3 f5 hR gX lt kf
    generalize h.next + 8 = X
    clear h
    rintro k2 F h ⟨j, v, kj, ⟨f3, f5, f6, gX, lt⟩, f7, f8, hR⟩
    cases k2 with
    | zero =>
      have c3 : ¬ ((j : Int) < (d.outs.length : Int)) := by omega
      rw [List.take_of_length_le (by omega)] at hR
      simp -implicitDefEqProofs only [wpC_seq, rowsA, if_true, if_false, opnd, ofVal, ofVal1, layArgs, Nat.reduceAdd, reduceIte, Nat.reduceEqDiff, reduceCtorEq, rowsB, cellsG, Nat.reduceMul, f3, f5, f6, f7, f8, gX, dl5, fda_ptr o54_3, fld3, lenR u51 (rowN_row Ot.pv _), c3]
      refine wpC_loop (invK3 s i d X) (k := d.ins.length) ⟨0, v, by omega, ⟨?_, ?_, ?_, ?_, ?_⟩, ?_, ?_, ?_⟩ ?_
      · simp only [Fr.at_set, Nat.reduceEqDiff, reduceIte, f3]
      · simp only [Fr.at_set, Nat.reduceEqDiff, reduceIte, f5]
      · simp only [Fr.at_set, Nat.reduceEqDiff, reduceIte, f6]
      · simp only [AH.get_set, AH.get_up]; exact gX
      · simp only [AH.next_set, AH.next_up]; omega
      · simp only [Fr.at_set, Nat.reduceEqDiff, reduceIte, f7]
      · simp only [Fr.at_set, Nat.reduceEqDiff, reduceIte]; rfl
      · rw [List.take_zero, List.map_nil, List.append_nil]
        exact hR.keep (by simp only [AH.next_set, AH.next_up]; omega) fun id h1 h2 => by simp only [AH.get_set, AH.get_up]
      clear f3 f5 f6 f7 f8 hR gX lt h F
      rintro k3 F h ⟨j, v, kj, ⟨f3, f5, f6, gX, lt⟩, f7, f8, hR⟩
      cases k3 with
      | zero =>
        have c4 : ¬ ((j : Int) < (d.ins.length : Int)) := by omega
        rw [List.take_of_length_le (by omega)] at hR
        have kg := goesIn_c ok (rowN_row Inp.pv d.ins) hlens.2 hin
        simp -implicitDefEqProofs only [wpC_seq, rowsA, if_true, if_false, opnd, ofVal, ofVal1, layArgs, Nat.reduceAdd, reduceIte, Nat.reduceEqDiff, reduceCtorEq, rowsB, cellsG, Nat.reduceMul, f3, f5, f6, f7, f8, gX, dl5, fda_ptr o54_4, fld4, lenR u52 (rowN_row Inp.pv _), c4, goO_known kg]
        have fin : ∀ (F' : Fr) (h' : AH), F'.at 3 = F.at 3 → F'.at 5 = .int .i64 ((i : Int) + 1) → ∃ k', k' < k + 1 ∧ invK1 s k' F' h' := fun F' h' q3 q5 => ⟨k, by omega, i + 1, by omega, q3.trans f3, q5⟩
        rcases hR with ⟨hL0, rfl⟩ | ⟨h0, R, rfl, a1, a2, a3⟩
        · simp -implicitDefEqProofs only [wpC_seq, rowsA, if_true, if_false, opnd, ofVal, ofVal1, layArgs, Nat.reduceAdd, reduceIte, Nat.reduceEqDiff, reduceCtorEq, rowsB, cellsG, Nat.reduceMul, goO_known unlike_e, f5, w]
          refine fin _ _ ?_ ?_
          · simp only [Fr.at_set, Nat.reduceEqDiff, reduceIte]
          · simp only [Fr.at_set, Nat.reduceEqDiff, reduceIte]
        · refine goO_val (unlike_r h0 (by simp only [List.length_append, List.length_map]; omega) hnm (by simp only [AH.get_up]; exact a3)) ?_
          rintro _ h2 ⟨rfl, _⟩
          simp -implicitDefEqProofs only [wpC_seq, rowsA, if_true, if_false, opnd, ofVal, ofVal1, layArgs, Nat.reduceAdd, reduceIte, Nat.reduceEqDiff, reduceCtorEq, rowsB, cellsG, Nat.reduceMul, f5, w]
          refine fin _ _ ?_ ?_
          · simp only [Fr.at_set, Nat.reduceEqDiff, reduceIte]
          · simp only [Fr.at_set, Nat.reduceEqDiff, reduceIte]
      | succ k3 =>
        have c4 : (j : Int) < (d.ins.length : Int) := by omega
        have w' := IntWalk.i64_in ((j : Int) + 1) (by omega)
        have hrow : rowN Inp.pv d.ins = rowV Inp.pv d.ins := rowN_pos (by omega)
        obtain ⟨p, hp⟩ : ∃ p, d.ins[j]? = some p := ⟨_, List.getElem?_eq_getElem (show j < d.ins.length by omega)⟩
        obtain ⟨r2, hr2⟩ := ix52n (l := d.ins) (i := (j : Int)) (by omega) (by rw [Int.toNat_natCast]; exact hp)
        simp -implicitDefEqProofs only [wpC_seq, rowsA, if_true, if_false, opnd, ofVal, ofVal1, layArgs, Nat.reduceAdd, reduceIte, Nat.reduceEqDiff, reduceCtorEq, rowsB, cellsG, Nat.reduceMul, f3, f5, f6, f7, f8, gX, dl5, fda_ptr o54_4, fld4, hrow, lenR u52 (.inl rfl), c4, hr2, fda_rop o56_0, List.drop_zero, inl0, bd43_1, w']
        generalize hH : AH.set _ _ _ = H
        have g1 : H.get (h.next + 5 + 7) = some (.cells 9 1 false [.str p.n]) := by rw [← hH]; simp only [AH.get_set, if_true]
        have g2 : ∀ x, x < h.next → H.get x = h.get x := by
          intro x hx
          rw [← hH]
          simp only [AH.get_set, AH.get_up]
          repeat rw [if_neg (by omega)]
        have g3 : H.next = h.next + 5 + 10 := by rw [← hH]; simp only [AH.next_set, AH.next_up]
        have hRk := hR.keep (h' := H) (by omega) fun id h1 h2 => g2 id h2
        have hlen : (d.ws ++ d.outs.map (·.n) ++ (d.ins.take j).map (·.n)).length ≤ 100000000 := by simp only [List.length_append, List.length_map, List.length_take]; omega
        obtain ⟨id, ob, e1, e2, e3, e4⟩ := hRk.push (fr := h.next + 5 + 8) (x := p.n) (by omega) (by omega) g1 hlen
        rw [e1]
        clear hH
        simp -implicitDefEqProofs only [wpC_seq, rowsA, if_true, if_false, opnd, ofVal, ofVal1, layArgs, Nat.reduceAdd, reduceIte, Nat.reduceEqDiff, reduceCtorEq, rowsB, cellsG, Nat.reduceMul, f8, w']
        refine ⟨k3, by omega, j + 1, .ow id ((d.ws ++ d.outs.map (·.n) ++ (d.ins.take j).map (·.n)).length + 1) 0 ((d.ws ++ d.outs.map (·.n) ++ (d.ins.take j).map (·.n)).length + 1), by omega, ⟨?_, ?_, ?_, ?_, ?_⟩, ?_, ?_, ?_⟩
        · simp only [Fr.at_set, Nat.reduceEqDiff, reduceIte, f3]
        · simp only [Fr.at_set, Nat.reduceEqDiff, reduceIte, f5]
        · simp only [Fr.at_set, Nat.reduceEqDiff, reduceIte, f6]
        · simp only [AH.get_set, AH.get_up]
          rw [if_neg (by omega), g2 _ (by omega), gX]
        · simp only [AH.next_set, AH.next_up]; omega
        · simp only [Fr.at_set, Nat.reduceEqDiff, reduceIte]
        · simp only [Fr.at_set, Nat.reduceEqDiff, reduceIte]; rfl
        · rw [List.take_add_one, hp, List.map_append, ← List.append_assoc]
          exact e4.keep (by simp only [AH.next_set, AH.next_up]; omega) fun id h1 h2 => by simp only [AH.get_up]
    | succ k2 =>
      have c3 : (j : Int) < (d.outs.length : Int) := by omega
      have w' := IntWalk.i64_in ((j : Int) + 1) (by omega)
      have hrow : rowN Ot.pv d.outs = rowV Ot.pv d.outs := rowN_pos (by omega)
      obtain ⟨p, hp⟩ : ∃ p, d.outs[j]? = some p := ⟨_, List.getElem?_eq_getElem (show j < d.outs.length by omega)⟩
      have hpm := List.mem_of_getElem? hp
      obtain ⟨r2, hr2⟩ := ix51n (l := d.outs) (i := (j : Int)) (by omega) (by rw [Int.toNat_natCast]; exact hp)
      obtain ⟨m, q, m1, m2, m3⟩ := named_at ok (ho p hpm).1
      have m4 := (List.getElem?_eq_some_iff.1 m2).1
      obtain ⟨r3, hr3⟩ := ix47n (l := typesD s) (i := (m : Int)) (by omega) (by rw [Int.toNat_natCast]; exact m2)
      have kf := findN_c (mx := mx) (typesD s) hL p.t
      rw [m1] at kf
      have n1 : ¬ ((m : Int) < 0) := by omega
      have n2 : ¬ (((typesD s).length : Int) ≤ (m : Int)) := by omega
      have kg := goesIn_c ok (rowN_row Inp.pv p.args) (hfit.2.2 p hpm) (ho p hpm).2
      simp -implicitDefEqProofs only [wpC_seq, rowsA, if_true, if_false, opnd, ofVal, ofVal1, layArgs, Nat.reduceAdd, reduceIte, Nat.reduceEqDiff, reduceCtorEq, rowsB, cellsG, Nat.reduceMul, f3, f5, f6, f7, f8, gX, dl5, ol4, fda_ptr o54_3, fld3, hrow, lenR u51 (.inl rfl), c3, hr2, hr3, ld58a, al58n, sz58, st58n, fda_ptr o58_0, fda_ptr o58_1, fda_ptr o58_2, fda_ptr o31_0, oul0, oul1, oul3, goO_known kf, n1, n2, ln47n, fda_rop o54_1, fld1r, m3, goO_known kg, bd43_1, w']
      generalize hH : AH.set _ _ _ = H
      have g1 : H.get (h.next + 5 + 7 + 6 + 23 + 3) = some (.cells 9 1 false [.str p.n]) := by rw [← hH]; simp only [AH.get_set, if_true]
      have g2 : ∀ x, x < h.next → H.get x = h.get x := by
        intro x hx
        rw [← hH]
        simp only [AH.get_set, AH.get_up]
        repeat rw [if_neg (by omega)]
      have g3 : H.next = h.next + 5 + 7 + 6 + 23 + 6 := by rw [← hH]; simp only [AH.next_set, AH.next_up]
      have hRk := hR.keep (h' := H) (by omega) fun id h1 h2 => g2 id h2
      have hlen : (d.ws ++ (d.outs.take j).map (·.n)).length ≤ 100000000 := by simp only [List.length_append, List.length_map, List.length_take]; omega
      obtain ⟨id, ob, e1, e2, e3, e4⟩ := hRk.push (fr := h.next + 5 + 7 + 6 + 23 + 4) (x := p.n) (by omega) (by omega) g1 hlen
      rw [e1]
      clear hH
      simp -implicitDefEqProofs only [wpC_seq, rowsA, if_true, if_false, opnd, ofVal, ofVal1, layArgs, Nat.reduceAdd, reduceIte, Nat.reduceEqDiff, reduceCtorEq, rowsB, cellsG, Nat.reduceMul, f8, w']
      refine ⟨k2, by omega, j + 1, .ow id ((d.ws ++ (d.outs.take j).map (·.n)).length + 1) 0 ((d.ws ++ (d.outs.take j).map (·.n)).length + 1), by omega, ⟨?_, ?_, ?_, ?_, ?_⟩, ?_, ?_, ?_⟩
      · simp only [Fr.at_set, Nat.reduceEqDiff, reduceIte, f3]
      · simp only [Fr.at_set, Nat.reduceEqDiff, reduceIte, f5]
      · simp only [Fr.at_set, Nat.reduceEqDiff, reduceIte, f6]
      · simp only [AH.get_set, AH.get_up]
        rw [if_neg (by omega), g2 _ (by omega), gX]
      · simp only [AH.next_set, AH.next_up]; omega
      · simp only [Fr.at_set, Nat.reduceEqDiff, reduceIte]
      · simp only [Fr.at_set, Nat.reduceEqDiff, reduceIte]; rfl
      · rw [List.take_add_one, hp, List.map_append, ← List.append_assoc]
        exact e4.keep (by simp only [AH.next_set, AH.next_up]; omega) fun id h1 h2 => by simp only [AH.get_up]
end Go.Proofs.YtcbngkmmmfaaoaaGreatDoor
