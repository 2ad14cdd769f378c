/-
  JOINED TEXTS (Q4 Q5 Q6 Q7 SL Q8 Q9 Q10 Q11 Q12 Q13 Q14 Q15 Q16 S5 S6): a pure machine for the model's code, its soundness, and what the program's functions come to.
-/
import Derived.Test.YtcbngkmmmfaaoaaGreatDoorM10
import Derived.Test.YtcbngkmmmfaaoaaGreatDoorM8
import Derived.Shelf.Sort.Plain
import Derived.Test.YtcbngkmmmfaaoaaGreatDoorM6
import Derived.ChangeArms
import Derived.DataReads
set_option linter.unusedVariables false
set_option linter.unusedSimpArgs false
namespace Go.Proofs.YtcbngkmmmfaaoaaGreatDoor
open Go.RowKit Go.Lib Go.Ac
set_option linter.unusedSimpArgs false
set_option maxRecDepth 100000
variable {mx : Int}

def typedB (s : Sc) (f : Fld) : Bool := if propB s f then decide (f.w = []) || decide (f.w = [33]) else decide (0 ≤ objAt s f.t) && (decide (f.w = []) || decide (f.w = [33, 91, 33]))
theorem typed_c {s : Sc} {ve : PV} (hv : RowR En.pv ve s.es) (hs : s.fits) (f : Fld) (h : AH) (fr : Nat) : CR Tryz.prog (globM mx) md (.fn 44) [.agg (scV s ve), .agg f.pv] h fr (.val (.bool (typedB s f))) := by
  refine CR.plain (rs := [.tmp 4]) Tryz.func44 rfl rfl rfl rfl rfl (by simp [PV.cleans, PV.clean, scV_clean hv, Fld.cl]) rfl ?_ h fr
  have hlen : (scV s ve).length = 2 := rfl
  have wr : ∀ (x : List UInt8), (decide (f.w = []) || decide (f.w = x)) = if f.w = [] then true else decide (f.w = x) := fun x => by
    by_cases c : f.w = [] <;> simp [c]
  unfold typedB propB
  cases c1 : scalar f.t with
  | true =>
    by_cases c3 : f.w = []
    · simp -implicitDefEqProofs only [wpC_seq, rowsA, if_true, if_false, opnd, ofVal, ofVal1, layArgs, Nat.reduceAdd, reduceIte, Nat.reduceEqDiff, reduceCtorEq, rowsB, cellsG, Nat.reduceMul, hlen, Fld.pv, fda_ptr o33_1, fda_ptr o31_0, fda_ptr o31_1, loadO_one ag9 sz9, goO_known (scalar_c f.t), c1, c3, Bool.true_or, Bool.false_or]
    · simp -implicitDefEqProofs only [wpC_seq, rowsA, if_true, if_false, opnd, ofVal, ofVal1, layArgs, Nat.reduceAdd, reduceIte, Nat.reduceEqDiff, reduceCtorEq, rowsB, cellsG, Nat.reduceMul, hlen, Fld.pv, fda_ptr o33_1, fda_ptr o31_0, fda_ptr o31_1, loadO_one ag9 sz9, goO_known (scalar_c f.t), c1, c3, Bool.true_or, Bool.false_or]
  | false =>
    by_cases c2 : 0 ≤ enmAt s f.t
    · by_cases c3 : f.w = []
      · simp -implicitDefEqProofs only [wpC_seq, rowsA, if_true, if_false, opnd, ofVal, ofVal1, layArgs, Nat.reduceAdd, reduceIte, Nat.reduceEqDiff, reduceCtorEq, rowsB, cellsG, Nat.reduceMul, hlen, Fld.pv, fda_ptr o33_1, fda_ptr o31_0, fda_ptr o31_1, loadO_one ag9 sz9, goO_known (scalar_c f.t), c1, ld25v s, goO_known (enm_v hv hs f.t), c2, c3, Bool.or_true, Bool.false_or, Bool.true_or]
      · simp -implicitDefEqProofs only [wpC_seq, rowsA, if_true, if_false, opnd, ofVal, ofVal1, layArgs, Nat.reduceAdd, reduceIte, Nat.reduceEqDiff, reduceCtorEq, rowsB, cellsG, Nat.reduceMul, hlen, Fld.pv, fda_ptr o33_1, fda_ptr o31_0, fda_ptr o31_1, loadO_one ag9 sz9, goO_known (scalar_c f.t), c1, ld25v s, goO_known (enm_v hv hs f.t), c2, c3, Bool.or_true, Bool.false_or, Bool.true_or]
    · by_cases c4 : 0 ≤ objAt s f.t
      · by_cases c3 : f.w = []
        · simp -implicitDefEqProofs only [wpC_seq, rowsA, if_true, if_false, opnd, ofVal, ofVal1, layArgs, Nat.reduceAdd, reduceIte, Nat.reduceEqDiff, reduceCtorEq, rowsB, cellsG, Nat.reduceMul, hlen, Fld.pv, fda_ptr o33_1, fda_ptr o31_0, fda_ptr o31_1, loadO_one ag9 sz9, goO_known (scalar_c f.t), c1, ld25v s, goO_known (enm_v hv hs f.t), c2, goO_known (obj_v hv hs f.t), c4, c3, Bool.or_false, Bool.true_and, Bool.or_self, Bool.true_or, Bool.false_or]
        · simp -implicitDefEqProofs only [wpC_seq, rowsA, if_true, if_false, opnd, ofVal, ofVal1, layArgs, Nat.reduceAdd, reduceIte, Nat.reduceEqDiff, reduceCtorEq, rowsB, cellsG, Nat.reduceMul, hlen, Fld.pv, fda_ptr o33_1, fda_ptr o31_0, fda_ptr o31_1, loadO_one ag9 sz9, goO_known (scalar_c f.t), c1, ld25v s, goO_known (enm_v hv hs f.t), c2, goO_known (obj_v hv hs f.t), c4, c3, Bool.or_false, Bool.true_and, Bool.or_self, Bool.true_or, Bool.false_or]
      · simp -implicitDefEqProofs only [wpC_seq, rowsA, if_true, if_false, opnd, ofVal, ofVal1, layArgs, Nat.reduceAdd, reduceIte, Nat.reduceEqDiff, reduceCtorEq, rowsB, cellsG, Nat.reduceMul, hlen, Fld.pv, fda_ptr o33_1, fda_ptr o31_0, fda_ptr o31_1, loadO_one ag9 sz9, goO_known (scalar_c f.t), c1, ld25v s, goO_known (enm_v hv hs f.t), c2, goO_known (obj_v hv hs f.t), c4, Bool.or_false, Bool.false_and, Bool.or_self]
theorem chk1_c {s : Sc} {ve : PV} (hv : RowR En.pv ve s.es) (hs : s.fits) (o : Ob) (f : Fld) (h : AH) (fr : Nat) : CR Tryz.prog (globM mx) md (.fn 43) [.agg o.pv, .agg f.pv, .rop (scV s ve)] h fr (.val (.bool (typedB s f))) := by
  refine CR.plain (rs := [.tmp 5]) Tryz.func43 rfl rfl rfl rfl rfl rfl rfl ?_ h fr
  simp -implicitDefEqProofs only [wpC_seq, rowsA, if_true, if_false, opnd, ofVal, ofVal1, layArgs, Nat.reduceAdd, reduceIte, Nat.reduceEqDiff, reduceCtorEq, rowsB, cellsG, Nat.reduceMul, Ob.len, Fld.len, ld33, ld25v s, goO_known (typed_c hv hs f)]
def searchB (s : Sc) (f : Fld) : Bool := !f.s || decide (edgeOf s f < 0)
theorem chk2_c {s : Sc} {ve : PV} (hv : RowR En.pv ve s.es) (hs : s.fits) (o : Ob) (f : Fld) (h : AH) (fr : Nat) : CR Tryz.prog (globM mx) md (.fn 45) [.agg o.pv, .agg f.pv, .rop (scV s ve)] h fr (.val (.bool (searchB s f))) := by
  refine CR.plain (rs := [.tmp 5]) Tryz.func45 rfl rfl rfl rfl rfl rfl rfl ?_ h fr
  have hl : loadO Tryz.prog 4 (some [.bool f.s, .str f.inv]) = some (.q (.bool f.s)) := loadO_one ag4 sz4
  have hl2 := ld33 f
  unfold searchB
  rw [Fld.pv] at hl2
  cases c1 : f.s with
  | false =>
    rw [c1] at hl hl2
    simp -implicitDefEqProofs only [wpC_seq, rowsA, if_true, if_false, opnd, ofVal, ofVal1, layArgs, Nat.reduceAdd, reduceIte, Nat.reduceEqDiff, reduceCtorEq, rowsB, cellsG, Nat.reduceMul, Ob.len, Fld.pv, c1, fda_ptr o33_2, hl, Bool.true_or]
  | true =>
    have he := edge_v (mx := mx) hv hs f
    rw [Fld.pv] at he
    rw [c1] at hl hl2 he
    simp -implicitDefEqProofs only [wpC_seq, rowsA, if_true, if_false, opnd, ofVal, ofVal1, layArgs, Nat.reduceAdd, reduceIte, Nat.reduceEqDiff, reduceCtorEq, rowsB, cellsG, Nat.reduceMul, Ob.len, Fld.pv, c1, fda_ptr o33_2, hl, hl2, ld25v s, goO_known he, Bool.false_or]
def backB (s : Sc) (o : Ob) (f : Fld) : Bool :=
  if f.inv = [] then true
  else if edgeOf s f < 0 then false
  else match s.os[(edgeOf s f).toNat]? with
    | none => false
    | some q => if placeAt q f.inv < 0 then false else match q.fs[(placeAt q f.inv).toNat]? with
      | none => false
      | some g => decide (0 ≤ edgeOf s g) && decide (g.t = o.n) && decide (g.inv = f.n)
theorem place_range (q : Ob) (x : List UInt8) : placeAt q x = -1 ∨ ∃ (j : Nat) (g : Fld), placeAt q x = (j : Int) ∧ q.fs[j]? = some g := by
  rcases idx_range (fun o : Fld => decide (o.n = x)) q.fs 0 with h | ⟨j, g, h1, h2, _⟩
  · exact .inl h
  · exact .inr ⟨j, g, by unfold placeAt; rw [h1]; simp, h2⟩
theorem ld22v (s : Sc) (ve : PV) : loadO Tryz.prog 22 (some (scV s ve)) = some (.q (rowV Ob.pv s.os)) := loadO_one ag22 sz22
theorem backs_c {s : Sc} {ve : PV} (hv : RowR En.pv ve s.es) (hs : s.fits) (o : Ob) (f : Fld) (h : AH) (fr : Nat) : CR Tryz.prog (globM mx) md (.fn 47) [.agg (scV s ve), .agg o.pv, .agg f.pv] h fr (.val (.bool (backB s o f))) := by
  refine CR.plain (rs := [.tmp 6]) Tryz.func47 rfl rfl rfl rfl rfl (by simp [PV.cleans, PV.clean, scV_clean hv, Fld.cl, Ob.cl]) rfl ?_ h fr
  have hlen : (scV s ve).length = 2 := rfl
  unfold backB
  by_cases c1 : f.inv = []
  · simp -implicitDefEqProofs only [wpC_seq, rowsA, if_true, if_false, opnd, ofVal, ofVal1, layArgs, Nat.reduceAdd, reduceIte, Nat.reduceEqDiff, reduceCtorEq, rowsB, cellsG, Nat.reduceMul, rowsS, List.drop_drop, hlen, c1]
  rcases edge_range s f with he | ⟨j, q, he, hq⟩
  · have c2 : (-1 : Int) < 0 := by decide
    simp -implicitDefEqProofs only [wpC_seq, rowsA, if_true, if_false, opnd, ofVal, ofVal1, layArgs, Nat.reduceAdd, reduceIte, Nat.reduceEqDiff, reduceCtorEq, rowsB, cellsG, Nat.reduceMul, rowsS, List.drop_drop, hlen, c1, ld25v s, goO_known (edge_v hv hs f), he, c2]
  have c2 : ¬ ((j : Int) < 0) := by omega
  obtain ⟨r, hr⟩ := ix22 (l := s.os) (i := (j : Int)) (by omega) (by rw [Int.toNat_natCast]; exact hq)
  have hqm := hs.2.2 q (List.mem_of_getElem? hq)
  rcases place_range q f.inv with hp | ⟨i, g, hp, hg⟩
  · have c3 : (-1 : Int) < 0 := by decide
    have hpl := place_c (mx := mx) q hqm f.inv
    rw [show idx (fun g : Fld => decide (g.n = f.inv)) q.fs 0 = -1 from hp] at hpl
    simp -implicitDefEqProofs only [wpC_seq, rowsA, if_true, if_false, opnd, ofVal, ofVal1, layArgs, Nat.reduceAdd, reduceIte, Nat.reduceEqDiff, reduceCtorEq, rowsB, cellsG, Nat.reduceMul, rowsS, List.drop_drop, hlen, c1, ld25v s, ld22v, goO_known (edge_v hv hs f), he, c2, hr, goD_known hpl, hp, c3, Int.toNat_natCast, hq]
  have c3 : ¬ ((i : Int) < 0) := by omega
  obtain ⟨r2, hr2⟩ := ix39 (l := q.fs) (i := (i : Int)) (by omega) (by rw [Int.toNat_natCast]; exact hg)
  have hpl := place_c (mx := mx) q hqm f.inv
  rw [show idx (fun g : Fld => decide (g.n = f.inv)) q.fs 0 = (i : Int) from hp] at hpl
  by_cases c4 : 0 ≤ edgeOf s g
  · by_cases c5 : g.t = o.n
    · simp -implicitDefEqProofs only [wpC_seq, rowsA, if_true, if_false, opnd, ofVal, ofVal1, layArgs, Nat.reduceAdd, reduceIte, Nat.reduceEqDiff, reduceCtorEq, rowsB, cellsG, Nat.reduceMul, rowsS, List.drop_drop, hlen, c1, ld25v s, ld22v, goO_known (edge_v hv hs f), he, c2, hr, goD_known hpl, hp, c3, Int.toNat_natCast, hq, hg, hr2, al33, sz33, st33, goO_known (edge_v hv hs g), c4, c5, Bool.true_and]
    · simp -implicitDefEqProofs only [wpC_seq, rowsA, if_true, if_false, opnd, ofVal, ofVal1, layArgs, Nat.reduceAdd, reduceIte, Nat.reduceEqDiff, reduceCtorEq, rowsB, cellsG, Nat.reduceMul, rowsS, List.drop_drop, hlen, c1, ld25v s, ld22v, goO_known (edge_v hv hs f), he, c2, hr, goD_known hpl, hp, c3, Int.toNat_natCast, hq, hg, hr2, al33, sz33, st33, goO_known (edge_v hv hs g), c4, c5, Bool.true_and, Bool.false_and]
  · simp -implicitDefEqProofs only [wpC_seq, rowsA, if_true, if_false, opnd, ofVal, ofVal1, layArgs, Nat.reduceAdd, reduceIte, Nat.reduceEqDiff, reduceCtorEq, rowsB, cellsG, Nat.reduceMul, rowsS, List.drop_drop, hlen, c1, ld25v s, ld22v, goO_known (edge_v hv hs f), he, c2, hr, goD_known hpl, hp, c3, Int.toNat_natCast, hq, hg, hr2, al33, sz33, st33, goO_known (edge_v hv hs g), c4, Bool.false_and]
theorem chk3_c {s : Sc} {ve : PV} (hv : RowR En.pv ve s.es) (hs : s.fits) (o : Ob) (f : Fld) (h : AH) (fr : Nat) : CR Tryz.prog (globM mx) md (.fn 46) [.agg o.pv, .agg f.pv, .rop (scV s ve)] h fr (.val (.bool (backB s o f))) := by
  refine CR.plain (rs := [.tmp 5]) Tryz.func46 rfl rfl rfl rfl rfl rfl rfl ?_ h fr
  simp -implicitDefEqProofs only [wpC_seq, rowsA, if_true, if_false, opnd, ofVal, ofVal1, layArgs, Nat.reduceAdd, reduceIte, Nat.reduceEqDiff, reduceCtorEq, rowsB, cellsG, Nat.reduceMul, Ob.len, Fld.len, ld33, ld41, ld25v s, goO_known (backs_c hv hs o f)]
end Go.Proofs.YtcbngkmmmfaaoaaGreatDoor
namespace Go.Proofs.YtcbngkmmmfaaoaaGreatDoor
open Go.RowKit Go.Lib Go.Ac
set_option linter.unusedSimpArgs false
set_option maxRecDepth 100000
variable {mx : Int}
theorem i9 : (Tryz.prog.info? 9).map (fun i => (i.size, i.bytes, i.zero.map (·.cells.size))) = some (1, 16, some 1) := by kernel_rfl
theorem bd43_1 (fr : Nat) (a : List UInt8) : buildO Tryz.prog fr 43 1 [(0, .str a)] = some (.w (.ow fr 1 0 1) fr (.cells 9 1 false [.str a])) := by kernel_rfl
theorem ap43n (h : AH) (fr id m : Nat) (c : List PV) (fz : Bool) (hg : h.get id = some (.cells 9 1 fz c)) (hc : c.length = m) (h0 : 0 < m) (hm : m ≤ 1000000) : appO Tryz.prog h fr [.nls, .ow id m 0 m] [43, 43] = some (.w (.ow fr m 0 m) fr (.cells 9 1 false c)) := by
  cases hi : Tryz.prog.info? 9 with
  | none => have := i9; rw [hi] at this; simp at this
  | some i =>
    have e := i9
    rw [hi] at e
    simp only [Option.map_some, Option.some.injEq, Prod.mk.injEq] at e
    obtain ⟨e1, e2, e3⟩ := e
    obtain ⟨z, hz, hzs⟩ := Option.map_eq_some_iff.1 e3
    have hx : Ac.cellsOf h 1 (.ow id m 0 m) = some (c, m) := by
      simp only [Ac.cellsOf, hg]
      rw [if_pos ⟨hc, trivial, by omega⟩, List.drop_zero, List.take_of_length_le (by omega)]
    simp only [appO, u43, appendV, hi, hz, e1, hzs, e2, hx]
    rw [if_neg (by decide), if_neg (by omega), if_pos ⟨by omega, by omega⟩, Nat.mul_one]
theorem ap43 (h : AH) (fr id L m n : Nat) (c d : List PV) (fz : Bool) (hL : h.get L = some (.cells 9 1 false d)) (hd : d.length = m) (hg : h.get id = some (.cells 9 1 fz c)) (hc : c.length = n) (h0 : 0 < n) (hm : m + n ≤ 1000000) :
    appO Tryz.prog h fr [.ow L m 0 m, .ow id n 0 n] [43, 43] = some (.w (.ow L (m + n) 0 (m + n)) L (.cells 9 1 false (d ++ c))) := by
  cases hi : Tryz.prog.info? 9 with
  | none => have := i9; rw [hi] at this; simp at this
  | some i =>
    have e := i9
    rw [hi] at e
    simp only [Option.map_some, Option.some.injEq, Prod.mk.injEq] at e
    obtain ⟨e1, e2, e3⟩ := e
    obtain ⟨z, hz, hzs⟩ := Option.map_eq_some_iff.1 e3
    have hx : Ac.cellsOf h 1 (.ow id n 0 n) = some (c, n) := by
      simp only [Ac.cellsOf, hg]
      rw [if_pos ⟨hc, trivial, by omega⟩, List.drop_zero, List.take_of_length_le (by omega)]
    simp only [appO, u43, appendV, hi, hz, e1, hzs, e2, hx, hL, Nat.mul_one]
    rw [if_neg (by decide), if_neg (by omega), if_neg (by omega), if_pos ⟨trivial, trivial, trivial, trivial, trivial, by omega, by omega⟩]
theorem objsN_c (o : Ob) (h : AH) (fr : Nat) : CR Tryz.prog (globM mx) md (.fn 91) [.agg o.pv] h fr (.val (.str o.n)) := by
  refine CR.plain (rs := [.tmp 2]) Tryz.func91 rfl rfl rfl rfl rfl rfl rfl ?_ h fr
  simp -implicitDefEqProofs only [wpC_seq, rowsA, if_true, if_false, opnd, ofVal, ofVal1, layArgs, Nat.reduceAdd, reduceIte, Nat.reduceEqDiff, reduceCtorEq, rowsB, cellsG, Nat.reduceMul, Ob.pv, fda_ptr o41_0, loadO_one ag9 sz9]
def invobjs (l : List Ob) (k : Nat) (F : Fr) (h : AH) : Prop := ∃ i : Nat, i + k = l.length ∧ F.at 1 = .fn (.func 91) [] [] ∧ F.at 8 = rowV Ob.pv l ∧ F.at 9 = .int .i64 l.length ∧ F.at 10 = .int .i64 i ∧ ((i = 0 ∧ F.at 5 = .nls) ∨ ∃ L, 0 < i ∧ F.at 5 = .ow L i 0 i ∧ L < h.next ∧ h.get L = some (.cells 9 1 false ((l.take i).map fun o => .str o.n)))
theorem objss_c (l : List Ob) (h0 : 0 < l.length) (hl : l.length ≤ 100) (h : AH) (fr : Nat) : CR Tryz.prog (globM mx) md (.fn 90) [rowV Ob.pv l, .fn (.func 91) [] []] h fr (.new (.ow fr l.length 0 l.length) (.cells 9 1 false ((l.map (·.n)).map PV.str))) := by
  have key : CR Tryz.prog (globM mx) md (.fn 90) [rowV Ob.pv l, .fn (.func 91) [] []] h fr (.new (.ow fr (l.length * 1) 0 l.length) (.cells 9 1 false ((l.map (·.n)).map PV.str))) → CR Tryz.prog (globM mx) md (.fn 90) [rowV Ob.pv l, .fn (.func 91) [] []] h fr (.new (.ow fr l.length 0 l.length) (.cells 9 1 false ((l.map (·.n)).map PV.str))) := fun q => by rwa [Nat.mul_one] at q
  refine key (CR.own Tryz.func90 rfl rfl rfl rfl (ends_of (rs := [.tmp 4]) (Q := fun u h' => ∃ id, u = .ow id l.length 0 l.length ∧ h'.get id = some (.cells 9 1 false ((l.map (·.n)).map PV.str))) rfl rfl ?_ ?_) h fr)
  · rintro u h' ⟨id, rfl, hg⟩
    exact ⟨id, h', _, h', _, by rw [Nat.mul_one], hg, by rw [List.length_map, List.length_map, Nat.mul_one], frzL_clean _ _ (cleans_strs _), ⟨_, hg⟩, rfl⟩
  simp -implicitDefEqProofs only [wpC_seq, rowsA, if_true, if_false, opnd, ofVal, ofVal1, layArgs, Nat.reduceAdd, reduceIte, Nat.reduceEqDiff, reduceCtorEq, rowsB, cellsG, Nat.reduceMul, rowV, len_ro u22]
  refine wpC_loop (invobjs l) (k := l.length) ⟨0, by omega, ?_, ?_, ?_, ?_, .inl ⟨rfl, ?_⟩⟩ ?_
  · simp only [Fr.at_set, Nat.reduceEqDiff, reduceIte, reduceCtorEq]
  · simp only [Fr.at_set, Nat.reduceEqDiff, reduceIte, reduceCtorEq]; rfl
  · simp only [Fr.at_set, Nat.reduceEqDiff, reduceIte, reduceCtorEq]
  · simp only [Fr.at_set, Nat.reduceEqDiff, reduceIte, reduceCtorEq]; rfl
  · simp only [Fr.at_set, Nat.reduceEqDiff, reduceIte, reduceCtorEq]
  rintro k F h1 ⟨i, hi, f1, f8, f9, f10, hx⟩
  cases k with
  | zero =>
    have c1 : decide ((i : Int) < (l.length : Int)) = false := decide_eq_false (by omega)
    obtain ⟨L, q0, f5, q1, q2⟩ := hx.resolve_left (by omega)
    rw [List.take_of_length_le (by omega)] at q2
    simp -implicitDefEqProofs only [wpC_seq, rowsA, if_true, if_false, opnd, ofVal, ofVal1, layArgs, Nat.reduceAdd, reduceIte, Nat.reduceEqDiff, reduceCtorEq, rowsB, cellsG, Nat.reduceMul, f5, f9, f10, c1]
    refine ⟨L, by rw [show i = l.length by omega], ?_⟩
    rw [List.map_map]
    exact q2
  | succ k =>
    have c1 : decide ((i : Int) < (l.length : Int)) = true := decide_eq_true (by omega)
    obtain ⟨o, ho⟩ : ∃ o, l[i]? = some o := ⟨l[i], List.getElem?_eq_getElem (by omega)⟩
    obtain ⟨r, hr⟩ := flat_drop (f := Ob.pv) (z := 2) (fun _ => rfl) l i o ho
    have w := IntWalk.i64_in ((i : Int) + 1) (by omega)
    have hst : ∀ (id : Nat), stoG id 2 0 (.agg o.pv) 2 (some (.cells 41 0 false [.str [], .nls])) = some (.w .undef id (.cells 41 0 false o.pv)) := fun id => stoG_all id 2 0 41 (.agg o.pv) [.str [], .nls] rfl rfl rfl
    have htk : (l.take (i + 1)).map (fun o => PV.str o.n) = (l.take i).map (fun o => PV.str o.n) ++ [.str o.n] := by
      rw [List.take_add_one, ho, List.map_append]
      rfl
    have hn5 : ∀ a b : Nat, a < b → (h1.next + a = h1.next + b) = False := fun a b h => by simp only [eq_iff_iff, iff_false]; omega
    rcases hx with ⟨rfl, f5⟩ | ⟨L, q0, f5, q1, q2⟩
    · simp -implicitDefEqProofs only [wpC_seq, rowsA, if_true, if_false, opnd, ofVal, ofVal1, layArgs, Nat.reduceAdd, reduceIte, Nat.reduceEqDiff, reduceCtorEq, rowsB, cellsG, Nat.reduceMul, f1, f5, f8, f9, f10, c1, rowV, ida_roN (n := l.length) (i := ((0 : Nat) : Int)) u22 sz41 (by omega) (by omega), Int.toNat_natCast, hr, ld41r, al41q, sz41, hst, ld41, Ob.len, goO_known (objsN_c o), bd43_1]
      rw [ap43n (c := [.str o.n]) (fz := false)]
      rotate_left
      · simp only [AH.get_set, AH.get_up, if_true]
      · rfl
      · decide
      · decide
      simp -implicitDefEqProofs only [wpC_seq, rowsA, if_true, if_false, opnd, ofVal, ofVal1, layArgs, Nat.reduceAdd, reduceIte, Nat.reduceEqDiff, reduceCtorEq, rowsB, cellsG, Nat.reduceMul, f1, f8, f9, f10, w]
      refine ⟨k, by omega, 1, by omega, ?_, ?_, ?_, ?_, .inr ⟨h1.next + 1 + 4 + 5, by omega, ?_, ?_, ?_⟩⟩
      · simp only [Fr.at_set, Nat.reduceEqDiff, reduceIte, reduceCtorEq, f1]
      · simp only [Fr.at_set, Nat.reduceEqDiff, reduceIte, reduceCtorEq, f8]; try rfl
      · simp only [Fr.at_set, Nat.reduceEqDiff, reduceIte, reduceCtorEq, f9]
      · simp only [Fr.at_set, Nat.reduceEqDiff, reduceIte, reduceCtorEq]; try rfl
      · simp only [Fr.at_set, Nat.reduceEqDiff, reduceIte, reduceCtorEq]
      · simp only [AH.next_up, AH.next_set]; omega
      · simp only [AH.get_up, AH.get_set_same]; rw [htk]; rfl
    · have hLd : ((l.take i).map fun o => PV.str o.n).length = i := by rw [List.length_map, List.length_take]; omega
      simp -implicitDefEqProofs only [wpC_seq, rowsA, if_true, if_false, opnd, ofVal, ofVal1, layArgs, Nat.reduceAdd, reduceIte, Nat.reduceEqDiff, reduceCtorEq, rowsB, cellsG, Nat.reduceMul, f1, f5, f8, f9, f10, c1, rowV, ida_roN (n := l.length) (i := (i : Int)) u22 sz41 (by omega) (by omega), Int.toNat_natCast, hr, ld41r, al41q, sz41, hst, ld41, Ob.len, goO_known (objsN_c o), bd43_1]
      rw [ap43 (d := (l.take i).map fun o => .str o.n) (c := [.str o.n]) (fz := false)]
      rotate_left
      · repeat first | rw [AH.get_up] | rw [AH.get_set_ne _ _ _ _ (by omega)]
        exact q2
      · exact hLd
      · simp only [AH.get_set, AH.get_up, if_true]
      · rfl
      · decide
      · omega
      simp -implicitDefEqProofs only [wpC_seq, rowsA, if_true, if_false, opnd, ofVal, ofVal1, layArgs, Nat.reduceAdd, reduceIte, Nat.reduceEqDiff, reduceCtorEq, rowsB, cellsG, Nat.reduceMul, f1, f8, f9, f10, w]
      refine ⟨k, by omega, i + 1, by omega, ?_, ?_, ?_, ?_, .inr ⟨L, by omega, ?_, ?_, ?_⟩⟩
      · simp only [Fr.at_set, Nat.reduceEqDiff, reduceIte, reduceCtorEq, f1]
      · simp only [Fr.at_set, Nat.reduceEqDiff, reduceIte, reduceCtorEq, f8]; try rfl
      · simp only [Fr.at_set, Nat.reduceEqDiff, reduceIte, reduceCtorEq, f9]
      · simp only [Fr.at_set, Nat.reduceEqDiff, reduceIte, reduceCtorEq]; try rfl
      · simp only [Fr.at_set, Nat.reduceEqDiff, reduceIte, reduceCtorEq]
      · simp only [AH.next_up, AH.next_set]; omega
      · simp only [AH.get_up, AH.get_set_same]; rw [htk]
theorem enmsN_c (o : En) (h : AH) (fr : Nat) : CR Tryz.prog (globM mx) md (.fn 93) [.agg o.pv] h fr (.val (.str o.n)) := by
  refine CR.plain (rs := [.tmp 2]) Tryz.func93 rfl rfl rfl rfl rfl rfl rfl ?_ h fr
  simp -implicitDefEqProofs only [wpC_seq, rowsA, if_true, if_false, opnd, ofVal, ofVal1, layArgs, Nat.reduceAdd, reduceIte, Nat.reduceEqDiff, reduceCtorEq, rowsB, cellsG, Nat.reduceMul, En.pv, fda_ptr o45_0, loadO_one ag9 sz9]
def invenms (l : List En) (k : Nat) (F : Fr) (h : AH) : Prop := ∃ i : Nat, i + k = l.length ∧ F.at 1 = .fn (.func 93) [] [] ∧ F.at 8 = rowV En.pv l ∧ F.at 9 = .int .i64 l.length ∧ F.at 10 = .int .i64 i ∧ ((i = 0 ∧ F.at 5 = .nls) ∨ ∃ L, 0 < i ∧ F.at 5 = .ow L i 0 i ∧ L < h.next ∧ h.get L = some (.cells 9 1 false ((l.take i).map fun o => .str o.n)))
theorem enmss_c (l : List En) (h0 : 0 < l.length) (hl : l.length ≤ 100) (h : AH) (fr : Nat) : CR Tryz.prog (globM mx) md (.fn 92) [rowV En.pv l, .fn (.func 93) [] []] h fr (.new (.ow fr l.length 0 l.length) (.cells 9 1 false ((l.map (·.n)).map PV.str))) := by
  have key : CR Tryz.prog (globM mx) md (.fn 92) [rowV En.pv l, .fn (.func 93) [] []] h fr (.new (.ow fr (l.length * 1) 0 l.length) (.cells 9 1 false ((l.map (·.n)).map PV.str))) → CR Tryz.prog (globM mx) md (.fn 92) [rowV En.pv l, .fn (.func 93) [] []] h fr (.new (.ow fr l.length 0 l.length) (.cells 9 1 false ((l.map (·.n)).map PV.str))) := fun q => by rwa [Nat.mul_one] at q
  refine key (CR.own Tryz.func92 rfl rfl rfl rfl (ends_of (rs := [.tmp 4]) (Q := fun u h' => ∃ id, u = .ow id l.length 0 l.length ∧ h'.get id = some (.cells 9 1 false ((l.map (·.n)).map PV.str))) rfl rfl ?_ ?_) h fr)
  · rintro u h' ⟨id, rfl, hg⟩
    exact ⟨id, h', _, h', _, by rw [Nat.mul_one], hg, by rw [List.length_map, List.length_map, Nat.mul_one], frzL_clean _ _ (cleans_strs _), ⟨_, hg⟩, rfl⟩
  simp -implicitDefEqProofs only [wpC_seq, rowsA, if_true, if_false, opnd, ofVal, ofVal1, layArgs, Nat.reduceAdd, reduceIte, Nat.reduceEqDiff, reduceCtorEq, rowsB, cellsG, Nat.reduceMul, rowV, len_ro u23]
  refine wpC_loop (invenms l) (k := l.length) ⟨0, by omega, ?_, ?_, ?_, ?_, .inl ⟨rfl, ?_⟩⟩ ?_
  · simp only [Fr.at_set, Nat.reduceEqDiff, reduceIte, reduceCtorEq]
  · simp only [Fr.at_set, Nat.reduceEqDiff, reduceIte, reduceCtorEq]; rfl
  · simp only [Fr.at_set, Nat.reduceEqDiff, reduceIte, reduceCtorEq]
  · simp only [Fr.at_set, Nat.reduceEqDiff, reduceIte, reduceCtorEq]; rfl
  · simp only [Fr.at_set, Nat.reduceEqDiff, reduceIte, reduceCtorEq]
  rintro k F h1 ⟨i, hi, f1, f8, f9, f10, hx⟩
  cases k with
  | zero =>
    have c1 : decide ((i : Int) < (l.length : Int)) = false := decide_eq_false (by omega)
    obtain ⟨L, q0, f5, q1, q2⟩ := hx.resolve_left (by omega)
    rw [List.take_of_length_le (by omega)] at q2
    simp -implicitDefEqProofs only [wpC_seq, rowsA, if_true, if_false, opnd, ofVal, ofVal1, layArgs, Nat.reduceAdd, reduceIte, Nat.reduceEqDiff, reduceCtorEq, rowsB, cellsG, Nat.reduceMul, f5, f9, f10, c1]
    refine ⟨L, by rw [show i = l.length by omega], ?_⟩
    rw [List.map_map]
    exact q2
  | succ k =>
    have c1 : decide ((i : Int) < (l.length : Int)) = true := decide_eq_true (by omega)
    obtain ⟨o, ho⟩ : ∃ o, l[i]? = some o := ⟨l[i], List.getElem?_eq_getElem (by omega)⟩
    obtain ⟨r, hr⟩ := flat_drop (f := En.pv) (z := 2) (fun _ => rfl) l i o ho
    have w := IntWalk.i64_in ((i : Int) + 1) (by omega)
    have hst : ∀ (id : Nat), stoG id 2 0 (.agg o.pv) 2 (some (.cells 45 0 false [.str [], .nls])) = some (.w .undef id (.cells 45 0 false o.pv)) := fun id => stoG_all id 2 0 45 (.agg o.pv) [.str [], .nls] rfl rfl rfl
    have htk : (l.take (i + 1)).map (fun o => PV.str o.n) = (l.take i).map (fun o => PV.str o.n) ++ [.str o.n] := by
      rw [List.take_add_one, ho, List.map_append]
      rfl
    have hn5 : ∀ a b : Nat, a < b → (h1.next + a = h1.next + b) = False := fun a b h => by simp only [eq_iff_iff, iff_false]; omega
    rcases hx with ⟨rfl, f5⟩ | ⟨L, q0, f5, q1, q2⟩
    · simp -implicitDefEqProofs only [wpC_seq, rowsA, if_true, if_false, opnd, ofVal, ofVal1, layArgs, Nat.reduceAdd, reduceIte, Nat.reduceEqDiff, reduceCtorEq, rowsB, cellsG, Nat.reduceMul, f1, f5, f8, f9, f10, c1, rowV, ida_roN (n := l.length) (i := ((0 : Nat) : Int)) u23 sz45 (by omega) (by omega), Int.toNat_natCast, hr, ld45r, al45q, sz45, hst, ld45, En.len, goO_known (enmsN_c o), bd43_1]
      rw [ap43n (c := [.str o.n]) (fz := false)]
      rotate_left
      · simp only [AH.get_set, AH.get_up, if_true]
      · rfl
      · decide
      · decide
      simp -implicitDefEqProofs only [wpC_seq, rowsA, if_true, if_false, opnd, ofVal, ofVal1, layArgs, Nat.reduceAdd, reduceIte, Nat.reduceEqDiff, reduceCtorEq, rowsB, cellsG, Nat.reduceMul, f1, f8, f9, f10, w]
      refine ⟨k, by omega, 1, by omega, ?_, ?_, ?_, ?_, .inr ⟨h1.next + 1 + 4 + 5, by omega, ?_, ?_, ?_⟩⟩
      · simp only [Fr.at_set, Nat.reduceEqDiff, reduceIte, reduceCtorEq, f1]
      · simp only [Fr.at_set, Nat.reduceEqDiff, reduceIte, reduceCtorEq, f8]; try rfl
      · simp only [Fr.at_set, Nat.reduceEqDiff, reduceIte, reduceCtorEq, f9]
      · simp only [Fr.at_set, Nat.reduceEqDiff, reduceIte, reduceCtorEq]; try rfl
      · simp only [Fr.at_set, Nat.reduceEqDiff, reduceIte, reduceCtorEq]
      · simp only [AH.next_up, AH.next_set]; omega
      · simp only [AH.get_up, AH.get_set_same]; rw [htk]; rfl
    · have hLd : ((l.take i).map fun o => PV.str o.n).length = i := by rw [List.length_map, List.length_take]; omega
      simp -implicitDefEqProofs only [wpC_seq, rowsA, if_true, if_false, opnd, ofVal, ofVal1, layArgs, Nat.reduceAdd, reduceIte, Nat.reduceEqDiff, reduceCtorEq, rowsB, cellsG, Nat.reduceMul, f1, f5, f8, f9, f10, c1, rowV, ida_roN (n := l.length) (i := (i : Int)) u23 sz45 (by omega) (by omega), Int.toNat_natCast, hr, ld45r, al45q, sz45, hst, ld45, En.len, goO_known (enmsN_c o), bd43_1]
      rw [ap43 (d := (l.take i).map fun o => .str o.n) (c := [.str o.n]) (fz := false)]
      rotate_left
      · repeat first | rw [AH.get_up] | rw [AH.get_set_ne _ _ _ _ (by omega)]
        exact q2
      · exact hLd
      · simp only [AH.get_set, AH.get_up, if_true]
      · rfl
      · decide
      · omega
      simp -implicitDefEqProofs only [wpC_seq, rowsA, if_true, if_false, opnd, ofVal, ofVal1, layArgs, Nat.reduceAdd, reduceIte, Nat.reduceEqDiff, reduceCtorEq, rowsB, cellsG, Nat.reduceMul, f1, f8, f9, f10, w]
      refine ⟨k, by omega, i + 1, by omega, ?_, ?_, ?_, ?_, .inr ⟨L, by omega, ?_, ?_, ?_⟩⟩
      · simp only [Fr.at_set, Nat.reduceEqDiff, reduceIte, reduceCtorEq, f1]
      · simp only [Fr.at_set, Nat.reduceEqDiff, reduceIte, reduceCtorEq, f8]; try rfl
      · simp only [Fr.at_set, Nat.reduceEqDiff, reduceIte, reduceCtorEq, f9]
      · simp only [Fr.at_set, Nat.reduceEqDiff, reduceIte, reduceCtorEq]; try rfl
      · simp only [Fr.at_set, Nat.reduceEqDiff, reduceIte, reduceCtorEq]
      · simp only [AH.next_up, AH.next_set]; omega
      · simp only [AH.get_up, AH.get_set_same]; rw [htk]
theorem fldsN_c (o : Fld) (h : AH) (fr : Nat) : CR Tryz.prog (globM mx) md (.fn 96) [.agg o.pv] h fr (.val (.str o.n)) := by
  refine CR.plain (rs := [.tmp 2]) Tryz.func96 rfl rfl rfl rfl rfl rfl rfl ?_ h fr
  simp -implicitDefEqProofs only [wpC_seq, rowsA, if_true, if_false, opnd, ofVal, ofVal1, layArgs, Nat.reduceAdd, reduceIte, Nat.reduceEqDiff, reduceCtorEq, rowsB, cellsG, Nat.reduceMul, Fld.pv, fda_ptr o33_0, loadO_one ag9 sz9]
def invflds (l : List Fld) (k : Nat) (F : Fr) (h : AH) : Prop := ∃ i : Nat, i + k = l.length ∧ F.at 1 = .fn (.func 96) [] [] ∧ F.at 8 = rowV Fld.pv l ∧ F.at 9 = .int .i64 l.length ∧ F.at 10 = .int .i64 i ∧ ((i = 0 ∧ F.at 5 = .nls) ∨ ∃ L, 0 < i ∧ F.at 5 = .ow L i 0 i ∧ L < h.next ∧ h.get L = some (.cells 9 1 false ((l.take i).map fun o => .str o.n)))
theorem fldss_c (l : List Fld) (h0 : 0 < l.length) (hl : l.length ≤ 100) (h : AH) (fr : Nat) : CR Tryz.prog (globM mx) md (.fn 95) [rowV Fld.pv l, .fn (.func 96) [] []] h fr (.new (.ow fr l.length 0 l.length) (.cells 9 1 false ((l.map (·.n)).map PV.str))) := by
  have key : CR Tryz.prog (globM mx) md (.fn 95) [rowV Fld.pv l, .fn (.func 96) [] []] h fr (.new (.ow fr (l.length * 1) 0 l.length) (.cells 9 1 false ((l.map (·.n)).map PV.str))) → CR Tryz.prog (globM mx) md (.fn 95) [rowV Fld.pv l, .fn (.func 96) [] []] h fr (.new (.ow fr l.length 0 l.length) (.cells 9 1 false ((l.map (·.n)).map PV.str))) := fun q => by rwa [Nat.mul_one] at q
  refine key (CR.own Tryz.func95 rfl rfl rfl rfl (ends_of (rs := [.tmp 4]) (Q := fun u h' => ∃ id, u = .ow id l.length 0 l.length ∧ h'.get id = some (.cells 9 1 false ((l.map (·.n)).map PV.str))) rfl rfl ?_ ?_) h fr)
  · rintro u h' ⟨id, rfl, hg⟩
    exact ⟨id, h', _, h', _, by rw [Nat.mul_one], hg, by rw [List.length_map, List.length_map, Nat.mul_one], frzL_clean _ _ (cleans_strs _), ⟨_, hg⟩, rfl⟩
  simp -implicitDefEqProofs only [wpC_seq, rowsA, if_true, if_false, opnd, ofVal, ofVal1, layArgs, Nat.reduceAdd, reduceIte, Nat.reduceEqDiff, reduceCtorEq, rowsB, cellsG, Nat.reduceMul, rowV, len_ro u39]
  refine wpC_loop (invflds l) (k := l.length) ⟨0, by omega, ?_, ?_, ?_, ?_, .inl ⟨rfl, ?_⟩⟩ ?_
  · simp only [Fr.at_set, Nat.reduceEqDiff, reduceIte, reduceCtorEq]
  · simp only [Fr.at_set, Nat.reduceEqDiff, reduceIte, reduceCtorEq]; rfl
  · simp only [Fr.at_set, Nat.reduceEqDiff, reduceIte, reduceCtorEq]
  · simp only [Fr.at_set, Nat.reduceEqDiff, reduceIte, reduceCtorEq]; rfl
  · simp only [Fr.at_set, Nat.reduceEqDiff, reduceIte, reduceCtorEq]
  rintro k F h1 ⟨i, hi, f1, f8, f9, f10, hx⟩
  cases k with
  | zero =>
    have c1 : decide ((i : Int) < (l.length : Int)) = false := decide_eq_false (by omega)
    obtain ⟨L, q0, f5, q1, q2⟩ := hx.resolve_left (by omega)
    rw [List.take_of_length_le (by omega)] at q2
    simp -implicitDefEqProofs only [wpC_seq, rowsA, if_true, if_false, opnd, ofVal, ofVal1, layArgs, Nat.reduceAdd, reduceIte, Nat.reduceEqDiff, reduceCtorEq, rowsB, cellsG, Nat.reduceMul, f5, f9, f10, c1]
    refine ⟨L, by rw [show i = l.length by omega], ?_⟩
    rw [List.map_map]
    exact q2
  | succ k =>
    have c1 : decide ((i : Int) < (l.length : Int)) = true := decide_eq_true (by omega)
    obtain ⟨o, ho⟩ : ∃ o, l[i]? = some o := ⟨l[i], List.getElem?_eq_getElem (by omega)⟩
    obtain ⟨r, hr⟩ := flat_drop (f := Fld.pv) (z := 5) (fun _ => rfl) l i o ho
    have w := IntWalk.i64_in ((i : Int) + 1) (by omega)
    have hst : ∀ (id : Nat), stoG id 5 0 (.agg o.pv) 5 (some (.cells 33 0 false [.str [], .str [], .str [], .bool false, .str []])) = some (.w .undef id (.cells 33 0 false o.pv)) := fun id => stoG_all id 5 0 33 (.agg o.pv) [.str [], .str [], .str [], .bool false, .str []] rfl rfl rfl
    have htk : (l.take (i + 1)).map (fun o => PV.str o.n) = (l.take i).map (fun o => PV.str o.n) ++ [.str o.n] := by
      rw [List.take_add_one, ho, List.map_append]
      rfl
    have hn5 : ∀ a b : Nat, a < b → (h1.next + a = h1.next + b) = False := fun a b h => by simp only [eq_iff_iff, iff_false]; omega
    rcases hx with ⟨rfl, f5⟩ | ⟨L, q0, f5, q1, q2⟩
    · simp -implicitDefEqProofs only [wpC_seq, rowsA, if_true, if_false, opnd, ofVal, ofVal1, layArgs, Nat.reduceAdd, reduceIte, Nat.reduceEqDiff, reduceCtorEq, rowsB, cellsG, Nat.reduceMul, f1, f5, f8, f9, f10, c1, rowV, ida_roN (n := l.length) (i := ((0 : Nat) : Int)) u39 sz33 (by omega) (by omega), Int.toNat_natCast, hr, ld33r, al33q, sz33, hst, ld33, Fld.len, goO_known (fldsN_c o), bd43_1]
      rw [ap43n (c := [.str o.n]) (fz := false)]
      rotate_left
      · simp only [AH.get_set, AH.get_up, if_true]
      · rfl
      · decide
      · decide
      simp -implicitDefEqProofs only [wpC_seq, rowsA, if_true, if_false, opnd, ofVal, ofVal1, layArgs, Nat.reduceAdd, reduceIte, Nat.reduceEqDiff, reduceCtorEq, rowsB, cellsG, Nat.reduceMul, f1, f8, f9, f10, w]
      refine ⟨k, by omega, 1, by omega, ?_, ?_, ?_, ?_, .inr ⟨h1.next + 1 + 4 + 5, by omega, ?_, ?_, ?_⟩⟩
      · simp only [Fr.at_set, Nat.reduceEqDiff, reduceIte, reduceCtorEq, f1]
      · simp only [Fr.at_set, Nat.reduceEqDiff, reduceIte, reduceCtorEq, f8]; try rfl
      · simp only [Fr.at_set, Nat.reduceEqDiff, reduceIte, reduceCtorEq, f9]
      · simp only [Fr.at_set, Nat.reduceEqDiff, reduceIte, reduceCtorEq]; try rfl
      · simp only [Fr.at_set, Nat.reduceEqDiff, reduceIte, reduceCtorEq]
      · simp only [AH.next_up, AH.next_set]; omega
      · simp only [AH.get_up, AH.get_set_same]; rw [htk]; rfl
    · have hLd : ((l.take i).map fun o => PV.str o.n).length = i := by rw [List.length_map, List.length_take]; omega
      simp -implicitDefEqProofs only [wpC_seq, rowsA, if_true, if_false, opnd, ofVal, ofVal1, layArgs, Nat.reduceAdd, reduceIte, Nat.reduceEqDiff, reduceCtorEq, rowsB, cellsG, Nat.reduceMul, f1, f5, f8, f9, f10, c1, rowV, ida_roN (n := l.length) (i := (i : Int)) u39 sz33 (by omega) (by omega), Int.toNat_natCast, hr, ld33r, al33q, sz33, hst, ld33, Fld.len, goO_known (fldsN_c o), bd43_1]
      rw [ap43 (d := (l.take i).map fun o => .str o.n) (c := [.str o.n]) (fz := false)]
      rotate_left
      · repeat first | rw [AH.get_up] | rw [AH.get_set_ne _ _ _ _ (by omega)]
        exact q2
      · exact hLd
      · simp only [AH.get_set, AH.get_up, if_true]
      · rfl
      · decide
      · omega
      simp -implicitDefEqProofs only [wpC_seq, rowsA, if_true, if_false, opnd, ofVal, ofVal1, layArgs, Nat.reduceAdd, reduceIte, Nat.reduceEqDiff, reduceCtorEq, rowsB, cellsG, Nat.reduceMul, f1, f8, f9, f10, w]
      refine ⟨k, by omega, i + 1, by omega, ?_, ?_, ?_, ?_, .inr ⟨L, by omega, ?_, ?_, ?_⟩⟩
      · simp only [Fr.at_set, Nat.reduceEqDiff, reduceIte, reduceCtorEq, f1]
      · simp only [Fr.at_set, Nat.reduceEqDiff, reduceIte, reduceCtorEq, f8]; try rfl
      · simp only [Fr.at_set, Nat.reduceEqDiff, reduceIte, reduceCtorEq, f9]
      · simp only [Fr.at_set, Nat.reduceEqDiff, reduceIte, reduceCtorEq]; try rfl
      · simp only [Fr.at_set, Nat.reduceEqDiff, reduceIte, reduceCtorEq]
      · simp only [AH.next_up, AH.next_set]; omega
      · simp only [AH.get_up, AH.get_set_same]; rw [htk]
end Go.Proofs.YtcbngkmmmfaaoaaGreatDoor
namespace Go.Proofs.YtcbngkmmmfaaoaaGreatDoor
open Go.RowKit Go.Lib Go.Ac
set_option linter.unusedSimpArgs false
set_option maxRecDepth 100000
variable {mx : Int}
theorem own_frz {P : Program} {G : Glob} {md : FuncId → Md} {k : FuncId} {fn : Func} {c : Code} {args args' : List PV} {h h1 : AH} {E sz len : Nat} {c' : List PV} (hf : P.funcs[k]? = some fn) (hb : fn.body = some c) (hn : (fn.name == "runtime.NumGoroutine") = false) (hm : md k = .own) (hcl : PV.cleans args = false) (hz : frzL (frz 100) args h = some (args', h1)) (hcl' : PV.cleans args' = true)
    (hk : ∀ h fr, CR P G md (.fn k) args' h fr (.new (.ow fr (len * sz) 0 len) (.cells E sz false c'))) (fr : Nat) : CR P G md (.fn k) args h fr (.sh (.ow fr (len * sz) 0 len) (h1.set fr (.cells E sz false c'))) := by
  obtain ⟨n, he⟩ := hk AH.empty 0
  refine ⟨n, ?_⟩
  cases n with
  | zero => simp [runF] at he
  | succ n =>
    simp only [runF, callB, hf, hb, hn, hm, hcl, hz, Bool.false_eq_true, if_false]
    simp only [runF, callB, hf, hb, hn, hm, hcl', Bool.false_eq_true, if_false, if_true] at he
    cases hr : runO P G (runF P G md n) n fn c args' with
    | none => rw [hr] at he; simp at he
    | some r =>
      rw [hr] at he
      cases r with
      | val u => simp at he
      | row E' sz' len' c'' =>
        simp only [Option.some.injEq, CRes.new.injEq, PV.ow.injEq, AO.cells.injEq, true_and] at he
        obtain ⟨⟨h1, h2⟩, h3, h4, h5⟩ := he
        subst h2 h3 h4 h5
        rfl
theorem nil43r (h : AH) (c : List PV) (n : Nat) (hn : 0 < n) : binO Tryz.prog h .eql 43 (.ro c n) .nls = some (.q (.bool false)) := by
  cases n with
  | zero => omega
  | succ n => simp [binO, liveB, binV, sameV, u43]
theorem bd43_0 (fr : Nat) : buildO Tryz.prog fr 43 0 [] = some (.w .els fr (.cells 9 1 false [])) := by kernel_rfl
theorem ap43r (h : AH) (fr : Nat) (c : List PV) (n : Nat) (hc : c.length = n) (h0 : 0 < n) (hb : n ≤ 1000000) : appO Tryz.prog h fr [.els, .ro c n] [43, 43] = some (.w (.ow fr n 0 n) fr (.cells 9 1 false c)) := by
  cases hi : Tryz.prog.info? 9 with
  | none => have := i9; rw [hi] at this; simp at this
  | some i =>
    have e := i9
    rw [hi] at e
    simp only [Option.map_some, Option.some.injEq, Prod.mk.injEq] at e
    obtain ⟨e1, e2, e3⟩ := e
    obtain ⟨z, hz, hzs⟩ := Option.map_eq_some_iff.1 e3
    simp only [appO, u43, appendV, hi, hz, e1, hzs, Ac.cellsOf, hc, e2, Nat.mul_one, if_true]
    rw [if_neg (by decide), if_neg (by omega), if_pos ⟨by omega, by omega⟩]
theorem clone_c (L : List (List UInt8)) (h0 : 0 < L.length) (hb : L.length ≤ 1000000) (h : AH) (fr : Nat) : CR Tryz.prog (globM mx) md (.fn 64) [rowV strV L] h fr (.new (.ow fr (L.length * 1) 0 L.length) (.cells 9 1 false (L.map PV.str))) := by
  refine CR.own Tryz.func64 rfl rfl rfl rfl (ends_of (rs := [.tmp 2]) (Q := fun u h' => ∃ id, u = .ow id L.length 0 L.length ∧ h'.get id = some (.cells 9 1 false (L.map PV.str))) rfl rfl ?_ ?_) h fr
  · rintro u h' ⟨id, rfl, hg⟩
    exact ⟨id, h', _, h', _, by rw [Nat.mul_one], hg, by rw [List.length_map, Nat.mul_one], frzL_clean _ _ (cleans_strs L), ⟨_, hg⟩, rfl⟩
  · simp -implicitDefEqProofs only [wpC_seq, rowsA, if_true, if_false, opnd, ofVal, ofVal1, layArgs, Nat.reduceAdd, reduceIte, Nat.reduceEqDiff, reduceCtorEq, rowsB, cellsG, Nat.reduceMul, rowV, strs_flat, nil43r _ _ _ h0, bd43_0, ap43r _ _ (L.map PV.str) _ (List.length_map _) h0 hb]
    exact ⟨_, rfl, by simp only [AH.get_set, if_true]⟩
theorem clone_sh (L : List (List UInt8)) (h0 : 0 < L.length) (hb : L.length ≤ 1000000) {id : Nat} {fz : Bool} {h : AH} (hg : h.get id = some (.cells 9 1 fz (L.map PV.str))) (fr : Nat) :
    CR Tryz.prog (globM mx) md (.fn 64) [.ow id L.length 0 L.length] h fr (.sh (.ow fr (L.length * 1) 0 L.length) ((h.set id (.cells 9 1 true (L.map PV.str))).set fr (.cells 9 1 false (L.map PV.str)))) := by
  refine own_frz (args' := [rowV strV L]) Tryz.func64 rfl rfl rfl rfl ?_ rfl (fun h fr => clone_c L h0 hb h fr) fr
  have e : frz 100 (.ow id L.length 0 L.length) h = some (.ro (L.map PV.str) L.length, h.set id (.cells 9 1 true (L.map PV.str))) := frz_ow (dd := 99) hg (by rw [List.length_map]) (cleans_strs L)
  simp only [frzL, e, rowV, strs_flat]
end Go.Proofs.YtcbngkmmmfaaoaaGreatDoor
namespace Go.Proofs.YtcbngkmmmfaaoaaGreatDoor
open Go.RowKit Go.Lib Go.Ac
set_option linter.unusedSimpArgs false
set_option maxRecDepth 100000
variable {mx : Int}
theorem slFk (id tot off n k : Nat) (hk : k < n) : (sliceV Tryz.prog 43 (.ow id tot off n) (some (.int .i64 (k : Int))) none none).map OR.q = some (.q (.ow id tot (off + k) (n - k))) := by
  simp only [sliceV, u43s, sz9, boundD, bound, Option.bind_some]
  rw [if_pos (by omega), Option.bind_some, Int.toNat_natCast, if_neg (by omega), Nat.mul_one]
  rfl
theorem slTk (id tot off n k : Nat) (hk : k ≤ n) (h0 : 0 < k) : (sliceV Tryz.prog 43 (.ow id tot off n) none (some (.int .i64 (k : Int))) none).map OR.q = some (.q (.ow id tot off k)) := by
  simp only [sliceV, u43s, sz9, boundD, bound, Option.bind_some]
  rw [if_pos (by omega), Option.bind_some, Int.toNat_natCast, if_neg (by omega)]
  simp
def clrO (P : Program) (h : AH) : List PV → List TypeId → Option OR
  | [x], [t] => clearV P h t x
  | _, _ => none
theorem aop_clr {ρ : Operand → PV} {h : AH} {fr : Nat} {d : Option Tmp} {ty : TypeId} {ps : String} {af : Array Edge} {gu : Option (Nat × Bool)} (args : Array Operand) (ts : Array TypeId) : aop Tryz.prog ρ h fr ⟨d, .call { callee := .builtin .clear, args := args, argTypes := ts }, ty, ps, af, gu⟩ = clrO Tryz.prog h (args.toList.map ρ) ts.toList := by
  simp only [aop, clrO]
  generalize args.toList.map ρ = l
  generalize ts.toList = m
  match l, m with
  | [], _ => rfl
  | [x], [] => rfl
  | [x], [_] => rfl
  | [x], _ :: _ :: _ => rfl
  | _ :: _ :: _, _ => rfl
theorem z9 : tyZero Tryz.prog 9 = some [.str []] := by kernel_rfl
theorem clr43 {h : AH} {id tot off n : Nat} {c : List PV} (hg : h.get id = some (.cells 9 1 false c)) (hc : c.length = tot) (hn : off + n ≤ tot) (h0 : 0 < n) : ∃ c', c'.length = tot ∧ clrO Tryz.prog h [.ow id tot off n] [43] = some (.w (.tup []) id (.cells 9 1 false c')) := by
  refine ⟨splice c off (List.replicate n [PV.str []]).flatten, ?_, ?_⟩
  · have : (List.replicate n [PV.str []]).flatten.length = n := by simp
    simp only [splice, List.length_append, List.length_take, List.length_drop, this]
    omega
  · simp only [clrO, clearV, u43s, hg, z9]
    rw [if_neg (by omega), if_pos ⟨trivial, rfl, hc, by omega, by omega⟩]
def Adj (L : List (List UInt8)) (k : Nat) : Prop := ∃ i, 0 < i ∧ i < k ∧ L.getD i [] = L.getD (i - 1) []
def Sameb (h h' : AH) (B : Nat) : Prop := h.next ≤ h'.next ∧ ∀ j, j ≠ B → h'.get j = h.get j
def invC1 (B : Nat) (L : List (List UInt8)) (h : AH) (k : Nat) (F : Fr) (h' : AH) : Prop := ∃ i : Nat, k + i = L.length ∧ 1 ≤ i ∧ F.at 0 = .ow B L.length 0 L.length ∧ F.at 3 = .int .i64 i ∧ h'.get B = some (.cells 9 1 false (L.map PV.str)) ∧ Sameb h h' B ∧ ¬ Adj L i
def invC2 (B n i0 : Nat) (h : AH) (k : Nat) (F : Fr) (h' : AH) : Prop := ∃ (i j : Nat) (L : List (List UInt8)), k + j = n - i0 ∧ 1 ≤ j ∧ 1 ≤ i ∧ i + 1 ≤ i0 + j ∧ L.length = n ∧ F.at 0 = .ow B n 0 n ∧ F.at 3 = .int .i64 i ∧ F.at 4 = .ow B n i0 (n - i0) ∧ F.at 5 = .int .i64 j ∧ h'.get B = some (.cells 9 1 false (L.map PV.str)) ∧ Sameb h h' B
def CompQ (B : Nat) (L : List (List UInt8)) (h : AH) (v : PV) (h' : AH) : Prop := Sameb h h' B ∧ ∃ m : Nat, lenO Tryz.prog [v] [43] = some (.q (.int .i64 m)) ∧ ((m = L.length ∧ ¬ Adj L L.length) ∨ (m < L.length ∧ Adj L L.length))
theorem compact_v (L : List (List UInt8)) (hb : L.length ≤ 1000000) {B : Nat} {h : AH} (hg : h.get B = some (.cells 9 1 false (L.map PV.str))) (hB : B < h.next) : ∃ v h', (∀ fr, CR Tryz.prog (globM mx) md (.fn 120) [.ow B L.length 0 L.length] h fr (.sh v h')) ∧ CompQ B L h v h' := by
  refine CR.sh (rs := [.tmp 2]) (Q := CompQ B L h) Tryz.func120 rfl rfl rfl rfl rfl ?_
  by_cases c1 : (L.length : Int) < 2
  · simp -implicitDefEqProofs only [wpC_seq, rowsA, if_true, if_false, opnd, ofVal, ofVal1, layArgs, Nat.reduceAdd, reduceIte, Nat.reduceEqDiff, reduceCtorEq, rowsB, cellsG, Nat.reduceMul, rowsR, len_ow u43, c1]
    exact ⟨⟨by rw [AH.next_up]; omega, fun j _ => AH.get_up _ _ _⟩, L.length, len_ow u43, .inl ⟨rfl, fun ⟨i, h1, h2, _⟩ => by omega⟩⟩
  · simp -implicitDefEqProofs only [wpC_seq, rowsA, if_true, if_false, opnd, ofVal, ofVal1, layArgs, Nat.reduceAdd, reduceIte, Nat.reduceEqDiff, reduceCtorEq, rowsB, cellsG, Nat.reduceMul, rowsR, len_ow u43, c1]
    refine wpC_loop (invC1 B L h) (k := L.length - 1) ⟨1, by omega, by omega, ?_, ?_, ?_, ⟨by simp only [AH.next_up]; omega, fun j _ => by simp only [AH.get_up]⟩, fun ⟨i, h1, h2, _⟩ => by omega⟩ ?_
    · simp only [Fr.at_set, layArgs, Nat.reduceEqDiff, reduceIte, reduceCtorEq]
    · simp only [Fr.at_set, Nat.reduceEqDiff, reduceIte, reduceCtorEq]; rfl
    · simp only [AH.get_up]; exact hg
    rintro k F h1 ⟨i, ik, i1, f0, f3, g, sm, hadj⟩
    have up1 : ∀ m, Sameb h (h1.up m) B := fun m => ⟨by rw [AH.next_up]; have := sm.1; omega, fun j hj => by rw [AH.get_up]; exact sm.2 j hj⟩
    cases k with
    | zero =>
      have d1 : ¬ ((i : Int) < (L.length : Int)) := by omega
      simp -implicitDefEqProofs only [wpC_seq, rowsA, if_true, if_false, opnd, ofVal, ofVal1, layArgs, Nat.reduceAdd, reduceIte, Nat.reduceEqDiff, reduceCtorEq, rowsB, cellsG, Nat.reduceMul, rowsR, f0, f3, len_ow u43, d1]
      exact ⟨up1 _, L.length, len_ow u43, .inl ⟨rfl, by rw [show L.length = i by omega]; exact hadj⟩⟩
    | succ k =>
      have d1 : (i : Int) < (L.length : Int) := by omega
      have d2 : i < L.length := by omega
      have d3 : i - 1 < L.length := by omega
      have w1 : IntKind.i64.wrap ((i : Int) - 1) = ((i - 1 : Nat) : Int) := by rw [IntWalk.i64_in ((i : Int) - 1) (by omega)]; omega
      have w2 := IntWalk.i64_in ((i : Int) + 1) (by omega)
      by_cases c2 : L.getD i [] = L.getD (i - 1) []
      · have hA : Adj L L.length := ⟨i, by omega, d2, c2⟩
        simp -implicitDefEqProofs only [wpC_seq, rowsA, if_true, if_false, opnd, ofVal, ofVal1, layArgs, Nat.reduceAdd, reduceIte, Nat.reduceEqDiff, reduceCtorEq, rowsB, cellsG, Nat.reduceMul, rowsR, f0, f3, len_ow u43, d1, w1, ida43 d2, ida43 d3, g, List.length_map, ld9L d2, ld9L d3, decide_eq_true c2, slG_eq, slG_cells, slFk _ _ _ _ _ d2]
        refine wpC_loop (invC2 B L.length i h) (k := L.length - i - 1) ⟨i, 1, L, by omega, by omega, i1, by omega, rfl, ?_, ?_, ?_, ?_, ?_, ?_⟩ ?_
        · simp only [Fr.at_set, Nat.reduceEqDiff, reduceIte, reduceCtorEq, f0]
        · simp only [Fr.at_set, Nat.reduceEqDiff, reduceIte, reduceCtorEq, f3]
        · simp only [Fr.at_set, Nat.reduceEqDiff, reduceIte, reduceCtorEq]; try rfl
        · simp only [Fr.at_set, Nat.reduceEqDiff, reduceIte, reduceCtorEq]; rfl
        · simp only [AH.get_up]; exact g
        · exact ⟨by simp only [AH.next_up]; have := sm.1; omega, fun j hj => by simp only [AH.get_up]; exact sm.2 j hj⟩
        clear f0 f3 g sm hadj up1 w1 w2
        rintro k F h2 ⟨i', j, L', jk, j1, i1', ij, hL', f0, f3, f4, f5, g, sm⟩
        have up2 : ∀ m, Sameb h (h2.up m) B := fun m => ⟨by rw [AH.next_up]; have := sm.1; omega, fun j hj => by rw [AH.get_up]; exact sm.2 j hj⟩
        have gl : (L'.map PV.str).length = L.length := by rw [List.length_map, hL']
        cases k with
        | zero =>
          have e1 : ¬ ((j : Int) < ((L.length - i : Nat) : Int)) := by omega
          have e2 : i' < L.length := by omega
          simp -implicitDefEqProofs only [wpC_seq, rowsA, if_true, if_false, opnd, ofVal, ofVal1, layArgs, Nat.reduceAdd, reduceIte, Nat.reduceEqDiff, reduceCtorEq, rowsB, cellsG, Nat.reduceMul, rowsR, f0, f3, f4, f5, len_ow u43, e1, slG_eq, slG_cells, g, gl, slFk _ _ _ _ _ e2, aop_clr]
          obtain ⟨c', hc', hcl⟩ := clr43 (h := h2.up 8) (off := i') (n := L.length - i') (tot := L.length) (id := B) (by rw [AH.get_up]; exact g) gl (by omega) (by omega)
          rw [hcl]
          simp -implicitDefEqProofs only [wpC_seq, rowsA, if_true, if_false, opnd, ofVal, ofVal1, layArgs, Nat.reduceAdd, reduceIte, Nat.reduceEqDiff, reduceCtorEq, rowsB, cellsG, Nat.reduceMul, rowsR, f0, f3, slG_eq, slG_cells, hc', slTk _ _ _ _ _ (show i' ≤ L.length by omega) i1']
          exact ⟨⟨by simp only [AH.next_up, AH.next_set]; have := sm.1; omega, fun j hj => by rw [AH.get_set_ne _ _ _ _ hj, AH.get_up]; exact sm.2 j hj⟩, i', len_ow u43, .inr ⟨e2, hA⟩⟩
        | succ k =>
          have e1 : (j : Int) < ((L.length - i : Nat) : Int) := by omega
          have e2 : j < L.length - i := by omega
          have e3 : j - 1 < L.length - i := by omega
          have e4 : i' < L.length := by omega
          have e5 : i + j < L'.length := by omega
          have e6 : i + (j - 1) < L'.length := by omega
          have w1 : IntKind.i64.wrap ((j : Int) - 1) = ((j - 1 : Nat) : Int) := by rw [IntWalk.i64_in ((j : Int) - 1) (by omega)]; omega
          have w2 := IntWalk.i64_in ((j : Int) + 1) (by omega)
          have w3 := IntWalk.i64_in ((i' : Int) + 1) (by omega)
          by_cases c3 : L'.getD (i + j) [] = L'.getD (i + (j - 1)) []
          · simp -implicitDefEqProofs only [wpC_seq, rowsA, if_true, if_false, opnd, ofVal, ofVal1, layArgs, Nat.reduceAdd, reduceIte, Nat.reduceEqDiff, reduceCtorEq, rowsB, cellsG, Nat.reduceMul, rowsR, f0, f3, f4, f5, len_ow u43, e1, w1, w2, ida43 e2, ida43 e3, g, gl, ld9L e5, ld9L e6, decide_eq_true c3]
            refine ⟨k, by omega, i', j + 1, L', by omega, by omega, i1', by omega, hL', ?_, ?_, ?_, ?_, ?_, up2 _⟩
            · simp only [Fr.at_set, Nat.reduceEqDiff, reduceIte, reduceCtorEq, f0]
            · simp only [Fr.at_set, Nat.reduceEqDiff, reduceIte, reduceCtorEq, f3]
            · simp only [Fr.at_set, Nat.reduceEqDiff, reduceIte, reduceCtorEq, f4]
            · simp only [Fr.at_set, Nat.reduceEqDiff, reduceIte, reduceCtorEq]; rfl
            · simp only [AH.get_up]; exact g
          · have hst := stoL (L := L') (i := i') (by omega) B (L'.getD (i + j) [])
            rw [hL'] at hst
            simp -implicitDefEqProofs only [wpC_seq, rowsA, if_true, if_false, opnd, ofVal, ofVal1, layArgs, Nat.reduceAdd, reduceIte, Nat.reduceEqDiff, reduceCtorEq, rowsB, cellsG, Nat.reduceMul, rowsR, f0, f3, f4, f5, len_ow u43, e1, w1, w2, w3, ida43 e2, ida43 e3, ida43 e4, g, gl, ld9L e5, ld9L e6, c3, sz9, hst]
            refine ⟨k, by omega, i' + 1, j + 1, L'.set i' (L'.getD (i + j) []), by omega, by omega, by omega, by omega, by rw [List.length_set]; exact hL', ?_, ?_, ?_, ?_, ?_, ?_⟩
            · simp only [Fr.at_set, Nat.reduceEqDiff, reduceIte, reduceCtorEq, f0]
            · simp only [Fr.at_set, Nat.reduceEqDiff, reduceIte, reduceCtorEq]; rfl
            · simp only [Fr.at_set, Nat.reduceEqDiff, reduceIte, reduceCtorEq, f4]
            · simp only [Fr.at_set, Nat.reduceEqDiff, reduceIte, reduceCtorEq]; rfl
            · simp only [AH.get_set, AH.get_up, if_true]
            · exact ⟨by simp only [AH.next_up, AH.next_set]; have := sm.1; omega, fun j hj => by rw [AH.get_set_ne _ _ _ _ hj, AH.get_up]; exact sm.2 j hj⟩
      · simp -implicitDefEqProofs only [wpC_seq, rowsA, if_true, if_false, opnd, ofVal, ofVal1, layArgs, Nat.reduceAdd, reduceIte, Nat.reduceEqDiff, reduceCtorEq, rowsB, cellsG, Nat.reduceMul, rowsR, f0, f3, len_ow u43, d1, w1, w2, ida43 d2, ida43 d3, g, List.length_map, ld9L d2, ld9L d3, c2]
        refine ⟨k, by omega, i + 1, by omega, by omega, ?_, ?_, ?_, up1 _, ?_⟩
        · simp only [Fr.at_set, Nat.reduceEqDiff, reduceIte, reduceCtorEq, f0]
        · simp only [Fr.at_set, Nat.reduceEqDiff, reduceIte, reduceCtorEq]; rfl
        · simp only [AH.get_up]; exact g
        · rintro ⟨x, x1, x2, x3⟩
          by_cases e : x = i
          · subst e; exact c2 x3
          · exact hadj ⟨x, x1, by omega, x3⟩
end Go.Proofs.YtcbngkmmmfaaoaaGreatDoor
namespace Go.Proofs.YtcbngkmmmfaaoaaGreatDoor
open Go.RowKit Go.Shelf Go.Lib Go.Ac
set_option linter.unusedSimpArgs false
set_option maxRecDepth 100000
def sren : Ren where
  f := fun | 125 => 129 | 128 => 141 | 129 => 142 | 190 => 119 | 258 => 128 | 302 => 132 | 303 => 133 | 304 => 134 | 305 => 135 | 306 => 136 | 307 => 137 | 308 => 138 | 309 => 139 | 310 => 140 | 329 => 146 | 330 => 147 | 333 => 145 | 334 => 148 | 335 => 149 | 336 => 150 | 344 => 155 | n => n
  t := fun | 31 => 43 | 46 => 120 | 51 => 135 | 53 => 137 | 131 => 132 | 182 => 127 | 183 => 128 | 218 => 138 | 222 => 142 | 228 => 156 | 229 => 157 | n => n
  g := fun  | n => n
theorem laysSort : Lays.n190 Tryz.prog sren := {
  mixed := by kernel_rfl
  f125 := Tryz.func129.trans (congrArg some (by kernel_rfl))
  f128 := Tryz.func141.trans (congrArg some (by kernel_rfl))
  f129 := Tryz.func142.trans (congrArg some (by kernel_rfl))
  f190 := Tryz.func119.trans (congrArg some (by kernel_rfl))
  f258 := Tryz.func128.trans (congrArg some (by kernel_rfl))
  f302 := Tryz.func132.trans (congrArg some (by kernel_rfl))
  f303 := Tryz.func133.trans (congrArg some (by kernel_rfl))
  f304 := Tryz.func134.trans (congrArg some (by kernel_rfl))
  f305 := Tryz.func135.trans (congrArg some (by kernel_rfl))
  f306 := Tryz.func136.trans (congrArg some (by kernel_rfl))
  f307 := Tryz.func137.trans (congrArg some (by kernel_rfl))
  f308 := Tryz.func138.trans (congrArg some (by kernel_rfl))
  f309 := Tryz.func139.trans (congrArg some (by kernel_rfl))
  f310 := Tryz.func140.trans (congrArg some (by kernel_rfl))
  f329 := Tryz.func146.trans (congrArg some (by kernel_rfl))
  f330 := Tryz.func147.trans (congrArg some (by kernel_rfl))
  f333 := Tryz.func145.trans (congrArg some (by kernel_rfl))
  f334 := Tryz.func148.trans (congrArg some (by kernel_rfl))
  f335 := Tryz.func149.trans (congrArg some (by kernel_rfl))
  f336 := Tryz.func150.trans (congrArg some (by kernel_rfl))
  f344 := Tryz.func155.trans (congrArg some (by kernel_rfl))
  t0 := Tryz.underlying0
  a0 := Tryz.isAgg0
  z0 := Tryz.sizeOf0
  v0 := Tryz.zeroValue0
  t3 := Tryz.underlying3
  a3 := Tryz.isAgg3
  z3 := Tryz.sizeOf3
  v3 := Tryz.zeroValue3
  t4 := Tryz.underlying4
  a4 := Tryz.isAgg4
  z4 := Tryz.sizeOf4
  v4 := Tryz.zeroValue4
  t5 := Tryz.underlying5
  a5 := Tryz.isAgg5
  z5 := Tryz.sizeOf5
  v5 := Tryz.zeroValue5
  t9 := Tryz.underlying9
  a9 := Tryz.isAgg9
  z9 := Tryz.sizeOf9
  v9 := Tryz.zeroValue9
  t31 := Tryz.underlying43
  a31 := Tryz.isAgg43
  z31 := Tryz.sizeOf43
  v31 := Tryz.zeroValue43
  t46 := Tryz.underlying120
  a46 := Tryz.isAgg120
  z46 := Tryz.sizeOf120
  v46 := Tryz.zeroValue120
  t51 := Tryz.underlying135
  a51 := Tryz.isAgg135
  z51 := Tryz.sizeOf135
  v51 := Tryz.zeroValue135
  t53 := Tryz.underlying137
  a53 := Tryz.isAgg137
  z53 := Tryz.sizeOf137
  v53 := Tryz.zeroValue137
  t131 := Tryz.underlying132
  a131 := Tryz.isAgg132
  z131 := Tryz.sizeOf132
  v131 := Tryz.zeroValue132
  t182 := Tryz.underlying127
  a182 := Tryz.isAgg127
  z182 := Tryz.sizeOf127
  v182 := Tryz.zeroValue127
  t183 := Tryz.underlying128
  a183 := Tryz.isAgg128
  z183 := Tryz.sizeOf128
  v183 := Tryz.zeroValue128
  t218 := Tryz.underlying138
  a218 := Tryz.isAgg138
  z218 := Tryz.sizeOf138
  v218 := Tryz.zeroValue138
  t222 := Tryz.underlying142
  a222 := Tryz.isAgg142
  z222 := Tryz.sizeOf142
  v222 := Tryz.zeroValue142
  t228 := Tryz.underlying156
  a228 := Tryz.isAgg156
  z228 := Tryz.sizeOf156
  v228 := Tryz.zeroValue156
  t229 := Tryz.underlying157
  a229 := Tryz.isAgg157
  z229 := Tryz.sizeOf157
  v229 := Tryz.zeroValue157 }
variable {mx : Int}
theorem leL_trans (a b c : List UInt8) (h : leL a b = true) (k : leL b c = true) : leL a c = true := by
  unfold leL at *
  simp only [decide_eq_true_eq] at *
  exact List.le_trans h k
theorem leL_total (a b : List UInt8) : (leL a b || leL b a) = true := by
  unfold leL
  simp only [Bool.or_eq_true, decide_eq_true_eq]
  exact List.le_total a b
theorem leL_antisymm (a b : List UInt8) (h : leL a b = true) (k : leL b a = true) : a = b := by
  unfold leL at *
  simp only [decide_eq_true_eq] at *
  exact List.le_antisymm h k
theorem insL_perm (x : List UInt8) : ∀ l, (insL x l).Perm (x :: l)
  | [] => .refl _
  | y :: l => by
    unfold insL
    split
    · exact .refl _
    · exact ((insL_perm x l).cons y).trans (.swap x y l)
theorem sortL_perm : ∀ l, (sortL l).Perm l
  | [] => .refl _
  | x :: l => (insL_perm x _).trans ((sortL_perm l).cons x)
theorem insL_pw (x : List UInt8) : ∀ l, l.Pairwise (fun a b => leL a b = true) → (insL x l).Pairwise fun a b => leL a b = true
  | [], _ => by simp [insL]
  | y :: l, h => by
    have h1 := List.pairwise_cons.1 h
    unfold insL
    split
    · rename_i c
      refine List.pairwise_cons.2 ⟨fun z hz => ?_, h⟩
      rcases List.mem_cons.1 hz with rfl | hz
      · exact c
      · exact leL_trans _ _ _ c (h1.1 z hz)
    · rename_i c
      refine List.pairwise_cons.2 ⟨fun z hz => ?_, insL_pw x l h1.2⟩
      rcases List.mem_cons.1 ((insL_perm x l).mem_iff.1 hz) with rfl | hz
      · have := leL_total z y
        simp only [Bool.or_eq_true] at this
        exact this.resolve_left c
      · exact h1.1 z hz
theorem sortL_pw : ∀ l, (sortL l).Pairwise fun a b => leL a b = true
  | [] => .nil
  | x :: l => insL_pw x _ (sortL_pw l)
theorem sortL_eq (l : List (List UInt8)) : (l.mergeSort fun x y => decide (x ≤ y)) = sortL l := by
  refine List.Perm.eq_of_pairwise (le := fun a b => leL a b = true) (fun a b _ _ h k => leL_antisymm a b h k) ?_ (sortL_pw l) ((List.mergeSort_perm l _).trans (sortL_perm l).symm)
  exact List.pairwise_mergeSort (le := leL) leL_trans leL_total l
theorem sortL_length (l : List (List UInt8)) : (sortL l).length = l.length := (sortL_perm l).length_eq
theorem holds_of {w : World} {b : Nat} {E : TypeId} {cc : Array Value} {lo hi : Nat} (p1 : w.heap[b]? = some (.cells cc E (lo, hi))) {xs : List ByteArray} (hx : ∀ (j : Nat) x, xs[j]? = some x → cc[j]? = some (.string x)) (p3 : ∀ i, i < cc.size → ¬ (lo ≤ i ∧ i < hi)) :
    Go.Sort.Holds encStr w b 0 (xs.map fun x => x.data.toList).toArray := by
  intro j hj
  have hj' : j < xs.length := by simpa using hj
  have h1 := hx j xs[j] (List.getElem?_eq_getElem hj')
  have h2 : (xs.map fun x => x.data.toList).toArray[j]! = xs[j].data.toList := by
    rw [getElem!_pos _ j hj]
    simp
  refine ⟨?_, ?_⟩
  · unfold World.cell?
    rw [p1]
    simp only [Nat.zero_add, Option.isSome_none, Bool.false_eq_true, if_false, h1, h2, encStr, str_eq]
  · unfold World.frozen?
    rw [p1]
    have := p3 j (Array.getElem?_eq_some_iff.1 h1).1
    simp only [Nat.zero_add, Bool.and_eq_false_iff, decide_eq_false_iff_not]
    omega
theorem strs_in (g : Gh) : ∀ (L : List (List UInt8)), Reps g (L.map PV.str) (L.map encStr)
  | [] => .nil
  | x :: L => .cons _ _ _ _ (.str _ ⟨x.toArray⟩ (by simp)) (strs_in g L)
theorem strs_ones (L : List (List UInt8)) : PV.ones (L.map PV.str) = true := by
  simp only [PV.ones, List.all_eq_true]
  intro x hx
  obtain ⟨b, _, rfl⟩ := List.mem_map.1 hx
  rfl
theorem putCells_list (d : List (List UInt8)) (cc : Array Value) (hd : d.length ≤ cc.size) : (Go.Sort.putCells encStr 0 d.toArray cc).toList = d.map encStr ++ cc.toList.drop d.length := by
  apply List.ext_getElem?
  intro k
  unfold Go.Sort.putCells
  simp only [Array.toList_mapIdx, List.getElem?_mapIdx, Nat.zero_add, Nat.sub_zero, Nat.zero_le, true_and, List.size_toArray, Array.getElem?_toList]
  by_cases hk : k < d.length
  · rw [List.getElem?_append_left (by rw [List.length_map]; exact hk), List.getElem?_map, List.getElem?_eq_getElem hk, Array.getElem?_eq_getElem (by omega)]
    simp [hk]
  · rw [List.getElem?_append_right (by rw [List.length_map]; omega), List.getElem?_drop, List.length_map, Array.getElem?_toList, show d.length + (k - d.length) = k by omega]
    cases cc[k]? with
    | none => rfl
    | some y => simp [hk]
theorem sort_ok : LibOk Tryz.prog (globM mx) 119 sortF := by
  refine ⟨fun args h fr r he g N w0 w vs hG hw hal hn hr => ?_, fun args h fr => ⟨fun v he h' fr' => ?_, fun v o he h' => ?_⟩⟩
  · unfold sortF at he
    split at he
    · rename_i x
      split at he
      · rename_i id tot off n
        split at he
        · rename_i E sz fz c hg
          split at he
          · rename_i L hL
            split at he
            · rename_i hc
              obtain ⟨c1, rfl, rfl, rfl, rfl, c6⟩ := hc
              obtain rfl := Option.some.inj he
              have hL' := strsOf_some hL
              cases vs with | mk vs =>
              cases hr with
              | cons _ _ u us r1 r2 =>
              cases r2
              obtain ⟨k1, k2, k3, o1, o2, C, ⟨cc, lo, hi, p1, p2, p3⟩, o4, o5, o6, o7, o8⟩ := hw.objs _ _ hg
              cases r1 with
              | ow _ _ _ _ a cp q1 q2 q3 =>
                obtain ⟨rfl, z1, z2, z3, z4⟩ := q3 (by rw [o1, c1])
                obtain ⟨xs, x1, x2⟩ := strs_out L _ (by rw [← hL']; exact o6)
                have xl : xs.length = n := by
                  have := congrArg List.length x1
                  rw [List.length_map] at this
                  have h2 := congrArg List.length hL'
                  rw [List.length_map] at h2
                  omega
                have hcell : ∀ (j : Nat) x, xs[j]? = some x → cc[j]? = some (.string x) := by
                  intro j x hx
                  have hj : j < c.length := by have := (List.getElem?_eq_some_iff.1 hx).1; omega
                  have e1 : (xs.map Value.string)[j]? = some (.string x) := by rw [List.getElem?_map, hx]; rfl
                  rw [← x2, List.getElem?_take, if_pos hj, ← p2] at e1
                  simpa using e1
                have hlen : cc.size = C.length := by rw [← p2]; simp
                have hH := holds_of p1 hcell (fun i hi => p3 rfl i (by omega))
                rw [← x1] at hH
                have hS := Any.slices_Sort_string laysSort (g.bl id) 0 cp L w hH k3 (by omega)
                have hLn : L.length = n := by rw [x1, List.length_map]; exact xl
                rw [hLn, sortL_eq] at hS
                refine next_of Tryz.func119 rfl rfl hS ?_
                rintro e w' ⟨rfl, m, os, rfl⟩
                have hw1 : WRel g h N w0 (Go.Sort.ahead w m) := WRel.later hw ⟨rfl, rfl, rfl, Nat.le_refl _, fun _ _ => rfl⟩
                have hb0 : (Go.Sort.ahead w m).heap[g.bl id]? = some (.cells cc E (lo, hi)) := p1
                generalize Go.Sort.ahead w m = w1 at hw1 hb0
                have hmod : ∀ k, (Go.Sort.putRow encStr w1 (g.bl id) 0 (sortL L).toArray).heap[k]? = if g.bl id = k then some (.cells (Go.Sort.putCells encStr 0 (sortL L).toArray cc) E (lo, hi)) else w1.heap[k]? := by
                  intro k
                  unfold Go.Sort.putRow Go.Sort.mapBlock
                  simp only [Array.getElem?_modify]
                  by_cases e : g.bl id = k
                  · subst e
                    rw [if_pos rfl, if_pos rfl, hb0]
                    rfl
                  · rw [if_neg e, if_neg e]
                have hsz : (Go.Sort.putRow encStr w1 (g.bl id) 0 (sortL L).toArray).heap.size = w1.heap.size := by
                  unfold Go.Sort.putRow Go.Sort.mapBlock
                  simp
                have hpc : (Go.Sort.putCells encStr 0 (sortL L).toArray cc).toList = (sortL L).map encStr ++ C.drop n := by
                  rw [← p2, ← hLn, ← sortL_length L]
                  exact putCells_list (sortL L) cc (by rw [sortL_length, hlen]; omega)
                obtain ⟨g', a1, a2, _⟩ := write_rel hw1 hg (w' := Go.Sort.putRow encStr w1 (g.bl id) 0 (sortL L).toArray) (c' := (sortL L).map PV.str)
                  ⟨rfl, rfl, rfl, by rw [hsz]; exact Nat.le_refl _, fun k hk => by rw [hmod, if_neg (by omega)]⟩ hsz (fun k hk => by rw [hmod, if_neg (fun e => hk e.symm)])
                  (by rw [List.length_map, sortL_length]; omega) ((sortL L).map encStr ++ C.drop n) ⟨_, lo, hi, by rw [hmod, if_pos rfl], hpc, fun _ i hi' => p3 rfl i (by
                    rw [List.length_append, List.length_map, sortL_length, List.length_drop] at hi'; omega)⟩ (by rw [List.length_append, List.length_map, sortL_length, List.length_drop]; omega)
                  (by rw [List.length_append, List.length_map, List.length_map]; omega) (by
                    rw [List.take_left' (by rw [List.length_map, List.length_map])]
                    exact strs_in g (sortL L)) (strs_ones _)
                refine ⟨_, rfl, rfl, g', a2.le, fun i q => (a2.al i q).elim .inl fun e => .inl (by rw [e]; exact k1), a2.ro, WRel.later a1 ⟨rfl, rfl, rfl, ?_, fun k hk => ?_⟩, by rw [AH.next_set]; exact Nat.le_refl _, .tup [] #[] .nil⟩
                · unfold Go.Sort.grow
                  simp
                · unfold Go.Sort.grow
                  rw [Array.getElem?_append_left hk]
            · simp at he
          · simp at he
        · simp at he
      · simp at he
    · simp at he
  · unfold sortF at he
    split at he
    · split at he
      · split at he
        · split at he
          · split at he <;> simp at he
          · simp at he
        · simp at he
      · simp at he
    · simp at he
  · unfold sortF at he
    split at he
    · split at he
      · split at he
        · split at he
          · split at he <;> simp at he
          · simp at he
        · simp at he
      · simp at he
    · simp at he
end Go.Proofs.YtcbngkmmmfaaoaaGreatDoor
namespace Go.Proofs.YtcbngkmmmfaaoaaGreatDoor
open Go.RowKit Go.Lib Go.Ac
set_option linter.unusedSimpArgs false
set_option maxRecDepth 100000
variable {mx : Int}
theorem sort_c (L : List (List UInt8)) (hb : L.length ≤ 1048576) {id : Nat} {h : AH} (hg : h.get id = some (.cells 9 1 false (L.map PV.str))) (fr : Nat) : CR Tryz.prog (globM mx) md (.fn 119) [.ow id L.length 0 L.length] h fr (.sh (.tup []) (h.set id (.cells 9 1 false ((sortL L).map PV.str)))) :=
  CR.lib (F := sortF) rfl (by
    simp only [sortF, hg, strsOf_map]
    rw [if_pos ⟨by rw [List.length_map], trivial, trivial, trivial, trivial, hb⟩])
theorem adj_nodup {S : List (List UInt8)} (hs : S.Pairwise fun a b => leL a b = true) : ¬ Adj S S.length ↔ S.Nodup := by
  rw [List.nodup_iff_pairwise_ne, List.pairwise_iff_getElem]
  rw [List.pairwise_iff_getElem] at hs
  constructor
  · intro h i j hi hj hij e
    apply h
    refine ⟨i + 1, by omega, by omega, ?_⟩
    have h1 := hs i (i + 1) hi (by omega) (by omega)
    have h2 : leL S[i + 1] S[j] = true := by
      by_cases q : i + 1 = j
      · subst q
        have := leL_total S[i + 1] S[i + 1]
        simpa using this
      · exact hs (i + 1) j (by omega) hj (by omega)
    rw [← e] at h2
    rw [List.getD_eq_getElem?_getD, List.getD_eq_getElem?_getD, List.getElem?_eq_getElem (show i + 1 < S.length by omega), List.getElem?_eq_getElem (show i + 1 - 1 < S.length by omega)]
    exact leL_antisymm _ _ h2 h1
  · rintro h ⟨i, i0, i1, e⟩
    rw [List.getD_eq_getElem?_getD, List.getD_eq_getElem?_getD, List.getElem?_eq_getElem i1, List.getElem?_eq_getElem (show i - 1 < S.length by omega)] at e
    exact h (i - 1) i (by omega) i1 (by omega) e.symm
def nodupB (L : List (List UInt8)) : Bool := decide L.Nodup
def UnlQ (id : Nat) (L : List (List UInt8)) (h : AH) (v : PV) (h' : AH) : Prop := v = .bool (nodupB L) ∧ h.next ≤ h'.next ∧ ∀ j, j < h.next → j ≠ id → h'.get j = h.get j
theorem unlike_v (L : List (List UInt8)) (h0 : 0 < L.length) (hb : L.length ≤ 1000000) {id : Nat} {h : AH} (hg : h.get id = some (.cells 9 1 false (L.map PV.str))) (hi : id < h.next) : ∃ v h', (∀ fr, CR Tryz.prog (globM mx) md (.fn 89) [.ow id L.length 0 L.length] h fr (.sh v h')) ∧ UnlQ id L h v h' := by
  refine CR.sh (rs := [.tmp 2]) (Q := UnlQ id L h) Tryz.func89 rfl rfl rfl rfl rfl ?_
  have hlen := sortL_length L
  simp -implicitDefEqProofs only [wpC_seq, rowsA, if_true, if_false, opnd, ofVal, ofVal1, layArgs, Nat.reduceAdd, reduceIte, Nat.reduceEqDiff, reduceCtorEq, rowsB, cellsG, Nat.reduceMul, rowsR]
  refine goO_shv (fun fr => sort_c L (by omega) (by simp only [AH.get_up]; exact hg) fr) ?_
  have hcl := fun (h : AH) (hg : h.get id = some (.cells 9 1 false ((sortL L).map PV.str))) (fr : Nat) => clone_sh (mx := mx) (sortL L) (by omega) (by omega) hg fr
  rw [hlen] at hcl
  simp -implicitDefEqProofs only [wpC_seq, rowsA, if_true, if_false, opnd, ofVal, ofVal1, layArgs, Nat.reduceAdd, reduceIte, Nat.reduceEqDiff, reduceCtorEq, rowsB, cellsG, Nat.reduceMul, rowsR]
  rw [goO_call]
  refine ⟨_, hcl _ (by simp only [AH.get_set, if_true]) _, ?_⟩
  have hcp := fun (B : Nat) (h : AH) (hg : h.get B = some (.cells 9 1 false ((sortL L).map PV.str))) (hB : B < h.next) => compact_v (mx := mx) (sortL L) (by omega) hg hB
  rw [hlen] at hcp
  simp -implicitDefEqProofs only [wpC_seq, rowsA, if_true, if_false, opnd, ofVal, ofVal1, layArgs, Nat.reduceAdd, reduceIte, Nat.reduceEqDiff, reduceCtorEq, rowsB, cellsG, Nat.reduceMul, rowsR, Nat.mul_one]
  refine goO_val (hcp (h.next + 3 + 1) _ (by simp only [AH.get_set, if_true]) (by simp only [AH.next_set, AH.next_up]; omega)) ?_
  intro v h2 hq
  generalize hG : wpO _ _ _ _ _ _ _ _ _ _ _ = G
  obtain ⟨⟨n2, g2⟩, m, hm, hor⟩ := hq
  rw [hlen] at hor
  have fin : ∀ k, (∀ j, j < h.next → j ≠ id → (h2.up k).get j = h.get j) := fun k j hj hne => by
    rw [AH.get_up, g2 j (by omega)]
    repeat rw [AH.get_set_ne _ _ _ _ (by omega)]
    rw [AH.get_up]
  have hnx : h.next ≤ h2.next := by simp only [AH.next_set, AH.next_up] at n2; omega
  have hnd := adj_nodup (sortL_pw L)
  rw [hlen, (sortL_perm L).nodup_iff] at hnd
  subst hG
  rcases hor with ⟨rfl, hA⟩ | ⟨hlt, hA⟩
  · have e : nodupB L = true := by unfold nodupB; rw [decide_eq_true_eq]; exact hnd.1 hA
    simp -implicitDefEqProofs only [wpC_seq, rowsA, if_true, if_false, opnd, ofVal, ofVal1, layArgs, Nat.reduceAdd, reduceIte, Nat.reduceEqDiff, reduceCtorEq, rowsB, cellsG, Nat.reduceMul, rowsR, hm, len_ow u43]
    exact ⟨by rw [e], hnx, fin 0⟩
  · have e : nodupB L = false := by unfold nodupB; rw [decide_eq_false_iff_not]; exact fun q => hnd.2 q hA
    have c1 : ¬ ((m : Int) = (L.length : Int)) := by omega
    simp -implicitDefEqProofs only [wpC_seq, rowsA, if_true, if_false, opnd, ofVal, ofVal1, layArgs, Nat.reduceAdd, reduceIte, Nat.reduceEqDiff, reduceCtorEq, rowsB, cellsG, Nat.reduceMul, rowsR, hm, len_ow u43, c1]
    exact ⟨by rw [e], hnx, fin 0⟩
end Go.Proofs.YtcbngkmmmfaaoaaGreatDoor
namespace Go.Proofs.YtcbngkmmmfaaoaaGreatDoor
open Go.RowKit Go.Lib Go.Ac
set_option linter.unusedSimpArgs false
set_option maxRecDepth 100000
variable {mx : Int}
theorem flds_c' (o : Ob) (h0 : 0 < o.fs.length) (hb : o.fs.length ≤ 100) (h : AH) (fr : Nat) : CR Tryz.prog (globM mx) md (.fn 95) [rowV Fld.pv o.fs, .fn (.func 96) [] []] h fr (.new (.ow fr o.fs.length 0 o.fs.length) (.cells 9 1 false ((o.fs.map (·.n)).map PV.str))) := fldss_c o.fs h0 hb h fr
theorem once1_c (o : Ob) (h0 : 0 < o.fs.length) (hb : o.fs.length ≤ 100) (h : AH) (fr : Nat) : CR Tryz.prog (globM mx) md (.fn 94) [.agg o.pv] h fr (.val (.bool (nodupB (o.fs.map (·.n))))) := by
  refine CR.plain (rs := [.tmp 2]) Tryz.func94 rfl rfl rfl rfl rfl rfl rfl ?_ h fr
  have hu := fun (id : Nat) (h : AH) hg (hi : id < h.next) => unlike_v (mx := mx) (o.fs.map (·.n)) (by rw [List.length_map]; exact h0) (by rw [List.length_map]; omega) (id := id) (h := h) hg hi
  rw [List.length_map] at hu
  simp -implicitDefEqProofs only [wpC_seq, rowsA, if_true, if_false, opnd, ofVal, ofVal1, layArgs, Nat.reduceAdd, reduceIte, Nat.reduceEqDiff, reduceCtorEq, rowsB, cellsG, Nat.reduceMul, rowsR, Ob.pv, fda_ptr o41_1, loadO_one ag39 sz39, goO_own (v := fun fr => .ow fr o.fs.length 0 o.fs.length) (flds_c' o h0 hb)]
  refine goO_val (hu _ _ (by simp only [AH.get_set, if_true]) (by simp only [AH.next_set, AH.next_up]; omega)) ?_
  rintro v h2 ⟨rfl, _, _⟩
  simp -implicitDefEqProofs only [wpC_seq, rowsA, if_true, if_false, opnd, ofVal, ofVal1, layArgs, Nat.reduceAdd, reduceIte, Nat.reduceEqDiff, reduceCtorEq, rowsB, cellsG, Nat.reduceMul, rowsR]
theorem once2_c (e : En) (h0 : 0 < e.ws.length) (hb : e.ws.length ≤ 100) (h : AH) (fr : Nat) : CR Tryz.prog (globM mx) md (.fn 97) [.agg e.pv] h fr (.val (.bool (nodupB e.ws))) := by
  refine CR.plain (rs := [.tmp 2]) Tryz.func97 rfl rfl rfl rfl rfl rfl rfl ?_ h fr
  have hc : ∀ h fr, CR Tryz.prog (globM mx) md (.fn 64) [rowV strV e.ws] h fr (.new (.ow fr e.ws.length 0 e.ws.length) (.cells 9 1 false (e.ws.map PV.str))) := fun h fr => by
    have := clone_c (mx := mx) e.ws h0 (by omega) h fr
    rwa [Nat.mul_one] at this
  simp -implicitDefEqProofs only [wpC_seq, rowsA, if_true, if_false, opnd, ofVal, ofVal1, layArgs, Nat.reduceAdd, reduceIte, Nat.reduceEqDiff, reduceCtorEq, rowsB, cellsG, Nat.reduceMul, rowsR, En.pv, fda_ptr o45_1, loadO_one ag43 sz43, goO_own (v := fun fr => .ow fr e.ws.length 0 e.ws.length) hc]
  refine goO_val (unlike_v e.ws h0 (by omega) (by simp only [AH.get_set, if_true]) (by simp only [AH.next_set, AH.next_up]; omega)) ?_
  rintro v h2 ⟨rfl, _, _⟩
  simp -implicitDefEqProofs only [wpC_seq, rowsA, if_true, if_false, opnd, ofVal, ofVal1, layArgs, Nat.reduceAdd, reduceIte, Nat.reduceEqDiff, reduceCtorEq, rowsB, cellsG, Nat.reduceMul, rowsR]
end Go.Proofs.YtcbngkmmmfaaoaaGreatDoor
namespace Go.Proofs.YtcbngkmmmfaaoaaGreatDoor
open Go.RowKit Go.Lib Go.Ac
set_option linter.unusedSimpArgs false
set_option maxRecDepth 100000
variable {mx : Int}
def inv0n (_ : Nat) (F : Fr) (_ : AH) : Prop := F.at 5 = .nls ∧ F.at 9 = .int .i64 0 ∧ F.at 10 = .int .i64 0
theorem enms0_c {v : PV} (hc : v.clean = true) (hlen : lenO Tryz.prog [v] [23] = some (.q (.int .i64 0))) (h : AH) (fr : Nat) : CR Tryz.prog (globM mx) md (.fn 92) [v, .fn (.func 93) [] []] h fr (.val .nls) := by
  refine CR.ownV Tryz.func92 rfl rfl rfl (by simp [PV.cleans, PV.clean, hc]) (ends_of (rs := [.tmp 4]) (Q := fun u _ => u = .nls) rfl rfl (fun u h' e => ⟨u, h', h', rfl, fun _ _ _ _ q => (by rw [e] at q; cases q), by rw [e]; rfl⟩) ?_) h fr
  simp -implicitDefEqProofs only [wpC_seq, rowsA, if_true, if_false, opnd, ofVal, ofVal1, layArgs, Nat.reduceAdd, reduceIte, Nat.reduceEqDiff, reduceCtorEq, rowsB, cellsG, Nat.reduceMul, hlen]
  refine wpC_loop inv0n (k := 0) ⟨?_, ?_, ?_⟩ ?_
  · simp only [Fr.at_set, Nat.reduceEqDiff, reduceIte, reduceCtorEq]
  · simp only [Fr.at_set, Nat.reduceEqDiff, reduceIte, reduceCtorEq]
  · simp only [Fr.at_set, Nat.reduceEqDiff, reduceIte, reduceCtorEq]
  rintro k F h' ⟨f5, f9, f10⟩
  simp -implicitDefEqProofs only [wpC_seq, rowsA, if_true, if_false, opnd, ofVal, ofVal1, layArgs, Nat.reduceAdd, reduceIte, Nat.reduceEqDiff, reduceCtorEq, rowsB, cellsG, Nat.reduceMul, f5, f9, f10, lss00]
theorem ap43z (h : AH) (fr L m : Nat) (d : List PV) (hL : h.get L = some (.cells 9 1 false d)) (hd : d.length = m) : appO Tryz.prog h fr [.ow L m 0 m, .nls] [43, 43] = some (.q (.ow L m 0 m)) := by
  cases hi : Tryz.prog.info? 9 with
  | none => have := i9; rw [hi] at this; simp at this
  | some i =>
    have e := i9
    rw [hi] at e
    simp only [Option.map_some, Option.some.injEq, Prod.mk.injEq] at e
    obtain ⟨e1, e2, e3⟩ := e
    obtain ⟨z, hz, hzs⟩ := Option.map_eq_some_iff.1 e3
    simp [appO, u43, appendV, hi, hz, e1, hzs, Ac.cellsOf, hL, hd]
def onceB (s : Sc) : Bool := nodupB (s.os.map (·.n) ++ s.es.map (·.n)) && s.os.all (fun o => nodupB (o.fs.map (·.n))) && s.es.all (fun e => nodupB e.ws)
def Sc.enough (s : Sc) : Prop := 0 < s.os.length ∧ s.os.length ≤ 8 ∧ s.es.length ≤ 8 ∧ (∀ o ∈ s.os, 0 < o.fs.length ∧ o.fs.length ≤ 12) ∧ ∀ e ∈ s.es, 0 < e.ws.length ∧ e.ws.length ≤ 16
theorem once_c {s : Sc} {ve : PV} (hv : RowR En.pv ve s.es) (hs : s.enough) (h : AH) (fr : Nat) : CR Tryz.prog (globM mx) md (.fn 41) [.agg (scV s ve)] h fr (.val (.bool (onceB s))) := by
  obtain ⟨s1, s2, s3, s4, s5⟩ := hs
  refine CR.plain (rs := [.tmp 2]) Tryz.func41 rfl rfl rfl rfl rfl (by simp [PV.cleans, PV.clean, scV_clean hv]) rfl ?_ h fr
  have k2 := allO_c (mx := mx) Ob.pv (fun _ => rfl) Ob.goes (fun o => nodupB (o.fs.map (·.n))) s.os (by omega) (.inl rfl) 94 [] rfl (fun o ho h fr => once1_c o (s4 o ho).1 (by have := (s4 o ho).2; omega) h fr)
  have k3 := allE_c (mx := mx) En.pv (fun _ => rfl) En.goes (fun e => nodupB e.ws) s.es (by omega) hv 97 [] rfl (fun e he h fr => once2_c e (s5 e he).1 (by have := (s5 e he).2; omega) h fr)
  have kO := objss_c (mx := mx) s.os s1 (by omega)
  have fin : ∀ (b1 : Bool), b1 = nodupB (s.os.map (·.n) ++ s.es.map (·.n)) → onceB s = (b1 && s.os.all (fun o => nodupB (o.fs.map (·.n))) && s.es.all (fun e => nodupB e.ws)) := fun b1 e => by rw [e]; rfl
  by_cases c0 : s.es = []
  · have hlen : lenO Tryz.prog [ve] [23] = some (.q (.int .i64 0)) := by
      have := lenR u23 hv
      rw [c0] at this
      exact this
    have kE := enms0_c (mx := mx) hv.clean hlen
    have hu := fun (id : Nat) (h : AH) hg (hi : id < h.next) => unlike_v (mx := mx) (s.os.map (·.n)) (by rw [List.length_map]; exact s1) (by rw [List.length_map]; omega) (id := id) (h := h) hg hi
    rw [List.length_map] at hu
    simp -implicitDefEqProofs only [wpC_seq, rowsA, if_true, if_false, opnd, ofVal, ofVal1, layArgs, Nat.reduceAdd, reduceIte, Nat.reduceEqDiff, reduceCtorEq, rowsB, cellsG, Nat.reduceMul, scV, fda_ptr o25_0, fda_ptr o25_1, loadO_one ag22 sz22, loadO_one ag23 sz23, goD_own (v := fun fr => .ow fr s.os.length 0 s.os.length) kO, goD_known kE]
    rw [ap43z _ _ _ _ ((s.os.map (·.n)).map PV.str) (by simp only [AH.get_set, if_true]) (by rw [List.length_map, List.length_map])]
    simp -implicitDefEqProofs only [wpC_seq, rowsA, if_true, if_false, opnd, ofVal, ofVal1, layArgs, Nat.reduceAdd, reduceIte, Nat.reduceEqDiff, reduceCtorEq, rowsB, cellsG, Nat.reduceMul, rowsR]
    refine goD_val (hu 4 _ (by simp only [AH.get_set, if_true]) (by simp only [AH.next_set, AH.next_up]; omega)) (by kernel_rfl) ?_
    intro v h2 hq
    generalize hG : wpD _ _ _ _ _ _ _ _ _ _ _ = G
    obtain ⟨rfl, n2, g2⟩ := hq
    have g0 := g2 0 (by simp only [AH.next_set, AH.next_up]; omega) (by decide)
    simp only [AH.get_set, AH.get_up, Nat.reduceEqDiff, if_true, if_false] at g0
    have ho := fin _ (show nodupB (s.os.map (·.n)) = _ by rw [c0, List.map_nil, List.append_nil])
    generalize nodupB (s.os.map (·.n)) = b1 at hG ho
    subst hG
    rw [ho]
    cases b1 with
    | false => simp -implicitDefEqProofs only [wpC_seq, rowsA, if_true, if_false, opnd, ofVal, ofVal1, layArgs, Nat.reduceAdd, reduceIte, Nat.reduceEqDiff, reduceCtorEq, rowsB, cellsG, Nat.reduceMul, rowsR, Bool.false_and]
    | true =>
      cases c2 : s.os.all (fun o => nodupB (o.fs.map (·.n))) with
      | false => simp -implicitDefEqProofs only [wpC_seq, rowsA, if_true, if_false, opnd, ofVal, ofVal1, layArgs, Nat.reduceAdd, reduceIte, Nat.reduceEqDiff, reduceCtorEq, rowsB, cellsG, Nat.reduceMul, rowsR, fda_ptr o25_0, fda_ptr o25_1, g0, loadO_one ag22 sz22, loadO_one ag23 sz23, goD_known k2, c2, Bool.false_and, Bool.true_and, Bool.and_false]
      | true => simp -implicitDefEqProofs only [wpC_seq, rowsA, if_true, if_false, opnd, ofVal, ofVal1, layArgs, Nat.reduceAdd, reduceIte, Nat.reduceEqDiff, reduceCtorEq, rowsB, cellsG, Nat.reduceMul, rowsR, fda_ptr o25_0, fda_ptr o25_1, g0, loadO_one ag22 sz22, loadO_one ag23 sz23, goD_known k2, c2, goD_known k3, Bool.true_and]
  · have e0 : 0 < s.es.length := List.length_pos_iff.2 c0
    have hve : ve = rowV En.pv s.es := hv.resolve_right (fun q => c0 q.1)
    have kE := enmss_c (mx := mx) s.es e0 (by omega)
    rw [← hve] at kE
    have hu := fun (id : Nat) (h : AH) hg (hi : id < h.next) => unlike_v (mx := mx) (s.os.map (·.n) ++ s.es.map (·.n)) (by rw [List.length_append, List.length_map]; omega) (by rw [List.length_append, List.length_map, List.length_map]; omega) (id := id) (h := h) hg hi
    rw [List.length_append, List.length_map, List.length_map, List.map_append] at hu
    simp -implicitDefEqProofs only [wpC_seq, rowsA, if_true, if_false, opnd, ofVal, ofVal1, layArgs, Nat.reduceAdd, reduceIte, Nat.reduceEqDiff, reduceCtorEq, rowsB, cellsG, Nat.reduceMul, scV, fda_ptr o25_0, fda_ptr o25_1, loadO_one ag22 sz22, loadO_one ag23 sz23, goD_own (v := fun fr => .ow fr s.os.length 0 s.os.length) kO, goD_own (v := fun fr => .ow fr s.es.length 0 s.es.length) kE]
    rw [ap43 _ _ _ _ _ _ ((s.es.map (·.n)).map PV.str) ((s.os.map (·.n)).map PV.str) false (by simp only [AH.get_set, Nat.reduceEqDiff, if_true, if_false]) (by rw [List.length_map, List.length_map]) (by simp only [AH.get_set, if_true]) (by rw [List.length_map, List.length_map]) e0 (by omega)]
    rw [goD_st (by decide) (by kernel_rfl)]
    simp -implicitDefEqProofs only [wpC_seq, rowsA, if_true, if_false, opnd, ofVal, ofVal1, layArgs, Nat.reduceAdd, reduceIte, Nat.reduceEqDiff, reduceCtorEq, rowsB, cellsG, Nat.reduceMul, rowsR]
    refine goD_val (hu 4 _ (by simp only [AH.get_set, if_true]) (by simp only [AH.next_set, AH.next_up]; omega)) (by kernel_rfl) ?_
    intro v h2 hq
    generalize hG : wpD _ _ _ _ _ _ _ _ _ _ _ = G
    obtain ⟨rfl, n2, g2⟩ := hq
    have g0 := g2 0 (by simp only [AH.next_set, AH.next_up]; omega) (by decide)
    simp only [AH.get_set, AH.get_up, Nat.reduceEqDiff, if_true, if_false] at g0
    have ho := fin _ (rfl : nodupB (s.os.map (·.n) ++ s.es.map (·.n)) = _)
    generalize nodupB (s.os.map (·.n) ++ s.es.map (·.n)) = b1 at hG ho
    subst hG
    rw [ho]
    cases b1 with
    | false => simp -implicitDefEqProofs only [wpC_seq, rowsA, if_true, if_false, opnd, ofVal, ofVal1, layArgs, Nat.reduceAdd, reduceIte, Nat.reduceEqDiff, reduceCtorEq, rowsB, cellsG, Nat.reduceMul, rowsR, Bool.false_and]
    | true =>
      cases c2 : s.os.all (fun o => nodupB (o.fs.map (·.n))) with
      | false => simp -implicitDefEqProofs only [wpC_seq, rowsA, if_true, if_false, opnd, ofVal, ofVal1, layArgs, Nat.reduceAdd, reduceIte, Nat.reduceEqDiff, reduceCtorEq, rowsB, cellsG, Nat.reduceMul, rowsR, fda_ptr o25_0, fda_ptr o25_1, g0, loadO_one ag22 sz22, loadO_one ag23 sz23, goD_known k2, c2, Bool.false_and, Bool.true_and, Bool.and_false]
      | true => simp -implicitDefEqProofs only [wpC_seq, rowsA, if_true, if_false, opnd, ofVal, ofVal1, layArgs, Nat.reduceAdd, reduceIte, Nat.reduceEqDiff, reduceCtorEq, rowsB, cellsG, Nat.reduceMul, rowsR, fda_ptr o25_0, fda_ptr o25_1, g0, loadO_one ag22 sz22, loadO_one ag23 sz23, goD_known k2, c2, goD_known k3, Bool.true_and]
end Go.Proofs.YtcbngkmmmfaaoaaGreatDoor
namespace Go.Proofs.YtcbngkmmmfaaoaaGreatDoor
open Go.RowKit Go.Lib Go.Ac
set_option linter.unusedSimpArgs false
set_option maxRecDepth 100000
variable {mx : Int}
def Ob.raw (o : Ob) : Rw := ⟨o.n, rowV Fld.pv o.fs, o.fs.length⟩
def En.raw (e : En) : Rw := ⟨e.n, rowV strV e.ws, e.ws.length⟩
theorem flat_map {α β : Type} (f : α → List PV) (g : β → α) : ∀ l : List β, flat f (l.map g) = flat (fun x => f (g x)) l
  | [] => rfl
  | x :: l => by rw [List.map_cons, flat, flat, flat_map f g l]
theorem rawO_row (l : List Ob) : RowR Rw.pv (rowV Ob.pv l) (l.map Ob.raw) := .inl (by rw [rowV, rowV, flat_map, List.length_map]; rfl)
theorem rawE_row {v : PV} {l : List En} (h : RowR En.pv v l) : RowR Rw.pv v (l.map En.raw) := by
  rcases h with rfl | ⟨rfl, h⟩
  · exact .inl (by rw [rowV, rowV, flat_map, List.length_map]; rfl)
  · exact .inr ⟨rfl, h⟩
theorem rawO_ok {o : Ob} (h : o.fs.length ≤ 9223372036854775807) : RwOk 39 o.raw := ⟨rfl, h, ag39, ln39 _⟩
theorem rawE_ok {o : En} (h : o.ws.length ≤ 9223372036854775807) : RwOk 43 o.raw := ⟨rfl, h, ag43, ln43 _⟩
theorem check_many {os es : List Rw} {vo ve : PV} (ho : RowR Rw.pv vo os) (he : RowR Rw.pv ve es) (h1 : ∀ o ∈ os, RwOk 39 o) (h2 : ∀ o ∈ es, RwOk 43 o) (l1 : os.length ≤ 9223372036854775807) (l2 : es.length ≤ 9223372036854775807) (hn : enoughB os es = false) (h : AH) (fr : Nat) :
    CR Tryz.prog (globM mx) md (.fn 15) [.agg [vo, ve]] h fr (.val (.int .i64 90)) := by
  refine CR.plain (rs := [.tmp 2]) Tryz.func15 rfl rfl rfl rfl rfl (by simp [PV.cleans, PV.clean, ho.clean, he.clean]) rfl ?_ h fr
  have k1 := enough_c (mx := mx) ho he h1 h2 l1 l2
  have hld : loadO Tryz.prog 25 (some [vo, ve]) = some (.q (.agg [vo, ve])) := load_agg (c := [vo, ve]) ag25 sz25 (Nat.le_refl 2)
  rw [hn] at k1
  simp -implicitDefEqProofs only [wpC_seq, rowsA, if_true, if_false, opnd, ofVal, ofVal1, layArgs, Nat.reduceAdd, reduceIte, Nat.reduceEqDiff, reduceCtorEq, rowsB, cellsG, Nat.reduceMul, hld, goO_known k1]
noncomputable def checkN (mx : Int) (s : Sc) : Int :=
  if namedB mx s = false then 91 else if onceB s = false then 92 else if (s.os.all fun o => o.fs.all (typedB s)) = false then 93
  else if (s.os.all fun o => o.fs.all (searchB s)) = false then 94 else if (s.os.all fun o => o.fs.all (backB s o)) = false then 95 else 0
theorem check_c {s : Sc} {ve : PV} (hv : RowR En.pv ve s.es) (hs : s.fits) (hm : s.small) (he : s.enough) (hn : enoughB (s.os.map Ob.raw) (s.es.map En.raw) = true) (h : AH) (fr : Nat) :
    CR Tryz.prog (globM mx) md (.fn 15) [.agg (scV s ve)] h fr (.val (.int .i64 (checkN mx s))) := by
  refine CR.plain (rs := [.tmp 2]) Tryz.func15 rfl rfl rfl rfl rfl (by simp [PV.cleans, PV.clean, scV_clean hv]) rfl ?_ h fr
  have k1 := enough_c (mx := mx) (rawO_row s.os) (rawE_row hv) (fun o ho => by
    obtain ⟨x, hx, rfl⟩ := List.mem_map.1 ho
    exact rawO_ok (hs.2.2 x hx)) (fun o ho => by
    obtain ⟨x, hx, rfl⟩ := List.mem_map.1 ho
    exact rawE_ok (hm.2 x hx).2.1) (by rw [List.length_map]; exact hs.1) (by rw [List.length_map]; exact hs.2.1)
  rw [hn] at k1
  change ∀ h fr, CR Tryz.prog (globM mx) md (.fn 39) [.agg (scV s ve)] h fr _ at k1
  have k2 := named_c (mx := mx) hv hs hm
  have k3 := once_c (mx := mx) hv he
  have hcl := scV_clean hv
  have k4 := fun (id : Nat) (fz : Bool) (h : AH) (hg : h.get id = some (.cells 25 0 fz (scV s ve))) (fr : Nat) => fields_sh (mx := mx) (kh := 43) (q := fun _ f => typedB s f) hv hs hcl hg (fun o _ f _ h fr => chk1_c hv hs o f h fr) fr
  have k5 := fun (id : Nat) (fz : Bool) (h : AH) (hg : h.get id = some (.cells 25 0 fz (scV s ve))) (fr : Nat) => fields_sh (mx := mx) (kh := 45) (q := fun _ f => searchB s f) hv hs hcl hg (fun o _ f _ h fr => chk2_c hv hs o f h fr) fr
  have k6 := fun (id : Nat) (fz : Bool) (h : AH) (hg : h.get id = some (.cells 25 0 fz (scV s ve))) (fr : Nat) => fields_sh (mx := mx) (kh := 46) (q := backB s) hv hs hcl hg (fun o _ f _ h fr => chk3_c hv hs o f h fr) fr
  have hlen : (scV s ve).length = 2 := rfl
  unfold checkN
  cases c2 : namedB mx s with
  | false => simp -implicitDefEqProofs only [wpC_seq, rowsA, if_true, if_false, opnd, ofVal, ofVal1, layArgs, Nat.reduceAdd, reduceIte, Nat.reduceEqDiff, reduceCtorEq, rowsB, cellsG, Nat.reduceMul, hlen, ld25v s, goO_known k1, goO_known k2, c2]
  | true =>
  cases c3 : onceB s with
  | false => simp -implicitDefEqProofs only [wpC_seq, rowsA, if_true, if_false, opnd, ofVal, ofVal1, layArgs, Nat.reduceAdd, reduceIte, Nat.reduceEqDiff, reduceCtorEq, rowsB, cellsG, Nat.reduceMul, hlen, ld25v s, goO_known k1, goO_known k2, c2, goO_known k3, c3]
  | true =>
  simp -implicitDefEqProofs only [wpC_seq, rowsA, if_true, if_false, opnd, ofVal, ofVal1, layArgs, Nat.reduceAdd, reduceIte, Nat.reduceEqDiff, reduceCtorEq, rowsB, cellsG, Nat.reduceMul, hlen, ld25v s, goO_known k1, goO_known k2, c2, goO_known k3, c3]
  refine goO_shv (k4 0 false _ (by simp only [AH.get_set, AH.get_up, if_true])) ?_
  cases c4 : (s.os.all fun o => o.fs.all (typedB s)) with
  | false => simp -implicitDefEqProofs only [wpC_seq, rowsA, if_true, if_false, opnd, ofVal, ofVal1, layArgs, Nat.reduceAdd, reduceIte, Nat.reduceEqDiff, reduceCtorEq, rowsB, cellsG, Nat.reduceMul, c4]
  | true =>
  simp -implicitDefEqProofs only [wpC_seq, rowsA, if_true, if_false, opnd, ofVal, ofVal1, layArgs, Nat.reduceAdd, reduceIte, Nat.reduceEqDiff, reduceCtorEq, rowsB, cellsG, Nat.reduceMul, hlen, ld25v s, c4]
  refine goO_shv (k5 0 true _ (by simp only [AH.get_set, AH.get_up, if_true])) ?_
  cases c5 : (s.os.all fun o => o.fs.all (searchB s)) with
  | false => simp -implicitDefEqProofs only [wpC_seq, rowsA, if_true, if_false, opnd, ofVal, ofVal1, layArgs, Nat.reduceAdd, reduceIte, Nat.reduceEqDiff, reduceCtorEq, rowsB, cellsG, Nat.reduceMul, c5]
  | true =>
  simp -implicitDefEqProofs only [wpC_seq, rowsA, if_true, if_false, opnd, ofVal, ofVal1, layArgs, Nat.reduceAdd, reduceIte, Nat.reduceEqDiff, reduceCtorEq, rowsB, cellsG, Nat.reduceMul, hlen, ld25v s, c5]
  refine goO_shv (k6 0 true _ (by simp only [AH.get_set, AH.get_up, if_true])) ?_
  cases c6 : (s.os.all fun o => o.fs.all (backB s o)) with
  | false => simp -implicitDefEqProofs only [wpC_seq, rowsA, if_true, if_false, opnd, ofVal, ofVal1, layArgs, Nat.reduceAdd, reduceIte, Nat.reduceEqDiff, reduceCtorEq, rowsB, cellsG, Nat.reduceMul, c6]
  | true => simp -implicitDefEqProofs only [wpC_seq, rowsA, if_true, if_false, opnd, ofVal, ofVal1, layArgs, Nat.reduceAdd, reduceIte, Nat.reduceEqDiff, reduceCtorEq, rowsB, cellsG, Nat.reduceMul, c6]
end Go.Proofs.YtcbngkmmmfaaoaaGreatDoor
namespace Go.Proofs.YtcbngkmmmfaaoaaGreatDoor
open Go.RowKit Go.Lib Go.Ac
set_option linter.unusedSimpArgs false
set_option maxRecDepth 100000
variable {mx : Int}
theorem enough_of {s : Sc} (h : enoughB (s.os.map Ob.raw) (s.es.map En.raw) = true) : s.enough := by
  simp only [enoughB, betw, Bool.and_eq_true, decide_eq_true_eq, List.length_map, List.all_eq_true] at h
  obtain ⟨⟨⟨⟨h1, h2⟩, h3⟩, h4⟩, h5⟩ := h
  exact ⟨by omega, h2, h3, fun o ho => by have := h4 o.raw (List.mem_map.2 ⟨o, ho, rfl⟩); exact ⟨by have := this.1; simp only [Ob.raw] at this; omega, this.2⟩,
    fun e he => by have := h5 e.raw (List.mem_map.2 ⟨e, he, rfl⟩); exact ⟨by have := this.1; simp only [En.raw] at this; omega, this.2⟩⟩
noncomputable def checkV (mx : Int) (s : Sc) : Int := if enoughB (s.os.map Ob.raw) (s.es.map En.raw) = false then 90 else checkN mx s
theorem check_v {s : Sc} {ve : PV} (hv : RowR En.pv ve s.es) (hs : s.fits) (hm : s.small) (h : AH) (fr : Nat) : CR Tryz.prog (globM mx) md (.fn 15) [.agg (scV s ve)] h fr (.val (.int .i64 (checkV mx s))) := by
  unfold checkV
  cases hn : enoughB (s.os.map Ob.raw) (s.es.map En.raw) with
  | false =>
    exact check_many (rawO_row s.os) (rawE_row hv) (fun o ho => by
      obtain ⟨x, hx, rfl⟩ := List.mem_map.1 ho
      exact rawO_ok (hs.2.2 x hx)) (fun o ho => by
      obtain ⟨x, hx, rfl⟩ := List.mem_map.1 ho
      exact rawE_ok (hm.2 x hx).2.1) (by rw [List.length_map]; exact hs.1) (by rw [List.length_map]; exact hs.2.1) hn h fr
  | true => exact check_c hv hs hm (enough_of hn) hn h fr
theorem check_s {s : Sc} (hs : s.fits) (hm : s.small) (h : AH) (fr : Nat) : CR Tryz.prog (globM mx) md (.fn 15) [.agg s.pv] h fr (.val (.int .i64 (checkV mx s))) := check_v (.inl rfl) hs hm h fr
end Go.Proofs.YtcbngkmmmfaaoaaGreatDoor
namespace Go.Proofs.YtcbngkmmmfaaoaaGreatDoor
open Go.RowKit Go.Lib Go.Ac
set_option linter.unusedSimpArgs false
variable {mx : Int}
structure Sc.ok (mx : Int) (s : Sc) : Prop where
  enough : s.enough
  named : namedB mx s = true
  once : onceB s = true
  typed : ∀ o ∈ s.os, ∀ f ∈ o.fs, typedB s f = true
  search : ∀ o ∈ s.os, ∀ f ∈ o.fs, searchB s f = true
  back : ∀ o ∈ s.os, ∀ f ∈ o.fs, backB s o f = true
end Go.Proofs.YtcbngkmmmfaaoaaGreatDoor
namespace Go.Proofs.YtcbngkmmmfaaoaaGreatDoor
open Go.RowKit Go.Lib Go.Ac
set_option linter.unusedSimpArgs false
variable {mx : Int}
theorem idx_first {α : Type} (p : α → Bool) : ∀ (l : List α) (k i : Nat) (o : α), l[i]? = some o → p o = true → (∀ j x, j < i → l[j]? = some x → p x = false) → idx p l k = ((k + i : Nat) : Int)
  | [], _, _, _, h, _, _ => by simp at h
  | x :: l, k, 0, o, h, hp, _ => by
    simp only [List.getElem?_cons_zero, Option.some.injEq] at h
    subst h
    rw [idx, if_pos hp, Nat.add_zero]
  | x :: l, k, i + 1, o, h, hp, hn => by
    have h0 := hn 0 x (by omega) (by simp)
    rw [idx, if_neg (by rw [h0]; simp), idx_first p l (k + 1) i o (by simpa using h) hp (fun j y hj hy => hn (j + 1) y (by omega) (by simpa using hy))]
    congr 1
    omega
theorem nodup_idx {α : Type} (f : α → List UInt8) {l : List α} (hn : (l.map f).Nodup) {i : Nat} {o : α} (ho : l[i]? = some o) : idx (fun x => decide (f x = f o)) l 0 = (i : Int) := by
  rw [idx_first _ l 0 i o ho (by simp), Nat.zero_add]
  intro j x hj hx
  rw [decide_eq_false_iff_not]
  intro e
  rw [List.nodup_iff_pairwise_ne, List.pairwise_iff_getElem] at hn
  have hi := (List.getElem?_eq_some_iff.1 ho)
  have hj' := (List.getElem?_eq_some_iff.1 hx)
  obtain ⟨i1, i2⟩ := hi
  obtain ⟨j1, j2⟩ := hj'
  refine hn j i (by rw [List.length_map]; exact j1) (by rw [List.length_map]; exact i1) hj ?_
  rw [List.getElem_map, List.getElem_map, i2, j2]
  exact e
theorem Sc.ok.objs {s : Sc} (h : s.ok mx) {i : Nat} {o : Ob} (ho : s.os[i]? = some o) : objAt s o.n = (i : Int) := by
  have h1 := h.once
  simp only [onceB, Bool.and_eq_true, nodupB, decide_eq_true_eq] at h1
  exact nodup_idx (·.n) (List.nodup_append.1 h1.1.1).1 ho
end Go.Proofs.YtcbngkmmmfaaoaaGreatDoor
namespace Go.Proofs.YtcbngkmmmfaaoaaGreatDoor
open Go.RowKit Go.Lib Go.Ac
set_option maxRecDepth 100000
variable {mx : Int}
end Go.Proofs.YtcbngkmmmfaaoaaGreatDoor
namespace Go.Proofs.YtcbngkmmmfaaoaaGreatDoor
open Go.RowKit Go.Lib Go.Ac
variable {mx : Int}
end Go.Proofs.YtcbngkmmmfaaoaaGreatDoor
namespace Go.Proofs.YtcbngkmmmfaaoaaGreatDoor
open Go.RowKit Go.Lib Go.Ac
set_option linter.unusedSimpArgs false
set_option maxRecDepth 100000
variable {mx : Int}

end Go.Proofs.YtcbngkmmmfaaoaaGreatDoor
namespace Go.Proofs.YtcbngkmmmfaaoaaGreatDoor
open Go.RowKit Go.Lib Go.Ac
set_option linter.unusedSimpArgs false
set_option maxRecDepth 100000
section
variable {H : Type} {enc : TypeId × Value → H} {W : World} {spare : Nat → Bool} {held : Bool}

theorem rep_bool {fuel : Nat} {cs : List Value} {x : DataW H × List MemPlace} (h : DataW.trod enc Tryz.prog W 0 spare held fuel 4 cs = some x) : ∃ b, Reps (Gh.start W) [.bool b] cs := by
  obtain ⟨b, rfl, _⟩ := DataW.trod_bool u4 h
  exact ⟨b, .cons _ _ _ _ (.bool b) .nil⟩
theorem cells_ro {a : Addr} {n : Nat} {cs : List Value} (h : W.cells? 0 a n = some cs) (h0 : 0 < n) : a.spot = none ∧ ∃ C, (Gh.start W).ro a.block = some C ∧ ∀ (i : Nat) (v : Value), cs[i]? = some v → C[a.off + i]? = some v := by
  obtain ⟨_, hl, hc⟩ := World.cells?_some h
  have get : ∀ i, i < n → ∃ v, cs[i]? = some v ∧ W.cell? (a.add i) = some v := fun i hi => by
    have hlt : i < cs.length := by omega
    exact ⟨cs[i], List.getElem?_eq_getElem hlt, by rw [hc i hi, List.getElem?_eq_getElem hlt]⟩
  obtain ⟨v0, _, q0⟩ := get 0 h0
  obtain ⟨hs, C, hC, _⟩ := cell_ro q0
  rw [(addr_add_off a 0).2] at hC
  refine ⟨by simpa [Addr.add] using hs, C, hC, fun i v hv => ?_⟩
  have hi : i < n := by
    have := (List.getElem?_eq_some_iff.1 hv).1
    omega
  obtain ⟨_, C', hC', hcc⟩ := cell_ro (show W.cell? (a.add i) = some v by rw [hc i hi, hv])
  rw [(addr_add_off a i).2] at hC'
  rw [show C' = C from Option.some.inj (hC'.symm.trans hC), (addr_add_off a i).1] at hcc
  exact hcc
theorem add_add (a : Addr) (i j : Nat) : ((a.add i).add j).off = a.off + (i + j) := by
  rw [(addr_add_off _ _).1, (addr_add_off _ _).1]
  omega
def partAt (P : Program) (t : TypeId) (i : Nat) : Option (TypeId × Nat) := match P.underlying t with
  | some (.struct fs) => (fs[i]?).map fun f => (f.type, f.offset)
  | _ => none
theorem part {t ty : TypeId} {i off z : Nat} (hp : partAt Tryz.prog t i = some (ty, off)) (hz : Tryz.prog.cellsOf ty = z) {fuel : Nat} {cs : List Value} {x : DataW H × List MemPlace} (h : DataW.trod enc Tryz.prog W 0 spare held fuel t cs = some x) :
    cs.length = Tryz.prog.cellsOf t ∧ ∃ n y, DataW.trod enc Tryz.prog W 0 spare held n ty ((cs.drop off).take z) = some y := by
  unfold partAt at hp
  split at hp
  · rename_i fs ht
    obtain ⟨f, hf, e⟩ := Option.map_eq_some_iff.1 hp
    cases e
    obtain ⟨xs, n, _, _, h1, h2, h3⟩ := DataW.trod_struct ht h
    have hi : i < xs.length := by rw [h2]; exact (Array.getElem?_eq_some_iff.1 hf).1
    exact ⟨h1, n, xs[i], by rw [← hz, h3 i f hf, List.getElem?_eq_getElem hi]⟩
  · simp at hp
theorem two {cs : List Value} (h : cs.length = 2) : ∃ a b, cs = [a, b] := by
  match cs, h with
  | [a, b], _ => exact ⟨a, b, rfl⟩
theorem five {cs : List Value} (h : cs.length = 5) : ∃ a b c d e, cs = [a, b, c, d, e] := by
  match cs, h with
  | [a, b, c, d, e], _ => exact ⟨a, b, c, d, e, rfl⟩
end
end Go.Proofs.YtcbngkmmmfaaoaaGreatDoor
