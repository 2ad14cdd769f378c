/-
  JOINED TEXTS (Q16 S5 S6): a pure machine for the model's code, its soundness, and what the program's functions come to.
-/
import Derived.Test.YtcbngkmmmfaaoaaGreatDoorM11
import Derived.Test.YtcbngkmmmfaaoaaGreatDoorM6
import Derived.ChangeArms
import Derived.DataReads
set_option linter.unusedVariables false
set_option linter.unusedSimpArgs false
/-
  SCHEMAS THAT MAY BE, Q16: plain law of SchemaBack.
-/
namespace Go.Proofs.YtcbngkmmmfaaoaaGreatDoor
open Go.RowKit Go.Lib Go.Ac
variable {mx : Int}
theorem Sc.ok.edge_prop {s : Sc} (h : s.ok mx) {o : Ob} (ho : o ∈ s.os) {f : Fld} (hf : f ∈ o.fs) : propB s f = decide (edgeOf s f < 0) := by
  have ht := h.typed o ho f hf
  unfold typedB at ht
  unfold edgeOf
  cases hp : propB s f with
  | true => simp
  | false =>
    rw [hp] at ht
    simp only [Bool.false_eq_true, if_false, Bool.and_eq_true, decide_eq_true_eq] at ht
    simp only [Bool.false_eq_true, if_false]
    symm
    rw [decide_eq_false_iff_not]
    omega
theorem Sc.ok.fname {s : Sc} (h : s.ok mx) {o : Ob} (ho : o ∈ s.os) {f : Fld} (hf : f ∈ o.fs) : f.n ≠ [] := by
  have h1 := h.named
  simp only [namedB, Bool.and_eq_true, List.all_eq_true, nmB] at h1
  intro e
  have := (h1.1.2 o ho f hf).1.1.1
  rw [e, name_nil] at this
  cases this
/-- What leads back, taken apart. -/
theorem Sc.ok.back_inv {s : Sc} (h : s.ok mx) {o : Ob} (ho : o ∈ s.os) {f : Fld} (hf : f ∈ o.fs) (hi : f.inv ≠ []) :
    ∃ (j i : Nat) (q : Ob) (g : Fld), edgeOf s f = (j : Int) ∧ s.os[j]? = some q ∧ placeAt q f.inv = (i : Int) ∧ q.fs[i]? = some g ∧ 0 ≤ edgeOf s g ∧ g.t = o.n ∧ g.inv = f.n := by
  have hb := h.back o ho f hf
  unfold backB at hb
  rw [if_neg hi] at hb
  rcases edge_range s f with he | ⟨j, q, he, hq⟩
  · rw [he, if_pos (by decide)] at hb
    cases hb
  rw [he, if_neg (by omega), Int.toNat_natCast, hq] at hb
  simp only at hb
  rcases place_range q f.inv with hp | ⟨i, g, hp, hg⟩
  · rw [hp, if_pos (by decide)] at hb
    cases hb
  rw [hp, if_neg (by omega), Int.toNat_natCast, hg] at hb
  simp only [Bool.and_eq_true, decide_eq_true_eq] at hb
  exact ⟨j, i, q, g, he, hq, hp, hg, hb.1.1, hb.1.2, hb.2⟩
theorem Sc.ok.back_back {s : Sc} (h : s.ok mx) {i k : Nat} {o : Ob} (ho : s.os[i]? = some o) {f : Fld} (hf : o.fs[k]? = some f) (hi : f.inv ≠ []) :
    ∃ (j m : Nat), edgeOf s f = (j : Int) ∧ backOf s i k = (m : Int) ∧ backOf s j m = (k : Int) := by
  have hom := List.mem_of_getElem? ho
  have hfm := List.mem_of_getElem? hf
  obtain ⟨j, m, q, g, e1, e2, e3, e4, e5, e6, e7⟩ := h.back_inv hom hfm hi
  have eg : edgeOf s g = (i : Int) := by
    have hp : propB s g = false := by
      cases hp : propB s g with
      | false => rfl
      | true => unfold edgeOf at e5; rw [hp, if_pos rfl] at e5; omega
    unfold edgeOf
    rw [hp, e6]
    exact h.objs ho
  refine ⟨j, m, e1, ?_, ?_⟩
  · unfold backOf
    rw [if_neg (by omega), Int.toNat_natCast, ho]
    simp only
    rw [if_neg (by omega), Int.toNat_natCast, hf]
    simp only
    rw [e1, if_neg (by omega), if_neg hi, Int.toNat_natCast, e2]
    exact e3
  · unfold backOf
    rw [if_neg (by omega), Int.toNat_natCast, e2]
    simp only
    rw [if_neg (by omega), Int.toNat_natCast, e4]
    simp only
    rw [eg, if_neg (by omega), if_neg (by rw [e7]; exact h.fname hom hfm), Int.toNat_natCast, ho, e7]
    exact h.flds hom hf
end Go.Proofs.YtcbngkmmmfaaoaaGreatDoor
/-
  SCHEMA AND GEN, S5: SchemaFinds.
-/
namespace Go.Proofs.YtcbngkmmmfaaoaaGreatDoor
open Go.RowKit Go.Lib Go.Ac
set_option linter.unusedSimpArgs false
set_option maxRecDepth 100000
variable {mx : Int}

theorem fixed09_c (h : AH) (fr : Nat) : CR Tryz.prog (globM mx) md (.fn 14) [] h fr (.val (.bool true)) := pure_any rfl rfl ⟨2000, fixed09_run⟩ h fr
def invF1 (s : Sc) (k : Nat) (F : Fr) (h : AH) : Prop := ∃ i : Int, k = (30 - i).toNat ∧ -1 ≤ i ∧ i ≤ 20 ∧ F.at 3 = .ptr 0 2 0 ∧ F.at 7 = .int .i64 i ∧ h.get 0 = some (.cells 25 0 false s.pv)
def invF2 (s : Sc) (i : Int) (k : Nat) (F : Fr) (h : AH) : Prop := ∃ j : Int, k = (30 - j).toNat ∧ -1 ≤ j ∧ j ≤ 16 ∧ F.at 3 = .ptr 0 2 0 ∧ F.at 7 = .int .i64 i ∧ F.at 8 = .int .i64 j ∧ h.get 0 = some (.cells 25 0 false s.pv)
theorem finds_c {s : Sc} (hs : s.fits) (x : List UInt8) (f : Fld) (h : AH) (fr : Nat) : CR Tryz.prog (globM mx) md (.fn 4) [.agg s.pv, .str x, .agg f.pv] h fr (.val (.bool true)) := by
  refine CR.plain (rs := [.tmp 6]) Tryz.func4 rfl rfl rfl rfl rfl (by simp [PV.cleans, PV.clean, Sc.cl, Fld.cl]) rfl ?_ h fr
  simp -implicitDefEqProofs only [wpC_seq, rowsA, if_true, if_false, opnd, ofVal, ofVal1, layArgs, Nat.reduceAdd, reduceIte, Nat.reduceEqDiff, reduceCtorEq, rowsB, cellsG, Nat.reduceMul, Sc.len, Ob.len, En.len, Fld.len, fda_ptr o25_0, fda_ptr o25_1, fda_ptr o33_0, fda_ptr o33_1, fda_ptr o33_2, fda_ptr o33_3, fda_ptr o31_0, fda_ptr o31_1, fda_ptr o41_0, fda_ptr o41_1, fda_ptr o45_0, fda_ptr o45_1, fda_rop o25_0, fda_rop o25_1, fda_rop o33_0, fda_rop o33_1, fda_rop o33_2, fda_rop o33_3, fda_rop o31_0, fda_rop o31_1, fda_rop o41_0, fda_rop o41_1, fda_rop o45_0, fda_rop o45_1,
    ld25, ld33, ld41, ld45, ld33r, ld41r, ld45r, ld22, ld23, ld9o, ld9or, ld39o, ld39or, ld9e, ld9er, ld43e, ld43er, ld9f0, ld9f0r, ld9f1, ld9f1r, ld9f2, ld9f2r, ld9f3, ld9f3r, ld9f4, ld9f4r, ld31f, ln22, ln23, ln39, ln43, List.drop_drop, goD_known fixed09_c, goD_known (obj_c hs x), goD_known (refObj_c hs x), goD_known (enm_c hs x), goD_known (refEnm_c hs x), goD_known (scalar_c x), goD_known (refScalar_c x), goD_known (edge_c hs f), goD_known (refEdge_c hs f), bin_bneq u4]
  refine wpC_loop (invF1 s) (k := (30 - (-1 : Int)).toNat) ⟨-1, rfl, by omega, by omega, ?_, ?_, ?_⟩ ?_
  · simp only [Fr.at_set, Nat.reduceEqDiff, reduceIte, reduceCtorEq]
  · simp only [Fr.at_set, Nat.reduceEqDiff, reduceIte, reduceCtorEq]
  · simp only [AH.get_set, AH.get_up, Nat.reduceEqDiff, if_true, if_false]
  rintro k F h' ⟨i, rfl, i1, i2, f3, f7, g0⟩
  by_cases c1 : i ≤ (s.os.length : Int)
  · by_cases c2 : i < 20
    · simp -implicitDefEqProofs only [wpC_seq, rowsA, if_true, if_false, opnd, ofVal, ofVal1, layArgs, Nat.reduceAdd, reduceIte, Nat.reduceEqDiff, reduceCtorEq, rowsB, cellsG, Nat.reduceMul, Sc.len, Ob.len, En.len, Fld.len, fda_ptr o25_0, fda_ptr o25_1, fda_ptr o33_0, fda_ptr o33_1, fda_ptr o33_2, fda_ptr o33_3, fda_ptr o31_0, fda_ptr o31_1, fda_ptr o41_0, fda_ptr o41_1, fda_ptr o45_0, fda_ptr o45_1, fda_rop o25_0, fda_rop o25_1, fda_rop o33_0, fda_rop o33_1, fda_rop o33_2, fda_rop o33_3, fda_rop o31_0, fda_rop o31_1, fda_rop o41_0, fda_rop o41_1, fda_rop o45_0, fda_rop o45_1,
    ld25, ld33, ld41, ld45, ld33r, ld41r, ld45r, ld22, ld23, ld9o, ld9or, ld39o, ld39or, ld9e, ld9er, ld43e, ld43er, ld9f0, ld9f0r, ld9f1, ld9f1r, ld9f2, ld9f2r, ld9f3, ld9f3r, ld9f4, ld9f4r, ld31f, ln22, ln23, ln39, ln43, List.drop_drop, f3, f7, g0, c1, c2]
      refine wpC_loop (invF2 s i) (k := (30 - (-1 : Int)).toNat) ⟨-1, rfl, by omega, by omega, ?_, ?_, ?_, ?_⟩ ?_
      · simp only [Fr.at_set, Nat.reduceEqDiff, reduceIte, reduceCtorEq, f3]
      · simp only [Fr.at_set, Nat.reduceEqDiff, reduceIte, reduceCtorEq, f7]
      · simp only [Fr.at_set, Nat.reduceEqDiff, reduceIte, reduceCtorEq]
      · simp only [AH.get_up, g0]
      rintro k F h' ⟨j, rfl, j1, j2, f3, f7, f8, g0⟩
      by_cases c3 : j < 16
      · have w := IntWalk.i64_in (j + 1) (by omega)
        simp -implicitDefEqProofs only [wpC_seq, rowsA, if_true, if_false, opnd, ofVal, ofVal1, layArgs, Nat.reduceAdd, reduceIte, Nat.reduceEqDiff, reduceCtorEq, rowsB, cellsG, Nat.reduceMul, Sc.len, Ob.len, En.len, Fld.len, fda_ptr o25_0, fda_ptr o25_1, fda_ptr o33_0, fda_ptr o33_1, fda_ptr o33_2, fda_ptr o33_3, fda_ptr o31_0, fda_ptr o31_1, fda_ptr o41_0, fda_ptr o41_1, fda_ptr o45_0, fda_ptr o45_1, fda_rop o25_0, fda_rop o25_1, fda_rop o33_0, fda_rop o33_1, fda_rop o33_2, fda_rop o33_3, fda_rop o31_0, fda_rop o31_1, fda_rop o41_0, fda_rop o41_1, fda_rop o45_0, fda_rop o45_1,
    ld25, ld33, ld41, ld45, ld33r, ld41r, ld45r, ld22, ld23, ld9o, ld9or, ld39o, ld39or, ld9e, ld9er, ld43e, ld43er, ld9f0, ld9f0r, ld9f1, ld9f1r, ld9f2, ld9f2r, ld9f3, ld9f3r, ld9f4, ld9f4r, ld31f, ln22, ln23, ln39, ln43, List.drop_drop, f3, f7, f8, g0, c3, w, goD_known (back_c hs i j), goD_known (refBack_c hs i j)]
        refine ⟨_, ?_, j + 1, rfl, by omega, by omega, ?_, ?_, ?_, ?_⟩
        · omega
        · simp only [Fr.at_set, Nat.reduceEqDiff, reduceIte, reduceCtorEq, f3]
        · simp only [Fr.at_set, Nat.reduceEqDiff, reduceIte, reduceCtorEq, f7]
        · simp only [Fr.at_set, Nat.reduceEqDiff, reduceIte, reduceCtorEq]
        · simp only [AH.get_up, g0]
      · have w := IntWalk.i64_in (i + 1) (by omega)
        simp -implicitDefEqProofs only [wpC_seq, rowsA, if_true, if_false, opnd, ofVal, ofVal1, layArgs, Nat.reduceAdd, reduceIte, Nat.reduceEqDiff, reduceCtorEq, rowsB, cellsG, Nat.reduceMul, Sc.len, Ob.len, En.len, Fld.len, fda_ptr o25_0, fda_ptr o25_1, fda_ptr o33_0, fda_ptr o33_1, fda_ptr o33_2, fda_ptr o33_3, fda_ptr o31_0, fda_ptr o31_1, fda_ptr o41_0, fda_ptr o41_1, fda_ptr o45_0, fda_ptr o45_1, fda_rop o25_0, fda_rop o25_1, fda_rop o33_0, fda_rop o33_1, fda_rop o33_2, fda_rop o33_3, fda_rop o31_0, fda_rop o31_1, fda_rop o41_0, fda_rop o41_1, fda_rop o45_0, fda_rop o45_1,
    ld25, ld33, ld41, ld45, ld33r, ld41r, ld45r, ld22, ld23, ld9o, ld9or, ld39o, ld39or, ld9e, ld9er, ld43e, ld43er, ld9f0, ld9f0r, ld9f1, ld9f1r, ld9f2, ld9f2r, ld9f3, ld9f3r, ld9f4, ld9f4r, ld31f, ln22, ln23, ln39, ln43, List.drop_drop, f3, f7, f8, g0, c3, w]
        refine ⟨_, ?_, i + 1, rfl, by omega, by omega, ?_, ?_, ?_⟩
        · omega
        · simp only [Fr.at_set, Nat.reduceEqDiff, reduceIte, reduceCtorEq, f3]
        · simp only [Fr.at_set, Nat.reduceEqDiff, reduceIte, reduceCtorEq]
        · simp only [AH.get_up, g0]
    · simp -implicitDefEqProofs only [wpC_seq, rowsA, if_true, if_false, opnd, ofVal, ofVal1, layArgs, Nat.reduceAdd, reduceIte, Nat.reduceEqDiff, reduceCtorEq, rowsB, cellsG, Nat.reduceMul, Sc.len, Ob.len, En.len, Fld.len, fda_ptr o25_0, fda_ptr o25_1, fda_ptr o33_0, fda_ptr o33_1, fda_ptr o33_2, fda_ptr o33_3, fda_ptr o31_0, fda_ptr o31_1, fda_ptr o41_0, fda_ptr o41_1, fda_ptr o45_0, fda_ptr o45_1, fda_rop o25_0, fda_rop o25_1, fda_rop o33_0, fda_rop o33_1, fda_rop o33_2, fda_rop o33_3, fda_rop o31_0, fda_rop o31_1, fda_rop o41_0, fda_rop o41_1, fda_rop o45_0, fda_rop o45_1,
    ld25, ld33, ld41, ld45, ld33r, ld41r, ld45r, ld22, ld23, ld9o, ld9or, ld39o, ld39or, ld9e, ld9er, ld43e, ld43er, ld9f0, ld9f0r, ld9f1, ld9f1r, ld9f2, ld9f2r, ld9f3, ld9f3r, ld9f4, ld9f4r, ld31f, ln22, ln23, ln39, ln43, List.drop_drop, f3, f7, g0, c1, c2]
  · simp -implicitDefEqProofs only [wpC_seq, rowsA, if_true, if_false, opnd, ofVal, ofVal1, layArgs, Nat.reduceAdd, reduceIte, Nat.reduceEqDiff, reduceCtorEq, rowsB, cellsG, Nat.reduceMul, Sc.len, Ob.len, En.len, Fld.len, fda_ptr o25_0, fda_ptr o25_1, fda_ptr o33_0, fda_ptr o33_1, fda_ptr o33_2, fda_ptr o33_3, fda_ptr o31_0, fda_ptr o31_1, fda_ptr o41_0, fda_ptr o41_1, fda_ptr o45_0, fda_ptr o45_1, fda_rop o25_0, fda_rop o25_1, fda_rop o33_0, fda_rop o33_1, fda_rop o33_2, fda_rop o33_3, fda_rop o31_0, fda_rop o31_1, fda_rop o41_0, fda_rop o41_1, fda_rop o45_0, fda_rop o45_1,
    ld25, ld33, ld41, ld45, ld33r, ld41r, ld45r, ld22, ld23, ld9o, ld9or, ld39o, ld39or, ld9e, ld9er, ld43e, ld43er, ld9f0, ld9f0r, ld9f1, ld9f1r, ld9f2, ld9f2r, ld9f3, ld9f3r, ld9f4, ld9f4r, ld31f, ln22, ln23, ln39, ln43, List.drop_drop, f3, f7, g0, c1]
end Go.Proofs.YtcbngkmmmfaaoaaGreatDoor
/-
  SCHEMA AND GEN, S6: what came in reads as a schema.
-/
namespace Go.Proofs.YtcbngkmmmfaaoaaGreatDoor
open Go.RowKit Go.Lib Go.Ac
set_option linter.unusedSimpArgs false
set_option maxRecDepth 100000
section
variable {H : Type} {enc : TypeId × Value → H} {W : World} {spare : Nat → Bool} {held : Bool}

theorem rep_str {fuel : Nat} {cs : List Value} {x : DataW H × List MemPlace} (h : DataW.trod enc Tryz.prog W 0 spare held fuel 9 cs = some x) : ∃ l, Reps (Gh.start W) [.str l] cs := by
  obtain ⟨s, rfl, _⟩ := DataW.trod_string u9 h
  exact ⟨s.data.toList, .cons _ _ _ _ (.str _ s rfl) .nil⟩
theorem rep_bool {fuel : Nat} {cs : List Value} {x : DataW H × List MemPlace} (h : DataW.trod enc Tryz.prog W 0 spare held fuel 4 cs = some x) : ∃ b, Reps (Gh.start W) [.bool b] cs := by
  obtain ⟨b, rfl, _⟩ := DataW.trod_bool u4 h
  exact ⟨b, .cons _ _ _ _ (.bool b) .nil⟩
/-- Cells at a place, as what is read-only. -/
theorem cells_ro {a : Addr} {n : Nat} {cs : List Value} (h : W.cells? 0 a n = some cs) (h0 : 0 < n) : a.spot = none ∧ ∃ C, (Gh.start W).ro a.block = some C ∧ ∀ (i : Nat) (v : Value), cs[i]? = some v → C[a.off + i]? = some v := by
  obtain ⟨_, hl, hc⟩ := World.cells?_some h
  have get : ∀ i, i < n → ∃ v, cs[i]? = some v ∧ W.cell? (a.add i) = some v := fun i hi => by
    have hlt : i < cs.length := by omega
    exact ⟨cs[i], List.getElem?_eq_getElem hlt, by rw [hc i hi, List.getElem?_eq_getElem hlt]⟩
  obtain ⟨v0, _, q0⟩ := get 0 h0
  obtain ⟨hs, C, hC, _⟩ := cell_ro q0
  rw [(addr_add_off a 0).2] at hC
  refine ⟨by simpa [Addr.add] using hs, C, hC, fun i v hv => ?_⟩
  have hi : i < n := by
    have := (List.getElem?_eq_some_iff.1 hv).1
    omega
  obtain ⟨_, C', hC', hcc⟩ := cell_ro (show W.cell? (a.add i) = some v by rw [hc i hi, hv])
  rw [(addr_add_off a i).2] at hC'
  rw [show C' = C from Option.some.inj (hC'.symm.trans hC), (addr_add_off a i).1] at hcc
  exact hcc
theorem add_add (a : Addr) (i j : Nat) : ((a.add i).add j).off = a.off + (i + j) := by
  rw [(addr_add_off _ _).1, (addr_add_off _ _).1]
  omega
/-- A row of things that came in. -/
theorem rep_row {α : Type} {f : α → List PV} {z : Nat} (hz : ∀ x, (f x).length = z) (hz0 : 0 < z) (hcl : ∀ x, PV.cleans (f x) = true) (hon : ∀ x, PV.ones (f x) = true) {t e : TypeId} (ht : Tryz.prog.underlying t = some (.slice e)) (hce : Tryz.prog.cellsOf e = z) (good : α → Prop)
    (he : ∀ (n : Nat) (cs : List Value) (x : DataW H × List MemPlace), DataW.trod enc Tryz.prog W 0 spare held n e cs = some x → ∃ y, good y ∧ Reps (Gh.start W) (f y) cs) {fuel : Nat} {cs : List Value} {x : DataW H × List MemPlace} (h : DataW.trod enc Tryz.prog W 0 spare held fuel t cs = some x) :
    ∃ l : List α, l.length ≤ maxLen ∧ (∀ y ∈ l, good y) ∧ Reps (Gh.start W) [rowV f l] cs := by
  rcases DataW.trod_slice ht h with ⟨rfl, _⟩ | ⟨a, len, cap, elems, rest, n, _, rfl, _, _, hl, hm, hlen, hel, _, _⟩
  · exact ⟨[], Nat.zero_le _, fun y hy => (by cases hy), .cons _ _ _ _ (.ro0 none 0) .nil⟩
  · have each : ∀ k, k ≤ len → ∃ (l : List α) (vs : List Value), l.length = k ∧ (∀ y ∈ l, good y) ∧ Reps (Gh.start W) (flat f l) vs ∧ (0 < k → a.spot = none ∧ ∃ C, (Gh.start W).ro a.block = some C ∧ ∀ (i : Nat) (v : Value), vs[i]? = some v → C[a.off + i]? = some v) := by
      intro k
      induction k with
      | zero => exact fun _ => ⟨[], [], rfl, fun y hy => (by cases hy), .nil, fun q => by omega⟩
      | succ k ih =>
        intro hk
        obtain ⟨l, vs, h1, h2, h3, h4⟩ := ih (by omega)
        have hek := hel k (by omega)
        rw [List.getElem?_eq_getElem (show k < elems.length by omega), Option.bind_eq_some_iff, hce] at hek
        obtain ⟨cs', hcs, hy⟩ := hek
        obtain ⟨y, hgy, hry⟩ := he _ _ _ hy
        obtain ⟨c1, C, c2, c3⟩ := cells_ro hcs hz0
        have hsp : a.spot = none := by
          rcases Nat.eq_zero_or_pos k with e | e
          · subst e
            rw [Nat.zero_mul] at c1
            exact c1
          · exact (h4 e).1
        rw [(addr_add_off a _).2] at c2
        have hfl : (flat f l).length = k * z := by rw [flat_len hz, h1]
        refine ⟨l ++ [y], vs ++ cs', by simp [h1], fun w hw => ?_, ?_, fun _ => ⟨hsp, C, c2, fun i v hv => ?_⟩⟩
        · rcases List.mem_append.1 hw with q | q
          · exact h2 w q
          · rw [List.mem_singleton.1 q]; exact hgy
        · have : flat f (l ++ [y]) = flat f l ++ f y := by rw [flat_app]; simp [flat]
          rw [this]
          exact h3.append hry
        · have hvl : vs.length = k * z := by rw [← h3.length]; exact hfl
          by_cases q : i < vs.length
          · rw [List.getElem?_append_left q] at hv
            have hk0 : 0 < k := by
              rcases Nat.eq_zero_or_pos k with e | e
              · rw [e, Nat.zero_mul] at hvl; omega
              · exact e
            obtain ⟨_, C', d1, d2⟩ := h4 hk0
            rw [show C' = C from Option.some.inj (d1.symm.trans c2)] at d2
            exact d2 i v hv
          · rw [List.getElem?_append_right (by omega)] at hv
            have := c3 _ _ hv
            rw [(addr_add_off a _).1] at this
            rw [← hvl] at this
            rw [show a.off + i = a.off + vs.length + (i - vs.length) by omega]
            exact this
    obtain ⟨l, vs, h1, h2, h3, h4⟩ := each len (Nat.le_refl _)
    refine ⟨l, by omega, h2, ?_⟩
    by_cases q : len = 0
    · subst q
      have : l = [] := List.length_eq_zero_iff.1 h1
      subst this
      exact .cons _ _ _ _ (.ro0 _ _) .nil
    · obtain ⟨c1, C, c2, c3⟩ := h4 (by omega)
      have hcl' : PV.cleans (flat f l) = true := flat_clean hcl l
      have hon' : PV.ones (flat f l) = true := flat_ones hon l
      refine .cons _ _ _ _ ?_ .nil
      unfold rowV
      rw [h1]
      exact .ro _ _ vs C a cap h3 hcl' hon' c2 c1 c3 hl

/-! ### Parts of structs -/
def partAt (P : Program) (t : TypeId) (i : Nat) : Option (TypeId × Nat) := match P.underlying t with
  | some (.struct fs) => (fs[i]?).map fun f => (f.type, f.offset)
  | _ => none
theorem part {t ty : TypeId} {i off z : Nat} (hp : partAt Tryz.prog t i = some (ty, off)) (hz : Tryz.prog.cellsOf ty = z) {fuel : Nat} {cs : List Value} {x : DataW H × List MemPlace} (h : DataW.trod enc Tryz.prog W 0 spare held fuel t cs = some x) :
    cs.length = Tryz.prog.cellsOf t ∧ ∃ n y, DataW.trod enc Tryz.prog W 0 spare held n ty ((cs.drop off).take z) = some y := by
  unfold partAt at hp
  split at hp
  · rename_i fs ht
    obtain ⟨f, hf, e⟩ := Option.map_eq_some_iff.1 hp
    cases e
    obtain ⟨xs, n, _, _, h1, h2, h3⟩ := DataW.trod_struct ht h
    have hi : i < xs.length := by rw [h2]; exact (Array.getElem?_eq_some_iff.1 hf).1
    exact ⟨h1, n, xs[i], by rw [← hz, h3 i f hf, List.getElem?_eq_getElem hi]⟩
  · simp at hp
theorem two {cs : List Value} (h : cs.length = 2) : ∃ a b, cs = [a, b] := by
  match cs, h with
  | [a, b], _ => exact ⟨a, b, rfl⟩
theorem five {cs : List Value} (h : cs.length = 5) : ∃ a b c d e, cs = [a, b, c, d, e] := by
  match cs, h with
  | [a, b, c, d, e], _ => exact ⟨a, b, c, d, e, rfl⟩
theorem rep_fld {fuel : Nat} {cs : List Value} {x : DataW H × List MemPlace} (h : DataW.trod enc Tryz.prog W 0 spare held fuel 33 cs = some x) : ∃ f : Fld, True ∧ Reps (Gh.start W) f.pv cs := by
  obtain ⟨hl, n0, y0, h0⟩ := part (i := 0) (ty := 9) (off := 0) (z := 1) (by kernel_rfl) (by kernel_rfl) h
  obtain ⟨_, n1, y1, h1⟩ := part (i := 1) (ty := 31) (off := 1) (z := 2) (by kernel_rfl) (by kernel_rfl) h
  obtain ⟨_, n2, y2, h2⟩ := part (i := 2) (ty := 4) (off := 3) (z := 1) (by kernel_rfl) (by kernel_rfl) h
  obtain ⟨_, n3, y3, h3⟩ := part (i := 3) (ty := 9) (off := 4) (z := 1) (by kernel_rfl) (by kernel_rfl) h
  obtain ⟨a, b, c, d, e, rfl⟩ := five (hl.trans (by kernel_rfl))
  obtain ⟨_, m0, z0, g0⟩ := part (i := 0) (ty := 9) (off := 0) (z := 1) (by kernel_rfl) (by kernel_rfl) h1
  obtain ⟨_, m1, z1, g1⟩ := part (i := 1) (ty := 9) (off := 1) (z := 1) (by kernel_rfl) (by kernel_rfl) h1
  obtain ⟨s0, r0⟩ := rep_str h0
  obtain ⟨s1, r1⟩ := rep_str g0
  obtain ⟨s2, r2⟩ := rep_str g1
  obtain ⟨s3, r3⟩ := rep_bool h2
  obtain ⟨s4, r4⟩ := rep_str h3
  exact ⟨⟨s0, s1, s2, s3, s4⟩, trivial, ((r0.append r1).append r2).append (r3.append r4)⟩
theorem rep_ob {fuel : Nat} {cs : List Value} {x : DataW H × List MemPlace} (h : DataW.trod enc Tryz.prog W 0 spare held fuel 41 cs = some x) : ∃ o : Ob, o.fs.length ≤ maxLen ∧ Reps (Gh.start W) o.pv cs := by
  obtain ⟨hl, n0, y0, h0⟩ := part (i := 0) (ty := 9) (off := 0) (z := 1) (by kernel_rfl) (by kernel_rfl) h
  obtain ⟨_, n1, y1, h1⟩ := part (i := 1) (ty := 39) (off := 1) (z := 1) (by kernel_rfl) (by kernel_rfl) h
  obtain ⟨a, b, rfl⟩ := two (hl.trans (by kernel_rfl))
  obtain ⟨s0, r0⟩ := rep_str h0
  obtain ⟨l, hl, _, r1⟩ := rep_row (f := Fld.pv) (z := 5) (fun _ => rfl) (by decide) Fld.cl (fun _ => rfl) u39 (by kernel_rfl) (fun _ => True) (fun n cs x q => rep_fld q) h1
  exact ⟨⟨s0, l⟩, hl, r0.append r1⟩
theorem rep_en {fuel : Nat} {cs : List Value} {x : DataW H × List MemPlace} (h : DataW.trod enc Tryz.prog W 0 spare held fuel 45 cs = some x) : ∃ o : En, o.ws.length ≤ maxLen ∧ Reps (Gh.start W) o.pv cs := by
  obtain ⟨hl, n0, y0, h0⟩ := part (i := 0) (ty := 9) (off := 0) (z := 1) (by kernel_rfl) (by kernel_rfl) h
  obtain ⟨_, n1, y1, h1⟩ := part (i := 1) (ty := 43) (off := 1) (z := 1) (by kernel_rfl) (by kernel_rfl) h
  obtain ⟨a, b, rfl⟩ := two (hl.trans (by kernel_rfl))
  obtain ⟨s0, r0⟩ := rep_str h0
  obtain ⟨l, hl, _, r1⟩ := rep_row (f := strV) (z := 1) (fun _ => rfl) (by decide) (fun _ => rfl) (fun _ => rfl) u43 (by kernel_rfl) (fun _ => True) (fun n cs x q => by obtain ⟨s, r⟩ := rep_str q; exact ⟨s, trivial, r⟩) h1
  exact ⟨⟨s0, l⟩, hl, r0.append r1⟩
theorem rep_sc {fuel : Nat} {cs : List Value} {x : DataW H × List MemPlace} (h : DataW.trod enc Tryz.prog W 0 spare held fuel 25 cs = some x) : ∃ s : Sc, s.fits ∧ (∀ e ∈ s.es, e.ws.length ≤ maxLen) ∧ Reps (Gh.start W) s.pv cs := by
  obtain ⟨hl, n0, y0, h0⟩ := part (i := 0) (ty := 22) (off := 0) (z := 1) (by kernel_rfl) (by kernel_rfl) h
  obtain ⟨_, n1, y1, h1⟩ := part (i := 1) (ty := 23) (off := 1) (z := 1) (by kernel_rfl) (by kernel_rfl) h
  obtain ⟨a, b, rfl⟩ := two (hl.trans (by kernel_rfl))
  obtain ⟨os, k0, k1, r0⟩ := rep_row (f := Ob.pv) (z := 2) (fun _ => rfl) (by decide) Ob.cl (fun _ => rfl) u22 (by kernel_rfl) (fun o => o.fs.length ≤ maxLen) (fun n cs x q => rep_ob q) h0
  obtain ⟨es, k2, k3, r1⟩ := rep_row (f := En.pv) (z := 2) (fun _ => rfl) (by decide) En.cl (fun _ => rfl) u23 (by kernel_rfl) (fun o => o.ws.length ≤ maxLen) (fun n cs x q => rep_en q) h1
  exact ⟨⟨os, es⟩, ⟨k0, k2, k1⟩, k3, r0.append r1⟩
end
end Go.Proofs.YtcbngkmmmfaaoaaGreatDoor
