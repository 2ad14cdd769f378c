/-
  JOINED TEXTS (Q19 Q17 Q20): what this law wants beyond the shared ones.
-/
import Derived.Test.YtcbngkmmmfaaoaaGreatDoorM12
import Derived.Test.YtcbngkmmmfaaoaaGreatDoorM6
import Derived.Test.YtcbngkmmmfaaoaaGreatDoorM16
set_option linter.unusedVariables false
set_option linter.unusedSimpArgs false
/-
  SCHEMAS THAT MAY BE, Q19: plain law of SchemaMore.
-/
namespace Go.Proofs.YtcbngkmmmfaaoaaGreatDoor
open Go.RowKit Go.Lib Go.Ac
set_option linter.unusedSimpArgs false
variable {mx : Int}
def fldX : Fld := ⟨[120], [73, 110, 116], [], false, []⟩
def oneX (name : List UInt8) : Ob := ⟨name, [fldX]⟩
theorem idx_none {α : Type} {p : α → Bool} : ∀ {l : List α} {k : Nat}, (∀ x ∈ l, p x = false) → idx p l k = -1
  | [], _, _ => rfl
  | x :: l, k, h => by
    rw [idx, if_neg (by rw [h x (by simp)]; simp), idx_none fun y hy => h y (by simp [hy])]
theorem idx_pos {α : Type} {p : α → Bool} : ∀ {l : List α} {k : Nat}, 0 ≤ idx p l k ↔ ∃ x ∈ l, p x = true
  | [], _ => by simp [idx]
  | x :: l, k => by
    rw [idx]
    split
    · rename_i h
      simp [h]
    · rename_i h
      rw [idx_pos]
      simp [h]
theorem idx_append {α : Type} {p : α → Bool} : ∀ {l m : List α} {k : Nat}, 0 ≤ idx p l k → idx p (l ++ m) k = idx p l k
  | [], _, _, h => by simp [idx] at h
  | x :: l, m, k, h => by
    rw [List.cons_append, idx, idx]
    split
    · rfl
    · rename_i h1
      rw [idx, if_neg h1] at h
      exact idx_append h
theorem objAt_pos {s : Sc} {x : List UInt8} : 0 ≤ objAt s x ↔ x ∈ s.os.map (·.n) := by
  unfold objAt
  rw [idx_pos]
  simp
theorem enmAt_pos {s : Sc} {x : List UInt8} : 0 ≤ enmAt s x ↔ x ∈ s.es.map (·.n) := by
  unfold enmAt
  rw [idx_pos]
  simp
/-- A schema of more objects: what leads somewhere in the first one leads there still. -/
theorem objAt_more {s : Sc} {m : List Ob} {x : List UInt8} (h : 0 ≤ objAt s x) : objAt ⟨s.os ++ m, s.es⟩ x = objAt s x := idx_append h
theorem propB_more {s : Sc} {m : List Ob} {f : Fld} : propB ⟨s.os ++ m, s.es⟩ f = propB s f := rfl
theorem typed_at {s : Sc} {f : Fld} (h : typedB s f = true) : propB s f = true ∨ 0 ≤ objAt s f.t := by
  unfold typedB at h
  cases hp : propB s f with
  | true => exact .inl rfl
  | false =>
    rw [hp] at h
    simp only [Bool.false_eq_true, if_false, Bool.and_eq_true, decide_eq_true_eq] at h
    exact .inr h.1
theorem edge_more {s : Sc} {m : List Ob} {f : Fld} (h : typedB s f = true) : edgeOf ⟨s.os ++ m, s.es⟩ f = edgeOf s f := by
  unfold edgeOf
  rw [propB_more]
  split
  · rfl
  · rename_i hp
    exact objAt_more ((typed_at h).resolve_left hp)
theorem typed_more {s : Sc} {m : List Ob} {f : Fld} (h : typedB s f = true) : typedB ⟨s.os ++ m, s.es⟩ f = true := by
  have h1 := typed_at h
  unfold typedB at h ⊢
  rw [propB_more]
  split
  · rename_i hp
    rw [if_pos hp] at h
    exact h
  · rename_i hp
    rw [if_neg hp] at h
    rw [objAt_more (h1.resolve_left hp)]
    exact h
theorem back_more {s : Sc} {m : List Ob} {o : Ob} {f : Fld} (ht : ∀ o ∈ s.os, ∀ f ∈ o.fs, typedB s f = true) (ho : o ∈ s.os) (hf : f ∈ o.fs) (h : backB s o f = true) : backB ⟨s.os ++ m, s.es⟩ o f = true := by
  unfold backB at h ⊢
  split
  · rfl
  · rename_i hi
    rw [if_neg hi] at h
    rw [edge_more (ht o ho f hf)]
    rcases edge_range s f with he | ⟨j, q, he, hq⟩
    · rw [he, if_pos (by decide)] at h
      cases h
    · rw [he, if_neg (by omega), Int.toNat_natCast, hq] at h
      simp only at h
      rw [he, if_neg (by omega), Int.toNat_natCast]
      have hq' : (s.os ++ m)[j]? = some q := by rw [List.getElem?_append_left (List.getElem?_eq_some_iff.1 hq).1]; exact hq
      simp only [hq']
      rcases place_range q f.inv with hp | ⟨i, g, hp, hg⟩
      · rw [hp, if_pos (by decide)] at h
        cases h
      · rw [hp, if_neg (by omega), Int.toNat_natCast, hg] at h ⊢
        simp only at h ⊢
        rw [edge_more (ht q (List.mem_of_getElem? hq) g (List.mem_of_getElem? hg))]
        exact h
theorem propX (s : Sc) : propB s fldX = true := rfl
theorem enough_more {s : Sc} (name : List UInt8) (h : s.enough) : enoughB ((s.os ++ [oneX name]).map Ob.raw) (s.es.map En.raw) = decide (s.os.length < 8) := by
  by_cases h8 : s.os.length < 8
  · rw [decide_eq_true h8]
    refine of_enough (s := ⟨s.os ++ [oneX name], s.es⟩) ⟨by simp, by simp only [List.length_append, List.length_cons, List.length_nil]; omega, h.2.2.1, fun o ho => ?_, h.2.2.2.2⟩
    rcases List.mem_append.1 ho with q | q
    · exact h.2.2.2.1 o q
    · rw [List.mem_singleton.1 q]
      exact ⟨Nat.succ_pos _, by show 1 ≤ 12; decide⟩
  · rw [decide_eq_false h8]
    simp only [enoughB, betw, List.length_map, List.length_append, List.length_cons, List.length_nil]
    rw [decide_eq_false (show ¬ (s.os.length + (0 + 1) ≤ 8) by omega)]
    simp
theorem enough_one (name : List UInt8) : enoughB ([oneX name].map Ob.raw) (([] : List En).map En.raw) = true := rfl
theorem named_one (name : List UInt8) : namedB mx ⟨[oneX name], []⟩ = (ownB mx name && nmB mx [120] idL) := by
  simp [namedB, oneX, fldX]
theorem named_more {s : Sc} (name : List UInt8) (h : namedB mx s = true) : namedB mx ⟨s.os ++ [oneX name], s.es⟩ = (ownB mx name && nmB mx [120] idL) := by
  simp only [namedB, Bool.and_eq_true] at h
  simp only [namedB, List.all_append, h.1.1, h.1.2, h.2, Bool.true_and, Bool.and_true]
  simp [oneX, fldX]
theorem alone_v (name : List UInt8) : checkV mx ⟨[oneX name], []⟩ = if (ownB mx name && nmB mx [120] idL) = true then 0 else 91 := by
  unfold checkV checkN
  rw [enough_one, named_one]
  have c1 : onceB ⟨[oneX name], []⟩ = true := by simp [onceB, nodupB, oneX, fldX]
  cases ownB mx name && nmB mx [120] idL with
  | false => rfl
  | true =>
    rw [c1]
    rfl
theorem more_8 {s : Sc} (name : List UInt8) (ok : s.ok mx) (h : 8 ≤ s.os.length) : checkV mx ⟨s.os ++ [oneX name], s.es⟩ = 90 := by
  unfold checkV
  rw [enough_more name ok.enough, decide_eq_false (by omega)]
  rfl
theorem more_91 {s : Sc} (name : List UInt8) (ok : s.ok mx) (h : s.os.length < 8) (hn : (ownB mx name && nmB mx [120] idL) = false) : checkV mx ⟨s.os ++ [oneX name], s.es⟩ = 91 := by
  unfold checkV checkN
  rw [enough_more name ok.enough, decide_eq_true h, named_more name ok.named, hn]
  rfl
theorem nodupB_iff {l : List (List UInt8)} : nodupB l = true ↔ l.Nodup := by simp [nodupB]
theorem once_more {s : Sc} (name : List UInt8) (ok : s.ok mx) : onceB ⟨s.os ++ [oneX name], s.es⟩ = !(decide (0 ≤ objAt s name) || decide (0 ≤ enmAt s name)) := by
  have h := ok.once
  simp only [onceB, Bool.and_eq_true, nodupB, decide_eq_true_eq] at h
  obtain ⟨⟨h1, h2⟩, h3⟩ := h
  have e2 : ((s.os ++ [oneX name]).all fun o => nodupB (o.fs.map (·.n))) = true := by
    rw [List.all_append]
    simp only [nodupB, h2, Bool.true_and]
    rfl
  have e1 : nodupB ((s.os ++ [oneX name]).map (·.n) ++ s.es.map (·.n)) = !(decide (0 ≤ objAt s name) || decide (0 ≤ enmAt s name)) := by
    rw [Bool.eq_iff_iff, nodupB_iff, List.map_append]
    simp only [List.map_cons, List.map_nil, objAt_pos, enmAt_pos, Bool.not_eq_true', Bool.or_eq_false_iff, decide_eq_false_iff_not, oneX]
    constructor
    · intro hd
      rw [List.append_assoc, List.nodup_append] at hd
      obtain ⟨_, d2, d3⟩ := hd
      refine ⟨fun q => d3 _ q _ (by simp) rfl, fun q => ?_⟩
      rw [List.cons_append, List.nil_append, List.nodup_cons] at d2
      exact d2.1 q
    · rintro ⟨d1, d2⟩
      rw [List.nodup_append] at h1
      obtain ⟨a1, a2, a3⟩ := h1
      rw [List.append_assoc, List.nodup_append, List.cons_append, List.nil_append, List.nodup_cons]
      refine ⟨a1, ⟨d2, a2⟩, fun a ha b hb e => ?_⟩
      subst e
      rcases List.mem_cons.1 hb with q | q
      · exact d1 (q ▸ ha)
      · exact a3 a ha a q rfl
  simp only [onceB, e2, Bool.and_true]
  rw [e1]
  have e3 : (s.es.all fun e => nodupB e.ws) = true := h3
  rw [e3, Bool.and_true]
theorem more_92 {s : Sc} (name : List UInt8) (ok : s.ok mx) (h : s.os.length < 8) (hn : (ownB mx name && nmB mx [120] idL) = true) (hi : (decide (0 ≤ objAt s name) || decide (0 ≤ enmAt s name)) = true) : checkV mx ⟨s.os ++ [oneX name], s.es⟩ = 92 := by
  unfold checkV checkN
  rw [enough_more name ok.enough, decide_eq_true h, named_more name ok.named, hn, once_more name ok, hi]
  rfl
theorem more_0 {s : Sc} (name : List UInt8) (ok : s.ok mx) (h : s.os.length < 8) (hn : (ownB mx name && nmB mx [120] idL) = true) (hi : (decide (0 ≤ objAt s name) || decide (0 ≤ enmAt s name)) = false) : checkV mx ⟨s.os ++ [oneX name], s.es⟩ = 0 := by
  have he := enough_more name ok.enough
  rw [decide_eq_true h] at he
  refine ok_check he ⟨enough_of he, by rw [named_more name ok.named, hn], by rw [once_more name ok, hi]; rfl, fun o ho f hf => ?_, fun o ho f hf => ?_, fun o ho f hf => ?_⟩
  · rcases List.mem_append.1 ho with q | q
    · exact typed_more (ok.typed o q f hf)
    · rw [List.mem_singleton.1 q] at hf
      rw [List.mem_singleton.1 hf]
      rfl
  · rcases List.mem_append.1 ho with q | q
    · have := ok.search o q f hf
      unfold searchB at this ⊢
      rw [edge_more (ok.typed o q f hf)]
      exact this
    · rw [List.mem_singleton.1 q] at hf
      rw [List.mem_singleton.1 hf]
      rfl
  · rcases List.mem_append.1 ho with q | q
    · exact back_more ok.typed q hf (ok.back o q f hf)
    · rw [List.mem_singleton.1 q] at hf
      rw [List.mem_singleton.1 hf]
      rfl
end Go.Proofs.YtcbngkmmmfaaoaaGreatDoor
/-
  SCHEMAS THAT MAY BE, Q17: SchemaBack.
-/
namespace Go.Proofs.YtcbngkmmmfaaoaaGreatDoor
open Go.RowKit Go.Lib Go.Ac
set_option linter.unusedSimpArgs false
set_option maxRecDepth 100000
variable {mx : Int}
theorem fixed9_c (h : AH) (fr : Nat) : CR Tryz.prog (globM mx) md (.fn 14) [] h fr (.val (.bool true)) := pure_any rfl rfl ⟨2000, fixed09_run⟩ h fr
def invO (s : Sc) (k : Nat) (F : Fr) (h : AH) : Prop := ∃ i : Nat, k + i = s.os.length ∧ F.at 1 = .ptr 0 2 0 ∧ F.at 3 = .int .i64 i ∧ h.get 0 = some (.cells 25 0 false s.pv)
def invI (s : Sc) (i n : Nat) (k : Nat) (F : Fr) (h : AH) : Prop := ∃ j : Nat, k + j = n ∧ F.at 1 = .ptr 0 2 0 ∧ F.at 3 = .int .i64 i ∧ F.at 4 = .int .i64 j ∧ h.get 0 = some (.cells 25 0 false s.pv)
theorem schemaBack_c {s : Sc} (hs : s.fits) (hm : s.small) (h : AH) (fr : Nat) : CR Tryz.prog (globM mx) md (.fn 5) [.agg s.pv] h fr (.val (.bool true)) := by
  refine CR.plain (rs := [.tmp 2]) Tryz.func5 rfl rfl rfl rfl rfl rfl rfl ?_ h fr
  by_cases c1 : checkV mx s = 0
  · have ok := check_ok c1
    simp -implicitDefEqProofs only [wpC_seq, rowsA, if_true, if_false, opnd, ofVal, ofVal1, layArgs, Nat.reduceAdd, reduceIte, Nat.reduceEqDiff, reduceCtorEq, rowsB, cellsG, Nat.reduceMul, Sc.len, Ob.len, En.len, Fld.len, fda_ptr o25_0, fda_ptr o25_1, fda_ptr o33_0, fda_ptr o33_1, fda_ptr o33_2, fda_ptr o33_3, fda_ptr o31_0, fda_ptr o31_1, fda_ptr o41_0, fda_ptr o41_1, fda_ptr o45_0, fda_ptr o45_1, fda_rop o25_0, fda_rop o25_1, fda_rop o33_0, fda_rop o33_1, fda_rop o33_2, fda_rop o33_3, fda_rop o31_0, fda_rop o31_1, fda_rop o41_0, fda_rop o41_1, fda_rop o45_0, fda_rop o45_1,
    ld25, ld33, ld41, ld45, ld33r, ld41r, ld45r, ld22, ld23, ld9o, ld9or, ld39o, ld39or, ld9e, ld9er, ld43e, ld43er, ld9f0, ld9f0r, ld9f1, ld9f1r, ld9f2, ld9f2r, ld9f3, ld9f3r, ld9f4, ld9f4r, ld31f, ln22, ln23, ln39, ln43, List.drop_drop, goO_known fixed9_c, ld25 s, goO_known (check_s hs hm), c1]
    refine wpC_loop (invO s) (k := s.os.length) ⟨0, by omega, ?_, ?_, ?_⟩ ?_
    · simp only [Fr.at_set, Nat.reduceEqDiff, reduceIte, reduceCtorEq]; try rfl
    · simp only [Fr.at_set, Nat.reduceEqDiff, reduceIte, reduceCtorEq]; rfl
    · simp only [AH.get_set, AH.get_up, if_true]
    rintro k F h1 ⟨i, ik, f1, f3, g⟩
    cases k with
    | zero =>
      have c2 : ¬ ((i : Int) < (s.os.length : Int)) := by omega
      simp -implicitDefEqProofs only [wpC_seq, rowsA, if_true, if_false, opnd, ofVal, ofVal1, layArgs, Nat.reduceAdd, reduceIte, Nat.reduceEqDiff, reduceCtorEq, rowsB, cellsG, Nat.reduceMul, Sc.len, Ob.len, En.len, Fld.len, fda_ptr o25_0, fda_ptr o25_1, fda_ptr o33_0, fda_ptr o33_1, fda_ptr o33_2, fda_ptr o33_3, fda_ptr o31_0, fda_ptr o31_1, fda_ptr o41_0, fda_ptr o41_1, fda_ptr o45_0, fda_ptr o45_1, fda_rop o25_0, fda_rop o25_1, fda_rop o33_0, fda_rop o33_1, fda_rop o33_2, fda_rop o33_3, fda_rop o31_0, fda_rop o31_1, fda_rop o41_0, fda_rop o41_1, fda_rop o45_0, fda_rop o45_1,
    ld25, ld33, ld41, ld45, ld33r, ld41r, ld45r, ld22, ld23, ld9o, ld9or, ld39o, ld39or, ld9e, ld9er, ld43e, ld43er, ld9f0, ld9f0r, ld9f1, ld9f1r, ld9f2, ld9f2r, ld9f3, ld9f3r, ld9f4, ld9f4r, ld31f, ln22, ln23, ln39, ln43, List.drop_drop, f1, f3, g, c2]
    | succ k =>
      have c2 : (i : Int) < (s.os.length : Int) := by omega
      obtain ⟨o, ho⟩ : ∃ o, s.os[i]? = some o := ⟨s.os[i], List.getElem?_eq_getElem (by omega)⟩
      obtain ⟨r, hr⟩ := ix22 (l := s.os) (i := (i : Int)) (by omega) (by rw [Int.toNat_natCast]; exact ho)
      have hob := obj_c (mx := mx) hs o.n
      rw [ok.objs ho] at hob
      simp -implicitDefEqProofs only [wpC_seq, rowsA, if_true, if_false, opnd, ofVal, ofVal1, layArgs, Nat.reduceAdd, reduceIte, Nat.reduceEqDiff, reduceCtorEq, rowsB, cellsG, Nat.reduceMul, Sc.len, Ob.len, En.len, Fld.len, fda_ptr o25_0, fda_ptr o25_1, fda_ptr o33_0, fda_ptr o33_1, fda_ptr o33_2, fda_ptr o33_3, fda_ptr o31_0, fda_ptr o31_1, fda_ptr o41_0, fda_ptr o41_1, fda_ptr o45_0, fda_ptr o45_1, fda_rop o25_0, fda_rop o25_1, fda_rop o33_0, fda_rop o33_1, fda_rop o33_2, fda_rop o33_3, fda_rop o31_0, fda_rop o31_1, fda_rop o41_0, fda_rop o41_1, fda_rop o45_0, fda_rop o45_1,
    ld25, ld33, ld41, ld45, ld33r, ld41r, ld45r, ld22, ld23, ld9o, ld9or, ld39o, ld39or, ld9e, ld9er, ld43e, ld43er, ld9f0, ld9f0r, ld9f1, ld9f1r, ld9f2, ld9f2r, ld9f3, ld9f3r, ld9f4, ld9f4r, ld31f, ln22, ln23, ln39, ln43, List.drop_drop, f1, f3, g, c2, hr, ld25 s, goD_known hob]
      refine wpC_loop (invI s i o.fs.length) (k := o.fs.length) ⟨0, by omega, ?_, ?_, ?_, ?_⟩ ?_
      · simp only [Fr.at_set, Nat.reduceEqDiff, reduceIte, reduceCtorEq, f1]
      · simp only [Fr.at_set, Nat.reduceEqDiff, reduceIte, reduceCtorEq, f3]
      · simp only [Fr.at_set, Nat.reduceEqDiff, reduceIte, reduceCtorEq]; rfl
      · simp only [AH.get_up]; exact g
      clear f1 f3 g
      rintro k2 F h2 ⟨j, jk, f1, f3, f4, g⟩
      cases k2 with
      | zero =>
        have c3 : ¬ ((j : Int) < (o.fs.length : Int)) := by omega
        have w := IntWalk.i64_in ((i : Int) + 1) (by have := hs.1; omega)
        simp -implicitDefEqProofs only [wpC_seq, rowsA, if_true, if_false, opnd, ofVal, ofVal1, layArgs, Nat.reduceAdd, reduceIte, Nat.reduceEqDiff, reduceCtorEq, rowsB, cellsG, Nat.reduceMul, Sc.len, Ob.len, En.len, Fld.len, fda_ptr o25_0, fda_ptr o25_1, fda_ptr o33_0, fda_ptr o33_1, fda_ptr o33_2, fda_ptr o33_3, fda_ptr o31_0, fda_ptr o31_1, fda_ptr o41_0, fda_ptr o41_1, fda_ptr o45_0, fda_ptr o45_1, fda_rop o25_0, fda_rop o25_1, fda_rop o33_0, fda_rop o33_1, fda_rop o33_2, fda_rop o33_3, fda_rop o31_0, fda_rop o31_1, fda_rop o41_0, fda_rop o41_1, fda_rop o45_0, fda_rop o45_1,
    ld25, ld33, ld41, ld45, ld33r, ld41r, ld45r, ld22, ld23, ld9o, ld9or, ld39o, ld39or, ld9e, ld9er, ld43e, ld43er, ld9f0, ld9f0r, ld9f1, ld9f1r, ld9f2, ld9f2r, ld9f3, ld9f3r, ld9f4, ld9f4r, ld31f, ln22, ln23, ln39, ln43, List.drop_drop, f1, f3, f4, g, hr, c3, w]
        refine ⟨k, by omega, i + 1, by omega, ?_, ?_, ?_⟩
        · simp only [Fr.at_set, Nat.reduceEqDiff, reduceIte, reduceCtorEq, f1]
        · simp only [Fr.at_set, Nat.reduceEqDiff, reduceIte, reduceCtorEq]; rfl
        · simp only [AH.get_up]; exact g
      | succ k2 =>
        have c3 : (j : Int) < (o.fs.length : Int) := by omega
        obtain ⟨f, hf⟩ : ∃ f, o.fs[j]? = some f := ⟨o.fs[j], List.getElem?_eq_getElem (by omega)⟩
        obtain ⟨r2, hr2⟩ := ix39 (l := o.fs) (i := (j : Int)) (by omega) (by rw [Int.toNat_natCast]; exact hf)
        simp -implicitDefEqProofs only [wpC_seq, rowsA, if_true, if_false, opnd, ofVal, ofVal1, layArgs, Nat.reduceAdd, reduceIte, Nat.reduceEqDiff, reduceCtorEq, rowsB, cellsG, Nat.reduceMul, Sc.len, Ob.len, En.len, Fld.len, fda_ptr o25_0, fda_ptr o25_1, fda_ptr o33_0, fda_ptr o33_1, fda_ptr o33_2, fda_ptr o33_3, fda_ptr o31_0, fda_ptr o31_1, fda_ptr o41_0, fda_ptr o41_1, fda_ptr o45_0, fda_ptr o45_1, fda_rop o25_0, fda_rop o25_1, fda_rop o33_0, fda_rop o33_1, fda_rop o33_2, fda_rop o33_3, fda_rop o31_0, fda_rop o31_1, fda_rop o41_0, fda_rop o41_1, fda_rop o45_0, fda_rop o45_1,
    ld25, ld33, ld41, ld45, ld33r, ld41r, ld45r, ld22, ld23, ld9o, ld9or, ld39o, ld39or, ld9e, ld9er, ld43e, ld43er, ld9f0, ld9f0r, ld9f1, ld9f1r, ld9f2, ld9f2r, ld9f3, ld9f3r, ld9f4, ld9f4r, ld31f, ln22, ln23, ln39, ln43, List.drop_drop, f1, f3, f4, g, hr, hr2, c3, al33, sz33, st33, ld25 s, ld33, goD_known (edge_c hs f), goD_known (back_c hs i j)]
        have hom := List.mem_of_getElem? ho
        have hfm := List.mem_of_getElem? hf
        have hpr := ok.edge_prop hom hfm
        have w2 := IntWalk.i64_in ((j : Int) + 1) (by have := hs.2.2 o hom; omega)
        have fin : ∀ (F' : Fr) (h' : AH), F'.at 1 = .ptr 0 2 0 → F'.at 3 = .int .i64 i → F'.at 4 = .int .i64 ((j : Int) + 1) → h'.get 0 = some (.cells 25 0 false s.pv) → ∃ k', k' < k2 + 1 ∧ invI s i o.fs.length k' F' h' := fun F' h' a1 a2 a3 a4 => ⟨k2, by omega, j + 1, by omega, a1, a2, a3, a4⟩
        have bk : f.inv = [] → backOf s i j = -1 := by
          intro e
          unfold backOf
          rw [if_neg (by omega), Int.toNat_natCast, ho]
          simp only
          rw [if_neg (by omega), Int.toNat_natCast, hf]
          simp only [e, if_true]
          split <;> rfl
        have i0 : f.inv = [] → propB s f = true ∨ 0 ≤ edgeOf s f := fun _ => by cases hp : propB s f with
          | true => exact .inl rfl
          | false =>
            rw [hp] at hpr
            exact .inr (by have := hpr.symm; simp at this; omega)
        have lm1 : ¬ ((0 : Int) ≤ -1) := by decide
        have neg : propB s f = true → edgeOf s f < 0 ∧ f.inv = [] := fun hp => by
          rw [hp] at hpr
          have h1 : edgeOf s f < 0 := by simpa using hpr.symm
          refine ⟨h1, ?_⟩
          apply Classical.byContradiction
          intro ci
          obtain ⟨j1, m1, q1, q2, q3⟩ := ok.back_back ho hf ci
          omega
        have pos : propB s f = false → ¬ (edgeOf s f < 0) := fun hp => by
          rw [hp] at hpr
          simpa using hpr.symm
        cases cs : scalar f.t with
        | true =>
          obtain ⟨c4, ci⟩ := neg (by simp [propB, cs])
          simp -implicitDefEqProofs only [wpC_seq, rowsA, if_true, if_false, opnd, ofVal, ofVal1, layArgs, Nat.reduceAdd, reduceIte, Nat.reduceEqDiff, reduceCtorEq, rowsB, cellsG, Nat.reduceMul, Sc.len, Ob.len, En.len, Fld.len, fda_ptr o25_0, fda_ptr o25_1, fda_ptr o33_0, fda_ptr o33_1, fda_ptr o33_2, fda_ptr o33_3, fda_ptr o31_0, fda_ptr o31_1, fda_ptr o41_0, fda_ptr o41_1, fda_ptr o45_0, fda_ptr o45_1, fda_rop o25_0, fda_rop o25_1, fda_rop o33_0, fda_rop o33_1, fda_rop o33_2, fda_rop o33_3, fda_rop o31_0, fda_rop o31_1, fda_rop o41_0, fda_rop o41_1, fda_rop o45_0, fda_rop o45_1,
    ld25, ld33, ld41, ld45, ld33r, ld41r, ld45r, ld22, ld23, ld9o, ld9or, ld39o, ld39or, ld9e, ld9er, ld43e, ld43er, ld9f0, ld9f0r, ld9f1, ld9f1r, ld9f2, ld9f2r, ld9f3, ld9f3r, ld9f4, ld9f4r, ld31f, ln22, ln23, ln39, ln43, List.drop_drop, f1, f3, f4, g, goO_known (scalar_c f.t), goO_known (enm_c hs f.t), lm1, w2, bin_bneq u4, Bool.bne_true, Bool.bne_false, bne_self_eq_false, cs, c4, bk ci, ci]
          refine fin _ _ ?_ ?_ ?_ ?_
          · simp only [Fr.at_set, Nat.reduceEqDiff, reduceIte, reduceCtorEq, f1]
          · simp only [Fr.at_set, Nat.reduceEqDiff, reduceIte, reduceCtorEq, f3]
          · simp only [Fr.at_set, Nat.reduceEqDiff, reduceIte, reduceCtorEq]
          · simp only [AH.get_set, AH.get_up, g]
            rw [if_neg (by omega), if_neg (by omega)]
        | false =>
          by_cases ce : 0 ≤ enmAt s f.t
          · obtain ⟨c4, ci⟩ := neg (by simp [propB, cs, ce])
            simp -implicitDefEqProofs only [wpC_seq, rowsA, if_true, if_false, opnd, ofVal, ofVal1, layArgs, Nat.reduceAdd, reduceIte, Nat.reduceEqDiff, reduceCtorEq, rowsB, cellsG, Nat.reduceMul, Sc.len, Ob.len, En.len, Fld.len, fda_ptr o25_0, fda_ptr o25_1, fda_ptr o33_0, fda_ptr o33_1, fda_ptr o33_2, fda_ptr o33_3, fda_ptr o31_0, fda_ptr o31_1, fda_ptr o41_0, fda_ptr o41_1, fda_ptr o45_0, fda_ptr o45_1, fda_rop o25_0, fda_rop o25_1, fda_rop o33_0, fda_rop o33_1, fda_rop o33_2, fda_rop o33_3, fda_rop o31_0, fda_rop o31_1, fda_rop o41_0, fda_rop o41_1, fda_rop o45_0, fda_rop o45_1,
    ld25, ld33, ld41, ld45, ld33r, ld41r, ld45r, ld22, ld23, ld9o, ld9or, ld39o, ld39or, ld9e, ld9er, ld43e, ld43er, ld9f0, ld9f0r, ld9f1, ld9f1r, ld9f2, ld9f2r, ld9f3, ld9f3r, ld9f4, ld9f4r, ld31f, ln22, ln23, ln39, ln43, List.drop_drop, f1, f3, f4, g, goO_known (scalar_c f.t), goO_known (enm_c hs f.t), lm1, w2, bin_bneq u4, Bool.bne_true, Bool.bne_false, bne_self_eq_false, cs, ce, c4, bk ci, ci]
            refine fin _ _ ?_ ?_ ?_ ?_
            · simp only [Fr.at_set, Nat.reduceEqDiff, reduceIte, reduceCtorEq, f1]
            · simp only [Fr.at_set, Nat.reduceEqDiff, reduceIte, reduceCtorEq, f3]
            · simp only [Fr.at_set, Nat.reduceEqDiff, reduceIte, reduceCtorEq]
            · simp only [AH.get_set, AH.get_up, g]
              rw [if_neg (by omega), if_neg (by omega)]
          · have c4 := pos (by simp [propB, cs, ce])
            by_cases ci : f.inv = []
            · skip
              simp -implicitDefEqProofs only [wpC_seq, rowsA, if_true, if_false, opnd, ofVal, ofVal1, layArgs, Nat.reduceAdd, reduceIte, Nat.reduceEqDiff, reduceCtorEq, rowsB, cellsG, Nat.reduceMul, Sc.len, Ob.len, En.len, Fld.len, fda_ptr o25_0, fda_ptr o25_1, fda_ptr o33_0, fda_ptr o33_1, fda_ptr o33_2, fda_ptr o33_3, fda_ptr o31_0, fda_ptr o31_1, fda_ptr o41_0, fda_ptr o41_1, fda_ptr o45_0, fda_ptr o45_1, fda_rop o25_0, fda_rop o25_1, fda_rop o33_0, fda_rop o33_1, fda_rop o33_2, fda_rop o33_3, fda_rop o31_0, fda_rop o31_1, fda_rop o41_0, fda_rop o41_1, fda_rop o45_0, fda_rop o45_1,
    ld25, ld33, ld41, ld45, ld33r, ld41r, ld45r, ld22, ld23, ld9o, ld9or, ld39o, ld39or, ld9e, ld9er, ld43e, ld43er, ld9f0, ld9f0r, ld9f1, ld9f1r, ld9f2, ld9f2r, ld9f3, ld9f3r, ld9f4, ld9f4r, ld31f, ln22, ln23, ln39, ln43, List.drop_drop, f1, f3, f4, g, goO_known (scalar_c f.t), goO_known (enm_c hs f.t), lm1, w2, bin_bneq u4, Bool.bne_true, Bool.bne_false, bne_self_eq_false, cs, ce, c4, bk ci, ci]
              refine fin _ _ ?_ ?_ ?_ ?_
              · simp only [Fr.at_set, Nat.reduceEqDiff, reduceIte, reduceCtorEq, f1]
              · simp only [Fr.at_set, Nat.reduceEqDiff, reduceIte, reduceCtorEq, f3]
              · simp only [Fr.at_set, Nat.reduceEqDiff, reduceIte, reduceCtorEq]
              · simp only [AH.get_set, AH.get_up, g]
                rw [if_neg (by omega), if_neg (by omega)]
            · obtain ⟨j1, m1, q1, q2, q3⟩ := ok.back_back ho hf ci
              have lm2 : (0 : Int) ≤ (m1 : Int) := by omega
              have lm3 : ¬ ((j1 : Int) < 0) := by omega
              rw [q1] at c4
              simp -implicitDefEqProofs only [wpC_seq, rowsA, if_true, if_false, opnd, ofVal, ofVal1, layArgs, Nat.reduceAdd, reduceIte, Nat.reduceEqDiff, reduceCtorEq, rowsB, cellsG, Nat.reduceMul, Sc.len, Ob.len, En.len, Fld.len, fda_ptr o25_0, fda_ptr o25_1, fda_ptr o33_0, fda_ptr o33_1, fda_ptr o33_2, fda_ptr o33_3, fda_ptr o31_0, fda_ptr o31_1, fda_ptr o41_0, fda_ptr o41_1, fda_ptr o45_0, fda_ptr o45_1, fda_rop o25_0, fda_rop o25_1, fda_rop o33_0, fda_rop o33_1, fda_rop o33_2, fda_rop o33_3, fda_rop o31_0, fda_rop o31_1, fda_rop o41_0, fda_rop o41_1, fda_rop o45_0, fda_rop o45_1,
    ld25, ld33, ld41, ld45, ld33r, ld41r, ld45r, ld22, ld23, ld9o, ld9or, ld39o, ld39or, ld9e, ld9er, ld43e, ld43er, ld9f0, ld9f0r, ld9f1, ld9f1r, ld9f2, ld9f2r, ld9f3, ld9f3r, ld9f4, ld9f4r, ld31f, ln22, ln23, ln39, ln43, List.drop_drop, f1, f3, f4, g, goO_known (scalar_c f.t), goO_known (enm_c hs f.t), lm1, w2, bin_bneq u4, Bool.bne_true, Bool.bne_false, bne_self_eq_false, cs, ce, lm3, ci, q1, q2, lm2, goO_known (back_c hs (j1 : Int) (m1 : Int)), q3]
              refine fin _ _ ?_ ?_ ?_ ?_
              · simp only [Fr.at_set, Nat.reduceEqDiff, reduceIte, reduceCtorEq, f1]
              · simp only [Fr.at_set, Nat.reduceEqDiff, reduceIte, reduceCtorEq, f3]
              · simp only [Fr.at_set, Nat.reduceEqDiff, reduceIte, reduceCtorEq]
              · simp only [AH.get_set, AH.get_up, g]
                rw [if_neg (by omega), if_neg (by omega)]
  · simp -implicitDefEqProofs only [wpC_seq, rowsA, if_true, if_false, opnd, ofVal, ofVal1, layArgs, Nat.reduceAdd, reduceIte, Nat.reduceEqDiff, reduceCtorEq, rowsB, cellsG, Nat.reduceMul, Sc.len, Ob.len, En.len, Fld.len, fda_ptr o25_0, fda_ptr o25_1, fda_ptr o33_0, fda_ptr o33_1, fda_ptr o33_2, fda_ptr o33_3, fda_ptr o31_0, fda_ptr o31_1, fda_ptr o41_0, fda_ptr o41_1, fda_ptr o45_0, fda_ptr o45_1, fda_rop o25_0, fda_rop o25_1, fda_rop o33_0, fda_rop o33_1, fda_rop o33_2, fda_rop o33_3, fda_rop o31_0, fda_rop o31_1, fda_rop o41_0, fda_rop o41_1, fda_rop o45_0, fda_rop o45_1,
    ld25, ld33, ld41, ld45, ld33r, ld41r, ld45r, ld22, ld23, ld9o, ld9or, ld39o, ld39or, ld9e, ld9er, ld43e, ld43er, ld9f0, ld9f0r, ld9f1, ld9f1r, ld9f2, ld9f2r, ld9f3, ld9f3r, ld9f4, ld9f4r, ld31f, ln22, ln23, ln39, ln43, List.drop_drop, goO_known fixed9_c, ld25 s, goO_known (check_s hs hm), c1]
end Go.Proofs.YtcbngkmmmfaaoaaGreatDoor
/-
  SCHEMAS THAT MAY BE, Q20: SchemaMore.
-/
namespace Go.Proofs.YtcbngkmmmfaaoaaGreatDoor
open Go.RowKit Go.Lib Go.Ac
set_option linter.unusedSimpArgs false
set_option maxRecDepth 100000
variable {mx : Int}
theorem bld31 (a : List UInt8) : bldO Tryz.prog 31 [(0, .str a)] = some (.q (.agg [.str a, .str []])) := by kernel_rfl
theorem bld33 (a b c : List UInt8) : bldO Tryz.prog 33 [(0, .str a), (1, .agg [.str b, .str c])] = some (.q (.agg [.str a, .str b, .str c, .bool false, .str []])) := by kernel_rfl
theorem bd39_1 (fr : Nat) (a b c e : List UInt8) (d : Bool) : buildO Tryz.prog fr 39 1 [(0, .agg [.str a, .str b, .str c, .bool d, .str e])] = some (.w (.ow fr 5 0 1) fr (.cells 33 5 false [.str a, .str b, .str c, .bool d, .str e])) := by kernel_rfl
theorem bld41 (a : List UInt8) (id x y z : Nat) : bldO Tryz.prog 41 [(0, .str a), (1, .ow id x y z)] = some (.q (.agg [.str a, .ow id x y z])) := by kernel_rfl
theorem bd22_1 (fr : Nat) (a : List UInt8) (id x y z : Nat) : buildO Tryz.prog fr 22 1 [(0, .agg [.str a, .ow id x y z])] = some (.w (.ow fr 2 0 1) fr (.cells 41 2 false [.str a, .ow id x y z])) := by kernel_rfl
theorem bd22_0 (fr : Nat) : buildO Tryz.prog fr 22 0 [] = some (.w .els fr (.cells 41 2 false [])) := by kernel_rfl
theorem bld25 (id x y z : Nat) : bldO Tryz.prog 25 [(0, .ow id x y z)] = some (.q (.agg [.ow id x y z, .nls])) := by kernel_rfl
theorem i41 : (Tryz.prog.info? 41).map (fun i => (i.size, i.bytes, i.zero.map (·.cells.size))) = some (2, 40, some 2) := by kernel_rfl
theorem i33 : (Tryz.prog.info? 33).map (fun i => (i.size, i.bytes, i.zero.map (·.cells.size))) = some (5, 72, some 5) := by kernel_rfl
theorem i45 : (Tryz.prog.info? 45).map (fun i => (i.size, i.bytes, i.zero.map (·.cells.size))) = some (2, 40, some 2) := by kernel_rfl
theorem z41 : tyZero Tryz.prog 41 = some [.str [], .nls] := by kernel_rfl
theorem z25 : tyZero Tryz.prog 25 = some [.nls, .nls] := by kernel_rfl
theorem z45 : tyZero Tryz.prog 45 = some [.str [], .nls] := by kernel_rfl
section
variable {ρ : Operand → PV} {h : AH} {fr : Nat} {d : Option Tmp} {ty : TypeId} {ps : String} {af : Array Edge} {gu : Option (Nat × Bool)}
theorem al41 : aop Tryz.prog ρ h fr ⟨d, .alloc 41, ty, ps, af, gu⟩ = some (.w (.ptr fr 2 0) fr (.cells 41 0 false [.str [], .nls])) := by
  rw [aop_alloc, z41]
  rfl
theorem al25 : aop Tryz.prog ρ h fr ⟨d, .alloc 25, ty, ps, af, gu⟩ = some (.w (.ptr fr 2 0) fr (.cells 25 0 false [.nls, .nls])) := by
  rw [aop_alloc, z25]
  rfl
theorem al45 : aop Tryz.prog ρ h fr ⟨d, .alloc 45, ty, ps, af, gu⟩ = some (.w (.ptr fr 2 0) fr (.cells 45 0 false [.str [], .nls])) := by
  rw [aop_alloc, z45]
  rfl
end
theorem st41 (a : List UInt8) (v : PV) (id : Nat) (c : List PV) (hc : c.length = 2) : stoG id 2 0 (.agg [.str a, v]) 2 (some (.cells 41 0 false c)) = some (.w .undef id (.cells 41 0 false [.str a, v])) := stoG_all id 2 0 41 (.agg [.str a, v]) c hc rfl rfl
theorem ap22n {h : AH} {fr : Nat} (l : List Ob) (h0 : 0 < l.length) (hb : l.length ≤ 1000000) : appO Tryz.prog h fr [.els, rowV Ob.pv l] [22, 22] = some (.w (.ow fr (l.length * 2) 0 l.length) fr (.cells 41 2 false (flat Ob.pv l))) :=
  ap_new u22 i41 (by decide) (.inr rfl) (cellR_ro (flat_len (f := Ob.pv) (fun _ => rfl) l)) h0 (by omega) (by omega)
theorem goD_eq {P : Program} {G : Glob} {md : FuncId → Md} {ops : Array Oper} {base i : Nat} {rest : List Oper} {d : Option Tmp} {f : Fr} {h : AH} {lg : List (Nat × Nat)} {Q : OX → Prop} {v : PV} {id : Nat} {ob : AO} (e : id = base + i) : goD P G md ops base i rest d f h lg Q (some (.w v id ob)) = wpD P G md ops base (i + 1) rest (putA f d v) (h.set (base + i) ob) lg Q := by
  subst e
  exact goD_new ..
theorem st25 (s : Sc) (id : Nat) : stoG id 2 0 (.agg s.pv) 2 (some (.cells 25 0 false [.nls, .nls])) = some (.w .undef id (.cells 25 0 false s.pv)) := stoG_all id 2 0 25 (.agg s.pv) [.nls, .nls] rfl rfl rfl
theorem st25a (s : Sc) (id a b c d : Nat) : stoG id 2 0 (.ow a b c d) 1 (some (.cells 25 0 false s.pv)) = some (.w .undef id (.cells 25 0 false [.ow a b c d, rowV En.pv s.es])) := rfl
theorem fits_one (name : List UInt8) : (⟨[oneX name], []⟩ : Sc).fits := ⟨by simp, by simp, fun o ho => by rw [List.mem_singleton.1 ho]; show 1 ≤ _; decide⟩
theorem small_one {name : List UInt8} (hn : name.length ≤ 140737488355328) : (⟨[oneX name], []⟩ : Sc).small :=
  ⟨fun o ho => by
    rw [List.mem_singleton.1 ho]
    refine ⟨Nat.le_trans hn (by decide), fun f hf => ?_⟩
    rw [List.mem_singleton.1 hf]
    show 1 ≤ _
    decide, fun e he => by cases he⟩
theorem fits_more {s : Sc} (name : List UInt8) (hs : s.fits) (h : s.os.length ≤ 8) : (⟨s.os ++ [oneX name], s.es⟩ : Sc).fits :=
  ⟨by simp only [List.length_append, List.length_cons, List.length_nil]; omega, hs.2.1, fun o ho => by
    rcases List.mem_append.1 ho with q | q
    · exact hs.2.2 o q
    · rw [List.mem_singleton.1 q]
      show 1 ≤ _
      decide⟩
theorem small_more {s : Sc} {name : List UInt8} (hm : s.small) (hn : name.length ≤ 140737488355328) : (⟨s.os ++ [oneX name], s.es⟩ : Sc).small :=
  ⟨fun o ho => by
    rcases List.mem_append.1 ho with q | q
    · exact hm.1 o q
    · exact (small_one hn).1 o q, hm.2⟩
theorem schemaMore_c {s : Sc} (hs : s.fits) (hm : s.small) (name : List UInt8) (hn : name.length ≤ 140737488355328) (h : AH) (fr : Nat) : CR Tryz.prog (globM mx) md (.fn 6) [.agg s.pv, .str name] h fr (.val (.bool true)) := by
  refine CR.plain (rs := [.tmp 4]) Tryz.func6 rfl rfl rfl rfl rfl rfl rfl ?_ h fr
  by_cases c1 : checkV mx s = 0
  · have ok := check_ok c1
    simp -implicitDefEqProofs only [wpC_seq, rowsA, if_true, if_false, opnd, ofVal, ofVal1, layArgs, Nat.reduceAdd, reduceIte, Nat.reduceEqDiff, reduceCtorEq, rowsB, cellsG, Nat.reduceMul, Sc.len, Ob.len, En.len, Fld.len, fda_ptr o25_0, fda_ptr o25_1, fda_ptr o33_0, fda_ptr o33_1, fda_ptr o33_2, fda_ptr o33_3, fda_ptr o31_0, fda_ptr o31_1, fda_ptr o41_0, fda_ptr o41_1, fda_ptr o45_0, fda_ptr o45_1, fda_rop o25_0, fda_rop o25_1, fda_rop o33_0, fda_rop o33_1, fda_rop o33_2, fda_rop o33_3, fda_rop o31_0, fda_rop o31_1, fda_rop o41_0, fda_rop o41_1, fda_rop o45_0, fda_rop o45_1,
    ld25, ld33, ld41, ld45, ld33r, ld41r, ld45r, ld22, ld23, ld9o, ld9or, ld39o, ld39or, ld9e, ld9er, ld43e, ld43er, ld9f0, ld9f0r, ld9f1, ld9f1r, ld9f2, ld9f2r, ld9f3, ld9f3r, ld9f4, ld9f4r, ld31f, ln22, ln23, ln39, ln43, List.drop_drop, goO_known fixed9_c, ld25 s, goO_known (check_s hs hm), c1, bld31, bld33, bd39_1, bld41, al41, sz41, st41 name (.ow _ 5 0 1), load_agg ag41 sz41 (c := [.str name, .ow _ 5 0 1]) (Nat.le_refl 2), bd22_1, bld25]
    have kA := check_v (mx := mx) (s := ⟨[oneX name], []⟩) (ve := .nls) (.inr ⟨rfl, .inl rfl⟩) (fits_one name) (small_one hn)
    refine goO_val (via_rd (p := fun _ => True) (args' := [.agg (scV ⟨[oneX name], []⟩ .nls)]) Tryz.func15 rfl rfl rfl rfl ?_ kA) ?_
    · refine ⟨Rd.agg ⟨Rd.row (n := 1) (sz := 2) (c := [.str name, .ow 12 5 0 1]) (c' := Ob.pv (oneX name)) trivial (by simp only [AH.get_set, if_true]; rfl) rfl ⟨Rd.of_clean rfl, Rd.row (n := 1) (sz := 5) (c := fldX.pv) trivial (by simp only [AH.get_set, AH.get_up, Nat.reduceEqDiff, if_true, if_false]; rfl) rfl (RdL.of_clean rfl), trivial⟩, Rd.of_clean rfl, trivial⟩ rfl, trivial⟩
    intro v h2 hq
    generalize hG : wpO _ _ _ _ _ _ _ _ _ _ _ = G
    obtain ⟨rfl, z⟩ := hq
    have n2 : h2.next = 21 := z.next.trans (by simp only [AH.next_set, AH.next_up]; rfl)
    obtain ⟨z0, g0⟩ := z.cells (id := 0) (by simp only [AH.get_set, AH.get_up, Nat.reduceEqDiff, if_true, if_false]; rfl)
    obtain ⟨z12, g12⟩ := z.cells (id := 12) (by simp only [AH.get_set, AH.get_up, Nat.reduceEqDiff, if_true, if_false]; rfl)
    obtain ⟨z14, g14⟩ := z.cells (id := 14) (by simp only [AH.get_set, AH.get_up, Nat.reduceEqDiff, if_true, if_false]; rfl)
    subst hG
    simp -implicitDefEqProofs only [wpC_seq, rowsA, if_true, if_false, opnd, ofVal, ofVal1, layArgs, Nat.reduceAdd, reduceIte, Nat.reduceEqDiff, reduceCtorEq, rowsB, cellsG, Nat.reduceMul, Sc.len, Ob.len, En.len, Fld.len, fda_ptr o25_0, fda_ptr o25_1, fda_ptr o33_0, fda_ptr o33_1, fda_ptr o33_2, fda_ptr o33_3, fda_ptr o31_0, fda_ptr o31_1, fda_ptr o41_0, fda_ptr o41_1, fda_ptr o45_0, fda_ptr o45_1, fda_rop o25_0, fda_rop o25_1, fda_rop o33_0, fda_rop o33_1, fda_rop o33_2, fda_rop o33_3, fda_rop o31_0, fda_rop o31_1, fda_rop o41_0, fda_rop o41_1, fda_rop o45_0, fda_rop o45_1,
    ld25, ld33, ld41, ld45, ld33r, ld41r, ld45r, ld22, ld23, ld9o, ld9or, ld39o, ld39or, ld9e, ld9er, ld43e, ld43er, ld9f0, ld9f0r, ld9f1, ld9f1r, ld9f2, ld9f2r, ld9f3, ld9f3r, ld9f4, ld9f4r, ld31f, ln22, ln23, ln39, ln43, List.drop_drop, n2, g0, g12, g14, al25, sz25, st25 s, goD_eq, bd22_0, ap22n s.os ok.enough.1 (by have := ok.enough.2.1; omega), load_agg ag41 sz41 (c := [.str name, .ow 12 5 0 1]) (Nat.le_refl 2), bd22_1]
    have e22 := ok.enough.2.1
    rw [ap_more (P := Tryz.prog) (sz := 2) (id := 27) (m := s.os.length) (d := flat Ob.pv s.os) (n := 1) (x := .ow 29 2 0 1) (xs := [.str name, .ow 12 5 0 1]) u22 i41 (by decide) (by simp only [AH.get_set, AH.get_up, Nat.reduceEqDiff, if_true, if_false]) (flat_len (f := Ob.pv) (fun _ => rfl) s.os) (cellR_ow (n := 1) (by simp only [AH.get_set, AH.get_up, Nat.reduceEqDiff, if_true, if_false]; rfl) rfl) (by decide) (by omega) (by omega)]
    rw [goD_st (by decide) (by kernel_rfl)]
    simp -implicitDefEqProofs only [wpC_seq, rowsA, if_true, if_false, opnd, ofVal, ofVal1, layArgs, Nat.reduceAdd, reduceIte, Nat.reduceEqDiff, reduceCtorEq, rowsB, cellsG, Nat.reduceMul, Sc.len, Ob.len, En.len, Fld.len, fda_ptr o25_0, fda_ptr o25_1, fda_ptr o33_0, fda_ptr o33_1, fda_ptr o33_2, fda_ptr o33_3, fda_ptr o31_0, fda_ptr o31_1, fda_ptr o41_0, fda_ptr o41_1, fda_ptr o45_0, fda_ptr o45_1, fda_rop o25_0, fda_rop o25_1, fda_rop o33_0, fda_rop o33_1, fda_rop o33_2, fda_rop o33_3, fda_rop o31_0, fda_rop o31_1, fda_rop o41_0, fda_rop o41_1, fda_rop o45_0, fda_rop o45_1,
    ld25, ld33, ld41, ld45, ld33r, ld41r, ld45r, ld22, ld23, ld9o, ld9or, ld39o, ld39or, ld9e, ld9er, ld43e, ld43er, ld9f0, ld9f0r, ld9f1, ld9f1r, ld9f2, ld9f2r, ld9f3, ld9f3r, ld9f4, ld9f4r, ld31f, ln22, ln23, ln39, ln43, List.drop_drop, sz22, st25a]
    rw [goD_st (by decide) (by kernel_rfl)]
    have ldT := fun (id a b c : Nat) => load_agg (c := [.ow id a b c, rowV En.pv s.es]) ag25 sz25 (Nat.le_refl 2)
    simp -implicitDefEqProofs only [wpC_seq, rowsA, if_true, if_false, opnd, ofVal, ofVal1, layArgs, Nat.reduceAdd, reduceIte, Nat.reduceEqDiff, reduceCtorEq, rowsB, cellsG, Nat.reduceMul, Sc.len, Ob.len, En.len, Fld.len, fda_ptr o25_0, fda_ptr o25_1, fda_ptr o33_0, fda_ptr o33_1, fda_ptr o33_2, fda_ptr o33_3, fda_ptr o31_0, fda_ptr o31_1, fda_ptr o41_0, fda_ptr o41_1, fda_ptr o45_0, fda_ptr o45_1, fda_rop o25_0, fda_rop o25_1, fda_rop o33_0, fda_rop o33_1, fda_rop o33_2, fda_rop o33_3, fda_rop o31_0, fda_rop o31_1, fda_rop o41_0, fda_rop o41_1, fda_rop o45_0, fda_rop o45_1,
    ld25, ld33, ld41, ld45, ld33r, ld41r, ld45r, ld22, ld23, ld9o, ld9or, ld39o, ld39or, ld9e, ld9er, ld43e, ld43er, ld9f0, ld9f0r, ld9f1, ld9f1r, ld9f2, ld9f2r, ld9f3, ld9f3r, ld9f4, ld9f4r, ld31f, ln22, ln23, ln39, ln43, List.drop_drop, ldT]
    have kT := check_s (mx := mx) (s := ⟨s.os ++ [oneX name], s.es⟩) (fits_more name hs e22) (small_more hm hn)
    have eT : Sc.pv ⟨s.os ++ [oneX name], s.es⟩ = [.ro (flat Ob.pv s.os ++ Ob.pv (oneX name)) (s.os.length + 1), rowV En.pv s.es] := by simp [Sc.pv, rowV, flat_app, flat]
    rw [eT] at kT
    refine goO_val (via_rd (p := fun _ => True) Tryz.func15 rfl rfl rfl rfl ?_ kT) ?_
    · refine ⟨Rd.agg ⟨Rd.row (n := s.os.length + 1) (sz := 2) (c := flat Ob.pv s.os ++ [.str name, .ow 12 5 0 1]) trivial (by simp only [AH.get_set, AH.get_up, Nat.reduceEqDiff, if_true, if_false]; rfl) (by rw [List.length_append, flat_len (f := Ob.pv) (z := 2) (fun _ => rfl), Nat.add_mul]; rfl) ((RdL.of_clean (flat_clean Ob.cl s.os)).append ⟨Rd.of_clean rfl, Rd.row (n := 1) (sz := 5) (c := fldX.pv) trivial (by simp only [AH.get_set, AH.get_up, Nat.reduceEqDiff, if_true, if_false]; exact g12) rfl (RdL.of_clean rfl), trivial⟩), Rd.of_clean rfl, trivial⟩ rfl, trivial⟩
    intro v h3 hq
    generalize hG : wpO _ _ _ _ _ _ _ _ _ _ _ = G
    obtain ⟨rfl, y⟩ := hq
    obtain ⟨y0, g0'⟩ := y.cells (id := 0) (by simp only [AH.get_set, AH.get_up, Nat.reduceEqDiff, if_true, if_false]; exact g0)
    have a1 := alone_v (mx := mx) name
    subst hG
    by_cases c8 : 8 ≤ s.os.length
    · have c8' : (8 : Int) ≤ (s.os.length : Int) := by omega
      have e1 := more_8 name ok c8
      simp -implicitDefEqProofs only [wpC_seq, rowsA, if_true, if_false, opnd, ofVal, ofVal1, layArgs, Nat.reduceAdd, reduceIte, Nat.reduceEqDiff, reduceCtorEq, rowsB, cellsG, Nat.reduceMul, Sc.len, Ob.len, En.len, Fld.len, fda_ptr o25_0, fda_ptr o25_1, fda_ptr o33_0, fda_ptr o33_1, fda_ptr o33_2, fda_ptr o33_3, fda_ptr o31_0, fda_ptr o31_1, fda_ptr o41_0, fda_ptr o41_1, fda_ptr o45_0, fda_ptr o45_1, fda_rop o25_0, fda_rop o25_1, fda_rop o33_0, fda_rop o33_1, fda_rop o33_2, fda_rop o33_3, fda_rop o31_0, fda_rop o31_1, fda_rop o41_0, fda_rop o41_1, fda_rop o45_0, fda_rop o45_1,
    ld25, ld33, ld41, ld45, ld33r, ld41r, ld45r, ld22, ld23, ld9o, ld9or, ld39o, ld39or, ld9e, ld9er, ld43e, ld43er, ld9f0, ld9f0r, ld9f1, ld9f1r, ld9f2, ld9f2r, ld9f3, ld9f3r, ld9f4, ld9f4r, ld31f, ln22, ln23, ln39, ln43, List.drop_drop, g0', c8', e1]
    · have c8' : ¬ (8 : Int) ≤ (s.os.length : Int) := by omega
      have c8n : s.os.length < 8 := by omega
      cases cn : (ownB mx name && nmB mx [120] idL) with
      | false =>
        rw [cn, if_neg (by decide)] at a1
        have e1 := more_91 name ok c8n cn
        have c91 : ¬ ((91 : Int) = 0) := by decide
        simp -implicitDefEqProofs only [wpC_seq, rowsA, if_true, if_false, opnd, ofVal, ofVal1, layArgs, Nat.reduceAdd, reduceIte, Nat.reduceEqDiff, reduceCtorEq, rowsB, cellsG, Nat.reduceMul, Sc.len, Ob.len, En.len, Fld.len, fda_ptr o25_0, fda_ptr o25_1, fda_ptr o33_0, fda_ptr o33_1, fda_ptr o33_2, fda_ptr o33_3, fda_ptr o31_0, fda_ptr o31_1, fda_ptr o41_0, fda_ptr o41_1, fda_ptr o45_0, fda_ptr o45_1, fda_rop o25_0, fda_rop o25_1, fda_rop o33_0, fda_rop o33_1, fda_rop o33_2, fda_rop o33_3, fda_rop o31_0, fda_rop o31_1, fda_rop o41_0, fda_rop o41_1, fda_rop o45_0, fda_rop o45_1,
    ld25, ld33, ld41, ld45, ld33r, ld41r, ld45r, ld22, ld23, ld9o, ld9or, ld39o, ld39or, ld9e, ld9er, ld43e, ld43er, ld9f0, ld9f0r, ld9f1, ld9f1r, ld9f2, ld9f2r, ld9f3, ld9f3r, ld9f4, ld9f4r, ld31f, ln22, ln23, ln39, ln43, List.drop_drop, g0', c8', e1, a1, c91]
      | true =>
        rw [cn, if_pos rfl] at a1
        have k17 := obj_c (mx := mx) hs name
        have k19 := enm_c (mx := mx) hs name
        have m92 := more_92 name ok c8n cn
        have m0 := more_0 name ok c8n cn
        by_cases d1 : 0 ≤ objAt s name
        · have e1 := m92 (by simp [d1])
          simp -implicitDefEqProofs only [wpC_seq, rowsA, if_true, if_false, opnd, ofVal, ofVal1, layArgs, Nat.reduceAdd, reduceIte, Nat.reduceEqDiff, reduceCtorEq, rowsB, cellsG, Nat.reduceMul, Sc.len, Ob.len, En.len, Fld.len, fda_ptr o25_0, fda_ptr o25_1, fda_ptr o33_0, fda_ptr o33_1, fda_ptr o33_2, fda_ptr o33_3, fda_ptr o31_0, fda_ptr o31_1, fda_ptr o41_0, fda_ptr o41_1, fda_ptr o45_0, fda_ptr o45_1, fda_rop o25_0, fda_rop o25_1, fda_rop o33_0, fda_rop o33_1, fda_rop o33_2, fda_rop o33_3, fda_rop o31_0, fda_rop o31_1, fda_rop o41_0, fda_rop o41_1, fda_rop o45_0, fda_rop o45_1,
    ld25, ld33, ld41, ld45, ld33r, ld41r, ld45r, ld22, ld23, ld9o, ld9or, ld39o, ld39or, ld9e, ld9er, ld43e, ld43er, ld9f0, ld9f0r, ld9f1, ld9f1r, ld9f2, ld9f2r, ld9f3, ld9f3r, ld9f4, ld9f4r, ld31f, ln22, ln23, ln39, ln43, List.drop_drop, g0', c8', e1, a1, ld25 s, goO_known k17, d1]
        · by_cases d2 : 0 ≤ enmAt s name
          · have e1 := m92 (by simp [d2])
            simp -implicitDefEqProofs only [wpC_seq, rowsA, if_true, if_false, opnd, ofVal, ofVal1, layArgs, Nat.reduceAdd, reduceIte, Nat.reduceEqDiff, reduceCtorEq, rowsB, cellsG, Nat.reduceMul, Sc.len, Ob.len, En.len, Fld.len, fda_ptr o25_0, fda_ptr o25_1, fda_ptr o33_0, fda_ptr o33_1, fda_ptr o33_2, fda_ptr o33_3, fda_ptr o31_0, fda_ptr o31_1, fda_ptr o41_0, fda_ptr o41_1, fda_ptr o45_0, fda_ptr o45_1, fda_rop o25_0, fda_rop o25_1, fda_rop o33_0, fda_rop o33_1, fda_rop o33_2, fda_rop o33_3, fda_rop o31_0, fda_rop o31_1, fda_rop o41_0, fda_rop o41_1, fda_rop o45_0, fda_rop o45_1,
    ld25, ld33, ld41, ld45, ld33r, ld41r, ld45r, ld22, ld23, ld9o, ld9or, ld39o, ld39or, ld9e, ld9er, ld43e, ld43er, ld9f0, ld9f0r, ld9f1, ld9f1r, ld9f2, ld9f2r, ld9f3, ld9f3r, ld9f4, ld9f4r, ld31f, ln22, ln23, ln39, ln43, List.drop_drop, g0', c8', e1, a1, ld25 s, goO_known k17, goO_known k19, d1, d2]
          · have e1 := m0 (by simp [d1, d2])
            simp -implicitDefEqProofs only [wpC_seq, rowsA, if_true, if_false, opnd, ofVal, ofVal1, layArgs, Nat.reduceAdd, reduceIte, Nat.reduceEqDiff, reduceCtorEq, rowsB, cellsG, Nat.reduceMul, Sc.len, Ob.len, En.len, Fld.len, fda_ptr o25_0, fda_ptr o25_1, fda_ptr o33_0, fda_ptr o33_1, fda_ptr o33_2, fda_ptr o33_3, fda_ptr o31_0, fda_ptr o31_1, fda_ptr o41_0, fda_ptr o41_1, fda_ptr o45_0, fda_ptr o45_1, fda_rop o25_0, fda_rop o25_1, fda_rop o33_0, fda_rop o33_1, fda_rop o33_2, fda_rop o33_3, fda_rop o31_0, fda_rop o31_1, fda_rop o41_0, fda_rop o41_1, fda_rop o45_0, fda_rop o45_1,
    ld25, ld33, ld41, ld45, ld33r, ld41r, ld45r, ld22, ld23, ld9o, ld9or, ld39o, ld39or, ld9e, ld9er, ld43e, ld43er, ld9f0, ld9f0r, ld9f1, ld9f1r, ld9f2, ld9f2r, ld9f3, ld9f3r, ld9f4, ld9f4r, ld31f, ln22, ln23, ln39, ln43, List.drop_drop, g0', c8', e1, a1, ld25 s, goO_known k17, goO_known k19, d1, d2]
  · simp -implicitDefEqProofs only [wpC_seq, rowsA, if_true, if_false, opnd, ofVal, ofVal1, layArgs, Nat.reduceAdd, reduceIte, Nat.reduceEqDiff, reduceCtorEq, rowsB, cellsG, Nat.reduceMul, Sc.len, Ob.len, En.len, Fld.len, fda_ptr o25_0, fda_ptr o25_1, fda_ptr o33_0, fda_ptr o33_1, fda_ptr o33_2, fda_ptr o33_3, fda_ptr o31_0, fda_ptr o31_1, fda_ptr o41_0, fda_ptr o41_1, fda_ptr o45_0, fda_ptr o45_1, fda_rop o25_0, fda_rop o25_1, fda_rop o33_0, fda_rop o33_1, fda_rop o33_2, fda_rop o33_3, fda_rop o31_0, fda_rop o31_1, fda_rop o41_0, fda_rop o41_1, fda_rop o45_0, fda_rop o45_1,
    ld25, ld33, ld41, ld45, ld33r, ld41r, ld45r, ld22, ld23, ld9o, ld9or, ld39o, ld39or, ld9e, ld9er, ld43e, ld43er, ld9f0, ld9f0r, ld9f1, ld9f1r, ld9f2, ld9f2r, ld9f3, ld9f3r, ld9f4, ld9f4r, ld31f, ln22, ln23, ln39, ln43, List.drop_drop, goO_known fixed9_c, ld25 s, goO_known (check_s hs hm), c1]
end Go.Proofs.YtcbngkmmmfaaoaaGreatDoor
