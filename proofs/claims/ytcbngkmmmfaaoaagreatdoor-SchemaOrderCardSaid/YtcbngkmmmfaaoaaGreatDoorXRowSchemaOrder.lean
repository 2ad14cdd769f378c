/-
  JOINED TEXTS (Q19 Q21 Q17 Q20 Q22 Q23 Q24): what this law wants beyond the shared ones.
-/
import Derived.Test.YtcbngkmmmfaaoaaGreatDoorM12
import Derived.Test.YtcbngkmmmfaaoaaGreatDoorM6
import Derived.Test.YtcbngkmmmfaaoaaGreatDoorM16
set_option linter.unusedVariables false
set_option linter.unusedSimpArgs false
/-
  SCHEMAS THAT MAY BE, Q19: plain law of SchemaMore.
-/
namespace Go.Proofs.YtcbngkmmmfaaoaaGreatDoor
open Go.RowKit Go.Lib Go.Ac
set_option linter.unusedSimpArgs false
variable {mx : Int}
def fldX : Fld := ⟨[120], [73, 110, 116], [], false, []⟩
def oneX (name : List UInt8) : Ob := ⟨name, [fldX]⟩
theorem idx_none {α : Type} {p : α → Bool} : ∀ {l : List α} {k : Nat}, (∀ x ∈ l, p x = false) → idx p l k = -1
  | [], _, _ => rfl
  | x :: l, k, h => by
    rw [idx, if_neg (by rw [h x (by simp)]; simp), idx_none fun y hy => h y (by simp [hy])]
theorem idx_pos {α : Type} {p : α → Bool} : ∀ {l : List α} {k : Nat}, 0 ≤ idx p l k ↔ ∃ x ∈ l, p x = true
  | [], _ => by simp [idx]
  | x :: l, k => by
    rw [idx]
    split
    · rename_i h
      simp [h]
    · rename_i h
      rw [idx_pos]
      simp [h]
theorem idx_append {α : Type} {p : α → Bool} : ∀ {l m : List α} {k : Nat}, 0 ≤ idx p l k → idx p (l ++ m) k = idx p l k
  | [], _, _, h => by simp [idx] at h
  | x :: l, m, k, h => by
    rw [List.cons_append, idx, idx]
    split
    · rfl
    · rename_i h1
      rw [idx, if_neg h1] at h
      exact idx_append h
theorem objAt_pos {s : Sc} {x : List UInt8} : 0 ≤ objAt s x ↔ x ∈ s.os.map (·.n) := by
  unfold objAt
  rw [idx_pos]
  simp
theorem enmAt_pos {s : Sc} {x : List UInt8} : 0 ≤ enmAt s x ↔ x ∈ s.es.map (·.n) := by
  unfold enmAt
  rw [idx_pos]
  simp
/-- A schema of more objects: what leads somewhere in the first one leads there still. -/
theorem objAt_more {s : Sc} {m : List Ob} {x : List UInt8} (h : 0 ≤ objAt s x) : objAt ⟨s.os ++ m, s.es⟩ x = objAt s x := idx_append h
theorem propB_more {s : Sc} {m : List Ob} {f : Fld} : propB ⟨s.os ++ m, s.es⟩ f = propB s f := rfl
theorem typed_at {s : Sc} {f : Fld} (h : typedB s f = true) : propB s f = true ∨ 0 ≤ objAt s f.t := by
  unfold typedB at h
  cases hp : propB s f with
  | true => exact .inl rfl
  | false =>
    rw [hp] at h
    simp only [Bool.false_eq_true, if_false, Bool.and_eq_true, decide_eq_true_eq] at h
    exact .inr h.1
theorem edge_more {s : Sc} {m : List Ob} {f : Fld} (h : typedB s f = true) : edgeOf ⟨s.os ++ m, s.es⟩ f = edgeOf s f := by
  unfold edgeOf
  rw [propB_more]
  split
  · rfl
  · rename_i hp
    exact objAt_more ((typed_at h).resolve_left hp)
theorem typed_more {s : Sc} {m : List Ob} {f : Fld} (h : typedB s f = true) : typedB ⟨s.os ++ m, s.es⟩ f = true := by
  have h1 := typed_at h
  unfold typedB at h ⊢
  rw [propB_more]
  split
  · rename_i hp
    rw [if_pos hp] at h
    exact h
  · rename_i hp
    rw [if_neg hp] at h
    rw [objAt_more (h1.resolve_left hp)]
    exact h
theorem back_more {s : Sc} {m : List Ob} {o : Ob} {f : Fld} (ht : ∀ o ∈ s.os, ∀ f ∈ o.fs, typedB s f = true) (ho : o ∈ s.os) (hf : f ∈ o.fs) (h : backB s o f = true) : backB ⟨s.os ++ m, s.es⟩ o f = true := by
  unfold backB at h ⊢
  split
  · rfl
  · rename_i hi
    rw [if_neg hi] at h
    rw [edge_more (ht o ho f hf)]
    rcases edge_range s f with he | ⟨j, q, he, hq⟩
    · rw [he, if_pos (by decide)] at h
      cases h
    · rw [he, if_neg (by omega), Int.toNat_natCast, hq] at h
      simp only at h
      rw [he, if_neg (by omega), Int.toNat_natCast]
      have hq' : (s.os ++ m)[j]? = some q := by rw [List.getElem?_append_left (List.getElem?_eq_some_iff.1 hq).1]; exact hq
      simp only [hq']
      rcases place_range q f.inv with hp | ⟨i, g, hp, hg⟩
      · rw [hp, if_pos (by decide)] at h
        cases h
      · rw [hp, if_neg (by omega), Int.toNat_natCast, hg] at h ⊢
        simp only at h ⊢
        rw [edge_more (ht q (List.mem_of_getElem? hq) g (List.mem_of_getElem? hg))]
        exact h
theorem propX (s : Sc) : propB s fldX = true := rfl
theorem enough_more {s : Sc} (name : List UInt8) (h : s.enough) : enoughB ((s.os ++ [oneX name]).map Ob.raw) (s.es.map En.raw) = decide (s.os.length < 8) := by
  by_cases h8 : s.os.length < 8
  · rw [decide_eq_true h8]
    refine of_enough (s := ⟨s.os ++ [oneX name], s.es⟩) ⟨by simp, by simp only [List.length_append, List.length_cons, List.length_nil]; omega, h.2.2.1, fun o ho => ?_, h.2.2.2.2⟩
    rcases List.mem_append.1 ho with q | q
    · exact h.2.2.2.1 o q
    · rw [List.mem_singleton.1 q]
      exact ⟨Nat.succ_pos _, by show 1 ≤ 12; decide⟩
  · rw [decide_eq_false h8]
    simp only [enoughB, betw, List.length_map, List.length_append, List.length_cons, List.length_nil]
    rw [decide_eq_false (show ¬ (s.os.length + (0 + 1) ≤ 8) by omega)]
    simp
theorem enough_one (name : List UInt8) : enoughB ([oneX name].map Ob.raw) (([] : List En).map En.raw) = true := rfl
theorem named_one (name : List UInt8) : namedB mx ⟨[oneX name], []⟩ = (ownB mx name && nmB mx [120] idL) := by
  simp [namedB, oneX, fldX]
theorem named_more {s : Sc} (name : List UInt8) (h : namedB mx s = true) : namedB mx ⟨s.os ++ [oneX name], s.es⟩ = (ownB mx name && nmB mx [120] idL) := by
  simp only [namedB, Bool.and_eq_true] at h
  simp only [namedB, List.all_append, h.1.1, h.1.2, h.2, Bool.true_and, Bool.and_true]
  simp [oneX, fldX]
theorem alone_v (name : List UInt8) : checkV mx ⟨[oneX name], []⟩ = if (ownB mx name && nmB mx [120] idL) = true then 0 else 91 := by
  unfold checkV checkN
  rw [enough_one, named_one]
  have c1 : onceB ⟨[oneX name], []⟩ = true := by simp [onceB, nodupB, oneX, fldX]
  cases ownB mx name && nmB mx [120] idL with
  | false => rfl
  | true =>
    rw [c1]
    rfl
theorem more_8 {s : Sc} (name : List UInt8) (ok : s.ok mx) (h : 8 ≤ s.os.length) : checkV mx ⟨s.os ++ [oneX name], s.es⟩ = 90 := by
  unfold checkV
  rw [enough_more name ok.enough, decide_eq_false (by omega)]
  rfl
theorem more_91 {s : Sc} (name : List UInt8) (ok : s.ok mx) (h : s.os.length < 8) (hn : (ownB mx name && nmB mx [120] idL) = false) : checkV mx ⟨s.os ++ [oneX name], s.es⟩ = 91 := by
  unfold checkV checkN
  rw [enough_more name ok.enough, decide_eq_true h, named_more name ok.named, hn]
  rfl
theorem nodupB_iff {l : List (List UInt8)} : nodupB l = true ↔ l.Nodup := by simp [nodupB]
theorem once_more {s : Sc} (name : List UInt8) (ok : s.ok mx) : onceB ⟨s.os ++ [oneX name], s.es⟩ = !(decide (0 ≤ objAt s name) || decide (0 ≤ enmAt s name)) := by
  have h := ok.once
  simp only [onceB, Bool.and_eq_true, nodupB, decide_eq_true_eq] at h
  obtain ⟨⟨h1, h2⟩, h3⟩ := h
  have e2 : ((s.os ++ [oneX name]).all fun o => nodupB (o.fs.map (·.n))) = true := by
    rw [List.all_append]
    simp only [nodupB, h2, Bool.true_and]
    rfl
  have e1 : nodupB ((s.os ++ [oneX name]).map (·.n) ++ s.es.map (·.n)) = !(decide (0 ≤ objAt s name) || decide (0 ≤ enmAt s name)) := by
    rw [Bool.eq_iff_iff, nodupB_iff, List.map_append]
    simp only [List.map_cons, List.map_nil, objAt_pos, enmAt_pos, Bool.not_eq_true', Bool.or_eq_false_iff, decide_eq_false_iff_not, oneX]
    constructor
    · intro hd
      rw [List.append_assoc, List.nodup_append] at hd
      obtain ⟨_, d2, d3⟩ := hd
      refine ⟨fun q => d3 _ q _ (by simp) rfl, fun q => ?_⟩
      rw [List.cons_append, List.nil_append, List.nodup_cons] at d2
      exact d2.1 q
    · rintro ⟨d1, d2⟩
      rw [List.nodup_append] at h1
      obtain ⟨a1, a2, a3⟩ := h1
      rw [List.append_assoc, List.nodup_append, List.cons_append, List.nil_append, List.nodup_cons]
      refine ⟨a1, ⟨d2, a2⟩, fun a ha b hb e => ?_⟩
      subst e
      rcases List.mem_cons.1 hb with q | q
      · exact d1 (q ▸ ha)
      · exact a3 a ha a q rfl
  simp only [onceB, e2, Bool.and_true]
  rw [e1]
  have e3 : (s.es.all fun e => nodupB e.ws) = true := h3
  rw [e3, Bool.and_true]
theorem more_92 {s : Sc} (name : List UInt8) (ok : s.ok mx) (h : s.os.length < 8) (hn : (ownB mx name && nmB mx [120] idL) = true) (hi : (decide (0 ≤ objAt s name) || decide (0 ≤ enmAt s name)) = true) : checkV mx ⟨s.os ++ [oneX name], s.es⟩ = 92 := by
  unfold checkV checkN
  rw [enough_more name ok.enough, decide_eq_true h, named_more name ok.named, hn, once_more name ok, hi]
  rfl
theorem more_0 {s : Sc} (name : List UInt8) (ok : s.ok mx) (h : s.os.length < 8) (hn : (ownB mx name && nmB mx [120] idL) = true) (hi : (decide (0 ≤ objAt s name) || decide (0 ≤ enmAt s name)) = false) : checkV mx ⟨s.os ++ [oneX name], s.es⟩ = 0 := by
  have he := enough_more name ok.enough
  rw [decide_eq_true h] at he
  refine ok_check he ⟨enough_of he, by rw [named_more name ok.named, hn], by rw [once_more name ok, hi]; rfl, fun o ho f hf => ?_, fun o ho f hf => ?_, fun o ho f hf => ?_⟩
  · rcases List.mem_append.1 ho with q | q
    · exact typed_more (ok.typed o q f hf)
    · rw [List.mem_singleton.1 q] at hf
      rw [List.mem_singleton.1 hf]
      rfl
  · rcases List.mem_append.1 ho with q | q
    · have := ok.search o q f hf
      unfold searchB at this ⊢
      rw [edge_more (ok.typed o q f hf)]
      exact this
    · rw [List.mem_singleton.1 q] at hf
      rw [List.mem_singleton.1 hf]
      rfl
  · rcases List.mem_append.1 ho with q | q
    · exact back_more ok.typed q hf (ok.back o q f hf)
    · rw [List.mem_singleton.1 q] at hf
      rw [List.mem_singleton.1 hf]
      rfl
end Go.Proofs.YtcbngkmmmfaaoaaGreatDoor
/-
  SCHEMAS THAT MAY BE, Q21: what a schema that may be is, told by what is in it alone; the same in another order; the same without an object.
-/
namespace Go.Proofs.YtcbngkmmmfaaoaaGreatDoor
open Go.RowKit Go.Lib Go.Ac
set_option linter.unusedSimpArgs false
variable {mx : Int}
theorem propB_iff {s : Sc} {f : Fld} : propB s f = true ↔ scalar f.t = true ∨ f.t ∈ s.es.map (·.n) := by
  rw [← enmAt_pos]
  simp [propB]
theorem edge_iff {s : Sc} {f : Fld} : 0 ≤ edgeOf s f ↔ propB s f = false ∧ f.t ∈ s.os.map (·.n) := by
  unfold edgeOf
  cases propB s f with
  | true => simp
  | false => simp [objAt_pos]
theorem typedB_iff {s : Sc} {f : Fld} : typedB s f = true ↔ (propB s f = true ∧ (f.w = [] ∨ f.w = [33])) ∨ (propB s f = false ∧ f.t ∈ s.os.map (·.n) ∧ (f.w = [] ∨ f.w = [33, 91, 33])) := by
  rw [← objAt_pos]
  unfold typedB
  cases propB s f with
  | true => simp
  | false => simp
theorem searchB_iff {s : Sc} {f : Fld} : searchB s f = true ↔ (f.s = true → ¬ 0 ≤ edgeOf s f) := by
  unfold searchB
  cases f.s <;> simp
theorem objAt_mem {s : Sc} (hn : (s.os.map (·.n)).Nodup) {q : Ob} (hq : q ∈ s.os) : ∃ i : Nat, s.os[i]? = some q ∧ objAt s q.n = (i : Int) := by
  obtain ⟨i, hi⟩ := List.getElem?_of_mem hq
  exact ⟨i, hi, nodup_idx (fun o : Ob => o.n) hn hi⟩
theorem placeAt_mem {q : Ob} (hn : (q.fs.map (·.n)).Nodup) {g : Fld} (hg : g ∈ q.fs) : ∃ i : Nat, q.fs[i]? = some g ∧ placeAt q g.n = (i : Int) := by
  obtain ⟨i, hi⟩ := List.getElem?_of_mem hg
  exact ⟨i, hi, nodup_idx (fun o : Fld => o.n) hn hi⟩
theorem objAt_get {s : Sc} {x : List UInt8} {i : Nat} {q : Ob} (h : objAt s x = (i : Int)) (hq : s.os[i]? = some q) : q.n = x := by
  unfold objAt at h
  rcases idx_range (fun o : Ob => decide (o.n = x)) s.os 0 with h' | ⟨j, y, h1, h2, h3⟩
  · rw [h'] at h
    omega
  · rw [h1] at h
    have : j = i := by omega
    subst this
    rw [h2] at hq
    cases hq
    simpa using h3
theorem placeAt_get {o : Ob} {x : List UInt8} {i : Nat} {q : Fld} (h : placeAt o x = (i : Int)) (hq : o.fs[i]? = some q) : q.n = x := by
  unfold placeAt at h
  rcases idx_range (fun o : Fld => decide (o.n = x)) o.fs 0 with h' | ⟨j, y, h1, h2, h3⟩
  · rw [h'] at h
    omega
  · rw [h1] at h
    have : j = i := by omega
    subst this
    rw [h2] at hq
    cases hq
    simpa using h3
/-- What leads back, by what is there alone. -/
def BackM (s : Sc) (o : Ob) (f : Fld) : Prop := f.inv = [] ∨ ∃ q ∈ s.os, ∃ g ∈ q.fs, propB s f = false ∧ q.n = f.t ∧ g.n = f.inv ∧ 0 ≤ edgeOf s g ∧ g.t = o.n ∧ g.inv = f.n
theorem backB_iff {s : Sc} {o : Ob} {f : Fld} (hn : (s.os.map (·.n)).Nodup) (hf : ∀ q ∈ s.os, (q.fs.map (·.n)).Nodup) : backB s o f = true ↔ BackM s o f := by
  unfold BackM
  constructor
  · intro hb
    unfold backB at hb
    by_cases hi : f.inv = []
    · exact .inl hi
    refine .inr ?_
    rw [if_neg hi] at hb
    rcases edge_range s f with he | ⟨j, q, he, hq⟩
    · rw [he, if_pos (by decide)] at hb
      cases hb
    have hpf : propB s f = false := (edge_iff.1 (by rw [he]; omega)).1
    rw [he, if_neg (by omega), Int.toNat_natCast, hq] at hb
    simp only at hb
    rcases place_range q f.inv with hp | ⟨i, g, hp, hg⟩
    · rw [hp, if_pos (by decide)] at hb
      cases hb
    rw [hp, if_neg (by omega), Int.toNat_natCast, hg] at hb
    simp only [Bool.and_eq_true, decide_eq_true_eq] at hb
    refine ⟨q, List.mem_of_getElem? hq, g, List.mem_of_getElem? hg, hpf, ?_, placeAt_get hp hg, hb.1.1, hb.1.2, hb.2⟩
    unfold edgeOf at he
    rw [hpf] at he
    exact objAt_get he hq
  · rintro (hi | ⟨q, hq, g, hg, h1, h2, h3, h4, h5, h6⟩)
    · unfold backB
      rw [if_pos hi]
    · unfold backB
      by_cases hi : f.inv = []
      · rw [if_pos hi]
      rw [if_neg hi]
      obtain ⟨j, hj, ej⟩ := objAt_mem hn hq
      obtain ⟨i, hi', ei⟩ := placeAt_mem (hf q hq) hg
      have he : edgeOf s f = (j : Int) := by
        unfold edgeOf
        rw [h1, ← h2]
        exact ej
      rw [he, if_neg (by omega), Int.toNat_natCast, hj]
      simp only
      rw [← h3, ei, if_neg (by omega), Int.toNat_natCast, hi']
      simp [h4, h5, h6]
/-- A schema that may be, by what is in it alone. -/
structure Sc.okM (mx : Int) (s : Sc) : Prop where
  enough : s.enough
  named : namedB mx s = true
  all : (s.os.map (·.n) ++ s.es.map (·.n)).Nodup
  fields : ∀ q ∈ s.os, (q.fs.map (·.n)).Nodup
  words : ∀ e ∈ s.es, e.ws.Nodup
  typed : ∀ o ∈ s.os, ∀ f ∈ o.fs, typedB s f = true
  search : ∀ o ∈ s.os, ∀ f ∈ o.fs, searchB s f = true
  back : ∀ o ∈ s.os, ∀ f ∈ o.fs, BackM s o f
theorem onceB_iff {s : Sc} : onceB s = true ↔ (s.os.map (·.n) ++ s.es.map (·.n)).Nodup ∧ (∀ q ∈ s.os, (q.fs.map (·.n)).Nodup) ∧ ∀ e ∈ s.es, e.ws.Nodup := by
  simp only [onceB, Bool.and_eq_true, nodupB_iff, List.all_eq_true, and_assoc]
theorem okM_iff {s : Sc} : s.okM mx ↔ s.ok mx := by
  constructor
  · rintro ⟨h1, h2, h3, h4, h5, h6, h7, h8⟩
    exact ⟨h1, h2, onceB_iff.2 ⟨h3, h4, h5⟩, h6, h7, fun o ho f hf => (backB_iff (List.nodup_append.1 h3).1 h4).2 (h8 o ho f hf)⟩
  · rintro ⟨h1, h2, h3, h4, h5, h6⟩
    obtain ⟨a, b, c⟩ := onceB_iff.1 h3
    exact ⟨h1, h2, a, b, c, h4, h5, fun o ho f hf => (backB_iff (List.nodup_append.1 a).1 b).1 (h6 o ho f hf)⟩

/-! ### The other way round -/
def Ob.rev (o : Ob) : Ob := ⟨o.n, o.fs.reverse⟩
def En.rev (e : En) : En := ⟨e.n, e.ws.reverse⟩
def Sc.rev (s : Sc) : Sc := ⟨(s.os.map Ob.rev).reverse, (s.es.map En.rev).reverse⟩
theorem Sc.rev_rev (s : Sc) : s.rev.rev = s := by
  have h1 : Ob.rev ∘ Ob.rev = id := by funext o; simp [Ob.rev]
  have h2 : En.rev ∘ En.rev = id := by funext o; simp [En.rev]
  simp [Sc.rev, List.map_reverse, h1, h2]
theorem names_rev (s : Sc) : s.rev.os.map (·.n) = (s.os.map (·.n)).reverse := by simp [Sc.rev, Ob.rev, List.map_reverse, Function.comp_def]
theorem enms_rev (s : Sc) : s.rev.es.map (·.n) = (s.es.map (·.n)).reverse := by simp [Sc.rev, En.rev, List.map_reverse, Function.comp_def]
theorem mem_rev {s : Sc} {o : Ob} : o ∈ s.rev.os ↔ ∃ q ∈ s.os, q.rev = o := by simp [Sc.rev]
theorem mem_revE {s : Sc} {o : En} : o ∈ s.rev.es ↔ ∃ q ∈ s.es, q.rev = o := by simp [Sc.rev]
theorem propB_rev (s : Sc) (f : Fld) : propB s.rev f = propB s f := by
  rw [Bool.eq_iff_iff, propB_iff, propB_iff, enms_rev, List.mem_reverse]
theorem edge_rev (s : Sc) (f : Fld) : 0 ≤ edgeOf s.rev f ↔ 0 ≤ edgeOf s f := by rw [edge_iff, edge_iff, propB_rev, names_rev, List.mem_reverse]
theorem enough_rev {s : Sc} (h : s.enough) : s.rev.enough := by
  obtain ⟨h1, h2, h3, h4, h5⟩ := h
  refine ⟨by simpa [Sc.rev] using h1, by simpa [Sc.rev] using h2, by simpa [Sc.rev] using h3, fun o ho => ?_, fun o ho => ?_⟩
  · obtain ⟨q, hq, rfl⟩ := mem_rev.1 ho
    simpa [Ob.rev] using h4 q hq
  · obtain ⟨q, hq, rfl⟩ := mem_revE.1 ho
    simpa [En.rev] using h5 q hq
theorem named_rev (s : Sc) : namedB mx s.rev = namedB mx s := by
  have : enmB mx = fun e => ownB mx e.n && e.ws.all (fun w => nmB mx w wordL) := rfl
  simp only [namedB, Sc.rev, List.all_reverse, List.all_map, Function.comp_def, Ob.rev, En.rev, this]
theorem once_rev1 {s : Sc} (h : onceB s = true) : onceB s.rev = true := by
  rw [onceB_iff] at h ⊢
  obtain ⟨h1, h2, h3⟩ := h
  refine ⟨?_, fun q hq => ?_, fun q hq => ?_⟩
  · rw [names_rev, enms_rev]
    exact ((List.reverse_perm _).append (List.reverse_perm _)).nodup_iff.2 h1
  · obtain ⟨o, ho, rfl⟩ := mem_rev.1 hq
    rw [show (Ob.rev o).fs = o.fs.reverse from rfl, List.map_reverse]
    exact (List.reverse_perm _).nodup_iff.2 (h2 o ho)
  · obtain ⟨o, ho, rfl⟩ := mem_revE.1 hq
    exact (List.reverse_perm _).nodup_iff.2 (h3 o ho)
theorem once_rev (s : Sc) : onceB s.rev = onceB s := by
  rw [Bool.eq_iff_iff]
  exact ⟨fun h => by have := once_rev1 h; rwa [Sc.rev_rev] at this, once_rev1⟩
theorem okM_rev {s : Sc} (h : s.okM mx) : s.rev.okM mx := by
  have ho := once_rev1 (onceB_iff.2 ⟨h.all, h.fields, h.words⟩)
  obtain ⟨a, b, c⟩ := onceB_iff.1 ho
  refine ⟨enough_rev h.enough, by rw [named_rev]; exact h.named, a, b, c, fun o ho f hf => ?_, fun o ho f hf => ?_, fun o ho f hf => ?_⟩
  · obtain ⟨q, hq, rfl⟩ := mem_rev.1 ho
    have := h.typed q hq f (by simpa [Ob.rev] using hf)
    rw [typedB_iff] at this ⊢
    rw [propB_rev, names_rev, List.mem_reverse]
    exact this
  · obtain ⟨q, hq, rfl⟩ := mem_rev.1 ho
    have := h.search q hq f (by simpa [Ob.rev] using hf)
    rw [searchB_iff] at this ⊢
    rw [edge_rev]
    exact this
  · obtain ⟨q, hq, rfl⟩ := mem_rev.1 ho
    have := h.back q hq f (by simpa [Ob.rev] using hf)
    unfold BackM at this ⊢
    rcases this with h1 | ⟨r, hr, g, hg, h1, h2, h3, h4, h5, h6⟩
    · exact .inl h1
    · exact .inr ⟨r.rev, mem_rev.2 ⟨r, hr, rfl⟩, g, by simpa [Ob.rev] using hg, by rw [propB_rev]; exact h1, h2, h3, (edge_rev s g).2 h4, h5, h6⟩
theorem enoughB_iff {s : Sc} : enoughB (s.os.map Ob.raw) (s.es.map En.raw) = true ↔ s.enough := ⟨enough_of, of_enough⟩
theorem enoughB_rev (s : Sc) : enoughB (s.rev.os.map Ob.raw) (s.rev.es.map En.raw) = enoughB (s.os.map Ob.raw) (s.es.map En.raw) := by
  rw [Bool.eq_iff_iff, enoughB_iff, enoughB_iff]
  exact ⟨fun h => by have := enough_rev h; rwa [Sc.rev_rev] at this, enough_rev⟩
theorem check_0 {s : Sc} : checkV mx s = 0 ↔ s.okM mx := by
  rw [okM_iff]
  exact ⟨check_ok, fun h => ok_check (of_enough h.enough) h⟩
theorem check_rev0 (s : Sc) : checkV mx s.rev = 0 ↔ checkV mx s = 0 := by
  rw [check_0, check_0]
  exact ⟨fun h => by have := okM_rev h; rwa [Sc.rev_rev] at this, okM_rev⟩
theorem check_first {s : Sc} : (checkV mx s = 90 ∨ checkV mx s = 91 ∨ checkV mx s = 92) ↔ ¬ (enoughB (s.os.map Ob.raw) (s.es.map En.raw) = true ∧ namedB mx s = true ∧ onceB s = true) := by
  unfold checkV checkN
  cases enoughB (s.os.map Ob.raw) (s.es.map En.raw) with
  | false => simp
  | true =>
    cases namedB mx s with
    | false => simp
    | true =>
      cases onceB s with
      | false => simp
      | true =>
        simp only [Bool.true_eq_false, if_false, and_self, not_true, iff_false]
        repeat' split
        all_goals decide
theorem check_revF (s : Sc) : (checkV mx s.rev = 90 ∨ checkV mx s.rev = 91 ∨ checkV mx s.rev = 92) ↔ (checkV mx s = 90 ∨ checkV mx s = 91 ∨ checkV mx s = 92) := by
  rw [check_first, check_first, enoughB_rev, named_rev, once_rev]

/-! ### Without an object -/
def Sc.less (s : Sc) (a : Nat) : Sc := ⟨s.os.take a ++ s.os.drop (a + 1), s.es⟩
theorem less_perm {s : Sc} {a : Nat} {o : Ob} (ho : s.os[a]? = some o) : s.os.Perm (o :: (s.less a).os) := by
  obtain ⟨h1, rfl⟩ := List.getElem?_eq_some_iff.1 ho
  have : s.os = s.os.take a ++ s.os[a] :: s.os.drop (a + 1) := by rw [List.getElem_cons_drop, List.take_append_drop]
  conv => lhs; rw [this]
  exact List.perm_middle
section
variable {s : Sc} {a : Nat} {o : Ob}
theorem less_mem (ho : s.os[a]? = some o) {q : Ob} (hq : q ∈ (s.less a).os) : q ∈ s.os := (less_perm ho).mem_iff.2 (List.mem_cons_of_mem _ hq)
theorem less_ne (ho : s.os[a]? = some o) (hn : (s.os.map (·.n)).Nodup) : o.n ∉ (s.less a).os.map (·.n) ∧ ((s.less a).os.map (·.n)).Nodup := by
  have := ((less_perm ho).map (·.n)).nodup_iff.1 hn
  rw [List.map_cons, List.nodup_cons] at this
  exact this
theorem less_in (ho : s.os[a]? = some o) {q : Ob} (hq : q ∈ s.os) (hne : q.n ≠ o.n) : q ∈ (s.less a).os := by
  rcases List.mem_cons.1 ((less_perm ho).mem_iff.1 hq) with rfl | h
  · exact absurd rfl hne
  · exact h
theorem less_names (ho : s.os[a]? = some o) (hn : (s.os.map (·.n)).Nodup) {x : List UInt8} : x ∈ (s.less a).os.map (·.n) ↔ x ∈ s.os.map (·.n) ∧ x ≠ o.n := by
  constructor
  · intro h
    refine ⟨((less_perm ho).map (·.n)).mem_iff.2 (by rw [List.map_cons]; exact List.mem_cons_of_mem _ h), fun e => ?_⟩
    subst e
    exact (less_ne ho hn).1 h
  · rintro ⟨h1, h2⟩
    obtain ⟨q, hq, rfl⟩ := List.mem_map.1 h1
    exact List.mem_map.2 ⟨q, less_in ho hq h2, rfl⟩
theorem less_enough (h : s.okM mx) (ho : s.os[a]? = some o) (h2 : 2 ≤ s.os.length) : (s.less a).enough := by
  have hl := (less_perm ho).length_eq
  rw [List.length_cons] at hl
  obtain ⟨e1, e2, e3, e4, e5⟩ := h.enough
  exact ⟨by omega, by omega, e3, fun q hq => e4 q (less_mem ho hq), e5⟩
theorem less_named (h : s.okM mx) (ho : s.os[a]? = some o) : namedB mx (s.less a) = true := by
  have := h.named
  simp only [namedB, Bool.and_eq_true, List.all_eq_true] at this ⊢
  exact ⟨⟨fun q hq => this.1.1 q (less_mem ho hq), fun q hq => this.1.2 q (less_mem ho hq)⟩, this.2⟩
theorem less_once (h : s.okM mx) (ho : s.os[a]? = some o) : (((s.less a).os.map (·.n)) ++ ((s.less a).es.map (·.n))).Nodup := by
  have h1 := h.all
  rw [List.nodup_append] at h1 ⊢
  exact ⟨(less_ne ho h1.1).2, h1.2.1, fun x hx y hy => h1.2.2 x ((less_names ho h1.1).1 hx).1 y hy⟩
/-- An object that some field leads to. -/
theorem less_93 (h : s.okM mx) (ho : s.os[a]? = some o) (h2 : 2 ≤ s.os.length) {q : Ob} (hq : q ∈ (s.less a).os) {f : Fld} (hf : f ∈ q.fs) (ht : f.t = o.n) : checkV mx (s.less a) = 93 := by
  have hn := (List.nodup_append.1 h.all)
  have hom := List.mem_of_getElem? ho
  have hpf : propB (s.less a) f = false := by
    have : ¬ propB (s.less a) f = true := by
      rw [propB_iff, ht]
      rintro (q1 | q1)
      · have := h.named
        simp only [namedB, Bool.and_eq_true, List.all_eq_true, ownB] at this
        have := (this.1.1 o hom).2
        rw [q1] at this
        cases this
      · exact hn.2.2 o.n (List.mem_map.2 ⟨o, hom, rfl⟩) _ q1 rfl
    simpa using this
  have htf : ¬ typedB (s.less a) f = true := by
    rw [typedB_iff, hpf, ht]
    rintro (q1 | q1)
    · cases q1.1
    · exact (less_ne ho hn.1).1 q1.2.1
  have hall : ((s.less a).os.all fun o => o.fs.all (typedB (s.less a))) = false := by
    rw [Bool.eq_false_iff]
    intro e
    rw [List.all_eq_true] at e
    exact htf (List.all_eq_true.1 (e q hq) f hf)
  unfold checkV checkN
  rw [of_enough (less_enough h ho h2), less_named h ho, onceB_iff.2 ⟨less_once h ho, fun q hq => h.fields q (less_mem ho hq), h.words⟩, hall]
  rfl
theorem less_0 (h : s.okM mx) (ho : s.os[a]? = some o) (h2 : 2 ≤ s.os.length) (ht : ∀ q ∈ (s.less a).os, ∀ f ∈ q.fs, f.t ≠ o.n) : checkV mx (s.less a) = 0 := by
  have hn := (List.nodup_append.1 h.all)
  rw [check_0]
  have hp : ∀ f, propB (s.less a) f = propB s f := fun f => rfl
  have he : ∀ f : Fld, f.t ≠ o.n → (0 ≤ edgeOf (s.less a) f ↔ 0 ≤ edgeOf s f) := fun f hf => by
    rw [edge_iff, edge_iff, less_names ho hn.1, hp]
    simp [hf]
  refine ⟨less_enough h ho h2, less_named h ho, less_once h ho, fun q hq => h.fields q (less_mem ho hq), h.words, fun q hq f hf => ?_, fun q hq f hf => ?_, fun q hq f hf => ?_⟩
  · have := h.typed q (less_mem ho hq) f hf
    rw [typedB_iff] at this ⊢
    rw [hp, less_names ho hn.1]
    rcases this with h1 | ⟨h1, h3, h4⟩
    · exact .inl h1
    · exact .inr ⟨h1, ⟨h3, ht q hq f hf⟩, h4⟩
  · have := h.search q (less_mem ho hq) f hf
    rw [searchB_iff] at this ⊢
    rw [he f (ht q hq f hf)]
    exact this
  · rcases h.back q (less_mem ho hq) f hf with h1 | ⟨r, hr, g, hg, h1, h3, h4, h5, h6, h7⟩
    · exact .inl h1
    · have hr' := less_in ho hr (by rw [h3]; exact ht q hq f hf)
      exact .inr ⟨r, hr', g, hg, h1, h3, h4, (he g (ht r hr' g hg)).2 h5, h6, h7⟩
end
end Go.Proofs.YtcbngkmmmfaaoaaGreatDoor
/-
  SCHEMAS THAT MAY BE, Q17: SchemaBack.
-/
namespace Go.Proofs.YtcbngkmmmfaaoaaGreatDoor
open Go.RowKit Go.Lib Go.Ac
set_option linter.unusedSimpArgs false
set_option maxRecDepth 100000
variable {mx : Int}
theorem fixed9_c (h : AH) (fr : Nat) : CR Tryz.prog (globM mx) md (.fn 14) [] h fr (.val (.bool true)) := pure_any rfl rfl ⟨2000, fixed09_run⟩ h fr
def invO (s : Sc) (k : Nat) (F : Fr) (h : AH) : Prop := ∃ i : Nat, k + i = s.os.length ∧ F.at 1 = .ptr 0 2 0 ∧ F.at 3 = .int .i64 i ∧ h.get 0 = some (.cells 25 0 false s.pv)
def invI (s : Sc) (i n : Nat) (k : Nat) (F : Fr) (h : AH) : Prop := ∃ j : Nat, k + j = n ∧ F.at 1 = .ptr 0 2 0 ∧ F.at 3 = .int .i64 i ∧ F.at 4 = .int .i64 j ∧ h.get 0 = some (.cells 25 0 false s.pv)
theorem schemaBack_c {s : Sc} (hs : s.fits) (hm : s.small) (h : AH) (fr : Nat) : CR Tryz.prog (globM mx) md (.fn 5) [.agg s.pv] h fr (.val (.bool true)) := by
  refine CR.plain (rs := [.tmp 2]) Tryz.func5 rfl rfl rfl rfl rfl rfl rfl ?_ h fr
  by_cases c1 : checkV mx s = 0
  · have ok := check_ok c1
    simp -implicitDefEqProofs only [wpC_seq, rowsA, if_true, if_false, opnd, ofVal, ofVal1, layArgs, Nat.reduceAdd, reduceIte, Nat.reduceEqDiff, reduceCtorEq, rowsB, cellsG, Nat.reduceMul, Sc.len, Ob.len, En.len, Fld.len, fda_ptr o25_0, fda_ptr o25_1, fda_ptr o33_0, fda_ptr o33_1, fda_ptr o33_2, fda_ptr o33_3, fda_ptr o31_0, fda_ptr o31_1, fda_ptr o41_0, fda_ptr o41_1, fda_ptr o45_0, fda_ptr o45_1, fda_rop o25_0, fda_rop o25_1, fda_rop o33_0, fda_rop o33_1, fda_rop o33_2, fda_rop o33_3, fda_rop o31_0, fda_rop o31_1, fda_rop o41_0, fda_rop o41_1, fda_rop o45_0, fda_rop o45_1,
    ld25, ld33, ld41, ld45, ld33r, ld41r, ld45r, ld22, ld23, ld9o, ld9or, ld39o, ld39or, ld9e, ld9er, ld43e, ld43er, ld9f0, ld9f0r, ld9f1, ld9f1r, ld9f2, ld9f2r, ld9f3, ld9f3r, ld9f4, ld9f4r, ld31f, ln22, ln23, ln39, ln43, List.drop_drop, goO_known fixed9_c, ld25 s, goO_known (check_s hs hm), c1]
    refine wpC_loop (invO s) (k := s.os.length) ⟨0, by omega, ?_, ?_, ?_⟩ ?_
    · simp only [Fr.at_set, Nat.reduceEqDiff, reduceIte, reduceCtorEq]; try rfl
    · simp only [Fr.at_set, Nat.reduceEqDiff, reduceIte, reduceCtorEq]; rfl
    · simp only [AH.get_set, AH.get_up, if_true]
    rintro k F h1 ⟨i, ik, f1, f3, g⟩
    cases k with
    | zero =>
      have c2 : ¬ ((i : Int) < (s.os.length : Int)) := by omega
      simp -implicitDefEqProofs only [wpC_seq, rowsA, if_true, if_false, opnd, ofVal, ofVal1, layArgs, Nat.reduceAdd, reduceIte, Nat.reduceEqDiff, reduceCtorEq, rowsB, cellsG, Nat.reduceMul, Sc.len, Ob.len, En.len, Fld.len, fda_ptr o25_0, fda_ptr o25_1, fda_ptr o33_0, fda_ptr o33_1, fda_ptr o33_2, fda_ptr o33_3, fda_ptr o31_0, fda_ptr o31_1, fda_ptr o41_0, fda_ptr o41_1, fda_ptr o45_0, fda_ptr o45_1, fda_rop o25_0, fda_rop o25_1, fda_rop o33_0, fda_rop o33_1, fda_rop o33_2, fda_rop o33_3, fda_rop o31_0, fda_rop o31_1, fda_rop o41_0, fda_rop o41_1, fda_rop o45_0, fda_rop o45_1,
    ld25, ld33, ld41, ld45, ld33r, ld41r, ld45r, ld22, ld23, ld9o, ld9or, ld39o, ld39or, ld9e, ld9er, ld43e, ld43er, ld9f0, ld9f0r, ld9f1, ld9f1r, ld9f2, ld9f2r, ld9f3, ld9f3r, ld9f4, ld9f4r, ld31f, ln22, ln23, ln39, ln43, List.drop_drop, f1, f3, g, c2]
    | succ k =>
      have c2 : (i : Int) < (s.os.length : Int) := by omega
      obtain ⟨o, ho⟩ : ∃ o, s.os[i]? = some o := ⟨s.os[i], List.getElem?_eq_getElem (by omega)⟩
      obtain ⟨r, hr⟩ := ix22 (l := s.os) (i := (i : Int)) (by omega) (by rw [Int.toNat_natCast]; exact ho)
      have hob := obj_c (mx := mx) hs o.n
      rw [ok.objs ho] at hob
      simp -implicitDefEqProofs only [wpC_seq, rowsA, if_true, if_false, opnd, ofVal, ofVal1, layArgs, Nat.reduceAdd, reduceIte, Nat.reduceEqDiff, reduceCtorEq, rowsB, cellsG, Nat.reduceMul, Sc.len, Ob.len, En.len, Fld.len, fda_ptr o25_0, fda_ptr o25_1, fda_ptr o33_0, fda_ptr o33_1, fda_ptr o33_2, fda_ptr o33_3, fda_ptr o31_0, fda_ptr o31_1, fda_ptr o41_0, fda_ptr o41_1, fda_ptr o45_0, fda_ptr o45_1, fda_rop o25_0, fda_rop o25_1, fda_rop o33_0, fda_rop o33_1, fda_rop o33_2, fda_rop o33_3, fda_rop o31_0, fda_rop o31_1, fda_rop o41_0, fda_rop o41_1, fda_rop o45_0, fda_rop o45_1,
    ld25, ld33, ld41, ld45, ld33r, ld41r, ld45r, ld22, ld23, ld9o, ld9or, ld39o, ld39or, ld9e, ld9er, ld43e, ld43er, ld9f0, ld9f0r, ld9f1, ld9f1r, ld9f2, ld9f2r, ld9f3, ld9f3r, ld9f4, ld9f4r, ld31f, ln22, ln23, ln39, ln43, List.drop_drop, f1, f3, g, c2, hr, ld25 s, goD_known hob]
      refine wpC_loop (invI s i o.fs.length) (k := o.fs.length) ⟨0, by omega, ?_, ?_, ?_, ?_⟩ ?_
      · simp only [Fr.at_set, Nat.reduceEqDiff, reduceIte, reduceCtorEq, f1]
      · simp only [Fr.at_set, Nat.reduceEqDiff, reduceIte, reduceCtorEq, f3]
      · simp only [Fr.at_set, Nat.reduceEqDiff, reduceIte, reduceCtorEq]; rfl
      · simp only [AH.get_up]; exact g
      clear f1 f3 g
      rintro k2 F h2 ⟨j, jk, f1, f3, f4, g⟩
      cases k2 with
      | zero =>
        have c3 : ¬ ((j : Int) < (o.fs.length : Int)) := by omega
        have w := IntWalk.i64_in ((i : Int) + 1) (by have := hs.1; omega)
        simp -implicitDefEqProofs only [wpC_seq, rowsA, if_true, if_false, opnd, ofVal, ofVal1, layArgs, Nat.reduceAdd, reduceIte, Nat.reduceEqDiff, reduceCtorEq, rowsB, cellsG, Nat.reduceMul, Sc.len, Ob.len, En.len, Fld.len, fda_ptr o25_0, fda_ptr o25_1, fda_ptr o33_0, fda_ptr o33_1, fda_ptr o33_2, fda_ptr o33_3, fda_ptr o31_0, fda_ptr o31_1, fda_ptr o41_0, fda_ptr o41_1, fda_ptr o45_0, fda_ptr o45_1, fda_rop o25_0, fda_rop o25_1, fda_rop o33_0, fda_rop o33_1, fda_rop o33_2, fda_rop o33_3, fda_rop o31_0, fda_rop o31_1, fda_rop o41_0, fda_rop o41_1, fda_rop o45_0, fda_rop o45_1,
    ld25, ld33, ld41, ld45, ld33r, ld41r, ld45r, ld22, ld23, ld9o, ld9or, ld39o, ld39or, ld9e, ld9er, ld43e, ld43er, ld9f0, ld9f0r, ld9f1, ld9f1r, ld9f2, ld9f2r, ld9f3, ld9f3r, ld9f4, ld9f4r, ld31f, ln22, ln23, ln39, ln43, List.drop_drop, f1, f3, f4, g, hr, c3, w]
        refine ⟨k, by omega, i + 1, by omega, ?_, ?_, ?_⟩
        · simp only [Fr.at_set, Nat.reduceEqDiff, reduceIte, reduceCtorEq, f1]
        · simp only [Fr.at_set, Nat.reduceEqDiff, reduceIte, reduceCtorEq]; rfl
        · simp only [AH.get_up]; exact g
      | succ k2 =>
        have c3 : (j : Int) < (o.fs.length : Int) := by omega
        obtain ⟨f, hf⟩ : ∃ f, o.fs[j]? = some f := ⟨o.fs[j], List.getElem?_eq_getElem (by omega)⟩
        obtain ⟨r2, hr2⟩ := ix39 (l := o.fs) (i := (j : Int)) (by omega) (by rw [Int.toNat_natCast]; exact hf)
        simp -implicitDefEqProofs only [wpC_seq, rowsA, if_true, if_false, opnd, ofVal, ofVal1, layArgs, Nat.reduceAdd, reduceIte, Nat.reduceEqDiff, reduceCtorEq, rowsB, cellsG, Nat.reduceMul, Sc.len, Ob.len, En.len, Fld.len, fda_ptr o25_0, fda_ptr o25_1, fda_ptr o33_0, fda_ptr o33_1, fda_ptr o33_2, fda_ptr o33_3, fda_ptr o31_0, fda_ptr o31_1, fda_ptr o41_0, fda_ptr o41_1, fda_ptr o45_0, fda_ptr o45_1, fda_rop o25_0, fda_rop o25_1, fda_rop o33_0, fda_rop o33_1, fda_rop o33_2, fda_rop o33_3, fda_rop o31_0, fda_rop o31_1, fda_rop o41_0, fda_rop o41_1, fda_rop o45_0, fda_rop o45_1,
    ld25, ld33, ld41, ld45, ld33r, ld41r, ld45r, ld22, ld23, ld9o, ld9or, ld39o, ld39or, ld9e, ld9er, ld43e, ld43er, ld9f0, ld9f0r, ld9f1, ld9f1r, ld9f2, ld9f2r, ld9f3, ld9f3r, ld9f4, ld9f4r, ld31f, ln22, ln23, ln39, ln43, List.drop_drop, f1, f3, f4, g, hr, hr2, c3, al33, sz33, st33, ld25 s, ld33, goD_known (edge_c hs f), goD_known (back_c hs i j)]
        have hom := List.mem_of_getElem? ho
        have hfm := List.mem_of_getElem? hf
        have hpr := ok.edge_prop hom hfm
        have w2 := IntWalk.i64_in ((j : Int) + 1) (by have := hs.2.2 o hom; omega)
        have fin : ∀ (F' : Fr) (h' : AH), F'.at 1 = .ptr 0 2 0 → F'.at 3 = .int .i64 i → F'.at 4 = .int .i64 ((j : Int) + 1) → h'.get 0 = some (.cells 25 0 false s.pv) → ∃ k', k' < k2 + 1 ∧ invI s i o.fs.length k' F' h' := fun F' h' a1 a2 a3 a4 => ⟨k2, by omega, j + 1, by omega, a1, a2, a3, a4⟩
        have bk : f.inv = [] → backOf s i j = -1 := by
          intro e
          unfold backOf
          rw [if_neg (by omega), Int.toNat_natCast, ho]
          simp only
          rw [if_neg (by omega), Int.toNat_natCast, hf]
          simp only [e, if_true]
          split <;> rfl
        have i0 : f.inv = [] → propB s f = true ∨ 0 ≤ edgeOf s f := fun _ => by cases hp : propB s f with
          | true => exact .inl rfl
          | false =>
            rw [hp] at hpr
            exact .inr (by have := hpr.symm; simp at this; omega)
        have lm1 : ¬ ((0 : Int) ≤ -1) := by decide
        have neg : propB s f = true → edgeOf s f < 0 ∧ f.inv = [] := fun hp => by
          rw [hp] at hpr
          have h1 : edgeOf s f < 0 := by simpa using hpr.symm
          refine ⟨h1, ?_⟩
          apply Classical.byContradiction
          intro ci
          obtain ⟨j1, m1, q1, q2, q3⟩ := ok.back_back ho hf ci
          omega
        have pos : propB s f = false → ¬ (edgeOf s f < 0) := fun hp => by
          rw [hp] at hpr
          simpa using hpr.symm
        cases cs : scalar f.t with
        | true =>
          obtain ⟨c4, ci⟩ := neg (by simp [propB, cs])
          simp -implicitDefEqProofs only [wpC_seq, rowsA, if_true, if_false, opnd, ofVal, ofVal1, layArgs, Nat.reduceAdd, reduceIte, Nat.reduceEqDiff, reduceCtorEq, rowsB, cellsG, Nat.reduceMul, Sc.len, Ob.len, En.len, Fld.len, fda_ptr o25_0, fda_ptr o25_1, fda_ptr o33_0, fda_ptr o33_1, fda_ptr o33_2, fda_ptr o33_3, fda_ptr o31_0, fda_ptr o31_1, fda_ptr o41_0, fda_ptr o41_1, fda_ptr o45_0, fda_ptr o45_1, fda_rop o25_0, fda_rop o25_1, fda_rop o33_0, fda_rop o33_1, fda_rop o33_2, fda_rop o33_3, fda_rop o31_0, fda_rop o31_1, fda_rop o41_0, fda_rop o41_1, fda_rop o45_0, fda_rop o45_1,
    ld25, ld33, ld41, ld45, ld33r, ld41r, ld45r, ld22, ld23, ld9o, ld9or, ld39o, ld39or, ld9e, ld9er, ld43e, ld43er, ld9f0, ld9f0r, ld9f1, ld9f1r, ld9f2, ld9f2r, ld9f3, ld9f3r, ld9f4, ld9f4r, ld31f, ln22, ln23, ln39, ln43, List.drop_drop, f1, f3, f4, g, goO_known (scalar_c f.t), goO_known (enm_c hs f.t), lm1, w2, bin_bneq u4, Bool.bne_true, Bool.bne_false, bne_self_eq_false, cs, c4, bk ci, ci]
          refine fin _ _ ?_ ?_ ?_ ?_
          · simp only [Fr.at_set, Nat.reduceEqDiff, reduceIte, reduceCtorEq, f1]
          · simp only [Fr.at_set, Nat.reduceEqDiff, reduceIte, reduceCtorEq, f3]
          · simp only [Fr.at_set, Nat.reduceEqDiff, reduceIte, reduceCtorEq]
          · simp only [AH.get_set, AH.get_up, g]
            rw [if_neg (by omega), if_neg (by omega)]
        | false =>
          by_cases ce : 0 ≤ enmAt s f.t
          · obtain ⟨c4, ci⟩ := neg (by simp [propB, cs, ce])
            simp -implicitDefEqProofs only [wpC_seq, rowsA, if_true, if_false, opnd, ofVal, ofVal1, layArgs, Nat.reduceAdd, reduceIte, Nat.reduceEqDiff, reduceCtorEq, rowsB, cellsG, Nat.reduceMul, Sc.len, Ob.len, En.len, Fld.len, fda_ptr o25_0, fda_ptr o25_1, fda_ptr o33_0, fda_ptr o33_1, fda_ptr o33_2, fda_ptr o33_3, fda_ptr o31_0, fda_ptr o31_1, fda_ptr o41_0, fda_ptr o41_1, fda_ptr o45_0, fda_ptr o45_1, fda_rop o25_0, fda_rop o25_1, fda_rop o33_0, fda_rop o33_1, fda_rop o33_2, fda_rop o33_3, fda_rop o31_0, fda_rop o31_1, fda_rop o41_0, fda_rop o41_1, fda_rop o45_0, fda_rop o45_1,
    ld25, ld33, ld41, ld45, ld33r, ld41r, ld45r, ld22, ld23, ld9o, ld9or, ld39o, ld39or, ld9e, ld9er, ld43e, ld43er, ld9f0, ld9f0r, ld9f1, ld9f1r, ld9f2, ld9f2r, ld9f3, ld9f3r, ld9f4, ld9f4r, ld31f, ln22, ln23, ln39, ln43, List.drop_drop, f1, f3, f4, g, goO_known (scalar_c f.t), goO_known (enm_c hs f.t), lm1, w2, bin_bneq u4, Bool.bne_true, Bool.bne_false, bne_self_eq_false, cs, ce, c4, bk ci, ci]
            refine fin _ _ ?_ ?_ ?_ ?_
            · simp only [Fr.at_set, Nat.reduceEqDiff, reduceIte, reduceCtorEq, f1]
            · simp only [Fr.at_set, Nat.reduceEqDiff, reduceIte, reduceCtorEq, f3]
            · simp only [Fr.at_set, Nat.reduceEqDiff, reduceIte, reduceCtorEq]
            · simp only [AH.get_set, AH.get_up, g]
              rw [if_neg (by omega), if_neg (by omega)]
          · have c4 := pos (by simp [propB, cs, ce])
            by_cases ci : f.inv = []
            · skip
              simp -implicitDefEqProofs only [wpC_seq, rowsA, if_true, if_false, opnd, ofVal, ofVal1, layArgs, Nat.reduceAdd, reduceIte, Nat.reduceEqDiff, reduceCtorEq, rowsB, cellsG, Nat.reduceMul, Sc.len, Ob.len, En.len, Fld.len, fda_ptr o25_0, fda_ptr o25_1, fda_ptr o33_0, fda_ptr o33_1, fda_ptr o33_2, fda_ptr o33_3, fda_ptr o31_0, fda_ptr o31_1, fda_ptr o41_0, fda_ptr o41_1, fda_ptr o45_0, fda_ptr o45_1, fda_rop o25_0, fda_rop o25_1, fda_rop o33_0, fda_rop o33_1, fda_rop o33_2, fda_rop o33_3, fda_rop o31_0, fda_rop o31_1, fda_rop o41_0, fda_rop o41_1, fda_rop o45_0, fda_rop o45_1,
    ld25, ld33, ld41, ld45, ld33r, ld41r, ld45r, ld22, ld23, ld9o, ld9or, ld39o, ld39or, ld9e, ld9er, ld43e, ld43er, ld9f0, ld9f0r, ld9f1, ld9f1r, ld9f2, ld9f2r, ld9f3, ld9f3r, ld9f4, ld9f4r, ld31f, ln22, ln23, ln39, ln43, List.drop_drop, f1, f3, f4, g, goO_known (scalar_c f.t), goO_known (enm_c hs f.t), lm1, w2, bin_bneq u4, Bool.bne_true, Bool.bne_false, bne_self_eq_false, cs, ce, c4, bk ci, ci]
              refine fin _ _ ?_ ?_ ?_ ?_
              · simp only [Fr.at_set, Nat.reduceEqDiff, reduceIte, reduceCtorEq, f1]
              · simp only [Fr.at_set, Nat.reduceEqDiff, reduceIte, reduceCtorEq, f3]
              · simp only [Fr.at_set, Nat.reduceEqDiff, reduceIte, reduceCtorEq]
              · simp only [AH.get_set, AH.get_up, g]
                rw [if_neg (by omega), if_neg (by omega)]
            · obtain ⟨j1, m1, q1, q2, q3⟩ := ok.back_back ho hf ci
              have lm2 : (0 : Int) ≤ (m1 : Int) := by omega
              have lm3 : ¬ ((j1 : Int) < 0) := by omega
              rw [q1] at c4
              simp -implicitDefEqProofs only [wpC_seq, rowsA, if_true, if_false, opnd, ofVal, ofVal1, layArgs, Nat.reduceAdd, reduceIte, Nat.reduceEqDiff, reduceCtorEq, rowsB, cellsG, Nat.reduceMul, Sc.len, Ob.len, En.len, Fld.len, fda_ptr o25_0, fda_ptr o25_1, fda_ptr o33_0, fda_ptr o33_1, fda_ptr o33_2, fda_ptr o33_3, fda_ptr o31_0, fda_ptr o31_1, fda_ptr o41_0, fda_ptr o41_1, fda_ptr o45_0, fda_ptr o45_1, fda_rop o25_0, fda_rop o25_1, fda_rop o33_0, fda_rop o33_1, fda_rop o33_2, fda_rop o33_3, fda_rop o31_0, fda_rop o31_1, fda_rop o41_0, fda_rop o41_1, fda_rop o45_0, fda_rop o45_1,
    ld25, ld33, ld41, ld45, ld33r, ld41r, ld45r, ld22, ld23, ld9o, ld9or, ld39o, ld39or, ld9e, ld9er, ld43e, ld43er, ld9f0, ld9f0r, ld9f1, ld9f1r, ld9f2, ld9f2r, ld9f3, ld9f3r, ld9f4, ld9f4r, ld31f, ln22, ln23, ln39, ln43, List.drop_drop, f1, f3, f4, g, goO_known (scalar_c f.t), goO_known (enm_c hs f.t), lm1, w2, bin_bneq u4, Bool.bne_true, Bool.bne_false, bne_self_eq_false, cs, ce, lm3, ci, q1, q2, lm2, goO_known (back_c hs (j1 : Int) (m1 : Int)), q3]
              refine fin _ _ ?_ ?_ ?_ ?_
              · simp only [Fr.at_set, Nat.reduceEqDiff, reduceIte, reduceCtorEq, f1]
              · simp only [Fr.at_set, Nat.reduceEqDiff, reduceIte, reduceCtorEq, f3]
              · simp only [Fr.at_set, Nat.reduceEqDiff, reduceIte, reduceCtorEq]
              · simp only [AH.get_set, AH.get_up, g]
                rw [if_neg (by omega), if_neg (by omega)]
  · simp -implicitDefEqProofs only [wpC_seq, rowsA, if_true, if_false, opnd, ofVal, ofVal1, layArgs, Nat.reduceAdd, reduceIte, Nat.reduceEqDiff, reduceCtorEq, rowsB, cellsG, Nat.reduceMul, Sc.len, Ob.len, En.len, Fld.len, fda_ptr o25_0, fda_ptr o25_1, fda_ptr o33_0, fda_ptr o33_1, fda_ptr o33_2, fda_ptr o33_3, fda_ptr o31_0, fda_ptr o31_1, fda_ptr o41_0, fda_ptr o41_1, fda_ptr o45_0, fda_ptr o45_1, fda_rop o25_0, fda_rop o25_1, fda_rop o33_0, fda_rop o33_1, fda_rop o33_2, fda_rop o33_3, fda_rop o31_0, fda_rop o31_1, fda_rop o41_0, fda_rop o41_1, fda_rop o45_0, fda_rop o45_1,
    ld25, ld33, ld41, ld45, ld33r, ld41r, ld45r, ld22, ld23, ld9o, ld9or, ld39o, ld39or, ld9e, ld9er, ld43e, ld43er, ld9f0, ld9f0r, ld9f1, ld9f1r, ld9f2, ld9f2r, ld9f3, ld9f3r, ld9f4, ld9f4r, ld31f, ln22, ln23, ln39, ln43, List.drop_drop, goO_known fixed9_c, ld25 s, goO_known (check_s hs hm), c1]
end Go.Proofs.YtcbngkmmmfaaoaaGreatDoor
/-
  SCHEMAS THAT MAY BE, Q20: SchemaMore.
-/
namespace Go.Proofs.YtcbngkmmmfaaoaaGreatDoor
open Go.RowKit Go.Lib Go.Ac
set_option linter.unusedSimpArgs false
set_option maxRecDepth 100000
variable {mx : Int}
theorem bld31 (a : List UInt8) : bldO Tryz.prog 31 [(0, .str a)] = some (.q (.agg [.str a, .str []])) := by kernel_rfl
theorem bld33 (a b c : List UInt8) : bldO Tryz.prog 33 [(0, .str a), (1, .agg [.str b, .str c])] = some (.q (.agg [.str a, .str b, .str c, .bool false, .str []])) := by kernel_rfl
theorem bd39_1 (fr : Nat) (a b c e : List UInt8) (d : Bool) : buildO Tryz.prog fr 39 1 [(0, .agg [.str a, .str b, .str c, .bool d, .str e])] = some (.w (.ow fr 5 0 1) fr (.cells 33 5 false [.str a, .str b, .str c, .bool d, .str e])) := by kernel_rfl
theorem bld41 (a : List UInt8) (id x y z : Nat) : bldO Tryz.prog 41 [(0, .str a), (1, .ow id x y z)] = some (.q (.agg [.str a, .ow id x y z])) := by kernel_rfl
theorem bd22_1 (fr : Nat) (a : List UInt8) (id x y z : Nat) : buildO Tryz.prog fr 22 1 [(0, .agg [.str a, .ow id x y z])] = some (.w (.ow fr 2 0 1) fr (.cells 41 2 false [.str a, .ow id x y z])) := by kernel_rfl
theorem bd22_0 (fr : Nat) : buildO Tryz.prog fr 22 0 [] = some (.w .els fr (.cells 41 2 false [])) := by kernel_rfl
theorem bld25 (id x y z : Nat) : bldO Tryz.prog 25 [(0, .ow id x y z)] = some (.q (.agg [.ow id x y z, .nls])) := by kernel_rfl
theorem i41 : (Tryz.prog.info? 41).map (fun i => (i.size, i.bytes, i.zero.map (·.cells.size))) = some (2, 40, some 2) := by kernel_rfl
theorem i33 : (Tryz.prog.info? 33).map (fun i => (i.size, i.bytes, i.zero.map (·.cells.size))) = some (5, 72, some 5) := by kernel_rfl
theorem i45 : (Tryz.prog.info? 45).map (fun i => (i.size, i.bytes, i.zero.map (·.cells.size))) = some (2, 40, some 2) := by kernel_rfl
theorem z41 : tyZero Tryz.prog 41 = some [.str [], .nls] := by kernel_rfl
theorem z25 : tyZero Tryz.prog 25 = some [.nls, .nls] := by kernel_rfl
theorem z45 : tyZero Tryz.prog 45 = some [.str [], .nls] := by kernel_rfl
section
variable {ρ : Operand → PV} {h : AH} {fr : Nat} {d : Option Tmp} {ty : TypeId} {ps : String} {af : Array Edge} {gu : Option (Nat × Bool)}
theorem al41 : aop Tryz.prog ρ h fr ⟨d, .alloc 41, ty, ps, af, gu⟩ = some (.w (.ptr fr 2 0) fr (.cells 41 0 false [.str [], .nls])) := by
  rw [aop_alloc, z41]
  rfl
theorem al25 : aop Tryz.prog ρ h fr ⟨d, .alloc 25, ty, ps, af, gu⟩ = some (.w (.ptr fr 2 0) fr (.cells 25 0 false [.nls, .nls])) := by
  rw [aop_alloc, z25]
  rfl
theorem al45 : aop Tryz.prog ρ h fr ⟨d, .alloc 45, ty, ps, af, gu⟩ = some (.w (.ptr fr 2 0) fr (.cells 45 0 false [.str [], .nls])) := by
  rw [aop_alloc, z45]
  rfl
end
theorem st41 (a : List UInt8) (v : PV) (id : Nat) (c : List PV) (hc : c.length = 2) : stoG id 2 0 (.agg [.str a, v]) 2 (some (.cells 41 0 false c)) = some (.w .undef id (.cells 41 0 false [.str a, v])) := stoG_all id 2 0 41 (.agg [.str a, v]) c hc rfl rfl
theorem ap22n {h : AH} {fr : Nat} (l : List Ob) (h0 : 0 < l.length) (hb : l.length ≤ 1000000) : appO Tryz.prog h fr [.els, rowV Ob.pv l] [22, 22] = some (.w (.ow fr (l.length * 2) 0 l.length) fr (.cells 41 2 false (flat Ob.pv l))) :=
  ap_new u22 i41 (by decide) (.inr rfl) (cellR_ro (flat_len (f := Ob.pv) (fun _ => rfl) l)) h0 (by omega) (by omega)
theorem goD_eq {P : Program} {G : Glob} {md : FuncId → Md} {ops : Array Oper} {base i : Nat} {rest : List Oper} {d : Option Tmp} {f : Fr} {h : AH} {lg : List (Nat × Nat)} {Q : OX → Prop} {v : PV} {id : Nat} {ob : AO} (e : id = base + i) : goD P G md ops base i rest d f h lg Q (some (.w v id ob)) = wpD P G md ops base (i + 1) rest (putA f d v) (h.set (base + i) ob) lg Q := by
  subst e
  exact goD_new ..
theorem st25 (s : Sc) (id : Nat) : stoG id 2 0 (.agg s.pv) 2 (some (.cells 25 0 false [.nls, .nls])) = some (.w .undef id (.cells 25 0 false s.pv)) := stoG_all id 2 0 25 (.agg s.pv) [.nls, .nls] rfl rfl rfl
theorem st25a (s : Sc) (id a b c d : Nat) : stoG id 2 0 (.ow a b c d) 1 (some (.cells 25 0 false s.pv)) = some (.w .undef id (.cells 25 0 false [.ow a b c d, rowV En.pv s.es])) := rfl
theorem fits_one (name : List UInt8) : (⟨[oneX name], []⟩ : Sc).fits := ⟨by simp, by simp, fun o ho => by rw [List.mem_singleton.1 ho]; show 1 ≤ _; decide⟩
theorem small_one {name : List UInt8} (hn : name.length ≤ 140737488355328) : (⟨[oneX name], []⟩ : Sc).small :=
  ⟨fun o ho => by
    rw [List.mem_singleton.1 ho]
    refine ⟨Nat.le_trans hn (by decide), fun f hf => ?_⟩
    rw [List.mem_singleton.1 hf]
    show 1 ≤ _
    decide, fun e he => by cases he⟩
theorem fits_more {s : Sc} (name : List UInt8) (hs : s.fits) (h : s.os.length ≤ 8) : (⟨s.os ++ [oneX name], s.es⟩ : Sc).fits :=
  ⟨by simp only [List.length_append, List.length_cons, List.length_nil]; omega, hs.2.1, fun o ho => by
    rcases List.mem_append.1 ho with q | q
    · exact hs.2.2 o q
    · rw [List.mem_singleton.1 q]
      show 1 ≤ _
      decide⟩
theorem small_more {s : Sc} {name : List UInt8} (hm : s.small) (hn : name.length ≤ 140737488355328) : (⟨s.os ++ [oneX name], s.es⟩ : Sc).small :=
  ⟨fun o ho => by
    rcases List.mem_append.1 ho with q | q
    · exact hm.1 o q
    · exact (small_one hn).1 o q, hm.2⟩
theorem schemaMore_c {s : Sc} (hs : s.fits) (hm : s.small) (name : List UInt8) (hn : name.length ≤ 140737488355328) (h : AH) (fr : Nat) : CR Tryz.prog (globM mx) md (.fn 6) [.agg s.pv, .str name] h fr (.val (.bool true)) := by
  refine CR.plain (rs := [.tmp 4]) Tryz.func6 rfl rfl rfl rfl rfl rfl rfl ?_ h fr
  by_cases c1 : checkV mx s = 0
  · have ok := check_ok c1
    simp -implicitDefEqProofs only [wpC_seq, rowsA, if_true, if_false, opnd, ofVal, ofVal1, layArgs, Nat.reduceAdd, reduceIte, Nat.reduceEqDiff, reduceCtorEq, rowsB, cellsG, Nat.reduceMul, Sc.len, Ob.len, En.len, Fld.len, fda_ptr o25_0, fda_ptr o25_1, fda_ptr o33_0, fda_ptr o33_1, fda_ptr o33_2, fda_ptr o33_3, fda_ptr o31_0, fda_ptr o31_1, fda_ptr o41_0, fda_ptr o41_1, fda_ptr o45_0, fda_ptr o45_1, fda_rop o25_0, fda_rop o25_1, fda_rop o33_0, fda_rop o33_1, fda_rop o33_2, fda_rop o33_3, fda_rop o31_0, fda_rop o31_1, fda_rop o41_0, fda_rop o41_1, fda_rop o45_0, fda_rop o45_1,
    ld25, ld33, ld41, ld45, ld33r, ld41r, ld45r, ld22, ld23, ld9o, ld9or, ld39o, ld39or, ld9e, ld9er, ld43e, ld43er, ld9f0, ld9f0r, ld9f1, ld9f1r, ld9f2, ld9f2r, ld9f3, ld9f3r, ld9f4, ld9f4r, ld31f, ln22, ln23, ln39, ln43, List.drop_drop, goO_known fixed9_c, ld25 s, goO_known (check_s hs hm), c1, bld31, bld33, bd39_1, bld41, al41, sz41, st41 name (.ow _ 5 0 1), load_agg ag41 sz41 (c := [.str name, .ow _ 5 0 1]) (Nat.le_refl 2), bd22_1, bld25]
    have kA := check_v (mx := mx) (s := ⟨[oneX name], []⟩) (ve := .nls) (.inr ⟨rfl, .inl rfl⟩) (fits_one name) (small_one hn)
    refine goO_val (via_rd (p := fun _ => True) (args' := [.agg (scV ⟨[oneX name], []⟩ .nls)]) Tryz.func15 rfl rfl rfl rfl ?_ kA) ?_
    · refine ⟨Rd.agg ⟨Rd.row (n := 1) (sz := 2) (c := [.str name, .ow 12 5 0 1]) (c' := Ob.pv (oneX name)) trivial (by simp only [AH.get_set, if_true]; rfl) rfl ⟨Rd.of_clean rfl, Rd.row (n := 1) (sz := 5) (c := fldX.pv) trivial (by simp only [AH.get_set, AH.get_up, Nat.reduceEqDiff, if_true, if_false]; rfl) rfl (RdL.of_clean rfl), trivial⟩, Rd.of_clean rfl, trivial⟩ rfl, trivial⟩
    intro v h2 hq
    generalize hG : wpO _ _ _ _ _ _ _ _ _ _ _ = G
    obtain ⟨rfl, z⟩ := hq
    have n2 : h2.next = 21 := z.next.trans (by simp only [AH.next_set, AH.next_up]; rfl)
    obtain ⟨z0, g0⟩ := z.cells (id := 0) (by simp only [AH.get_set, AH.get_up, Nat.reduceEqDiff, if_true, if_false]; rfl)
    obtain ⟨z12, g12⟩ := z.cells (id := 12) (by simp only [AH.get_set, AH.get_up, Nat.reduceEqDiff, if_true, if_false]; rfl)
    obtain ⟨z14, g14⟩ := z.cells (id := 14) (by simp only [AH.get_set, AH.get_up, Nat.reduceEqDiff, if_true, if_false]; rfl)
    subst hG
    simp -implicitDefEqProofs only [wpC_seq, rowsA, if_true, if_false, opnd, ofVal, ofVal1, layArgs, Nat.reduceAdd, reduceIte, Nat.reduceEqDiff, reduceCtorEq, rowsB, cellsG, Nat.reduceMul, Sc.len, Ob.len, En.len, Fld.len, fda_ptr o25_0, fda_ptr o25_1, fda_ptr o33_0, fda_ptr o33_1, fda_ptr o33_2, fda_ptr o33_3, fda_ptr o31_0, fda_ptr o31_1, fda_ptr o41_0, fda_ptr o41_1, fda_ptr o45_0, fda_ptr o45_1, fda_rop o25_0, fda_rop o25_1, fda_rop o33_0, fda_rop o33_1, fda_rop o33_2, fda_rop o33_3, fda_rop o31_0, fda_rop o31_1, fda_rop o41_0, fda_rop o41_1, fda_rop o45_0, fda_rop o45_1,
    ld25, ld33, ld41, ld45, ld33r, ld41r, ld45r, ld22, ld23, ld9o, ld9or, ld39o, ld39or, ld9e, ld9er, ld43e, ld43er, ld9f0, ld9f0r, ld9f1, ld9f1r, ld9f2, ld9f2r, ld9f3, ld9f3r, ld9f4, ld9f4r, ld31f, ln22, ln23, ln39, ln43, List.drop_drop, n2, g0, g12, g14, al25, sz25, st25 s, goD_eq, bd22_0, ap22n s.os ok.enough.1 (by have := ok.enough.2.1; omega), load_agg ag41 sz41 (c := [.str name, .ow 12 5 0 1]) (Nat.le_refl 2), bd22_1]
    have e22 := ok.enough.2.1
    rw [ap_more (P := Tryz.prog) (sz := 2) (id := 27) (m := s.os.length) (d := flat Ob.pv s.os) (n := 1) (x := .ow 29 2 0 1) (xs := [.str name, .ow 12 5 0 1]) u22 i41 (by decide) (by simp only [AH.get_set, AH.get_up, Nat.reduceEqDiff, if_true, if_false]) (flat_len (f := Ob.pv) (fun _ => rfl) s.os) (cellR_ow (n := 1) (by simp only [AH.get_set, AH.get_up, Nat.reduceEqDiff, if_true, if_false]; rfl) rfl) (by decide) (by omega) (by omega)]
    rw [goD_st (by decide) (by kernel_rfl)]
    simp -implicitDefEqProofs only [wpC_seq, rowsA, if_true, if_false, opnd, ofVal, ofVal1, layArgs, Nat.reduceAdd, reduceIte, Nat.reduceEqDiff, reduceCtorEq, rowsB, cellsG, Nat.reduceMul, Sc.len, Ob.len, En.len, Fld.len, fda_ptr o25_0, fda_ptr o25_1, fda_ptr o33_0, fda_ptr o33_1, fda_ptr o33_2, fda_ptr o33_3, fda_ptr o31_0, fda_ptr o31_1, fda_ptr o41_0, fda_ptr o41_1, fda_ptr o45_0, fda_ptr o45_1, fda_rop o25_0, fda_rop o25_1, fda_rop o33_0, fda_rop o33_1, fda_rop o33_2, fda_rop o33_3, fda_rop o31_0, fda_rop o31_1, fda_rop o41_0, fda_rop o41_1, fda_rop o45_0, fda_rop o45_1,
    ld25, ld33, ld41, ld45, ld33r, ld41r, ld45r, ld22, ld23, ld9o, ld9or, ld39o, ld39or, ld9e, ld9er, ld43e, ld43er, ld9f0, ld9f0r, ld9f1, ld9f1r, ld9f2, ld9f2r, ld9f3, ld9f3r, ld9f4, ld9f4r, ld31f, ln22, ln23, ln39, ln43, List.drop_drop, sz22, st25a]
    rw [goD_st (by decide) (by kernel_rfl)]
    have ldT := fun (id a b c : Nat) => load_agg (c := [.ow id a b c, rowV En.pv s.es]) ag25 sz25 (Nat.le_refl 2)
    simp -implicitDefEqProofs only [wpC_seq, rowsA, if_true, if_false, opnd, ofVal, ofVal1, layArgs, Nat.reduceAdd, reduceIte, Nat.reduceEqDiff, reduceCtorEq, rowsB, cellsG, Nat.reduceMul, Sc.len, Ob.len, En.len, Fld.len, fda_ptr o25_0, fda_ptr o25_1, fda_ptr o33_0, fda_ptr o33_1, fda_ptr o33_2, fda_ptr o33_3, fda_ptr o31_0, fda_ptr o31_1, fda_ptr o41_0, fda_ptr o41_1, fda_ptr o45_0, fda_ptr o45_1, fda_rop o25_0, fda_rop o25_1, fda_rop o33_0, fda_rop o33_1, fda_rop o33_2, fda_rop o33_3, fda_rop o31_0, fda_rop o31_1, fda_rop o41_0, fda_rop o41_1, fda_rop o45_0, fda_rop o45_1,
    ld25, ld33, ld41, ld45, ld33r, ld41r, ld45r, ld22, ld23, ld9o, ld9or, ld39o, ld39or, ld9e, ld9er, ld43e, ld43er, ld9f0, ld9f0r, ld9f1, ld9f1r, ld9f2, ld9f2r, ld9f3, ld9f3r, ld9f4, ld9f4r, ld31f, ln22, ln23, ln39, ln43, List.drop_drop, ldT]
    have kT := check_s (mx := mx) (s := ⟨s.os ++ [oneX name], s.es⟩) (fits_more name hs e22) (small_more hm hn)
    have eT : Sc.pv ⟨s.os ++ [oneX name], s.es⟩ = [.ro (flat Ob.pv s.os ++ Ob.pv (oneX name)) (s.os.length + 1), rowV En.pv s.es] := by simp [Sc.pv, rowV, flat_app, flat]
    rw [eT] at kT
    refine goO_val (via_rd (p := fun _ => True) Tryz.func15 rfl rfl rfl rfl ?_ kT) ?_
    · refine ⟨Rd.agg ⟨Rd.row (n := s.os.length + 1) (sz := 2) (c := flat Ob.pv s.os ++ [.str name, .ow 12 5 0 1]) trivial (by simp only [AH.get_set, AH.get_up, Nat.reduceEqDiff, if_true, if_false]; rfl) (by rw [List.length_append, flat_len (f := Ob.pv) (z := 2) (fun _ => rfl), Nat.add_mul]; rfl) ((RdL.of_clean (flat_clean Ob.cl s.os)).append ⟨Rd.of_clean rfl, Rd.row (n := 1) (sz := 5) (c := fldX.pv) trivial (by simp only [AH.get_set, AH.get_up, Nat.reduceEqDiff, if_true, if_false]; exact g12) rfl (RdL.of_clean rfl), trivial⟩), Rd.of_clean rfl, trivial⟩ rfl, trivial⟩
    intro v h3 hq
    generalize hG : wpO _ _ _ _ _ _ _ _ _ _ _ = G
    obtain ⟨rfl, y⟩ := hq
    obtain ⟨y0, g0'⟩ := y.cells (id := 0) (by simp only [AH.get_set, AH.get_up, Nat.reduceEqDiff, if_true, if_false]; exact g0)
    have a1 := alone_v (mx := mx) name
    subst hG
    by_cases c8 : 8 ≤ s.os.length
    · have c8' : (8 : Int) ≤ (s.os.length : Int) := by omega
      have e1 := more_8 name ok c8
      simp -implicitDefEqProofs only [wpC_seq, rowsA, if_true, if_false, opnd, ofVal, ofVal1, layArgs, Nat.reduceAdd, reduceIte, Nat.reduceEqDiff, reduceCtorEq, rowsB, cellsG, Nat.reduceMul, Sc.len, Ob.len, En.len, Fld.len, fda_ptr o25_0, fda_ptr o25_1, fda_ptr o33_0, fda_ptr o33_1, fda_ptr o33_2, fda_ptr o33_3, fda_ptr o31_0, fda_ptr o31_1, fda_ptr o41_0, fda_ptr o41_1, fda_ptr o45_0, fda_ptr o45_1, fda_rop o25_0, fda_rop o25_1, fda_rop o33_0, fda_rop o33_1, fda_rop o33_2, fda_rop o33_3, fda_rop o31_0, fda_rop o31_1, fda_rop o41_0, fda_rop o41_1, fda_rop o45_0, fda_rop o45_1,
    ld25, ld33, ld41, ld45, ld33r, ld41r, ld45r, ld22, ld23, ld9o, ld9or, ld39o, ld39or, ld9e, ld9er, ld43e, ld43er, ld9f0, ld9f0r, ld9f1, ld9f1r, ld9f2, ld9f2r, ld9f3, ld9f3r, ld9f4, ld9f4r, ld31f, ln22, ln23, ln39, ln43, List.drop_drop, g0', c8', e1]
    · have c8' : ¬ (8 : Int) ≤ (s.os.length : Int) := by omega
      have c8n : s.os.length < 8 := by omega
      cases cn : (ownB mx name && nmB mx [120] idL) with
      | false =>
        rw [cn, if_neg (by decide)] at a1
        have e1 := more_91 name ok c8n cn
        have c91 : ¬ ((91 : Int) = 0) := by decide
        simp -implicitDefEqProofs only [wpC_seq, rowsA, if_true, if_false, opnd, ofVal, ofVal1, layArgs, Nat.reduceAdd, reduceIte, Nat.reduceEqDiff, reduceCtorEq, rowsB, cellsG, Nat.reduceMul, Sc.len, Ob.len, En.len, Fld.len, fda_ptr o25_0, fda_ptr o25_1, fda_ptr o33_0, fda_ptr o33_1, fda_ptr o33_2, fda_ptr o33_3, fda_ptr o31_0, fda_ptr o31_1, fda_ptr o41_0, fda_ptr o41_1, fda_ptr o45_0, fda_ptr o45_1, fda_rop o25_0, fda_rop o25_1, fda_rop o33_0, fda_rop o33_1, fda_rop o33_2, fda_rop o33_3, fda_rop o31_0, fda_rop o31_1, fda_rop o41_0, fda_rop o41_1, fda_rop o45_0, fda_rop o45_1,
    ld25, ld33, ld41, ld45, ld33r, ld41r, ld45r, ld22, ld23, ld9o, ld9or, ld39o, ld39or, ld9e, ld9er, ld43e, ld43er, ld9f0, ld9f0r, ld9f1, ld9f1r, ld9f2, ld9f2r, ld9f3, ld9f3r, ld9f4, ld9f4r, ld31f, ln22, ln23, ln39, ln43, List.drop_drop, g0', c8', e1, a1, c91]
      | true =>
        rw [cn, if_pos rfl] at a1
        have k17 := obj_c (mx := mx) hs name
        have k19 := enm_c (mx := mx) hs name
        have m92 := more_92 name ok c8n cn
        have m0 := more_0 name ok c8n cn
        by_cases d1 : 0 ≤ objAt s name
        · have e1 := m92 (by simp [d1])
          simp -implicitDefEqProofs only [wpC_seq, rowsA, if_true, if_false, opnd, ofVal, ofVal1, layArgs, Nat.reduceAdd, reduceIte, Nat.reduceEqDiff, reduceCtorEq, rowsB, cellsG, Nat.reduceMul, Sc.len, Ob.len, En.len, Fld.len, fda_ptr o25_0, fda_ptr o25_1, fda_ptr o33_0, fda_ptr o33_1, fda_ptr o33_2, fda_ptr o33_3, fda_ptr o31_0, fda_ptr o31_1, fda_ptr o41_0, fda_ptr o41_1, fda_ptr o45_0, fda_ptr o45_1, fda_rop o25_0, fda_rop o25_1, fda_rop o33_0, fda_rop o33_1, fda_rop o33_2, fda_rop o33_3, fda_rop o31_0, fda_rop o31_1, fda_rop o41_0, fda_rop o41_1, fda_rop o45_0, fda_rop o45_1,
    ld25, ld33, ld41, ld45, ld33r, ld41r, ld45r, ld22, ld23, ld9o, ld9or, ld39o, ld39or, ld9e, ld9er, ld43e, ld43er, ld9f0, ld9f0r, ld9f1, ld9f1r, ld9f2, ld9f2r, ld9f3, ld9f3r, ld9f4, ld9f4r, ld31f, ln22, ln23, ln39, ln43, List.drop_drop, g0', c8', e1, a1, ld25 s, goO_known k17, d1]
        · by_cases d2 : 0 ≤ enmAt s name
          · have e1 := m92 (by simp [d2])
            simp -implicitDefEqProofs only [wpC_seq, rowsA, if_true, if_false, opnd, ofVal, ofVal1, layArgs, Nat.reduceAdd, reduceIte, Nat.reduceEqDiff, reduceCtorEq, rowsB, cellsG, Nat.reduceMul, Sc.len, Ob.len, En.len, Fld.len, fda_ptr o25_0, fda_ptr o25_1, fda_ptr o33_0, fda_ptr o33_1, fda_ptr o33_2, fda_ptr o33_3, fda_ptr o31_0, fda_ptr o31_1, fda_ptr o41_0, fda_ptr o41_1, fda_ptr o45_0, fda_ptr o45_1, fda_rop o25_0, fda_rop o25_1, fda_rop o33_0, fda_rop o33_1, fda_rop o33_2, fda_rop o33_3, fda_rop o31_0, fda_rop o31_1, fda_rop o41_0, fda_rop o41_1, fda_rop o45_0, fda_rop o45_1,
    ld25, ld33, ld41, ld45, ld33r, ld41r, ld45r, ld22, ld23, ld9o, ld9or, ld39o, ld39or, ld9e, ld9er, ld43e, ld43er, ld9f0, ld9f0r, ld9f1, ld9f1r, ld9f2, ld9f2r, ld9f3, ld9f3r, ld9f4, ld9f4r, ld31f, ln22, ln23, ln39, ln43, List.drop_drop, g0', c8', e1, a1, ld25 s, goO_known k17, goO_known k19, d1, d2]
          · have e1 := m0 (by simp [d1, d2])
            simp -implicitDefEqProofs only [wpC_seq, rowsA, if_true, if_false, opnd, ofVal, ofVal1, layArgs, Nat.reduceAdd, reduceIte, Nat.reduceEqDiff, reduceCtorEq, rowsB, cellsG, Nat.reduceMul, Sc.len, Ob.len, En.len, Fld.len, fda_ptr o25_0, fda_ptr o25_1, fda_ptr o33_0, fda_ptr o33_1, fda_ptr o33_2, fda_ptr o33_3, fda_ptr o31_0, fda_ptr o31_1, fda_ptr o41_0, fda_ptr o41_1, fda_ptr o45_0, fda_ptr o45_1, fda_rop o25_0, fda_rop o25_1, fda_rop o33_0, fda_rop o33_1, fda_rop o33_2, fda_rop o33_3, fda_rop o31_0, fda_rop o31_1, fda_rop o41_0, fda_rop o41_1, fda_rop o45_0, fda_rop o45_1,
    ld25, ld33, ld41, ld45, ld33r, ld41r, ld45r, ld22, ld23, ld9o, ld9or, ld39o, ld39or, ld9e, ld9er, ld43e, ld43er, ld9f0, ld9f0r, ld9f1, ld9f1r, ld9f2, ld9f2r, ld9f3, ld9f3r, ld9f4, ld9f4r, ld31f, ln22, ln23, ln39, ln43, List.drop_drop, g0', c8', e1, a1, ld25 s, goO_known k17, goO_known k19, d1, d2]
  · simp -implicitDefEqProofs only [wpC_seq, rowsA, if_true, if_false, opnd, ofVal, ofVal1, layArgs, Nat.reduceAdd, reduceIte, Nat.reduceEqDiff, reduceCtorEq, rowsB, cellsG, Nat.reduceMul, Sc.len, Ob.len, En.len, Fld.len, fda_ptr o25_0, fda_ptr o25_1, fda_ptr o33_0, fda_ptr o33_1, fda_ptr o33_2, fda_ptr o33_3, fda_ptr o31_0, fda_ptr o31_1, fda_ptr o41_0, fda_ptr o41_1, fda_ptr o45_0, fda_ptr o45_1, fda_rop o25_0, fda_rop o25_1, fda_rop o33_0, fda_rop o33_1, fda_rop o33_2, fda_rop o33_3, fda_rop o31_0, fda_rop o31_1, fda_rop o41_0, fda_rop o41_1, fda_rop o45_0, fda_rop o45_1,
    ld25, ld33, ld41, ld45, ld33r, ld41r, ld45r, ld22, ld23, ld9o, ld9or, ld39o, ld39or, ld9e, ld9er, ld43e, ld43er, ld9f0, ld9f0r, ld9f1, ld9f1r, ld9f2, ld9f2r, ld9f3, ld9f3r, ld9f4, ld9f4r, ld31f, ln22, ln23, ln39, ln43, List.drop_drop, goO_known fixed9_c, ld25 s, goO_known (check_s hs hm), c1]
end Go.Proofs.YtcbngkmmmfaaoaaGreatDoor
/-
  SCHEMAS THAT MAY BE, Q22: SchemaLess.
-/
namespace Go.Proofs.YtcbngkmmmfaaoaaGreatDoor
open Go.RowKit Go.Lib Go.Ac
set_option linter.unusedSimpArgs false
set_option maxRecDepth 100000
variable {mx : Int}
theorem ix22w {l : List Ob} {i : Nat} {o : Ob} (ho : l[i]? = some o) : ∃ r, (flat Ob.pv l).drop (i * 2) = o.pv ++ r ∧ (flat Ob.pv l).drop (i * 2 + 1) = List.drop 1 (o.pv ++ r) ∧ ∀ (h : AH) (R : Nat), idaO Tryz.prog h 22 (.ow R (l.length * 2) 0 l.length) (.int .i64 i) = if liveG (l.length * 2) (h.get R) then some (.q (.ptr R (l.length * 2) (i * 2))) else none := by
  obtain ⟨r, hr⟩ := flat_drop (f := Ob.pv) (z := 2) (fun _ => rfl) l i o ho
  have hi := (List.getElem?_eq_some_iff.1 ho).1
  refine ⟨r, hr, by rw [← List.drop_drop, hr], fun h R => ?_⟩
  simp only [idaO, liveB_ow, idxAddr, u22, sz41]
  rw [if_pos (show 0 ≤ (i : Int) ∧ (i : Int) < (l.length : Int) from ⟨by omega, by omega⟩), Int.toNat_natCast, Nat.zero_add]
  rfl
theorem flat_take {α : Type} {f : α → List PV} {z : Nat} (hz : ∀ x, (f x).length = z) : ∀ (l : List α) (n : Nat), (flat f l).take (n * z) = flat f (l.take n)
  | [], n => by simp [flat]
  | x :: l, 0 => by simp [flat]
  | x :: l, n + 1 => by
    rw [flat, List.take_succ_cons, flat, List.take_append, hz x, List.take_of_length_le (by rw [hz x, Nat.add_mul]; omega), show (n + 1) * z - z = n * z by rw [Nat.add_mul]; omega, flat_take hz l n]
theorem flat_dropN {α : Type} {f : α → List PV} {z : Nat} (hz : ∀ x, (f x).length = z) : ∀ (l : List α) (n : Nat), (flat f l).drop (n * z) = flat f (l.drop n)
  | [], n => by simp [flat]
  | x :: l, 0 => by simp [flat]
  | x :: l, n + 1 => by
    rw [flat, List.drop_succ_cons, List.drop_append, hz x, List.drop_eq_nil_of_le (by rw [hz x, Nat.add_mul]; omega), List.nil_append, show (n + 1) * z - z = n * z by rw [Nat.add_mul]; omega, flat_dropN hz l n]
theorem sl22_to {l : List Ob} {n : Nat} {h : AH} (hn : n ≤ l.length) : (if (liveB h (rowV Ob.pv l) && sizeB Tryz.prog h 22 (rowV Ob.pv l)) = true then (sliceV Tryz.prog 22 (rowV Ob.pv l) none (some (.int .i64 n)) none).map OR.q else none) = some (.q (rowV Ob.pv (l.take n))) := by
  have hl := flat_len (f := Ob.pv) (z := 2) (fun _ => rfl) l
  simp only [rowV, liveB, sizeB, Bool.and_self, if_true, sliceV, u22, sz41, hl, boundD, bound, Option.bind_some]
  rw [if_pos (by omega), Option.bind_some, Int.toNat_natCast]
  by_cases h0 : 0 = n
  · subst h0
    simp [flat]
  · rw [if_neg h0, Nat.zero_mul, List.drop_zero, Nat.sub_zero, flat_take (f := Ob.pv) (fun _ => rfl), List.length_take, Nat.min_eq_left hn]
    rfl
theorem sl22_from {l : List Ob} {n : Nat} {i : Int} {h : AH} (hi : i = (n : Int)) (hn : n ≤ l.length) : (if (liveB h (rowV Ob.pv l) && sizeB Tryz.prog h 22 (rowV Ob.pv l)) = true then (sliceV Tryz.prog 22 (rowV Ob.pv l) (some (.int .i64 i)) none none).map OR.q else none) = some (.q (rowV Ob.pv (l.drop n))) := by
  subst hi
  have hl := flat_len (f := Ob.pv) (z := 2) (fun _ => rfl) l
  simp only [rowV, liveB, sizeB, Bool.and_self, if_true, sliceV, u22, sz41, hl, boundD, bound, Option.bind_some]
  rw [if_pos (by omega), Option.bind_some, Int.toNat_natCast]
  by_cases h0 : n = l.length
  · subst h0
    simp [flat]
  · rw [if_neg h0, flat_dropN (f := Ob.pv) (fun _ => rfl), ← List.length_drop, List.take_of_length_le (by rw [flat_len (f := Ob.pv) (z := 2) (fun _ => rfl)]; omega)]
    rfl
theorem bld25b (id x y z k : Nat) (c : List PV) : bldO Tryz.prog 25 [(0, .ow id x y z), (1, .ro c k)] = some (.q (.agg [.ow id x y z, .ro c k])) := by kernel_rfl
theorem st25b (id a x y z k : Nat) (c : List PV) : stoG id 2 0 (.agg [.ow a x y z, .ro c k]) 2 (some (.cells 25 0 false [.nls, .nls])) = some (.w .undef id (.cells 25 0 false [.ow a x y z, .ro c k])) := stoG_all id 2 0 25 (.agg [.ow a x y z, .ro c k]) [.nls, .nls] rfl rfl rfl
theorem bld25c (id x y z : Nat) (l : List En) : bldO Tryz.prog 25 [(0, .ow id x y z), (1, rowV En.pv l)] = some (.q (.agg [.ow id x y z, rowV En.pv l])) := bld25b ..
theorem st25c (id a x y z : Nat) (l : List En) : stoG id 2 0 (.agg [.ow a x y z, rowV En.pv l]) 2 (some (.cells 25 0 false [.nls, .nls])) = some (.w .undef id (.cells 25 0 false [.ow a x y z, rowV En.pv l])) := st25b ..
theorem ap22z {h : AH} {fr : Nat} {v : PV} (hv : v = .els ∨ ∃ id fz d m, v = .ow id (m * 2) 0 m ∧ h.get id = some (.cells 41 2 fz d) ∧ d.length = m * 2) : appO Tryz.prog h fr [v, rowV Ob.pv []] [22, 22] = some (.q v) :=
  ap_none u22 i41 (by decide) (by rcases hv with rfl | ⟨id, fz, d, m, rfl, h1, h2⟩; exact .inr (.inl rfl); exact .inr (.inr ⟨id, m, fz, d, rfl, h1, h2⟩)) (cellR_ro (n := 0) (c := []) rfl)
theorem ap22m {h : AH} {fr id m : Nat} {d : List PV} (l : List Ob) (hg : h.get id = some (.cells 41 2 false d)) (hd : d.length = m * 2) (h0 : 0 < l.length) (hb : m + l.length ≤ 1000000) : appO Tryz.prog h fr [.ow id (m * 2) 0 m, rowV Ob.pv l] [22, 22] = some (.w (.ow id ((m + l.length) * 2) 0 (m + l.length)) id (.cells 41 2 false (d ++ flat Ob.pv l))) :=
  ap_more u22 i41 (by decide) hg hd (cellR_ro (flat_len (f := Ob.pv) (fun _ => rfl) l)) h0 (by omega) (by omega)
theorem goD_sf {P : Program} {G : Glob} {md : FuncId → Md} {ops : Array Oper} {base i : Nat} {rest : List Oper} {d : Option Tmp} {f : Fr} {h : AH} {lg : List (Nat × Nat)} {Q : OX → Prop} {v : PV} {id : Nat} {ob : AO} (hne : id ≠ base + i) (hf : fore ops i = true) (hl : Ac.lone ops i = false) : goD P G md ops base i rest d f h lg Q (some (.w v id ob)) = wpD P G md ops base (i + 1) rest (putA f d v) (h.set id ob) ((i, id) :: lg) Q := by
  have h2 : ford ops i (opnd G f.at) base id lg = true := by simp [ford, hf]
  rw [goD_w, if_neg hne, hl, h2]
  simp
/-- What stays through SchemaLess' rounds. -/
structure LessS (s : Sc) (n T R : Nat) (F : Fr) (h : AH) : Prop where
  f1 : F.at 1 = .int .i64 n
  f2 : F.at 2 = .ptr 0 2 0
  f5 : F.at 5 = .ptr T 2 0
  g0 : h.get 0 = some (.cells 25 0 false s.pv)
  gT : h.get T = some (.cells 25 0 false [.ow R ((s.less n).os.length * 2) 0 (s.less n).os.length, rowV En.pv s.es])
  gR : h.get R = some (.cells 41 2 false (flat Ob.pv (s.less n).os))
def invLO (s : Sc) (n T R : Nat) (x : List UInt8) (k : Nat) (F : Fr) (h : AH) : Prop := ∃ i : Nat, k + i = (s.less n).os.length ∧ LessS s n T R F h ∧ F.at 6 = .int .i64 i ∧ ∀ q ∈ (s.less n).os.take i, ∀ f ∈ q.fs, f.t ≠ x
def invLI (s : Sc) (n T R i : Nat) (q : Ob) (x : List UInt8) (k : Nat) (F : Fr) (h : AH) : Prop := ∃ j : Nat, k + j = q.fs.length ∧ LessS s n T R F h ∧ F.at 6 = .int .i64 i ∧ F.at 7 = .int .i64 j ∧ ∀ f ∈ q.fs.take j, f.t ≠ x
theorem take_next {α : Type} {l : List α} {i : Nat} {x : α} (hx : l[i]? = some x) {p : α → Prop} (h1 : ∀ y ∈ l.take i, p y) (h2 : p x) : ∀ y ∈ l.take (i + 1), p y := by
  obtain ⟨hi, rfl⟩ := List.getElem?_eq_some_iff.1 hx
  intro y hy
  rw [List.take_succ_eq_append_getElem hi, List.mem_append] at hy
  rcases hy with q | q
  · exact h1 y q
  · rw [List.mem_singleton.1 q]
    exact h2
theorem less_call {s : Sc} (hs : s.fits) (hm : s.small) {n R : Nat} {o : Ob} (ho : s.os[n]? = some o) {h : AH} (gR : h.get R = some (.cells 41 2 false (flat Ob.pv (s.less n).os))) : ∃ v' h', (∀ fr, CR Tryz.prog (globM mx) md (.fn 15) [.agg [.ow R ((s.less n).os.length * 2) 0 (s.less n).os.length, rowV En.pv s.es]] h fr (.sh v' h')) ∧ (v' = .int .i64 (checkV mx (s.less n)) ∧ Fzn h h') := by
  have hlen := (less_perm ho).length_eq
  rw [List.length_cons] at hlen
  have h1 : (s.less n).fits := ⟨by have := hs.1; omega, hs.2.1, fun q hq => hs.2.2 q (less_mem ho hq)⟩
  have h2 : (s.less n).small := ⟨fun q hq => hm.1 q (less_mem ho hq), hm.2⟩
  have k := check_s (mx := mx) h1 h2
  exact via_rd (p := fun _ => True) (args' := [.agg (s.less n).pv]) Tryz.func15 rfl rfl rfl rfl ⟨Rd.agg ⟨Rd.row trivial gR (flat_len (f := Ob.pv) (fun _ => rfl) _) (RdL.of_clean (flat_clean Ob.cl _)), Rd.of_clean rfl, trivial⟩ rfl, trivial⟩ k
set_option maxHeartbeats 1000000 in
theorem schemaLess_c {s : Sc} (hs : s.fits) (hm : s.small) (a : Int) (h : AH) (fr : Nat) : CR Tryz.prog (globM mx) md (.fn 8) [.agg s.pv, .int .i64 a] h fr (.val (.bool true)) := by
  refine CR.plain (rs := [.tmp 4]) Tryz.func8 rfl rfl rfl rfl rfl rfl rfl ?_ h fr
  by_cases c1 : checkV mx s = 0
  rotate_left
  · simp -implicitDefEqProofs only [wpC_seq, rowsA, if_true, if_false, opnd, ofVal, ofVal1, layArgs, Nat.reduceAdd, reduceIte, Nat.reduceEqDiff, reduceCtorEq, rowsB, cellsG, Nat.reduceMul, Sc.len, Ob.len, En.len, Fld.len, fda_ptr o25_0, fda_ptr o25_1, fda_ptr o33_0, fda_ptr o33_1, fda_ptr o33_2, fda_ptr o33_3, fda_ptr o31_0, fda_ptr o31_1, fda_ptr o41_0, fda_ptr o41_1, fda_ptr o45_0, fda_ptr o45_1, fda_rop o25_0, fda_rop o25_1, fda_rop o33_0, fda_rop o33_1, fda_rop o33_2, fda_rop o33_3, fda_rop o31_0, fda_rop o31_1, fda_rop o41_0, fda_rop o41_1, fda_rop o45_0, fda_rop o45_1,
    ld25, ld33, ld41, ld45, ld33r, ld41r, ld45r, ld22, ld23, ld9o, ld9or, ld39o, ld39or, ld9e, ld9er, ld43e, ld43er, ld9f0, ld9f0r, ld9f1, ld9f1r, ld9f2, ld9f2r, ld9f3, ld9f3r, ld9f4, ld9f4r, ld31f, ln22, ln23, ln39, ln43, List.drop_drop, goO_known fixed9_c, ld25 s, goO_known (check_s hs hm), c1]
  have ok := check_0.1 c1
  by_cases c2 : a < 0
  · simp -implicitDefEqProofs only [wpC_seq, rowsA, if_true, if_false, opnd, ofVal, ofVal1, layArgs, Nat.reduceAdd, reduceIte, Nat.reduceEqDiff, reduceCtorEq, rowsB, cellsG, Nat.reduceMul, Sc.len, Ob.len, En.len, Fld.len, fda_ptr o25_0, fda_ptr o25_1, fda_ptr o33_0, fda_ptr o33_1, fda_ptr o33_2, fda_ptr o33_3, fda_ptr o31_0, fda_ptr o31_1, fda_ptr o41_0, fda_ptr o41_1, fda_ptr o45_0, fda_ptr o45_1, fda_rop o25_0, fda_rop o25_1, fda_rop o33_0, fda_rop o33_1, fda_rop o33_2, fda_rop o33_3, fda_rop o31_0, fda_rop o31_1, fda_rop o41_0, fda_rop o41_1, fda_rop o45_0, fda_rop o45_1,
    ld25, ld33, ld41, ld45, ld33r, ld41r, ld45r, ld22, ld23, ld9o, ld9or, ld39o, ld39or, ld9e, ld9er, ld43e, ld43er, ld9f0, ld9f0r, ld9f1, ld9f1r, ld9f2, ld9f2r, ld9f3, ld9f3r, ld9f4, ld9f4r, ld31f, ln22, ln23, ln39, ln43, List.drop_drop, goO_known fixed9_c, ld25 s, goO_known (check_s hs hm), c1, c2]
  by_cases c3 : (s.os.length : Int) ≤ a
  · simp -implicitDefEqProofs only [wpC_seq, rowsA, if_true, if_false, opnd, ofVal, ofVal1, layArgs, Nat.reduceAdd, reduceIte, Nat.reduceEqDiff, reduceCtorEq, rowsB, cellsG, Nat.reduceMul, Sc.len, Ob.len, En.len, Fld.len, fda_ptr o25_0, fda_ptr o25_1, fda_ptr o33_0, fda_ptr o33_1, fda_ptr o33_2, fda_ptr o33_3, fda_ptr o31_0, fda_ptr o31_1, fda_ptr o41_0, fda_ptr o41_1, fda_ptr o45_0, fda_ptr o45_1, fda_rop o25_0, fda_rop o25_1, fda_rop o33_0, fda_rop o33_1, fda_rop o33_2, fda_rop o33_3, fda_rop o31_0, fda_rop o31_1, fda_rop o41_0, fda_rop o41_1, fda_rop o45_0, fda_rop o45_1,
    ld25, ld33, ld41, ld45, ld33r, ld41r, ld45r, ld22, ld23, ld9o, ld9or, ld39o, ld39or, ld9e, ld9er, ld43e, ld43er, ld9f0, ld9f0r, ld9f1, ld9f1r, ld9f2, ld9f2r, ld9f3, ld9f3r, ld9f4, ld9f4r, ld31f, ln22, ln23, ln39, ln43, List.drop_drop, goO_known fixed9_c, ld25 s, goO_known (check_s hs hm), c1, c2, c3]
  by_cases c4 : (s.os.length : Int) < 2
  · simp -implicitDefEqProofs only [wpC_seq, rowsA, if_true, if_false, opnd, ofVal, ofVal1, layArgs, Nat.reduceAdd, reduceIte, Nat.reduceEqDiff, reduceCtorEq, rowsB, cellsG, Nat.reduceMul, Sc.len, Ob.len, En.len, Fld.len, fda_ptr o25_0, fda_ptr o25_1, fda_ptr o33_0, fda_ptr o33_1, fda_ptr o33_2, fda_ptr o33_3, fda_ptr o31_0, fda_ptr o31_1, fda_ptr o41_0, fda_ptr o41_1, fda_ptr o45_0, fda_ptr o45_1, fda_rop o25_0, fda_rop o25_1, fda_rop o33_0, fda_rop o33_1, fda_rop o33_2, fda_rop o33_3, fda_rop o31_0, fda_rop o31_1, fda_rop o41_0, fda_rop o41_1, fda_rop o45_0, fda_rop o45_1,
    ld25, ld33, ld41, ld45, ld33r, ld41r, ld45r, ld22, ld23, ld9o, ld9or, ld39o, ld39or, ld9e, ld9er, ld43e, ld43er, ld9f0, ld9f0r, ld9f1, ld9f1r, ld9f2, ld9f2r, ld9f3, ld9f3r, ld9f4, ld9f4r, ld31f, ln22, ln23, ln39, ln43, List.drop_drop, goO_known fixed9_c, ld25 s, goO_known (check_s hs hm), c1, c2, c3, c4]
  obtain ⟨n, rfl⟩ : ∃ n : Nat, a = (n : Int) := ⟨a.toNat, by omega⟩
  obtain ⟨o, ho⟩ : ∃ o, s.os[n]? = some o := ⟨s.os[n], List.getElem?_eq_getElem (by omega)⟩
  simp -implicitDefEqProofs only [wpC_seq, rowsA, if_true, if_false, opnd, ofVal, ofVal1, layArgs, Nat.reduceAdd, reduceIte, Nat.reduceEqDiff, reduceCtorEq, rowsB, cellsG, Nat.reduceMul, Sc.len, Ob.len, En.len, Fld.len, fda_ptr o25_0, fda_ptr o25_1, fda_ptr o33_0, fda_ptr o33_1, fda_ptr o33_2, fda_ptr o33_3, fda_ptr o31_0, fda_ptr o31_1, fda_ptr o41_0, fda_ptr o41_1, fda_ptr o45_0, fda_ptr o45_1, fda_rop o25_0, fda_rop o25_1, fda_rop o33_0, fda_rop o33_1, fda_rop o33_2, fda_rop o33_3, fda_rop o31_0, fda_rop o31_1, fda_rop o41_0, fda_rop o41_1, fda_rop o45_0, fda_rop o45_1,
    ld25, ld33, ld41, ld45, ld33r, ld41r, ld45r, ld22, ld23, ld9o, ld9or, ld39o, ld39or, ld9e, ld9er, ld43e, ld43er, ld9f0, ld9f0r, ld9f1, ld9f1r, ld9f2, ld9f2r, ld9f3, ld9f3r, ld9f4, ld9f4r, ld31f, ln22, ln23, ln39, ln43, List.drop_drop, goO_known fixed9_c, ld25 s, goO_known (check_s hs hm), c1, c2, c3, c4, bd22_0, goD_eq]
  have hlen := (less_perm ho).length_eq
  rw [List.length_cons] at hlen
  have e8 := ok.enough.2.1
  have w1 := IntWalk.i64_in ((n : Int) + 1) (by omega)
  have hld : (s.os.drop (n + 1)).length = s.os.length - (n + 1) := List.length_drop
  have hlt : (s.os.take n).length = n := by rw [List.length_take]; omega
  have hu : (s.less n).os = s.os.take n ++ s.os.drop (n + 1) := rfl
  generalize hQ : outX _ = Q
  have rest : ∀ (T R : Nat) (F : Fr) (h : AH), F.at 1 = .int .i64 n → F.at 2 = .ptr 0 2 0 → F.at 5 = .ptr T 2 0 → h.get 0 = some (.cells 25 0 false s.pv) → h.get T = some (.cells 25 0 false [.ow R ((s.less n).os.length * 2) 0 (s.less n).os.length, rowV En.pv s.es]) → h.get R = some (.cells 41 2 false (flat Ob.pv (s.less n).os)) → Q (.normal F h) := by
    subst hQ
    intro T R F h f1 f2 f5 g0 gT gR
    have ldT := fun (id a b c : Nat) => load_agg (c := [.ow id a b c, rowV En.pv s.es]) ag25 sz25 (Nat.le_refl 2)
    have ldT0 : ∀ (id a b c : Nat), loadO Tryz.prog 22 (some [.ow id a b c, rowV En.pv s.es]) = some (.q (.ow id a b c)) := fun _ _ _ _ => loadO_one ag22 sz22
    have lnT : ∀ (id a b c : Nat), lenO Tryz.prog [.ow id a b c] [22] = some (.q (.int .i64 c)) := fun _ _ _ _ => len_ow u22
    have hflat := flat_len (f := Ob.pv) (z := 2) (fun _ => rfl) (s.less n).os
    simp -implicitDefEqProofs only [wpC_seq, rowsA, if_true, if_false, opnd, ofVal, ofVal1, layArgs, Nat.reduceAdd, reduceIte, Nat.reduceEqDiff, reduceCtorEq, rowsB, cellsG, Nat.reduceMul, Sc.len, Ob.len, En.len, Fld.len, fda_ptr o25_0, fda_ptr o25_1, fda_ptr o33_0, fda_ptr o33_1, fda_ptr o33_2, fda_ptr o33_3, fda_ptr o31_0, fda_ptr o31_1, fda_ptr o41_0, fda_ptr o41_1, fda_ptr o45_0, fda_ptr o45_1, fda_rop o25_0, fda_rop o25_1, fda_rop o33_0, fda_rop o33_1, fda_rop o33_2, fda_rop o33_3, fda_rop o31_0, fda_rop o31_1, fda_rop o41_0, fda_rop o41_1, fda_rop o45_0, fda_rop o45_1,
    ld25, ld33, ld41, ld45, ld33r, ld41r, ld45r, ld22, ld23, ld9o, ld9or, ld39o, ld39or, ld9e, ld9er, ld43e, ld43er, ld9f0, ld9f0r, ld9f1, ld9f1r, ld9f2, ld9f2r, ld9f3, ld9f3r, ld9f4, ld9f4r, ld31f, ln22, ln23, ln39, ln43, List.drop_drop]
    refine wpC_loop (invLO s n T R o.n) (k := (s.less n).os.length) ⟨0, by omega, ⟨?_, ?_, ?_, ?_, ?_, ?_⟩, ?_, fun q hq => by simp at hq⟩ ?_
    · simp only [Fr.at_set, Nat.reduceEqDiff, reduceIte, f1]
    · simp only [Fr.at_set, Nat.reduceEqDiff, reduceIte, f2]
    · simp only [Fr.at_set, Nat.reduceEqDiff, reduceIte, f5]
    · simp only [AH.get_up, g0]
    · simp only [AH.get_up, gT]
    · simp only [AH.get_up, gR]
    · simp only [Fr.at_set, Nat.reduceEqDiff, reduceIte]; rfl
    clear f1 f2 f5 g0 gT gR
    rintro k F h ⟨i, ik, ⟨f1, f2, f5, g0, gT, gR⟩, f6, hall⟩
    have clean : ∀ (F' : Fr) (h' : AH), F'.at 1 = F.at 1 → F'.at 2 = F.at 2 → F'.at 5 = F.at 5 → (∀ j, h'.get j = h.get j) → LessS s n T R F' h' := fun F' h' a1 a2 a3 a4 => ⟨a1.trans f1, a2.trans f2, a3.trans f5, (a4 0).trans g0, (a4 T).trans gT, (a4 R).trans gR⟩
    cases k with
    | zero =>
      have c5 : ¬ ((i : Int) < ((s.less n).os.length : Int)) := by omega
      simp -implicitDefEqProofs only [wpC_seq, rowsA, if_true, if_false, opnd, ofVal, ofVal1, layArgs, Nat.reduceAdd, reduceIte, Nat.reduceEqDiff, reduceCtorEq, rowsB, cellsG, Nat.reduceMul, Sc.len, Ob.len, En.len, Fld.len, fda_ptr o25_0, fda_ptr o25_1, fda_ptr o33_0, fda_ptr o33_1, fda_ptr o33_2, fda_ptr o33_3, fda_ptr o31_0, fda_ptr o31_1, fda_ptr o41_0, fda_ptr o41_1, fda_ptr o45_0, fda_ptr o45_1, fda_rop o25_0, fda_rop o25_1, fda_rop o33_0, fda_rop o33_1, fda_rop o33_2, fda_rop o33_3, fda_rop o31_0, fda_rop o31_1, fda_rop o41_0, fda_rop o41_1, fda_rop o45_0, fda_rop o45_1,
    ld25, ld33, ld41, ld45, ld33r, ld41r, ld45r, ld22, ld23, ld9o, ld9or, ld39o, ld39or, ld9e, ld9er, ld43e, ld43er, ld9f0, ld9f0r, ld9f1, ld9f1r, ld9f2, ld9f2r, ld9f3, ld9f3r, ld9f4, ld9f4r, ld31f, ln22, ln23, ln39, ln43, List.drop_drop, f1, f2, f5, f6, g0, gT, gR, ldT, ldT0, lnT, c5]
      refine goO_val (less_call hs hm ho (by simp only [AH.get_up, gR])) ?_
      intro v h3 hq
      generalize hG : wpO _ _ _ _ _ _ _ _ _ _ _ = G
      obtain ⟨rfl, -⟩ := hq
      subst hG
      have e := less_0 ok ho (by omega) (fun q hq f hf => hall q (by rw [List.take_of_length_le (by omega)]; exact hq) f hf)
      simp -implicitDefEqProofs only [wpC_seq, rowsA, if_true, if_false, opnd, ofVal, ofVal1, layArgs, Nat.reduceAdd, reduceIte, Nat.reduceEqDiff, reduceCtorEq, rowsB, cellsG, Nat.reduceMul, e]
    | succ k =>
      have c5 : (i : Int) < ((s.less n).os.length : Int) := by omega
      obtain ⟨q, hq⟩ : ∃ q, (s.less n).os[i]? = some q := ⟨_, List.getElem?_eq_getElem (show i < (s.less n).os.length by omega)⟩
      have hqm := List.mem_of_getElem? hq
      have hqs := hs.2.2 q (less_mem ho hqm)
      obtain ⟨r, hd0, hd1, hix⟩ := ix22w hq
      simp -implicitDefEqProofs only [wpC_seq, rowsA, if_true, if_false, opnd, ofVal, ofVal1, layArgs, Nat.reduceAdd, reduceIte, Nat.reduceEqDiff, reduceCtorEq, rowsB, cellsG, Nat.reduceMul, Sc.len, Ob.len, En.len, Fld.len, fda_ptr o25_0, fda_ptr o25_1, fda_ptr o33_0, fda_ptr o33_1, fda_ptr o33_2, fda_ptr o33_3, fda_ptr o31_0, fda_ptr o31_1, fda_ptr o41_0, fda_ptr o41_1, fda_ptr o45_0, fda_ptr o45_1, fda_rop o25_0, fda_rop o25_1, fda_rop o33_0, fda_rop o33_1, fda_rop o33_2, fda_rop o33_3, fda_rop o31_0, fda_rop o31_1, fda_rop o41_0, fda_rop o41_1, fda_rop o45_0, fda_rop o45_1,
    ld25, ld33, ld41, ld45, ld33r, ld41r, ld45r, ld22, ld23, ld9o, ld9or, ld39o, ld39or, ld9e, ld9er, ld43e, ld43er, ld9f0, ld9f0r, ld9f1, ld9f1r, ld9f2, ld9f2r, ld9f3, ld9f3r, ld9f4, ld9f4r, ld31f, ln22, ln23, ln39, ln43, List.drop_drop, f1, f2, f5, f6, g0, gT, gR, ldT, ldT0, lnT, c5]
      refine wpC_loop (invLI s n T R i q o.n) (k := q.fs.length) ⟨0, by omega, clean _ _ ?_ ?_ ?_ ?_, ?_, ?_, fun f hf => by simp at hf⟩ ?_
      · simp only [Fr.at_set, Nat.reduceEqDiff, reduceIte]
      · simp only [Fr.at_set, Nat.reduceEqDiff, reduceIte]
      · simp only [Fr.at_set, Nat.reduceEqDiff, reduceIte]
      · intro j; simp only [AH.get_up]
      · simp only [Fr.at_set, Nat.reduceEqDiff, reduceIte, f6]
      · simp only [Fr.at_set, Nat.reduceEqDiff, reduceIte]; rfl
      clear clean f1 f2 f5 f6 g0 gT gR
      rintro k2 F h ⟨j, jk, ⟨f1, f2, f5, g0, gT, gR⟩, f6, f7, hin⟩
      have clean : ∀ (F' : Fr) (h' : AH), F'.at 1 = F.at 1 → F'.at 2 = F.at 2 → F'.at 5 = F.at 5 → (∀ j, h'.get j = h.get j) → LessS s n T R F' h' := fun F' h' a1 a2 a3 a4 => ⟨a1.trans f1, a2.trans f2, a3.trans f5, (a4 0).trans g0, (a4 T).trans gT, (a4 R).trans gR⟩
      cases k2 with
      | zero =>
        have c6 : ¬ ((j : Int) < (q.fs.length : Int)) := by omega
        have w := IntWalk.i64_in ((i : Int) + 1) (by omega)
        simp -implicitDefEqProofs only [wpC_seq, rowsA, if_true, if_false, opnd, ofVal, ofVal1, layArgs, Nat.reduceAdd, reduceIte, Nat.reduceEqDiff, reduceCtorEq, rowsB, cellsG, Nat.reduceMul, Sc.len, Ob.len, En.len, Fld.len, fda_ptr o25_0, fda_ptr o25_1, fda_ptr o33_0, fda_ptr o33_1, fda_ptr o33_2, fda_ptr o33_3, fda_ptr o31_0, fda_ptr o31_1, fda_ptr o41_0, fda_ptr o41_1, fda_ptr o45_0, fda_ptr o45_1, fda_rop o25_0, fda_rop o25_1, fda_rop o33_0, fda_rop o33_1, fda_rop o33_2, fda_rop o33_3, fda_rop o31_0, fda_rop o31_1, fda_rop o41_0, fda_rop o41_1, fda_rop o45_0, fda_rop o45_1,
    ld25, ld33, ld41, ld45, ld33r, ld41r, ld45r, ld22, ld23, ld9o, ld9or, ld39o, ld39or, ld9e, ld9er, ld43e, ld43er, ld9f0, ld9f0r, ld9f1, ld9f1r, ld9f2, ld9f2r, ld9f3, ld9f3r, ld9f4, ld9f4r, ld31f, ln22, ln23, ln39, ln43, List.drop_drop, f1, f2, f5, f6, f7, g0, gT, gR, ldT, ldT0, lnT, hix, hflat, hd0, hd1, c6, w]
        refine ⟨k, by omega, i + 1, by omega, clean _ _ ?_ ?_ ?_ ?_, ?_, take_next hq hall (fun f hf => hin f (by rw [List.take_of_length_le (by omega)]; exact hf))⟩
        · simp only [Fr.at_set, Nat.reduceEqDiff, reduceIte]
        · simp only [Fr.at_set, Nat.reduceEqDiff, reduceIte]
        · simp only [Fr.at_set, Nat.reduceEqDiff, reduceIte]
        · intro j; simp only [AH.get_up]
        · simp only [Fr.at_set, Nat.reduceEqDiff, reduceIte]; rfl
      | succ k2 =>
        have c6 : (j : Int) < (q.fs.length : Int) := by omega
        obtain ⟨f, hf⟩ : ∃ f, q.fs[j]? = some f := ⟨_, List.getElem?_eq_getElem (show j < q.fs.length by omega)⟩
        obtain ⟨r2, hr2⟩ := ix39 (l := q.fs) (i := (j : Int)) (by omega) (by rw [Int.toNat_natCast]; exact hf)
        obtain ⟨r3, hr3⟩ := ix22 (l := s.os) (i := (n : Int)) (by omega) (by rw [Int.toNat_natCast]; exact ho)
        by_cases c7 : f.t = o.n
        · simp -implicitDefEqProofs only [wpC_seq, rowsA, if_true, if_false, opnd, ofVal, ofVal1, layArgs, Nat.reduceAdd, reduceIte, Nat.reduceEqDiff, reduceCtorEq, rowsB, cellsG, Nat.reduceMul, Sc.len, Ob.len, En.len, Fld.len, fda_ptr o25_0, fda_ptr o25_1, fda_ptr o33_0, fda_ptr o33_1, fda_ptr o33_2, fda_ptr o33_3, fda_ptr o31_0, fda_ptr o31_1, fda_ptr o41_0, fda_ptr o41_1, fda_ptr o45_0, fda_ptr o45_1, fda_rop o25_0, fda_rop o25_1, fda_rop o33_0, fda_rop o33_1, fda_rop o33_2, fda_rop o33_3, fda_rop o31_0, fda_rop o31_1, fda_rop o41_0, fda_rop o41_1, fda_rop o45_0, fda_rop o45_1,
    ld25, ld33, ld41, ld45, ld33r, ld41r, ld45r, ld22, ld23, ld9o, ld9or, ld39o, ld39or, ld9e, ld9er, ld43e, ld43er, ld9f0, ld9f0r, ld9f1, ld9f1r, ld9f2, ld9f2r, ld9f3, ld9f3r, ld9f4, ld9f4r, ld31f, ln22, ln23, ln39, ln43, List.drop_drop, f1, f2, f5, f6, f7, g0, gT, gR, ldT, ldT0, lnT, hix, hflat, hd0, hd1, hr2, hr3, c6, c7]
          refine goO_val (less_call hs hm ho (by simp only [AH.get_up, gR])) ?_
          intro v h3 hq
          generalize hG : wpO _ _ _ _ _ _ _ _ _ _ _ = G
          obtain ⟨rfl, -⟩ := hq
          subst hG
          have e := less_93 ok ho (by omega) hqm (List.mem_of_getElem? hf) c7
          simp -implicitDefEqProofs only [wpC_seq, rowsA, if_true, if_false, opnd, ofVal, ofVal1, layArgs, Nat.reduceAdd, reduceIte, Nat.reduceEqDiff, reduceCtorEq, rowsB, cellsG, Nat.reduceMul, e]
        · have w := IntWalk.i64_in ((j : Int) + 1) (by omega)
          simp -implicitDefEqProofs only [wpC_seq, rowsA, if_true, if_false, opnd, ofVal, ofVal1, layArgs, Nat.reduceAdd, reduceIte, Nat.reduceEqDiff, reduceCtorEq, rowsB, cellsG, Nat.reduceMul, Sc.len, Ob.len, En.len, Fld.len, fda_ptr o25_0, fda_ptr o25_1, fda_ptr o33_0, fda_ptr o33_1, fda_ptr o33_2, fda_ptr o33_3, fda_ptr o31_0, fda_ptr o31_1, fda_ptr o41_0, fda_ptr o41_1, fda_ptr o45_0, fda_ptr o45_1, fda_rop o25_0, fda_rop o25_1, fda_rop o33_0, fda_rop o33_1, fda_rop o33_2, fda_rop o33_3, fda_rop o31_0, fda_rop o31_1, fda_rop o41_0, fda_rop o41_1, fda_rop o45_0, fda_rop o45_1,
    ld25, ld33, ld41, ld45, ld33r, ld41r, ld45r, ld22, ld23, ld9o, ld9or, ld39o, ld39or, ld9e, ld9er, ld43e, ld43er, ld9f0, ld9f0r, ld9f1, ld9f1r, ld9f2, ld9f2r, ld9f3, ld9f3r, ld9f4, ld9f4r, ld31f, ln22, ln23, ln39, ln43, List.drop_drop, f1, f2, f5, f6, f7, g0, gT, gR, ldT, ldT0, lnT, hix, hflat, hd0, hd1, hr2, hr3, c6, c7, w]
          refine ⟨k2, by omega, j + 1, by omega, clean _ _ ?_ ?_ ?_ ?_, ?_, ?_, take_next hf hin c7⟩
          · simp only [Fr.at_set, Nat.reduceEqDiff, reduceIte]
          · simp only [Fr.at_set, Nat.reduceEqDiff, reduceIte]
          · simp only [Fr.at_set, Nat.reduceEqDiff, reduceIte]
          · intro j; simp only [AH.get_up]
          · simp only [Fr.at_set, Nat.reduceEqDiff, reduceIte, f6]
          · simp only [Fr.at_set, Nat.reduceEqDiff, reduceIte]; rfl
  rw [sl22_to (show n ≤ s.os.length by omega)]
  have en : (n : Int) + 1 = ((n + 1 : Nat) : Int) := by omega
  by_cases n0 : n = 0
  · have e0 : s.os.take n = [] := by rw [n0]; rfl
    rw [hu, e0, List.nil_append, hld] at rest
    rw [e0]
    simp -implicitDefEqProofs only [wpC_seq, rowsA, if_true, if_false, opnd, ofVal, ofVal1, layArgs, Nat.reduceAdd, reduceIte, Nat.reduceEqDiff, reduceCtorEq, rowsB, cellsG, Nat.reduceMul, Sc.len, Ob.len, En.len, Fld.len, fda_ptr o25_0, fda_ptr o25_1, fda_ptr o33_0, fda_ptr o33_1, fda_ptr o33_2, fda_ptr o33_3, fda_ptr o31_0, fda_ptr o31_1, fda_ptr o41_0, fda_ptr o41_1, fda_ptr o45_0, fda_ptr o45_1, fda_rop o25_0, fda_rop o25_1, fda_rop o33_0, fda_rop o33_1, fda_rop o33_2, fda_rop o33_3, fda_rop o31_0, fda_rop o31_1, fda_rop o41_0, fda_rop o41_1, fda_rop o45_0, fda_rop o45_1,
    ld25, ld33, ld41, ld45, ld33r, ld41r, ld45r, ld22, ld23, ld9o, ld9or, ld39o, ld39or, ld9e, ld9er, ld43e, ld43er, ld9f0, ld9f0r, ld9f1, ld9f1r, ld9f2, ld9f2r, ld9f3, ld9f3r, ld9f4, ld9f4r, ld31f, ln22, ln23, ln39, ln43, List.drop_drop, ap22z (.inl rfl), w1]
    rw [sl22_from en (by omega)]
    simp -implicitDefEqProofs only [wpC_seq, rowsA, if_true, if_false, opnd, ofVal, ofVal1, layArgs, Nat.reduceAdd, reduceIte, Nat.reduceEqDiff, reduceCtorEq, rowsB, cellsG, Nat.reduceMul, Sc.len, Ob.len, En.len, Fld.len, fda_ptr o25_0, fda_ptr o25_1, fda_ptr o33_0, fda_ptr o33_1, fda_ptr o33_2, fda_ptr o33_3, fda_ptr o31_0, fda_ptr o31_1, fda_ptr o41_0, fda_ptr o41_1, fda_ptr o45_0, fda_ptr o45_1, fda_rop o25_0, fda_rop o25_1, fda_rop o33_0, fda_rop o33_1, fda_rop o33_2, fda_rop o33_3, fda_rop o31_0, fda_rop o31_1, fda_rop o41_0, fda_rop o41_1, fda_rop o45_0, fda_rop o45_1,
    ld25, ld33, ld41, ld45, ld33r, ld41r, ld45r, ld22, ld23, ld9o, ld9or, ld39o, ld39or, ld9e, ld9er, ld43e, ld43er, ld9f0, ld9f0r, ld9f1, ld9f1r, ld9f2, ld9f2r, ld9f3, ld9f3r, ld9f4, ld9f4r, ld31f, ln22, ln23, ln39, ln43, List.drop_drop, goD_eq, ap22n (s.os.drop (n + 1)) (by omega) (by omega), sz22, bld25c, al25, sz25, st25c]
    rw [goD_st (by decide) (by kernel_rfl)]
    simp -implicitDefEqProofs only [wpC_seq, rowsA, if_true, if_false, opnd, ofVal, ofVal1, layArgs, Nat.reduceAdd, reduceIte, Nat.reduceEqDiff, reduceCtorEq]
    refine rest 41 37 _ _ ?_ ?_ ?_ ?_ ?_ ?_
    all_goals simp only [Fr.at_set, AH.get_set, AH.get_up, Nat.reduceEqDiff, reduceIte, reduceCtorEq, if_true, if_false, hld]
  · by_cases n1 : n + 1 = s.os.length
    · have e0 : s.os.drop (n + 1) = [] := List.drop_eq_nil_of_le (by omega)
      rw [hu, e0, List.append_nil, hlt] at rest
      have an := fun {h : AH} {fr : Nat} => ap22n (h := h) (fr := fr) (s.os.take n) (by omega) (by omega)
      rw [hlt] at an
      simp -implicitDefEqProofs only [wpC_seq, rowsA, if_true, if_false, opnd, ofVal, ofVal1, layArgs, Nat.reduceAdd, reduceIte, Nat.reduceEqDiff, reduceCtorEq, rowsB, cellsG, Nat.reduceMul, Sc.len, Ob.len, En.len, Fld.len, fda_ptr o25_0, fda_ptr o25_1, fda_ptr o33_0, fda_ptr o33_1, fda_ptr o33_2, fda_ptr o33_3, fda_ptr o31_0, fda_ptr o31_1, fda_ptr o41_0, fda_ptr o41_1, fda_ptr o45_0, fda_ptr o45_1, fda_rop o25_0, fda_rop o25_1, fda_rop o33_0, fda_rop o33_1, fda_rop o33_2, fda_rop o33_3, fda_rop o31_0, fda_rop o31_1, fda_rop o41_0, fda_rop o41_1, fda_rop o45_0, fda_rop o45_1,
    ld25, ld33, ld41, ld45, ld33r, ld41r, ld45r, ld22, ld23, ld9o, ld9or, ld39o, ld39or, ld9e, ld9er, ld43e, ld43er, ld9f0, ld9f0r, ld9f1, ld9f1r, ld9f2, ld9f2r, ld9f3, ld9f3r, ld9f4, ld9f4r, ld31f, ln22, ln23, ln39, ln43, List.drop_drop, goD_eq, an, w1]
      rw [sl22_from en (by omega), e0]
      simp -implicitDefEqProofs only [wpC_seq, rowsA, if_true, if_false, opnd, ofVal, ofVal1, layArgs, Nat.reduceAdd, reduceIte, Nat.reduceEqDiff, reduceCtorEq, rowsB, cellsG, Nat.reduceMul, Sc.len, Ob.len, En.len, Fld.len, fda_ptr o25_0, fda_ptr o25_1, fda_ptr o33_0, fda_ptr o33_1, fda_ptr o33_2, fda_ptr o33_3, fda_ptr o31_0, fda_ptr o31_1, fda_ptr o41_0, fda_ptr o41_1, fda_ptr o45_0, fda_ptr o45_1, fda_rop o25_0, fda_rop o25_1, fda_rop o33_0, fda_rop o33_1, fda_rop o33_2, fda_rop o33_3, fda_rop o31_0, fda_rop o31_1, fda_rop o41_0, fda_rop o41_1, fda_rop o45_0, fda_rop o45_1,
    ld25, ld33, ld41, ld45, ld33r, ld41r, ld45r, ld22, ld23, ld9o, ld9or, ld39o, ld39or, ld9e, ld9er, ld43e, ld43er, ld9f0, ld9f0r, ld9f1, ld9f1r, ld9f2, ld9f2r, ld9f3, ld9f3r, ld9f4, ld9f4r, ld31f, ln22, ln23, ln39, ln43, List.drop_drop, goD_eq]
      rw [ap22z (.inr ⟨31, false, flat Ob.pv (s.os.take n), n, rfl, by simp only [AH.get_set, AH.get_up, Nat.reduceEqDiff, if_true, if_false], by rw [flat_len (f := Ob.pv) (z := 2) (fun _ => rfl), hlt]⟩)]
      simp -implicitDefEqProofs only [wpC_seq, rowsA, if_true, if_false, opnd, ofVal, ofVal1, layArgs, Nat.reduceAdd, reduceIte, Nat.reduceEqDiff, reduceCtorEq, rowsB, cellsG, Nat.reduceMul, Sc.len, Ob.len, En.len, Fld.len, fda_ptr o25_0, fda_ptr o25_1, fda_ptr o33_0, fda_ptr o33_1, fda_ptr o33_2, fda_ptr o33_3, fda_ptr o31_0, fda_ptr o31_1, fda_ptr o41_0, fda_ptr o41_1, fda_ptr o45_0, fda_ptr o45_1, fda_rop o25_0, fda_rop o25_1, fda_rop o33_0, fda_rop o33_1, fda_rop o33_2, fda_rop o33_3, fda_rop o31_0, fda_rop o31_1, fda_rop o41_0, fda_rop o41_1, fda_rop o45_0, fda_rop o45_1,
    ld25, ld33, ld41, ld45, ld33r, ld41r, ld45r, ld22, ld23, ld9o, ld9or, ld39o, ld39or, ld9e, ld9er, ld43e, ld43er, ld9f0, ld9f0r, ld9f1, ld9f1r, ld9f2, ld9f2r, ld9f3, ld9f3r, ld9f4, ld9f4r, ld31f, ln22, ln23, ln39, ln43, List.drop_drop, goD_eq, sz22, bld25c, al25, sz25, st25c]
      rw [goD_st (by decide) (by kernel_rfl)]
      simp -implicitDefEqProofs only [wpC_seq, rowsA, if_true, if_false, opnd, ofVal, ofVal1, layArgs, Nat.reduceAdd, reduceIte, Nat.reduceEqDiff, reduceCtorEq]
      refine rest 41 31 _ _ ?_ ?_ ?_ ?_ ?_ ?_
      all_goals simp only [Fr.at_set, AH.get_set, AH.get_up, Nat.reduceEqDiff, reduceIte, reduceCtorEq, if_true, if_false]
    · have an := fun {h : AH} {fr : Nat} => ap22n (h := h) (fr := fr) (s.os.take n) (by omega) (by omega)
      rw [hlt] at an
      rw [hu, List.length_append, hlt, flat_app] at rest
      simp -implicitDefEqProofs only [wpC_seq, rowsA, if_true, if_false, opnd, ofVal, ofVal1, layArgs, Nat.reduceAdd, reduceIte, Nat.reduceEqDiff, reduceCtorEq, rowsB, cellsG, Nat.reduceMul, Sc.len, Ob.len, En.len, Fld.len, fda_ptr o25_0, fda_ptr o25_1, fda_ptr o33_0, fda_ptr o33_1, fda_ptr o33_2, fda_ptr o33_3, fda_ptr o31_0, fda_ptr o31_1, fda_ptr o41_0, fda_ptr o41_1, fda_ptr o45_0, fda_ptr o45_1, fda_rop o25_0, fda_rop o25_1, fda_rop o33_0, fda_rop o33_1, fda_rop o33_2, fda_rop o33_3, fda_rop o31_0, fda_rop o31_1, fda_rop o41_0, fda_rop o41_1, fda_rop o45_0, fda_rop o45_1,
    ld25, ld33, ld41, ld45, ld33r, ld41r, ld45r, ld22, ld23, ld9o, ld9or, ld39o, ld39or, ld9e, ld9er, ld43e, ld43er, ld9f0, ld9f0r, ld9f1, ld9f1r, ld9f2, ld9f2r, ld9f3, ld9f3r, ld9f4, ld9f4r, ld31f, ln22, ln23, ln39, ln43, List.drop_drop, goD_eq, an, w1]
      rw [sl22_from en (by omega)]
      simp -implicitDefEqProofs only [wpC_seq, rowsA, if_true, if_false, opnd, ofVal, ofVal1, layArgs, Nat.reduceAdd, reduceIte, Nat.reduceEqDiff, reduceCtorEq, rowsB, cellsG, Nat.reduceMul, Sc.len, Ob.len, En.len, Fld.len, fda_ptr o25_0, fda_ptr o25_1, fda_ptr o33_0, fda_ptr o33_1, fda_ptr o33_2, fda_ptr o33_3, fda_ptr o31_0, fda_ptr o31_1, fda_ptr o41_0, fda_ptr o41_1, fda_ptr o45_0, fda_ptr o45_1, fda_rop o25_0, fda_rop o25_1, fda_rop o33_0, fda_rop o33_1, fda_rop o33_2, fda_rop o33_3, fda_rop o31_0, fda_rop o31_1, fda_rop o41_0, fda_rop o41_1, fda_rop o45_0, fda_rop o45_1,
    ld25, ld33, ld41, ld45, ld33r, ld41r, ld45r, ld22, ld23, ld9o, ld9or, ld39o, ld39or, ld9e, ld9er, ld43e, ld43er, ld9f0, ld9f0r, ld9f1, ld9f1r, ld9f2, ld9f2r, ld9f3, ld9f3r, ld9f4, ld9f4r, ld31f, ln22, ln23, ln39, ln43, List.drop_drop, goD_eq]
      rw [ap22m (s.os.drop (n + 1)) (d := flat Ob.pv (s.os.take n)) (by simp only [AH.get_set, AH.get_up, Nat.reduceEqDiff, if_true, if_false]) (by rw [flat_len (f := Ob.pv) (z := 2) (fun _ => rfl), hlt]) (by omega) (by omega)]
      rw [goD_sf (by decide) (by kernel_rfl) (by kernel_rfl)]
      simp -implicitDefEqProofs only [wpC_seq, rowsA, if_true, if_false, opnd, ofVal, ofVal1, layArgs, Nat.reduceAdd, reduceIte, Nat.reduceEqDiff, reduceCtorEq, rowsB, cellsG, Nat.reduceMul, Sc.len, Ob.len, En.len, Fld.len, fda_ptr o25_0, fda_ptr o25_1, fda_ptr o33_0, fda_ptr o33_1, fda_ptr o33_2, fda_ptr o33_3, fda_ptr o31_0, fda_ptr o31_1, fda_ptr o41_0, fda_ptr o41_1, fda_ptr o45_0, fda_ptr o45_1, fda_rop o25_0, fda_rop o25_1, fda_rop o33_0, fda_rop o33_1, fda_rop o33_2, fda_rop o33_3, fda_rop o31_0, fda_rop o31_1, fda_rop o41_0, fda_rop o41_1, fda_rop o45_0, fda_rop o45_1,
    ld25, ld33, ld41, ld45, ld33r, ld41r, ld45r, ld22, ld23, ld9o, ld9or, ld39o, ld39or, ld9e, ld9er, ld43e, ld43er, ld9f0, ld9f0r, ld9f1, ld9f1r, ld9f2, ld9f2r, ld9f3, ld9f3r, ld9f4, ld9f4r, ld31f, ln22, ln23, ln39, ln43, List.drop_drop, gdD_log, goD_eq, sz22, bld25c, al25, sz25, st25c]
      refine ⟨by kernel_rfl, by kernel_rfl, by kernel_rfl, by kernel_rfl, by kernel_rfl, ?_⟩
      rw [goD_st (by decide) (by kernel_rfl)]
      simp -implicitDefEqProofs only [wpC_seq, rowsA, if_true, if_false, opnd, ofVal, ofVal1, layArgs, Nat.reduceAdd, reduceIte, Nat.reduceEqDiff, reduceCtorEq]
      refine rest 41 31 _ _ ?_ ?_ ?_ ?_ ?_ ?_
      all_goals simp only [Fr.at_set, AH.get_set, AH.get_up, Nat.reduceEqDiff, reduceIte, reduceCtorEq, if_true, if_false]
end Go.Proofs.YtcbngkmmmfaaoaaGreatDoor
/-
  SCHEMAS THAT MAY BE, Q23: rows that grow by one thing at a time, each of which may lead to rows of its own.
-/
namespace Go.Ac
open Go.RowKit
/-- A row that has grown from nothing: what it is, read through; all that it leads to lies between two numbers. -/
def RowT (d A B : Nat) (h : AH) (E : TypeId) (sz : Nat) (v : PV) (L : List PV) (n : Nat) : Prop :=
  (n = 0 ∧ v = .nls ∧ L = []) ∨ (0 < n ∧ ∃ R C, v = .ow R (n * sz) 0 n ∧ A ≤ R ∧ R < B ∧ h.get R = some (.cells E sz false C) ∧ C.length = n * sz ∧ RdL (Rd (fun id => A ≤ id ∧ id < B ∧ id ≠ R) h d) C L)
theorem RowT.nil {d A B : Nat} {h : AH} {E : TypeId} {sz : Nat} : RowT d A B h E sz .nls [] 0 := .inl ⟨rfl, rfl, rfl⟩
theorem RowT.keep {d A B B' : Nat} {h h' : AH} {E : TypeId} {sz : Nat} {v : PV} {L : List PV} {n : Nat} (q : RowT d A B h E sz v L n) (hb : B ≤ B') (hk : ∀ id, A ≤ id → id < B → h'.get id = h.get id) : RowT d A B' h' E sz v L n := by
  rcases q with q | ⟨h0, R, C, rfl, a1, a2, a3, a4, a5⟩
  · exact .inl q
  · exact .inr ⟨h0, R, C, rfl, a1, by omega, by rw [hk R a1 a2]; exact a3, a4, a5.imp fun v u => Rd.imp (fun id ⟨b1, b2, b3⟩ => ⟨⟨b1, by omega, b3⟩, fun E sz fz c hc => ⟨fz, by rw [hk id b1 b2]; exact hc⟩⟩) d v u⟩
/-- What such a row is, read through. -/
theorem RowT.rd {d A B : Nat} {h : AH} {E : TypeId} {sz : Nat} {v : PV} {L : List PV} {n : Nat} (q : RowT d A B h E sz v L n) : Rd (fun id => A ≤ id ∧ id < B) h (d + 1) v (if n = 0 then .nls else .ro L n) := by
  rcases q with ⟨rfl, rfl, rfl⟩ | ⟨h0, R, C, rfl, a1, a2, a3, a4, a5⟩
  · exact Rd.of_clean rfl
  · rw [if_neg (by omega)]
    exact Rd.row ⟨a1, a2⟩ a3 a4 (a5.imp fun v u => Rd.imp (fun id ⟨b1, b2, b3⟩ => ⟨⟨b1, b2⟩, fun E sz fz c hc => ⟨fz, hc⟩⟩) d v u)
/-- One more. -/
theorem RowT.push {P : Program} {d A B B' fr X : Nat} {h : AH} {t e : TypeId} {sz b : Nat} {v : PV} {L xs ys : List PV} {n : Nat} (q : RowT d A B h e sz v L n) (hu : P.underlying t = some (.slice e)) (hi : (P.info? e).map (fun i => (i.size, i.bytes, i.zero.map (·.cells.size))) = some (sz, b, some sz)) (hsz : 0 < sz)
    (hA : A ≤ B) (hB : B ≤ fr) (hB' : fr < B') {fz : Bool} (hX : h.get X = some (.cells e sz fz xs)) (hl : xs.length = sz) (hx : RdL (Rd (fun id => B ≤ id ∧ id < fr) h d) xs ys) (hb : (n + 1) * b ≤ 2 ^ 47) (hn : n + 1 ≤ 2 ^ 47) :
    ∃ id ob, appO P h fr [v, .ow X sz 0 1] [t, t] = some (.w (.ow id ((n + 1) * sz) 0 (n + 1)) id ob) ∧ A ≤ id ∧ (id = fr ∨ id < B) ∧ RowT d A B' (h.set id ob) e sz (.ow id ((n + 1) * sz) 0 (n + 1)) (L ++ ys) (n + 1) := by
  have hc : Ac.cellsOf h sz (.ow X sz 0 1) = some (xs, 1) := by
    have := cellR_ow (sz := sz) (n := 1) hX (by rw [hl, Nat.one_mul])
    rwa [Nat.one_mul] at this
  rcases q with ⟨rfl, rfl, rfl⟩ | ⟨h0, R, C, rfl, a1, a2, a3, a4, a5⟩
  · refine ⟨fr, _, ap_new hu hi hsz (.inl rfl) hc (by decide) (by simpa using hb) (by decide), by omega, .inl rfl, .inr ⟨by omega, fr, xs, rfl, by omega, hB', by simp only [AH.get_set, if_true], by rw [hl, Nat.zero_add, Nat.one_mul], ?_⟩⟩
    rw [List.nil_append]
    exact hx.imp fun v u => Rd.imp (fun id ⟨b1, b2⟩ => ⟨⟨by omega, by omega, by omega⟩, fun E sz fz c hc => ⟨fz, by simp only [AH.get_set, show ¬ id = fr by omega, if_false]; exact hc⟩⟩) d v u
  · refine ⟨R, _, ap_more hu hi hsz a3 a4 hc (by decide) hb hn, a1, .inr a2, .inr ⟨by omega, R, C ++ xs, rfl, a1, by omega, by simp only [AH.get_set, if_true], by rw [List.length_append, a4, hl, Nat.add_mul, Nat.one_mul], ?_⟩⟩
    refine RdL.append (a5.imp fun v u => Rd.imp (fun id ⟨b1, b2, b3⟩ => ⟨⟨b1, by omega, b3⟩, fun E sz fz c hc => ⟨fz, by simp only [AH.get_set, b3, if_false]; exact hc⟩⟩) d v u) (hx.imp fun v u => Rd.imp (fun id ⟨b1, b2⟩ => ⟨⟨by omega, by omega, by omega⟩, fun E sz fz c hc => ⟨fz, by simp only [AH.get_set, show ¬ id = R by omega, if_false]; exact hc⟩⟩) d v u)
theorem goD_any {P : Program} {G : Glob} {md : FuncId → Md} {ops : Array Oper} {base i : Nat} {rest : List Oper} {d : Option Tmp} {f : Fr} {h : AH} {lg : List (Nat × Nat)} {Q : OX → Prop} {v : PV} {id : Nat} {ob : AO} (hf : (fore ops i && Ac.lone ops i) = true) : goD P G md ops base i rest d f h lg Q (some (.w v id ob)) = wpD P G md ops base (i + 1) rest (putA f d v) (h.set id ob) lg Q := by
  by_cases e : id = base + i
  · subst e
    exact goD_new ..
  · exact goD_st e hf
end Go.Ac
namespace Go.Proofs.YtcbngkmmmfaaoaaGreatDoor
open Go.RowKit Go.Lib Go.Ac
set_option linter.unusedSimpArgs false
set_option maxRecDepth 100000
variable {mx : Int}
theorem flat_congr {α : Type} {f g : α → List PV} : ∀ {l : List α}, (∀ x ∈ l, f x = g x) → flat f l = flat g l
  | [], _ => rfl
  | x :: l, h => by rw [flat, flat, h x (by simp), flat_congr fun y hy => h y (by simp [hy])]
/-- A row of things that is nil if there are none. -/
def rowN {α : Type} (f : α → List PV) (l : List α) : PV := if l.length = 0 then .nls else rowV f l
def Ob.pvN (o : Ob) : List PV := [.str o.n, rowN Fld.pv o.fs]
def En.pvN (e : En) : List PV := [.str e.n, rowN strV e.ws]
def Ob.rawN (o : Ob) : Rw := ⟨o.n, rowN Fld.pv o.fs, o.fs.length⟩
def En.rawN (e : En) : Rw := ⟨e.n, rowN strV e.ws, e.ws.length⟩
theorem rowN_clean {α : Type} (f : α → List PV) (l : List α) : (rowN f l).clean = true := by
  unfold rowN
  split <;> rfl
theorem rowN_pos {α : Type} {f : α → List PV} {l : List α} (h : 0 < l.length) : rowN f l = rowV f l := by rw [rowN, if_neg (by omega)]
theorem rowN_row {α : Type} (f : α → List PV) (l : List α) : RowR f (rowN f l) l := by
  unfold rowN
  split
  · rename_i h
    exact .inr ⟨List.length_eq_zero_iff.1 h, .inl rfl⟩
  · exact .inl rfl
theorem rawN_O {o : Ob} (h : o.fs.length ≤ 9223372036854775807) : RwOk 39 o.rawN := ⟨rowN_clean .., h, ag39, by
  have := lenR u39 (rowN_row Fld.pv o.fs)
  exact this⟩
theorem rawN_E {o : En} (h : o.ws.length ≤ 9223372036854775807) : RwOk 43 o.rawN := ⟨rowN_clean .., h, ag43, by
  have := lenR u43 (rowN_row strV o.ws)
  exact this⟩
/-- The answer of schema.Check of a schema with rows that are nil where there is nothing. -/
theorem check_n {s : Sc} (hs : s.fits) (hm : s.small) (h : AH) (fr : Nat) : CR Tryz.prog (globM mx) md (.fn 15) [.agg [rowN Ob.pvN s.os, rowN En.pvN s.es]] h fr (.val (.int .i64 (checkV mx s))) := by
  cases hn : enoughB (s.os.map Ob.raw) (s.es.map En.raw) with
  | true =>
    obtain ⟨e1, e2, e3, e4, e5⟩ := enough_of hn
    have a1 : rowN Ob.pvN s.os = rowV Ob.pv s.os := by
      rw [rowN_pos e1]
      have : flat Ob.pvN s.os = flat Ob.pv s.os := flat_congr fun o ho => by rw [Ob.pvN, Ob.pv, rowN_pos (e4 o ho).1]
      unfold rowV
      rw [this]
    have a2 : rowN En.pvN s.es = rowN En.pv s.es := by
      unfold rowN
      split
      · rfl
      · have : flat En.pvN s.es = flat En.pv s.es := flat_congr fun o ho => by rw [En.pvN, En.pv, rowN_pos (e5 o ho).1]
        unfold rowV
        rw [this]
    rw [a1, a2]
    exact check_v (rowN_row En.pv s.es) hs hm h fr
  | false =>
    unfold checkV
    rw [hn, if_pos rfl]
    have b1 : RowR Rw.pv (rowN Ob.pvN s.os) (s.os.map Ob.rawN) := by
      unfold rowN
      split
      · rename_i h
        exact .inr ⟨by rw [List.length_eq_zero_iff.1 h]; rfl, .inl rfl⟩
      · exact .inl (by rw [rowV, rowV, flat_map, List.length_map]; rfl)
    have b2 : RowR Rw.pv (rowN En.pvN s.es) (s.es.map En.rawN) := by
      unfold rowN
      split
      · rename_i h
        exact .inr ⟨by rw [List.length_eq_zero_iff.1 h]; rfl, .inl rfl⟩
      · exact .inl (by rw [rowV, rowV, flat_map, List.length_map]; rfl)
    refine check_many b1 b2 (fun o ho => ?_) (fun o ho => ?_) (by rw [List.length_map]; exact hs.1) (by rw [List.length_map]; exact hs.2.1) ?_ h fr
    · obtain ⟨x, hx, rfl⟩ := List.mem_map.1 ho
      exact rawN_O (hs.2.2 x hx)
    · obtain ⟨x, hx, rfl⟩ := List.mem_map.1 ho
      exact rawN_E (hm.2 x hx).2.1
    · rw [← hn]
      simp only [enoughB, List.length_map, List.all_map]
      rfl
end Go.Proofs.YtcbngkmmmfaaoaaGreatDoor
/-
  SCHEMAS THAT MAY BE, Q24: SchemaOrder.
-/
namespace Go.Proofs.YtcbngkmmmfaaoaaGreatDoor
open Go.RowKit Go.Lib Go.Ac
set_option linter.unusedSimpArgs false
set_option maxRecDepth 100000
variable {mx : Int}
theorem bld25_0 : bldO Tryz.prog 25 [] = some (.q (.agg [.nls, .nls])) := by kernel_rfl
theorem bld41n (a : List UInt8) : bldO Tryz.prog 41 [(0, .str a)] = some (.q (.agg [.str a, .nls])) := by kernel_rfl
theorem bld45n (a : List UInt8) : bldO Tryz.prog 45 [(0, .str a)] = some (.q (.agg [.str a, .nls])) := by kernel_rfl
theorem st25n (id : Nat) : stoG id 2 0 (.agg [.nls, .nls]) 2 (some (.cells 25 0 false [.nls, .nls])) = some (.w .undef id (.cells 25 0 false [.nls, .nls])) := stoG_all id 2 0 25 (.agg [.nls, .nls]) [.nls, .nls] rfl rfl rfl
theorem st45 (a : List UInt8) (v : PV) (id : Nat) (c : List PV) (hc : c.length = 2) : stoG id 2 0 (.agg [.str a, v]) 2 (some (.cells 45 0 false c)) = some (.w .undef id (.cells 45 0 false [.str a, v])) := stoG_all id 2 0 45 (.agg [.str a, v]) c hc rfl rfl
theorem bd39f (fr : Nat) (f : Fld) : buildO Tryz.prog fr 39 1 [(0, .agg f.pv)] = some (.w (.ow fr 5 0 1) fr (.cells 33 5 false f.pv)) := bd39_1 ..
theorem st41f (id : Nat) (n : List UInt8) (v : PV) (a b c d : Nat) : stoG id 2 1 (.ow a b c d) 1 (some (.cells 41 0 false [.str n, v])) = some (.w .undef id (.cells 41 0 false [.str n, .ow a b c d])) := rfl
theorem st45f (id : Nat) (n : List UInt8) (v : PV) (a b c d : Nat) : stoG id 2 1 (.ow a b c d) 1 (some (.cells 45 0 false [.str n, v])) = some (.w .undef id (.cells 45 0 false [.str n, .ow a b c d])) := rfl
theorem st25x (id : Nat) (v w : PV) (a b c d : Nat) : stoG id 2 0 (.ow a b c d) 1 (some (.cells 25 0 false [v, w])) = some (.w .undef id (.cells 25 0 false [.ow a b c d, w])) := rfl
theorem st25y (id : Nat) (v w : PV) (a b c d : Nat) : stoG id 2 1 (.ow a b c d) 1 (some (.cells 25 0 false [v, w])) = some (.w .undef id (.cells 25 0 false [v, .ow a b c d])) := rfl
theorem take_more {α : Type} {l : List α} {m : Nat} {x : α} (h : l[m]? = some x) : l.take (m + 1) = l.take m ++ [x] := by rw [List.take_add_one, h]; rfl
theorem rev_get {α : Type} {l : List α} {m : Nat} {i : Int} (h0 : 0 ≤ i) (hi : i + 1 + m = l.length) : ∃ x, l[i.toNat]? = some x ∧ l.reverse[m]? = some x := by
  have h1 : i.toNat < l.length := by omega
  refine ⟨l[i.toNat], List.getElem?_eq_getElem h1, ?_⟩
  rw [List.getElem?_reverse (by omega), show l.length - 1 - m = i.toNat by omega]
  exact List.getElem?_eq_getElem h1
theorem bd22_g (fr : Nat) (a : List UInt8) (v : PV) : buildO Tryz.prog fr 22 1 [(0, .agg [.str a, v])] = some (.w (.ow fr 2 0 1) fr (.cells 41 2 false [.str a, v])) := by kernel_rfl
/-- What stays through the rounds over the objects. -/
structure OrdS (s : Sc) (vO vE : PV) (F : Fr) (h : AH) : Prop where
  f1 : F.at 1 = .ptr 0 2 0
  f3 : F.at 3 = .ptr 3 2 0
  g0 : h.get 0 = some (.cells 25 0 false s.pv)
  g3 : h.get 3 = some (.cells 25 0 false [vO, vE])
  nx : 4 ≤ h.next
def revO (s : Sc) (m : Nat) : List PV := flat Ob.pvN ((s.os.reverse.take m).map Ob.rev)
theorem revO_more {s : Sc} {m : Nat} {q : Ob} (h : s.os.reverse[m]? = some q) : revO s (m + 1) = revO s m ++ Ob.pvN q.rev := by
  rw [revO, take_more h, List.map_append, flat_app, show flat Ob.pvN ([q].map Ob.rev) = Ob.pvN q.rev by simp [flat]]
  rfl
def invO1 (s : Sc) (k : Nat) (F : Fr) (h : AH) : Prop := ∃ (m : Nat) (i : Int) (vO : PV), k + m = s.os.length ∧ i + 1 + m = s.os.length ∧ OrdS s vO .nls F h ∧ F.at 4 = .int .i64 i ∧ RowT 1 4 h.next h 41 2 vO (revO s m) m
def invO2 (s : Sc) (m : Nat) (i : Int) (vO : PV) (q : Ob) (B b : Nat) (k : Nat) (F : Fr) (h : AH) : Prop := ∃ (n : Nat) (j : Int) (vf : PV), k + n = q.fs.length ∧ j + 1 + n = q.fs.length ∧ OrdS s vO .nls F h ∧ F.at 4 = .int .i64 i ∧ F.at 5 = .ptr b 2 0 ∧ F.at 6 = .int .i64 j ∧ h.get b = some (.cells 41 0 false [.str q.n, vf]) ∧ b < h.next ∧ RowT 1 4 B h 41 2 vO (revO s m) m ∧ RowT 0 (b + 1) h.next h 33 5 vf (flat Fld.pv (q.fs.reverse.take n)) n
theorem ix43 {l : List (List UInt8)} {i : Int} {o : List UInt8} (h0 : 0 ≤ i) (ho : l[i.toNat]? = some o) : ∃ r, ∀ h, idaO Tryz.prog h 43 (rowV strV l) (.int .i64 i) = some (.q (.rop (.str o :: r))) := by
  obtain ⟨r, hr⟩ := flat_drop (f := strV) (z := 1) (fun _ => rfl) l i.toNat o ho
  have := (List.getElem?_eq_some_iff.1 ho).1
  exact ⟨r, fun h => by rw [show PV.str o :: r = strV o ++ r from rfl, ← hr]; exact ida_roN u43 sz9 h0 (by omega)⟩
theorem bd23_g (fr : Nat) (a : List UInt8) (v : PV) : buildO Tryz.prog fr 23 1 [(0, .agg [.str a, v])] = some (.w (.ow fr 2 0 1) fr (.cells 45 2 false [.str a, v])) := by kernel_rfl
def revE (s : Sc) (m : Nat) : List PV := flat En.pvN ((s.es.reverse.take m).map En.rev)
theorem revE_more {s : Sc} {m : Nat} {q : En} (h : s.es.reverse[m]? = some q) : revE s (m + 1) = revE s m ++ En.pvN q.rev := by
  rw [revE, take_more h, List.map_append, flat_app, show flat En.pvN ([q].map En.rev) = En.pvN q.rev by simp [flat]]
  rfl
def invE1 (s : Sc) (vO : PV) (B1 : Nat) (k : Nat) (F : Fr) (h : AH) : Prop := ∃ (m : Nat) (i : Int) (vE : PV), k + m = s.es.length ∧ i + 1 + m = s.es.length ∧ OrdS s vO vE F h ∧ F.at 7 = .int .i64 i ∧ B1 ≤ h.next ∧ RowT 1 4 B1 h 41 2 vO (revO s s.os.length) s.os.length ∧ RowT 1 B1 h.next h 45 2 vE (revE s m) m
def invE2 (s : Sc) (m : Nat) (i : Int) (vO vE : PV) (q : En) (B1 B b : Nat) (k : Nat) (F : Fr) (h : AH) : Prop := ∃ (n : Nat) (j : Int) (vf : PV), k + n = q.ws.length ∧ j + 1 + n = q.ws.length ∧ OrdS s vO vE F h ∧ F.at 7 = .int .i64 i ∧ F.at 8 = .ptr b 2 0 ∧ F.at 9 = .int .i64 j ∧ h.get b = some (.cells 45 0 false [.str q.n, vf]) ∧ b < h.next ∧ RowT 1 4 B1 h 41 2 vO (revO s s.os.length) s.os.length ∧ RowT 1 B1 B h 45 2 vE (revE s m) m ∧ RowT 0 (b + 1) h.next h 9 1 vf (flat strV (q.ws.reverse.take n)) n
theorem fits_rev {s : Sc} (hf : s.fit) : s.rev.fits := ⟨by simpa [Sc.rev] using hf.fits.1, by simpa [Sc.rev] using hf.fits.2.1, fun o ho => by
  obtain ⟨q, hq, rfl⟩ := mem_rev.1 ho
  simpa [Ob.rev] using hf.fits.2.2 q hq⟩
theorem small_rev {s : Sc} (hf : s.fit) : s.rev.small := ⟨fun o ho => by
  obtain ⟨q, hq, rfl⟩ := mem_rev.1 ho
  exact ⟨(hf.small.1 q hq).1, fun f hf' => (hf.small.1 q hq).2 f (by simpa [Ob.rev] using hf')⟩, fun o ho => by
  obtain ⟨q, hq, rfl⟩ := mem_revE.1 ho
  exact ⟨(hf.small.2 q hq).1, by simpa [En.rev] using (hf.small.2 q hq).2.1, fun f hf' => (hf.small.2 q hq).2.2 f (by simpa [En.rev] using hf')⟩⟩
theorem goD_at {P : Program} {G : Glob} {md : FuncId → Md} {ops : Array Oper} {base i : Nat} {rest : List Oper} {d : Option Tmp} {f : Fr} {h : AH} {lg : List (Nat × Nat)} {Q : OX → Prop} {t : Tgt} {args : List PV} {v : PV} (hk : ∀ fr, CR P G md t args h fr (.val v)) :
    goD P G md ops base i rest d f h lg Q (some (.call t args)) = wpD P G md ops base (i + 1) rest (putA f d v) h lg Q := by
  refine propext ⟨fun ⟨r, a, b⟩ => ?_, fun a => ⟨.val v, hk _, a⟩⟩
  obtain rfl := a.det (hk _)
  exact b
set_option maxHeartbeats 2000000 in
theorem order_c {s : Sc} (hf : s.fit) (h : AH) (fr : Nat) : CR Tryz.prog (globM mx) md (.fn 7) [.agg s.pv] h fr (.val (.bool true)) := by
  refine CR.plain (rs := [.tmp 2]) Tryz.func7 rfl rfl rfl rfl rfl rfl rfl ?_ h fr
  have w0 := IntWalk.i64_in ((s.os.length : Int) - 1) (by have := hf.fits.1; omega)
  simp -implicitDefEqProofs only [wpC_seq, rowsA, if_true, if_false, opnd, ofVal, ofVal1, layArgs, Nat.reduceAdd, reduceIte, Nat.reduceEqDiff, reduceCtorEq, rowsB, cellsG, Nat.reduceMul, Sc.len, Ob.len, En.len, Fld.len, fda_ptr o25_0, fda_ptr o25_1, fda_ptr o33_0, fda_ptr o33_1, fda_ptr o33_2, fda_ptr o33_3, fda_ptr o31_0, fda_ptr o31_1, fda_ptr o41_0, fda_ptr o41_1, fda_ptr o45_0, fda_ptr o45_1, fda_rop o25_0, fda_rop o25_1, fda_rop o33_0, fda_rop o33_1, fda_rop o33_2, fda_rop o33_3, fda_rop o31_0, fda_rop o31_1, fda_rop o41_0, fda_rop o41_1, fda_rop o45_0, fda_rop o45_1,
    ld25, ld33, ld41, ld45, ld33r, ld41r, ld45r, ld22, ld23, ld9o, ld9or, ld39o, ld39or, ld9e, ld9er, ld43e, ld43er, ld9f0, ld9f0r, ld9f1, ld9f1r, ld9f2, ld9f2r, ld9f3, ld9f3r, ld9f4, ld9f4r, ld31f, ln22, ln23, ln39, ln43, List.drop_drop, bld25_0, al25, sz25, st25n, w0]
  refine wpC_loop (invO1 s) (k := s.os.length) ⟨0, (s.os.length : Int) - 1, .nls, by omega, by omega, ⟨?_, ?_, ?_, ?_, ?_⟩, ?_, RowT.nil⟩ ?_
  · simp only [Fr.at_set, Nat.reduceEqDiff, reduceIte]
  · simp only [Fr.at_set, Nat.reduceEqDiff, reduceIte]
  · simp only [AH.get_set, AH.get_up, Nat.reduceEqDiff, if_true, if_false]
  · simp only [AH.get_set, AH.get_up, Nat.reduceEqDiff, if_true, if_false]
  · simp only [AH.next_set, AH.next_up]; omega
  · simp only [Fr.at_set, Nat.reduceEqDiff, reduceIte]
  rintro k F h ⟨m, i, vO, km, im, ⟨f1, f3, g0, g3, nx⟩, f4, hO⟩
  cases k with
  | zero =>
    have c1 : ¬ (0 ≤ i) := by omega
    have we := IntWalk.i64_in ((s.es.length : Int) - 1) (by have := hf.fits.2.1; omega)
    simp -implicitDefEqProofs only [wpC_seq, rowsA, if_true, if_false, opnd, ofVal, ofVal1, layArgs, Nat.reduceAdd, reduceIte, Nat.reduceEqDiff, reduceCtorEq, rowsB, cellsG, Nat.reduceMul, Sc.len, Ob.len, En.len, Fld.len, fda_ptr o25_0, fda_ptr o25_1, fda_ptr o33_0, fda_ptr o33_1, fda_ptr o33_2, fda_ptr o33_3, fda_ptr o31_0, fda_ptr o31_1, fda_ptr o41_0, fda_ptr o41_1, fda_ptr o45_0, fda_ptr o45_1, fda_rop o25_0, fda_rop o25_1, fda_rop o33_0, fda_rop o33_1, fda_rop o33_2, fda_rop o33_3, fda_rop o31_0, fda_rop o31_1, fda_rop o41_0, fda_rop o41_1, fda_rop o45_0, fda_rop o45_1,
    ld25, ld33, ld41, ld45, ld33r, ld41r, ld45r, ld22, ld23, ld9o, ld9or, ld39o, ld39or, ld9e, ld9er, ld43e, ld43er, ld9f0, ld9f0r, ld9f1, ld9f1r, ld9f2, ld9f2r, ld9f3, ld9f3r, ld9f4, ld9f4r, ld31f, ln22, ln23, ln39, ln43, List.drop_drop, f1, f3, f4, g0, g3, c1, we]
    have hm0 : m = s.os.length := by omega
    subst hm0
    clear f4 im km c1
    refine wpC_loop (invE1 s vO h.next) (k := s.es.length) ⟨0, (s.es.length : Int) - 1, .nls, by omega, by omega, ⟨?_, ?_, ?_, ?_, ?_⟩, ?_, ?_, ?_, RowT.nil⟩ ?_
    · simp only [Fr.at_set, Nat.reduceEqDiff, reduceIte, f1]
    · simp only [Fr.at_set, Nat.reduceEqDiff, reduceIte, f3]
    · simp only [AH.get_set, AH.get_up]; exact g0
    · simp only [AH.get_set, AH.get_up]; exact g3
    · simp only [AH.next_set, AH.next_up]; omega
    · simp only [Fr.at_set, Nat.reduceEqDiff, reduceIte]
    · simp only [AH.next_set, AH.next_up]; omega
    · exact hO.keep (Nat.le_refl _) fun id h1 h2 => by simp only [AH.get_set, AH.get_up]
    have nB1 := nx
    generalize hB1 : h.next = B1 at hO nB1 ⊢
    clear f1 f3 g0 g3 nx
    rintro k F h ⟨m, i, vE, km, im, ⟨f1, f3, g0, g3, nx⟩, f7, n1, hO, hE⟩
    cases k with
    | zero =>
      have c1 : ¬ (0 ≤ i) := by omega
      simp -implicitDefEqProofs only [wpC_seq, rowsA, if_true, if_false, opnd, ofVal, ofVal1, layArgs, Nat.reduceAdd, reduceIte, Nat.reduceEqDiff, reduceCtorEq, rowsB, cellsG, Nat.reduceMul, Sc.len, Ob.len, En.len, Fld.len, fda_ptr o25_0, fda_ptr o25_1, fda_ptr o33_0, fda_ptr o33_1, fda_ptr o33_2, fda_ptr o33_3, fda_ptr o31_0, fda_ptr o31_1, fda_ptr o41_0, fda_ptr o41_1, fda_ptr o45_0, fda_ptr o45_1, fda_rop o25_0, fda_rop o25_1, fda_rop o33_0, fda_rop o33_1, fda_rop o33_2, fda_rop o33_3, fda_rop o31_0, fda_rop o31_1, fda_rop o41_0, fda_rop o41_1, fda_rop o45_0, fda_rop o45_1,
    ld25, ld33, ld41, ld45, ld33r, ld41r, ld45r, ld22, ld23, ld9o, ld9or, ld39o, ld39or, ld9e, ld9er, ld43e, ld43er, ld9f0, ld9f0r, ld9f1, ld9f1r, ld9f2, ld9f2r, ld9f3, ld9f3r, ld9f4, ld9f4r, ld31f, ln22, ln23, ln39, ln43, List.drop_drop, f1, f3, f7, g0, g3, c1, ld25 s, goD_known (check_s hf.fits hf.small)]
      have hm0 : m = s.es.length := by omega
      subst hm0
      have kT := check_n (mx := mx) (fits_rev hf) (small_rev hf)
      have eO : (if s.os.length = 0 then PV.nls else .ro (revO s s.os.length) s.os.length) = rowN Ob.pvN s.rev.os := by
        rw [revO, List.take_of_length_le (by rw [List.length_reverse]; omega), rowN, rowV, List.map_reverse]
        simp only [Sc.rev, List.length_reverse, List.length_map]
      have eE : (if s.es.length = 0 then PV.nls else .ro (revE s s.es.length) s.es.length) = rowN En.pvN s.rev.es := by
        rw [revE, List.take_of_length_le (by rw [List.length_reverse]; omega), rowN, rowV, List.map_reverse]
        simp only [Sc.rev, List.length_reverse, List.length_map]
      have r1 := hO.rd
      have r2 := hE.rd
      rw [eO] at r1
      rw [eE] at r2
      have call : ∀ (H : AH), (∀ x, H.get x = h.get x) → ∃ h', (∀ fr, CR Tryz.prog (globM mx) md (.fn 15) [.agg [vO, vE]] H fr (.sh (.int .i64 (checkV mx s.rev)) h')) ∨ (∀ fr, CR Tryz.prog (globM mx) md (.fn 15) [.agg [vO, vE]] H fr (.val (.int .i64 (checkV mx s.rev)))) := by
        intro H hH
        have lift : ∀ {A B : Nat} {v u : PV}, Rd (fun id => A ≤ id ∧ id < B) h 2 v u → Rd (fun _ => True) H 99 v u := fun q => Rd.le (by decide) (Rd.imp (fun _ _ => ⟨trivial, fun E sz fz c hc => ⟨fz, by rw [hH]; exact hc⟩⟩) _ _ _ q)
        by_cases hcl : PV.cleans [vO, vE] = true
        · simp only [PV.cleans, Bool.and_eq_true] at hcl
          have q1 : vO = rowN Ob.pvN s.rev.os := by
            rcases r1 with q | q
            · exact q.2.symm
            · rw [hcl.1] at q; cases q.1
          have q2 : vE = rowN En.pvN s.rev.es := by
            rcases r2 with q | q
            · exact q.2.symm
            · rw [hcl.2.1] at q; cases q.1
          exact ⟨H, .inr fun fr => by rw [q1, q2]; exact kT H fr⟩
        · have hcl' : PV.cleans [vO, vE] = false := by simpa using hcl
          obtain ⟨v', h', q1, rfl, q3⟩ := via_rd (p := fun _ => True) (args := [.agg [vO, vE]]) (args' := [.agg [rowN Ob.pvN s.rev.os, rowN En.pvN s.rev.es]]) (h := H) Tryz.func15 rfl rfl rfl (by simp only [PV.cleans, PV.clean, Bool.and_true]; simpa [PV.cleans] using hcl') ⟨Rd.agg ⟨lift r1, lift r2, trivial⟩ hcl', trivial⟩ kT
          exact ⟨h', .inl q1⟩
      have ldT := load_agg (P := Tryz.prog) (c := [vO, vE]) ag25 sz25 (Nat.le_refl 2)
      obtain ⟨h', call⟩ := call ((h.up 2).up 6) (fun x => by simp only [AH.get_up])
      simp -implicitDefEqProofs only [wpC_seq, rowsA, if_true, if_false, opnd, ofVal, ofVal1, layArgs, Nat.reduceAdd, reduceIte, Nat.reduceEqDiff, reduceCtorEq, rowsB, cellsG, Nat.reduceMul, Sc.len, Ob.len, En.len, Fld.len, fda_ptr o25_0, fda_ptr o25_1, fda_ptr o33_0, fda_ptr o33_1, fda_ptr o33_2, fda_ptr o33_3, fda_ptr o31_0, fda_ptr o31_1, fda_ptr o41_0, fda_ptr o41_1, fda_ptr o45_0, fda_ptr o45_1, fda_rop o25_0, fda_rop o25_1, fda_rop o33_0, fda_rop o33_1, fda_rop o33_2, fda_rop o33_3, fda_rop o31_0, fda_rop o31_1, fda_rop o41_0, fda_rop o41_1, fda_rop o45_0, fda_rop o45_1,
    ld25, ld33, ld41, ld45, ld33r, ld41r, ld45r, ld22, ld23, ld9o, ld9or, ld39o, ld39or, ld9e, ld9er, ld43e, ld43er, ld9f0, ld9f0r, ld9f1, ld9f1r, ld9f2, ld9f2r, ld9f3, ld9f3r, ld9f4, ld9f4r, ld31f, ln22, ln23, ln39, ln43, List.drop_drop, ldT]
      have k0 := check_rev0 (mx := mx) s
      have kF := check_revF (mx := mx) s
      rcases call with cc | cc
      · rw [goD_shared cc]
        refine ⟨by kernel_rfl, ?_⟩
        generalize checkV mx s = e at k0 kF ⊢
        generalize checkV mx s.rev = e' at k0 kF ⊢
        by_cases cF : e = 90 ∨ e = 91 ∨ e = 92
        · have cF' := kF.2 cF
          rcases cF with he | he | he <;> rcases cF' with he' | he' | he' <;> subst he <;> subst he' <;> simp -implicitDefEqProofs only [wpC_seq, rowsA, if_true, if_false, opnd, ofVal, ofVal1, layArgs, Nat.reduceAdd, reduceIte, Nat.reduceEqDiff, reduceCtorEq, rowsB, cellsG, Nat.reduceMul, goO_known fixed9_c, bin_beql u4, Int.reduceEq]
        · have cF' : ¬ (e' = 90 ∨ e' = 91 ∨ e' = 92) := fun q => cF (kF.1 q)
          simp only [not_or] at cF cF'
          obtain ⟨a1, a2, a3⟩ := cF
          obtain ⟨b1, b2, b3⟩ := cF'
          by_cases c0 : e = 0
          · have c0' := k0.2 c0
            subst c0; subst c0'
            simp -implicitDefEqProofs only [wpC_seq, rowsA, if_true, if_false, opnd, ofVal, ofVal1, layArgs, Nat.reduceAdd, reduceIte, Nat.reduceEqDiff, reduceCtorEq, rowsB, cellsG, Nat.reduceMul, goO_known fixed9_c, bin_beql u4, Int.reduceEq]
          · have c0' : ¬ e' = 0 := fun q => c0 (k0.1 q)
            simp -implicitDefEqProofs only [wpC_seq, rowsA, if_true, if_false, opnd, ofVal, ofVal1, layArgs, Nat.reduceAdd, reduceIte, Nat.reduceEqDiff, reduceCtorEq, rowsB, cellsG, Nat.reduceMul, goO_known fixed9_c, bin_beql u4, a1, a2, a3, b1, b2, b3, c0, c0']
      · rw [goD_at cc]
        generalize checkV mx s = e at k0 kF ⊢
        generalize checkV mx s.rev = e' at k0 kF ⊢
        by_cases cF : e = 90 ∨ e = 91 ∨ e = 92
        · have cF' := kF.2 cF
          rcases cF with he | he | he <;> rcases cF' with he' | he' | he' <;> subst he <;> subst he' <;> simp -implicitDefEqProofs only [wpC_seq, rowsA, if_true, if_false, opnd, ofVal, ofVal1, layArgs, Nat.reduceAdd, reduceIte, Nat.reduceEqDiff, reduceCtorEq, rowsB, cellsG, Nat.reduceMul, goO_known fixed9_c, bin_beql u4, Int.reduceEq]
        · have cF' : ¬ (e' = 90 ∨ e' = 91 ∨ e' = 92) := fun q => cF (kF.1 q)
          simp only [not_or] at cF cF'
          obtain ⟨a1, a2, a3⟩ := cF
          obtain ⟨b1, b2, b3⟩ := cF'
          by_cases c0 : e = 0
          · have c0' := k0.2 c0
            subst c0; subst c0'
            simp -implicitDefEqProofs only [wpC_seq, rowsA, if_true, if_false, opnd, ofVal, ofVal1, layArgs, Nat.reduceAdd, reduceIte, Nat.reduceEqDiff, reduceCtorEq, rowsB, cellsG, Nat.reduceMul, goO_known fixed9_c, bin_beql u4, Int.reduceEq]
          · have c0' : ¬ e' = 0 := fun q => c0 (k0.1 q)
            simp -implicitDefEqProofs only [wpC_seq, rowsA, if_true, if_false, opnd, ofVal, ofVal1, layArgs, Nat.reduceAdd, reduceIte, Nat.reduceEqDiff, reduceCtorEq, rowsB, cellsG, Nat.reduceMul, goO_known fixed9_c, bin_beql u4, a1, a2, a3, b1, b2, b3, c0, c0']
    | succ k =>
      have c1 : 0 ≤ i := by omega
      obtain ⟨q, hq, hq'⟩ := rev_get c1 im
      have hqm := List.mem_of_getElem? hq
      have hqf := hf.2.2.2.1 q hqm
      obtain ⟨r, hr⟩ := ix23 c1 hq
      have w1 := IntWalk.i64_in ((q.ws.length : Int) - 1) (by have := (hf.small.2 q hqm).2.1; omega)
      simp -implicitDefEqProofs only [wpC_seq, rowsA, if_true, if_false, opnd, ofVal, ofVal1, layArgs, Nat.reduceAdd, reduceIte, Nat.reduceEqDiff, reduceCtorEq, rowsB, cellsG, Nat.reduceMul, Sc.len, Ob.len, En.len, Fld.len, fda_ptr o25_0, fda_ptr o25_1, fda_ptr o33_0, fda_ptr o33_1, fda_ptr o33_2, fda_ptr o33_3, fda_ptr o31_0, fda_ptr o31_1, fda_ptr o41_0, fda_ptr o41_1, fda_ptr o45_0, fda_ptr o45_1, fda_rop o25_0, fda_rop o25_1, fda_rop o33_0, fda_rop o33_1, fda_rop o33_2, fda_rop o33_3, fda_rop o31_0, fda_rop o31_1, fda_rop o41_0, fda_rop o41_1, fda_rop o45_0, fda_rop o45_1,
    ld25, ld33, ld41, ld45, ld33r, ld41r, ld45r, ld22, ld23, ld9o, ld9or, ld39o, ld39or, ld9e, ld9er, ld43e, ld43er, ld9f0, ld9f0r, ld9f1, ld9f1r, ld9f2, ld9f2r, ld9f3, ld9f3r, ld9f4, ld9f4r, ld31f, ln22, ln23, ln39, ln43, List.drop_drop, f1, f3, f7, g0, g3, c1, hr, bld45n, al45, sz45, st45 q.n .nls _ [.str [], .nls] rfl, w1]
      refine wpC_loop (invE2 s m i vO vE q B1 h.next (h.next + 2 + 7)) (k := q.ws.length) ⟨0, (q.ws.length : Int) - 1, .nls, by omega, by omega, ⟨?_, ?_, ?_, ?_, ?_⟩, ?_, ?_, ?_, ?_, ?_, ?_, ?_, RowT.nil⟩ ?_
      · simp only [Fr.at_set, Nat.reduceEqDiff, reduceIte, f1]
      · simp only [Fr.at_set, Nat.reduceEqDiff, reduceIte, f3]
      · simp only [AH.get_set, AH.get_up]; rw [if_neg (by omega), if_neg (by omega)]; exact g0
      · simp only [AH.get_set, AH.get_up]; rw [if_neg (by omega), if_neg (by omega)]; exact g3
      · simp only [AH.next_set, AH.next_up]; omega
      · simp only [Fr.at_set, Nat.reduceEqDiff, reduceIte, f7]
      · simp only [Fr.at_set, Nat.reduceEqDiff, reduceIte]
      · simp only [Fr.at_set, Nat.reduceEqDiff, reduceIte]
      · simp only [AH.get_set, AH.get_up, if_true]
      · simp only [AH.next_set, AH.next_up]; omega
      · exact hO.keep (Nat.le_refl _) fun id h1 h2 => by simp only [AH.get_set, AH.get_up]; rw [if_neg (by omega), if_neg (by omega)]
      · exact hE.keep (Nat.le_refl _) fun id h1 h2 => by simp only [AH.get_set, AH.get_up]; rw [if_neg (by omega), if_neg (by omega)]
      have nB := n1
      generalize hB : h.next = B at hE nB ⊢
      generalize hb : B + 2 + 7 = b
      clear f1 f3 g0 g3 nx f7 hO n1
      rintro k2 F h ⟨n, j, vf, kn, jn, ⟨f1, f3, g0, g3, nx⟩, f7, f8, f9, gb, bn, hO, hE, hF⟩
      cases k2 with
      | zero =>
        have c2 : ¬ (0 ≤ j) := by omega
        simp -implicitDefEqProofs only [wpC_seq, rowsA, if_true, if_false, opnd, ofVal, ofVal1, layArgs, Nat.reduceAdd, reduceIte, Nat.reduceEqDiff, reduceCtorEq, rowsB, cellsG, Nat.reduceMul, Sc.len, Ob.len, En.len, Fld.len, fda_ptr o25_0, fda_ptr o25_1, fda_ptr o33_0, fda_ptr o33_1, fda_ptr o33_2, fda_ptr o33_3, fda_ptr o31_0, fda_ptr o31_1, fda_ptr o41_0, fda_ptr o41_1, fda_ptr o45_0, fda_ptr o45_1, fda_rop o25_0, fda_rop o25_1, fda_rop o33_0, fda_rop o33_1, fda_rop o33_2, fda_rop o33_3, fda_rop o31_0, fda_rop o31_1, fda_rop o41_0, fda_rop o41_1, fda_rop o45_0, fda_rop o45_1,
    ld25, ld33, ld41, ld45, ld33r, ld41r, ld45r, ld22, ld23, ld9o, ld9or, ld39o, ld39or, ld9e, ld9er, ld43e, ld43er, ld9f0, ld9f0r, ld9f1, ld9f1r, ld9f2, ld9f2r, ld9f3, ld9f3r, ld9f4, ld9f4r, ld31f, ln22, ln23, ln39, ln43, List.drop_drop, f1, f3, f7, f8, f9, g0, g3, gb, c2, loadO_one ag23 sz23, loadO_one ag43 sz43, load_agg (c := [.str q.n, vf]) ag45 sz45 (Nat.le_refl 2), bd23_g]
        have hn0 : n = q.ws.length := by omega
        have ev : (if n = 0 then PV.nls else .ro (flat strV (q.ws.reverse.take n)) n) = rowN strV q.ws.reverse := by
          rw [List.take_of_length_le (by rw [List.length_reverse]; omega), rowN, rowV, List.length_reverse, hn0]
        have hEk := hE.keep (h' := ((h.up 2).up 7).set (h.next + 2 + 3) (.cells 45 2 false [.str q.n, vf])) (Nat.le_refl B) (fun id h1 h2 => by simp only [AH.get_set, AH.get_up]; rw [if_neg (by omega)])
        have hrd := hF.rd
        rw [ev] at hrd
        have hbo := hf.2.2.2.2.2
        have w2 := IntWalk.i64_in (i - 1) (by have := hf.fits.2.1; omega)
        obtain ⟨id, ob, e1, e2, e3, e4⟩ := hEk.push (P := Tryz.prog) (B' := h.next + 9) (fr := h.next + 2 + 4) (X := h.next + 2 + 3) (fz := false) (xs := [.str q.n, vf]) (ys := En.pvN q.rev) u23 i45 (by decide) (by omega) (by omega) (by omega) (by simp only [AH.get_set, if_true]) rfl ⟨Rd.of_clean rfl, Rd.imp (fun x ⟨b1, b2⟩ => ⟨⟨by omega, by omega⟩, fun E sz fz c hc => ⟨fz, by simp only [AH.get_set, AH.get_up]; rw [if_neg (by omega)]; exact hc⟩⟩) _ _ _ hrd, trivial⟩ (by omega) (by omega)
        rw [e1, goO_w]
        have hk : ∀ x, x < h.next → x ≠ id → ((((h.up 2).up 7).set (h.next + 2 + 3) (.cells 45 2 false [.str q.n, vf])).set id ob).get x = h.get x := fun x h1 h2 => by simp only [AH.get_set, AH.get_up]; rw [if_neg h2, if_neg (by omega)]
        have hn : ((((h.up 2).up 7).set (h.next + 2 + 3) (.cells 45 2 false [.str q.n, vf])).set id ob).next = h.next + 9 := by simp only [AH.next_set, AH.next_up]
        generalize ((((h.up 2).up 7).set (h.next + 2 + 3) (.cells 45 2 false [.str q.n, vf])).set id ob) = H at e4 hk hn ⊢
        have g3' := (hk 3 (by omega) (by omega)).trans g3
        simp -implicitDefEqProofs only [wpC_seq, rowsA, if_true, if_false, opnd, ofVal, ofVal1, layArgs, Nat.reduceAdd, reduceIte, Nat.reduceEqDiff, reduceCtorEq, rowsB, cellsG, Nat.reduceMul, Sc.len, Ob.len, En.len, Fld.len, fda_ptr o25_0, fda_ptr o25_1, fda_ptr o33_0, fda_ptr o33_1, fda_ptr o33_2, fda_ptr o33_3, fda_ptr o31_0, fda_ptr o31_1, fda_ptr o41_0, fda_ptr o41_1, fda_ptr o45_0, fda_ptr o45_1, fda_rop o25_0, fda_rop o25_1, fda_rop o33_0, fda_rop o33_1, fda_rop o33_2, fda_rop o33_3, fda_rop o31_0, fda_rop o31_1, fda_rop o41_0, fda_rop o41_1, fda_rop o45_0, fda_rop o45_1,
    ld25, ld33, ld41, ld45, ld33r, ld41r, ld45r, ld22, ld23, ld9o, ld9or, ld39o, ld39or, ld9e, ld9er, ld43e, ld43er, ld9f0, ld9f0r, ld9f1, ld9f1r, ld9f2, ld9f2r, ld9f3, ld9f3r, ld9f4, ld9f4r, ld31f, ln22, ln23, ln39, ln43, List.drop_drop, f3, g3', sz23, st25y, f7, w2]
        refine ⟨k, by omega, m + 1, i - 1, .ow id ((m + 1) * 2) 0 (m + 1), by omega, by omega, ⟨?_, ?_, ?_, ?_, ?_⟩, ?_, ?_, ?_, ?_⟩
        · simp only [Fr.at_set, Nat.reduceEqDiff, reduceIte, f1]
        · simp only [Fr.at_set, Nat.reduceEqDiff, reduceIte, f3]
        · simp only [AH.get_set, AH.get_up]; rw [if_neg (by omega)]; exact (hk 0 (by omega) (by omega)).trans g0
        · simp only [AH.get_set, AH.get_up, if_true]
        · simp only [AH.next_set, AH.next_up]; omega
        · simp only [Fr.at_set, Nat.reduceEqDiff, reduceIte]
        · simp only [AH.next_set, AH.next_up]; omega
        · exact hO.keep (Nat.le_refl _) fun x h1 h2 => by simp only [AH.get_set, AH.get_up]; rw [if_neg (by omega)]; exact hk x (by omega) (by omega)
        · rw [revE_more hq']
          exact e4.keep (by simp only [AH.next_set, AH.next_up]; omega) fun x h1 h2 => by simp only [AH.get_set, AH.get_up]; rw [if_neg (by omega)]
      | succ k2 =>
        have c2 : 0 ≤ j := by omega
        obtain ⟨f, hf1, hf2⟩ := rev_get c2 jn
        obtain ⟨r2, hr2⟩ := ix43 c2 hf1
        have w2 := IntWalk.i64_in (j - 1) (by have := (hf.small.2 q hqm).2.1; omega)
        simp -implicitDefEqProofs only [wpC_seq, rowsA, if_true, if_false, opnd, ofVal, ofVal1, layArgs, Nat.reduceAdd, reduceIte, Nat.reduceEqDiff, reduceCtorEq, rowsB, cellsG, Nat.reduceMul, Sc.len, Ob.len, En.len, Fld.len, fda_ptr o25_0, fda_ptr o25_1, fda_ptr o33_0, fda_ptr o33_1, fda_ptr o33_2, fda_ptr o33_3, fda_ptr o31_0, fda_ptr o31_1, fda_ptr o41_0, fda_ptr o41_1, fda_ptr o45_0, fda_ptr o45_1, fda_rop o25_0, fda_rop o25_1, fda_rop o33_0, fda_rop o33_1, fda_rop o33_2, fda_rop o33_3, fda_rop o31_0, fda_rop o31_1, fda_rop o41_0, fda_rop o41_1, fda_rop o45_0, fda_rop o45_1,
    ld25, ld33, ld41, ld45, ld33r, ld41r, ld45r, ld22, ld23, ld9o, ld9or, ld39o, ld39or, ld9e, ld9er, ld43e, ld43er, ld9f0, ld9f0r, ld9f1, ld9f1r, ld9f2, ld9f2r, ld9f3, ld9f3r, ld9f4, ld9f4r, ld31f, ln22, ln23, ln39, ln43, List.drop_drop, f1, f3, f7, f8, f9, g0, g3, gb, c2, hr, hr2, bd43_1, goD_eq, loadO_one ag23 sz23, loadO_one ag43 sz43, loadO_one ag9 sz9]
        have hFk := hF.keep (h' := ((h.up 2).up 15).set (h.next + 2 + 11) (.cells 9 1 false [.str f])) (Nat.le_refl _) (fun id h1 h2 => by simp only [AH.get_set, AH.get_up]; rw [if_neg (by omega)])
        have hbf := hqf.2.2.2
        obtain ⟨id, ob, e1, e2, e3, e4⟩ := hFk.push (P := Tryz.prog) (B' := h.next + 17) (fr := h.next + 2 + 12) (X := h.next + 2 + 11) (fz := false) (xs := [.str f]) (ys := [.str f]) u43 i9 (by decide) (by omega) (by omega) (by omega) (by simp only [AH.get_set, if_true]) rfl (RdL.of_clean rfl) (by omega) (by omega)
        simp only [Nat.mul_one] at e1 e4
        rw [e1, goD_any (by kernel_rfl)]
        have hk : ∀ x, x < h.next → x ≠ id → ((((h.up 2).up 15).set (h.next + 2 + 11) (.cells 9 1 false [.str f])).set id ob).get x = h.get x := fun x h1 h2 => by simp only [AH.get_set, AH.get_up]; rw [if_neg h2, if_neg (by omega)]
        have hn : ((((h.up 2).up 15).set (h.next + 2 + 11) (.cells 9 1 false [.str f])).set id ob).next = h.next + 17 := by simp only [AH.next_set, AH.next_up]
        generalize ((((h.up 2).up 15).set (h.next + 2 + 11) (.cells 9 1 false [.str f])).set id ob) = H at e4 hk hn ⊢
        have gb' := (hk b bn (by omega)).trans gb
        simp -implicitDefEqProofs only [wpC_seq, rowsA, if_true, if_false, opnd, ofVal, ofVal1, layArgs, Nat.reduceAdd, reduceIte, Nat.reduceEqDiff, reduceCtorEq, rowsB, cellsG, Nat.reduceMul, Sc.len, Ob.len, En.len, Fld.len, fda_ptr o25_0, fda_ptr o25_1, fda_ptr o33_0, fda_ptr o33_1, fda_ptr o33_2, fda_ptr o33_3, fda_ptr o31_0, fda_ptr o31_1, fda_ptr o41_0, fda_ptr o41_1, fda_ptr o45_0, fda_ptr o45_1, fda_rop o25_0, fda_rop o25_1, fda_rop o33_0, fda_rop o33_1, fda_rop o33_2, fda_rop o33_3, fda_rop o31_0, fda_rop o31_1, fda_rop o41_0, fda_rop o41_1, fda_rop o45_0, fda_rop o45_1,
    ld25, ld33, ld41, ld45, ld33r, ld41r, ld45r, ld22, ld23, ld9o, ld9or, ld39o, ld39or, ld9e, ld9er, ld43e, ld43er, ld9f0, ld9f0r, ld9f1, ld9f1r, ld9f2, ld9f2r, ld9f3, ld9f3r, ld9f4, ld9f4r, ld31f, ln22, ln23, ln39, ln43, List.drop_drop, f8, gb', sz43, st45f]
        rw [goD_st (by omega) (by kernel_rfl)]
        simp -implicitDefEqProofs only [wpC_seq, rowsA, if_true, if_false, opnd, ofVal, ofVal1, layArgs, Nat.reduceAdd, reduceIte, Nat.reduceEqDiff, reduceCtorEq, rowsB, cellsG, Nat.reduceMul, f9, w2]
        refine ⟨k2, by omega, n + 1, j - 1, .ow id (n + 1) 0 (n + 1), by omega, by omega, ⟨?_, ?_, ?_, ?_, ?_⟩, ?_, ?_, ?_, ?_, ?_, ?_, ?_, ?_⟩
        · simp only [Fr.at_set, Nat.reduceEqDiff, reduceIte, f1]
        · simp only [Fr.at_set, Nat.reduceEqDiff, reduceIte, f3]
        · simp only [AH.get_set, AH.get_up]; rw [if_neg (by omega)]; exact (hk 0 (by omega) (by omega)).trans g0
        · simp only [AH.get_set, AH.get_up]; rw [if_neg (by omega)]; exact (hk 3 (by omega) (by omega)).trans g3
        · simp only [AH.next_set, AH.next_up]; omega
        · simp only [Fr.at_set, Nat.reduceEqDiff, reduceIte, f7]
        · simp only [Fr.at_set, Nat.reduceEqDiff, reduceIte, f8]
        · simp only [Fr.at_set, Nat.reduceEqDiff, reduceIte]
        · simp only [AH.get_set, AH.get_up, if_true]
        · simp only [AH.next_set, AH.next_up]; omega
        · exact hO.keep (Nat.le_refl _) fun x h1 h2 => by simp only [AH.get_set, AH.get_up]; rw [if_neg (by omega)]; exact hk x (by omega) (by omega)
        · exact hE.keep (Nat.le_refl _) fun x h1 h2 => by simp only [AH.get_set, AH.get_up]; rw [if_neg (by omega)]; exact hk x (by omega) (by omega)
        · rw [take_more hf2, flat_app, show flat strV [f] = [.str f] by simp [flat, strV]]
          exact e4.keep (by simp only [AH.next_set, AH.next_up]; omega) fun x h1 h2 => by simp only [AH.get_set, AH.get_up]; rw [if_neg (by omega)]
  | succ k =>
    have c1 : 0 ≤ i := by omega
    obtain ⟨q, hq, hq'⟩ := rev_get c1 im
    have hqm := List.mem_of_getElem? hq
    have hqf := hf.2.2.1 q hqm
    obtain ⟨r, hr⟩ := ix22 c1 hq
    have w1 := IntWalk.i64_in ((q.fs.length : Int) - 1) (by have := hf.fits.2.2 q hqm; omega)
    simp -implicitDefEqProofs only [wpC_seq, rowsA, if_true, if_false, opnd, ofVal, ofVal1, layArgs, Nat.reduceAdd, reduceIte, Nat.reduceEqDiff, reduceCtorEq, rowsB, cellsG, Nat.reduceMul, Sc.len, Ob.len, En.len, Fld.len, fda_ptr o25_0, fda_ptr o25_1, fda_ptr o33_0, fda_ptr o33_1, fda_ptr o33_2, fda_ptr o33_3, fda_ptr o31_0, fda_ptr o31_1, fda_ptr o41_0, fda_ptr o41_1, fda_ptr o45_0, fda_ptr o45_1, fda_rop o25_0, fda_rop o25_1, fda_rop o33_0, fda_rop o33_1, fda_rop o33_2, fda_rop o33_3, fda_rop o31_0, fda_rop o31_1, fda_rop o41_0, fda_rop o41_1, fda_rop o45_0, fda_rop o45_1,
    ld25, ld33, ld41, ld45, ld33r, ld41r, ld45r, ld22, ld23, ld9o, ld9or, ld39o, ld39or, ld9e, ld9er, ld43e, ld43er, ld9f0, ld9f0r, ld9f1, ld9f1r, ld9f2, ld9f2r, ld9f3, ld9f3r, ld9f4, ld9f4r, ld31f, ln22, ln23, ln39, ln43, List.drop_drop, f1, f3, f4, g0, g3, c1, hr, bld41n, al41, sz41, st41 q.n .nls _ [.str [], .nls] rfl, w1]
    refine wpC_loop (invO2 s m i vO q h.next (h.next + 2 + 7)) (k := q.fs.length) ⟨0, (q.fs.length : Int) - 1, .nls, by omega, by omega, ⟨?_, ?_, ?_, ?_, ?_⟩, ?_, ?_, ?_, ?_, ?_, ?_, RowT.nil⟩ ?_
    · simp only [Fr.at_set, Nat.reduceEqDiff, reduceIte, f1]
    · simp only [Fr.at_set, Nat.reduceEqDiff, reduceIte, f3]
    · simp only [AH.get_set, AH.get_up]; rw [if_neg (by omega), if_neg (by omega)]; exact g0
    · simp only [AH.get_set, AH.get_up]; rw [if_neg (by omega), if_neg (by omega)]; exact g3
    · simp only [AH.next_set, AH.next_up]; omega
    · simp only [Fr.at_set, Nat.reduceEqDiff, reduceIte, f4]
    · simp only [Fr.at_set, Nat.reduceEqDiff, reduceIte]
    · simp only [Fr.at_set, Nat.reduceEqDiff, reduceIte]
    · simp only [AH.get_set, AH.get_up, if_true]
    · simp only [AH.next_set, AH.next_up]; omega
    · exact hO.keep (Nat.le_refl _) fun id h1 h2 => by simp only [AH.get_set, AH.get_up]; rw [if_neg (by omega), if_neg (by omega)]
    have nB := nx
    generalize hB : h.next = B at hO nB ⊢
    generalize hb : B + 2 + 7 = b
    clear f1 f3 g0 g3 nx f4
    rintro k2 F h ⟨n, j, vf, kn, jn, ⟨f1, f3, g0, g3, nx⟩, f4, f5, f6, gb, bn, hO, hF⟩
    cases k2 with
    | zero =>
      have c2 : ¬ (0 ≤ j) := by omega
      simp -implicitDefEqProofs only [wpC_seq, rowsA, if_true, if_false, opnd, ofVal, ofVal1, layArgs, Nat.reduceAdd, reduceIte, Nat.reduceEqDiff, reduceCtorEq, rowsB, cellsG, Nat.reduceMul, Sc.len, Ob.len, En.len, Fld.len, fda_ptr o25_0, fda_ptr o25_1, fda_ptr o33_0, fda_ptr o33_1, fda_ptr o33_2, fda_ptr o33_3, fda_ptr o31_0, fda_ptr o31_1, fda_ptr o41_0, fda_ptr o41_1, fda_ptr o45_0, fda_ptr o45_1, fda_rop o25_0, fda_rop o25_1, fda_rop o33_0, fda_rop o33_1, fda_rop o33_2, fda_rop o33_3, fda_rop o31_0, fda_rop o31_1, fda_rop o41_0, fda_rop o41_1, fda_rop o45_0, fda_rop o45_1,
    ld25, ld33, ld41, ld45, ld33r, ld41r, ld45r, ld22, ld23, ld9o, ld9or, ld39o, ld39or, ld9e, ld9er, ld43e, ld43er, ld9f0, ld9f0r, ld9f1, ld9f1r, ld9f2, ld9f2r, ld9f3, ld9f3r, ld9f4, ld9f4r, ld31f, ln22, ln23, ln39, ln43, List.drop_drop, f1, f3, f4, f5, f6, g0, g3, gb, c2, loadO_one ag22 sz22, loadO_one ag39 sz39, load_agg (c := [.str q.n, vf]) ag41 sz41 (Nat.le_refl 2), bd22_g]
      have hn0 : n = q.fs.length := by omega
      have ev : (if n = 0 then PV.nls else .ro (flat Fld.pv (q.fs.reverse.take n)) n) = rowN Fld.pv q.fs.reverse := by
        rw [List.take_of_length_le (by rw [List.length_reverse]; omega), rowN, rowV, List.length_reverse, hn0]
      have hOk := hO.keep (h' := ((h.up 2).up 7).set (h.next + 2 + 3) (.cells 41 2 false [.str q.n, vf])) (Nat.le_refl B) (fun id h1 h2 => by simp only [AH.get_set, AH.get_up]; rw [if_neg (by omega)])
      have hrd := hF.rd
      rw [ev] at hrd
      have hbo := hf.2.2.2.2.1
      have w2 := IntWalk.i64_in (i - 1) (by have := hf.fits.1; omega)
      obtain ⟨id, ob, e1, e2, e3, e4⟩ := hOk.push (P := Tryz.prog) (B' := h.next + 9) (fr := h.next + 2 + 4) (X := h.next + 2 + 3) (fz := false) (xs := [.str q.n, vf]) (ys := Ob.pvN q.rev) u22 i41 (by decide) (by omega) (by omega) (by omega) (by simp only [AH.get_set, if_true]) rfl ⟨Rd.of_clean rfl, Rd.imp (fun x ⟨b1, b2⟩ => ⟨⟨by omega, by omega⟩, fun E sz fz c hc => ⟨fz, by simp only [AH.get_set, AH.get_up]; rw [if_neg (by omega)]; exact hc⟩⟩) _ _ _ hrd, trivial⟩ (by omega) (by omega)
      rw [e1, goO_w]
      have hk : ∀ x, x < h.next → x ≠ id → ((((h.up 2).up 7).set (h.next + 2 + 3) (.cells 41 2 false [.str q.n, vf])).set id ob).get x = h.get x := fun x h1 h2 => by simp only [AH.get_set, AH.get_up]; rw [if_neg h2, if_neg (by omega)]
      have hn : ((((h.up 2).up 7).set (h.next + 2 + 3) (.cells 41 2 false [.str q.n, vf])).set id ob).next = h.next + 9 := by simp only [AH.next_set, AH.next_up]
      generalize ((((h.up 2).up 7).set (h.next + 2 + 3) (.cells 41 2 false [.str q.n, vf])).set id ob) = H at e4 hk hn ⊢
      have g3' := (hk 3 (by omega) (by omega)).trans g3
      simp -implicitDefEqProofs only [wpC_seq, rowsA, if_true, if_false, opnd, ofVal, ofVal1, layArgs, Nat.reduceAdd, reduceIte, Nat.reduceEqDiff, reduceCtorEq, rowsB, cellsG, Nat.reduceMul, Sc.len, Ob.len, En.len, Fld.len, fda_ptr o25_0, fda_ptr o25_1, fda_ptr o33_0, fda_ptr o33_1, fda_ptr o33_2, fda_ptr o33_3, fda_ptr o31_0, fda_ptr o31_1, fda_ptr o41_0, fda_ptr o41_1, fda_ptr o45_0, fda_ptr o45_1, fda_rop o25_0, fda_rop o25_1, fda_rop o33_0, fda_rop o33_1, fda_rop o33_2, fda_rop o33_3, fda_rop o31_0, fda_rop o31_1, fda_rop o41_0, fda_rop o41_1, fda_rop o45_0, fda_rop o45_1,
    ld25, ld33, ld41, ld45, ld33r, ld41r, ld45r, ld22, ld23, ld9o, ld9or, ld39o, ld39or, ld9e, ld9er, ld43e, ld43er, ld9f0, ld9f0r, ld9f1, ld9f1r, ld9f2, ld9f2r, ld9f3, ld9f3r, ld9f4, ld9f4r, ld31f, ln22, ln23, ln39, ln43, List.drop_drop, f3, g3', sz22, st25x, f4, w2]
      refine ⟨k, by omega, m + 1, i - 1, .ow id ((m + 1) * 2) 0 (m + 1), by omega, by omega, ⟨?_, ?_, ?_, ?_, ?_⟩, ?_, ?_⟩
      · simp only [Fr.at_set, Nat.reduceEqDiff, reduceIte, f1]
      · simp only [Fr.at_set, Nat.reduceEqDiff, reduceIte, f3]
      · simp only [AH.get_set, AH.get_up]; rw [if_neg (by omega)]; exact (hk 0 (by omega) (by omega)).trans g0
      · simp only [AH.get_set, AH.get_up, if_true]
      · simp only [AH.next_set, AH.next_up]; omega
      · simp only [Fr.at_set, Nat.reduceEqDiff, reduceIte]
      · rw [revO_more hq']
        exact e4.keep (by simp only [AH.next_set, AH.next_up]; omega) fun x h1 h2 => by simp only [AH.get_set, AH.get_up]; rw [if_neg (by omega)]
    | succ k2 =>
      have c2 : 0 ≤ j := by omega
      obtain ⟨f, hf1, hf2⟩ := rev_get c2 jn
      obtain ⟨r2, hr2⟩ := ix39 c2 hf1
      have w2 := IntWalk.i64_in (j - 1) (by have := hf.fits.2.2 q hqm; omega)
      simp -implicitDefEqProofs only [wpC_seq, rowsA, if_true, if_false, opnd, ofVal, ofVal1, layArgs, Nat.reduceAdd, reduceIte, Nat.reduceEqDiff, reduceCtorEq, rowsB, cellsG, Nat.reduceMul, Sc.len, Ob.len, En.len, Fld.len, fda_ptr o25_0, fda_ptr o25_1, fda_ptr o33_0, fda_ptr o33_1, fda_ptr o33_2, fda_ptr o33_3, fda_ptr o31_0, fda_ptr o31_1, fda_ptr o41_0, fda_ptr o41_1, fda_ptr o45_0, fda_ptr o45_1, fda_rop o25_0, fda_rop o25_1, fda_rop o33_0, fda_rop o33_1, fda_rop o33_2, fda_rop o33_3, fda_rop o31_0, fda_rop o31_1, fda_rop o41_0, fda_rop o41_1, fda_rop o45_0, fda_rop o45_1,
    ld25, ld33, ld41, ld45, ld33r, ld41r, ld45r, ld22, ld23, ld9o, ld9or, ld39o, ld39or, ld9e, ld9er, ld43e, ld43er, ld9f0, ld9f0r, ld9f1, ld9f1r, ld9f2, ld9f2r, ld9f3, ld9f3r, ld9f4, ld9f4r, ld31f, ln22, ln23, ln39, ln43, List.drop_drop, f1, f3, f4, f5, f6, g0, g3, gb, c2, hr, hr2, bd39f, goD_eq, loadO_one ag22 sz22, loadO_one ag39 sz39]
      have hFk := hF.keep (h' := ((h.up 2).up 15).set (h.next + 2 + 11) (.cells 33 5 false f.pv)) (Nat.le_refl _) (fun id h1 h2 => by simp only [AH.get_set, AH.get_up]; rw [if_neg (by omega)])
      have hbf := hqf.2.2.2
      obtain ⟨id, ob, e1, e2, e3, e4⟩ := hFk.push (P := Tryz.prog) (B' := h.next + 17) (fr := h.next + 2 + 12) (X := h.next + 2 + 11) (fz := false) (xs := f.pv) (ys := f.pv) u39 i33 (by decide) (by omega) (by omega) (by omega) (by simp only [AH.get_set, if_true]) rfl (RdL.of_clean rfl) (by omega) (by omega)
      rw [e1, goD_any (by kernel_rfl)]
      have hk : ∀ x, x < h.next → x ≠ id → ((((h.up 2).up 15).set (h.next + 2 + 11) (.cells 33 5 false f.pv)).set id ob).get x = h.get x := fun x h1 h2 => by simp only [AH.get_set, AH.get_up]; rw [if_neg h2, if_neg (by omega)]
      have hn : ((((h.up 2).up 15).set (h.next + 2 + 11) (.cells 33 5 false f.pv)).set id ob).next = h.next + 17 := by simp only [AH.next_set, AH.next_up]
      generalize ((((h.up 2).up 15).set (h.next + 2 + 11) (.cells 33 5 false f.pv)).set id ob) = H at e4 hk hn ⊢
      have gb' := (hk b bn (by omega)).trans gb
      simp -implicitDefEqProofs only [wpC_seq, rowsA, if_true, if_false, opnd, ofVal, ofVal1, layArgs, Nat.reduceAdd, reduceIte, Nat.reduceEqDiff, reduceCtorEq, rowsB, cellsG, Nat.reduceMul, Sc.len, Ob.len, En.len, Fld.len, fda_ptr o25_0, fda_ptr o25_1, fda_ptr o33_0, fda_ptr o33_1, fda_ptr o33_2, fda_ptr o33_3, fda_ptr o31_0, fda_ptr o31_1, fda_ptr o41_0, fda_ptr o41_1, fda_ptr o45_0, fda_ptr o45_1, fda_rop o25_0, fda_rop o25_1, fda_rop o33_0, fda_rop o33_1, fda_rop o33_2, fda_rop o33_3, fda_rop o31_0, fda_rop o31_1, fda_rop o41_0, fda_rop o41_1, fda_rop o45_0, fda_rop o45_1,
    ld25, ld33, ld41, ld45, ld33r, ld41r, ld45r, ld22, ld23, ld9o, ld9or, ld39o, ld39or, ld9e, ld9er, ld43e, ld43er, ld9f0, ld9f0r, ld9f1, ld9f1r, ld9f2, ld9f2r, ld9f3, ld9f3r, ld9f4, ld9f4r, ld31f, ln22, ln23, ln39, ln43, List.drop_drop, f5, gb', sz39, st41f]
      rw [goD_st (by omega) (by kernel_rfl)]
      simp -implicitDefEqProofs only [wpC_seq, rowsA, if_true, if_false, opnd, ofVal, ofVal1, layArgs, Nat.reduceAdd, reduceIte, Nat.reduceEqDiff, reduceCtorEq, rowsB, cellsG, Nat.reduceMul, f6, w2]
      refine ⟨k2, by omega, n + 1, j - 1, .ow id ((n + 1) * 5) 0 (n + 1), by omega, by omega, ⟨?_, ?_, ?_, ?_, ?_⟩, ?_, ?_, ?_, ?_, ?_, ?_, ?_⟩
      · simp only [Fr.at_set, Nat.reduceEqDiff, reduceIte, f1]
      · simp only [Fr.at_set, Nat.reduceEqDiff, reduceIte, f3]
      · simp only [AH.get_set, AH.get_up]; rw [if_neg (by omega)]; exact (hk 0 (by omega) (by omega)).trans g0
      · simp only [AH.get_set, AH.get_up]; rw [if_neg (by omega)]; exact (hk 3 (by omega) (by omega)).trans g3
      · simp only [AH.next_set, AH.next_up]; omega
      · simp only [Fr.at_set, Nat.reduceEqDiff, reduceIte, f4]
      · simp only [Fr.at_set, Nat.reduceEqDiff, reduceIte, f5]
      · simp only [Fr.at_set, Nat.reduceEqDiff, reduceIte]
      · simp only [AH.get_set, AH.get_up, if_true]
      · simp only [AH.next_set, AH.next_up]; omega
      · exact hO.keep (Nat.le_refl _) fun x h1 h2 => by simp only [AH.get_set, AH.get_up]; rw [if_neg (by omega)]; exact hk x (by omega) (by omega)
      · rw [take_more hf2, flat_app, show flat Fld.pv [f] = f.pv by simp [flat]]
        exact e4.keep (by simp only [AH.next_set, AH.next_up]; omega) fun x h1 h2 => by simp only [AH.get_set, AH.get_up]; rw [if_neg (by omega)]
end Go.Proofs.YtcbngkmmmfaaoaaGreatDoor
