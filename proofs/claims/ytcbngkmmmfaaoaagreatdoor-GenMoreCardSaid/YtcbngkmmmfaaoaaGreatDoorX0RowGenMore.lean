/-
  JOINED TEXTS (G0 G1 G2 Q19 Q21 Q17 Q20 Q22 Q23 H0 H1 H2 H3 H4 H5 H6 H7): what this law wants beyond the shared ones.
-/
import Derived.Test.YtcbngkmmmfaaoaaGreatDoorM7
import Derived.Test.YtcbngkmmmfaaoaaGreatDoorM11
import Derived.Test.YtcbngkmmmfaaoaaGreatDoorM6
import Derived.Test.YtcbngkmmmfaaoaaGreatDoorM15
set_option linter.unusedVariables false
set_option linter.unusedSimpArgs false
namespace Go.Proofs.YtcbngkmmmfaaoaaGreatDoor
open Go.RowKit Go.Lib Go.Ac
set_option linter.unusedSimpArgs false
set_option maxRecDepth 100000

theorem u47 : Tryz.prog.underlying 47 = some (.slice 54) := by kernel_rfl
theorem u51 : Tryz.prog.underlying 51 = some (.slice 58) := by kernel_rfl
theorem u52 : Tryz.prog.underlying 52 = some (.slice 56) := by kernel_rfl
theorem sz51 : tySz Tryz.prog 51 = some 1 := by kernel_rfl
theorem sz52 : tySz Tryz.prog 52 = some 1 := by kernel_rfl
theorem sz54 : tySz Tryz.prog 54 = some 5 := by kernel_rfl
theorem sz56 : tySz Tryz.prog 56 = some 3 := by kernel_rfl
theorem sz58 : tySz Tryz.prog 58 = some 4 := by kernel_rfl
theorem ag51 : tyAgg Tryz.prog 51 = some false := by kernel_rfl
theorem ag52 : tyAgg Tryz.prog 52 = some false := by kernel_rfl
theorem ag54 : tyAgg Tryz.prog 54 = some true := by kernel_rfl
theorem ag56 : tyAgg Tryz.prog 56 = some true := by kernel_rfl
theorem ag58 : tyAgg Tryz.prog 58 = some true := by kernel_rfl
theorem o54_0 : offOf Tryz.prog 54 0 = some 0 := by kernel_rfl
theorem o54_1 : offOf Tryz.prog 54 1 = some 1 := by kernel_rfl
theorem o54_2 : offOf Tryz.prog 54 2 = some 2 := by kernel_rfl
theorem o54_3 : offOf Tryz.prog 54 3 = some 3 := by kernel_rfl
theorem o54_4 : offOf Tryz.prog 54 4 = some 4 := by kernel_rfl
theorem o58_0 : offOf Tryz.prog 58 0 = some 0 := by kernel_rfl
theorem o58_1 : offOf Tryz.prog 58 1 = some 1 := by kernel_rfl
theorem o58_2 : offOf Tryz.prog 58 2 = some 3 := by kernel_rfl

structure Inp where
  n : List UInt8
  t : List UInt8
  w : List UInt8
structure Outp where
  n : List UInt8
  t : List UInt8
  w : List UInt8
  args : Option (List Inp)
structure Df where
  n : List UInt8
  k : Int
  words : List (List UInt8)
  outs : List Outp
  ins : List Inp
def Inp.pv (f : Inp) : List PV := [.str f.n, .str f.t, .str f.w]
def rowO {α : Type} (f : α → List PV) : Option (List α) → PV
  | none => .nls
  | some [] => .emp
  | some l => rowV f l
def Outp.pv (f : Outp) : List PV := [.str f.n, .str f.t, .str f.w, rowO Inp.pv f.args]
def Df.pv (d : Df) : List PV := [.str d.n, .int .i64 d.k, rowV strV d.words, rowV Outp.pv d.outs, rowV Inp.pv d.ins]
theorem Inp.len (f : Inp) : f.pv.length = 3 := rfl
theorem Outp.len (f : Outp) : f.pv.length = 4 := rfl
theorem Df.len (f : Df) : f.pv.length = 5 := rfl
theorem Inp.cl (f : Inp) : PV.cleans f.pv = true := rfl
theorem rowO_cl {α : Type} (f : α → List PV) (l : Option (List α)) : (rowO f l).clean = true := by
  unfold rowO
  split <;> rfl
theorem Outp.cl (f : Outp) : PV.cleans f.pv = true := by simp [Outp.pv, PV.cleans, PV.clean, rowO_cl]
theorem Df.cl (f : Df) : PV.cleans f.pv = true := rfl
end Go.Proofs.YtcbngkmmmfaaoaaGreatDoor
namespace Go.Proofs.YtcbngkmmmfaaoaaGreatDoor
open Go.RowKit Go.Lib Go.Ac
set_option linter.unusedSimpArgs false
set_option maxRecDepth 100000
variable {mx : Int}

end Go.Proofs.YtcbngkmmmfaaoaaGreatDoor
namespace Go.Proofs.YtcbngkmmmfaaoaaGreatDoor
open Go.RowKit Go.Lib Go.Ac
set_option linter.unusedSimpArgs false
set_option maxRecDepth 100000
variable {mx : Int}

theorem z31 : tyZero Tryz.prog 31 = some [.str [], .str []] := by kernel_rfl
theorem al31 {ρ : Operand → PV} {h : AH} {fr : Nat} {d : Option Tmp} {ty : TypeId} {ps : String} {af : Array Edge} {gu : Option (Nat × Bool)} : aop Tryz.prog ρ h fr ⟨d, .alloc 31, ty, ps, af, gu⟩ = some (.w (.ptr fr 2 0) fr (.cells 31 0 false [.str [], .str []])) := by
  rw [aop_alloc, z31]
  rfl
theorem st31 (a b : List UInt8) (id : Nat) (c : List PV) (hc : c.length = 2) : stoG id 2 0 (.agg [.str a, .str b]) 2 (some (.cells 31 0 false c)) = some (.w .undef id (.cells 31 0 false [.str a, .str b])) := stoG_all id 2 0 31 (.agg [.str a, .str b]) c hc rfl rfl
theorem bl31 (a b : List UInt8) : bldO Tryz.prog 31 [(0, .str a), (1, .str b)] = some (.q (.agg [.str a, .str b])) := by kernel_rfl
theorem genRef_c (a b : List UInt8) (h : AH) (fr : Nat) : CR Tryz.prog (globM mx) md (.fn 67) [.str a, .str b] h fr (.val (.agg [.str a, .str b])) := by
  refine CR.frozen (rs := [.cell 4 31]) Tryz.func67 rfl rfl rfl rfl rfl rfl ?_ h fr
  simp -implicitDefEqProofs only [wpC_seq, rowsA, if_true, if_false, opnd, ofVal, ofVal1, layArgs, Nat.reduceAdd, reduceIte, Nat.reduceEqDiff, reduceCtorEq, rowsB, cellsG, Nat.reduceMul, al31, st31, bl31, sz31, load_agg ag31 sz31]
  exact ⟨_, frz_clean _ rfl⟩
end Go.Proofs.YtcbngkmmmfaaoaaGreatDoor
namespace Go.Proofs.YtcbngkmmmfaaoaaGreatDoor
open Go.RowKit Go.Lib Go.Ac
set_option linter.unusedSimpArgs false
variable {mx : Int}
def fldX : Fld := ⟨[120], [73, 110, 116], [], false, []⟩
def oneX (name : List UInt8) : Ob := ⟨name, [fldX]⟩
theorem idx_pos {α : Type} {p : α → Bool} : ∀ {l : List α} {k : Nat}, 0 ≤ idx p l k ↔ ∃ x ∈ l, p x = true
  | [], _ => by simp [idx]
  | x :: l, k => by
    rw [idx]
    split
    · rename_i h
      simp [h]
    · rename_i h
      rw [idx_pos]
      simp [h]
theorem objAt_pos {s : Sc} {x : List UInt8} : 0 ≤ objAt s x ↔ x ∈ s.os.map (·.n) := by
  unfold objAt
  rw [idx_pos]
  simp
theorem enmAt_pos {s : Sc} {x : List UInt8} : 0 ≤ enmAt s x ↔ x ∈ s.es.map (·.n) := by
  unfold enmAt
  rw [idx_pos]
  simp
theorem nodupB_iff {l : List (List UInt8)} : nodupB l = true ↔ l.Nodup := by simp [nodupB]
end Go.Proofs.YtcbngkmmmfaaoaaGreatDoor
namespace Go.Proofs.YtcbngkmmmfaaoaaGreatDoor
open Go.RowKit Go.Lib Go.Ac
set_option linter.unusedSimpArgs false
variable {mx : Int}
theorem propB_iff {s : Sc} {f : Fld} : propB s f = true ↔ scalar f.t = true ∨ f.t ∈ s.es.map (·.n) := by
  rw [← enmAt_pos]
  simp [propB]
theorem edge_iff {s : Sc} {f : Fld} : 0 ≤ edgeOf s f ↔ propB s f = false ∧ f.t ∈ s.os.map (·.n) := by
  unfold edgeOf
  cases propB s f with
  | true => simp
  | false => simp [objAt_pos]
theorem typedB_iff {s : Sc} {f : Fld} : typedB s f = true ↔ (propB s f = true ∧ (f.w = [] ∨ f.w = [33])) ∨ (propB s f = false ∧ f.t ∈ s.os.map (·.n) ∧ (f.w = [] ∨ f.w = [33, 91, 33])) := by
  rw [← objAt_pos]
  unfold typedB
  cases propB s f with
  | true => simp
  | false => simp
theorem objAt_mem {s : Sc} (hn : (s.os.map (·.n)).Nodup) {q : Ob} (hq : q ∈ s.os) : ∃ i : Nat, s.os[i]? = some q ∧ objAt s q.n = (i : Int) := by
  obtain ⟨i, hi⟩ := List.getElem?_of_mem hq
  exact ⟨i, hi, nodup_idx (fun o : Ob => o.n) hn hi⟩
theorem placeAt_mem {q : Ob} (hn : (q.fs.map (·.n)).Nodup) {g : Fld} (hg : g ∈ q.fs) : ∃ i : Nat, q.fs[i]? = some g ∧ placeAt q g.n = (i : Int) := by
  obtain ⟨i, hi⟩ := List.getElem?_of_mem hg
  exact ⟨i, hi, nodup_idx (fun o : Fld => o.n) hn hi⟩
theorem objAt_get {s : Sc} {x : List UInt8} {i : Nat} {q : Ob} (h : objAt s x = (i : Int)) (hq : s.os[i]? = some q) : q.n = x := by
  unfold objAt at h
  rcases idx_range (fun o : Ob => decide (o.n = x)) s.os 0 with h' | ⟨j, y, h1, h2, h3⟩
  · rw [h'] at h
    omega
  · rw [h1] at h
    have : j = i := by omega
    subst this
    rw [h2] at hq
    cases hq
    simpa using h3
theorem placeAt_get {o : Ob} {x : List UInt8} {i : Nat} {q : Fld} (h : placeAt o x = (i : Int)) (hq : o.fs[i]? = some q) : q.n = x := by
  unfold placeAt at h
  rcases idx_range (fun o : Fld => decide (o.n = x)) o.fs 0 with h' | ⟨j, y, h1, h2, h3⟩
  · rw [h'] at h
    omega
  · rw [h1] at h
    have : j = i := by omega
    subst this
    rw [h2] at hq
    cases hq
    simpa using h3
def BackM (s : Sc) (o : Ob) (f : Fld) : Prop := f.inv = [] ∨ ∃ q ∈ s.os, ∃ g ∈ q.fs, propB s f = false ∧ q.n = f.t ∧ g.n = f.inv ∧ 0 ≤ edgeOf s g ∧ g.t = o.n ∧ g.inv = f.n
theorem backB_iff {s : Sc} {o : Ob} {f : Fld} (hn : (s.os.map (·.n)).Nodup) (hf : ∀ q ∈ s.os, (q.fs.map (·.n)).Nodup) : backB s o f = true ↔ BackM s o f := by
  unfold BackM
  constructor
  · intro hb
    unfold backB at hb
    by_cases hi : f.inv = []
    · exact .inl hi
    refine .inr ?_
    rw [if_neg hi] at hb
    rcases edge_range s f with he | ⟨j, q, he, hq⟩
    · rw [he, if_pos (by decide)] at hb
      cases hb
    have hpf : propB s f = false := (edge_iff.1 (by rw [he]; omega)).1
    rw [he, if_neg (by omega), Int.toNat_natCast, hq] at hb
    simp only at hb
    rcases place_range q f.inv with hp | ⟨i, g, hp, hg⟩
    · rw [hp, if_pos (by decide)] at hb
      cases hb
    rw [hp, if_neg (by omega), Int.toNat_natCast, hg] at hb
    simp only [Bool.and_eq_true, decide_eq_true_eq] at hb
    refine ⟨q, List.mem_of_getElem? hq, g, List.mem_of_getElem? hg, hpf, ?_, placeAt_get hp hg, hb.1.1, hb.1.2, hb.2⟩
    unfold edgeOf at he
    rw [hpf] at he
    exact objAt_get he hq
  · rintro (hi | ⟨q, hq, g, hg, h1, h2, h3, h4, h5, h6⟩)
    · unfold backB
      rw [if_pos hi]
    · unfold backB
      by_cases hi : f.inv = []
      · rw [if_pos hi]
      rw [if_neg hi]
      obtain ⟨j, hj, ej⟩ := objAt_mem hn hq
      obtain ⟨i, hi', ei⟩ := placeAt_mem (hf q hq) hg
      have he : edgeOf s f = (j : Int) := by
        unfold edgeOf
        rw [h1, ← h2]
        exact ej
      rw [he, if_neg (by omega), Int.toNat_natCast, hj]
      simp only
      rw [← h3, ei, if_neg (by omega), Int.toNat_natCast, hi']
      simp [h4, h5, h6]
structure Sc.okM (mx : Int) (s : Sc) : Prop where
  enough : s.enough
  named : namedB mx s = true
  all : (s.os.map (·.n) ++ s.es.map (·.n)).Nodup
  fields : ∀ q ∈ s.os, (q.fs.map (·.n)).Nodup
  words : ∀ e ∈ s.es, e.ws.Nodup
  typed : ∀ o ∈ s.os, ∀ f ∈ o.fs, typedB s f = true
  search : ∀ o ∈ s.os, ∀ f ∈ o.fs, searchB s f = true
  back : ∀ o ∈ s.os, ∀ f ∈ o.fs, BackM s o f
theorem onceB_iff {s : Sc} : onceB s = true ↔ (s.os.map (·.n) ++ s.es.map (·.n)).Nodup ∧ (∀ q ∈ s.os, (q.fs.map (·.n)).Nodup) ∧ ∀ e ∈ s.es, e.ws.Nodup := by
  simp only [onceB, Bool.and_eq_true, nodupB_iff, List.all_eq_true, and_assoc]
theorem okM_iff {s : Sc} : s.okM mx ↔ s.ok mx := by
  constructor
  · rintro ⟨h1, h2, h3, h4, h5, h6, h7, h8⟩
    exact ⟨h1, h2, onceB_iff.2 ⟨h3, h4, h5⟩, h6, h7, fun o ho f hf => (backB_iff (List.nodup_append.1 h3).1 h4).2 (h8 o ho f hf)⟩
  · rintro ⟨h1, h2, h3, h4, h5, h6⟩
    obtain ⟨a, b, c⟩ := onceB_iff.1 h3
    exact ⟨h1, h2, a, b, c, h4, h5, fun o ho f hf => (backB_iff (List.nodup_append.1 a).1 b).1 (h6 o ho f hf)⟩

theorem check_0 {s : Sc} : checkV mx s = 0 ↔ s.okM mx := by
  rw [okM_iff]
  exact ⟨check_ok, fun h => ok_check (of_enough h.enough) h⟩
def Sc.less (s : Sc) (a : Nat) : Sc := ⟨s.os.take a ++ s.os.drop (a + 1), s.es⟩
section
variable {s : Sc} {a : Nat} {o : Ob}
end
end Go.Proofs.YtcbngkmmmfaaoaaGreatDoor
namespace Go.Proofs.YtcbngkmmmfaaoaaGreatDoor
open Go.RowKit Go.Lib Go.Ac
set_option linter.unusedSimpArgs false
set_option maxRecDepth 100000
variable {mx : Int}
end Go.Proofs.YtcbngkmmmfaaoaaGreatDoor
namespace Go.Proofs.YtcbngkmmmfaaoaaGreatDoor
open Go.RowKit Go.Lib Go.Ac
set_option linter.unusedSimpArgs false
set_option maxRecDepth 100000
variable {mx : Int}
theorem bld31 (a : List UInt8) : bldO Tryz.prog 31 [(0, .str a)] = some (.q (.agg [.str a, .str []])) := by kernel_rfl
theorem bld33 (a b c : List UInt8) : bldO Tryz.prog 33 [(0, .str a), (1, .agg [.str b, .str c])] = some (.q (.agg [.str a, .str b, .str c, .bool false, .str []])) := by kernel_rfl
theorem bd39_1 (fr : Nat) (a b c e : List UInt8) (d : Bool) : buildO Tryz.prog fr 39 1 [(0, .agg [.str a, .str b, .str c, .bool d, .str e])] = some (.w (.ow fr 5 0 1) fr (.cells 33 5 false [.str a, .str b, .str c, .bool d, .str e])) := by kernel_rfl
theorem bld41 (a : List UInt8) (id x y z : Nat) : bldO Tryz.prog 41 [(0, .str a), (1, .ow id x y z)] = some (.q (.agg [.str a, .ow id x y z])) := by kernel_rfl
theorem bd22_1 (fr : Nat) (a : List UInt8) (id x y z : Nat) : buildO Tryz.prog fr 22 1 [(0, .agg [.str a, .ow id x y z])] = some (.w (.ow fr 2 0 1) fr (.cells 41 2 false [.str a, .ow id x y z])) := by kernel_rfl
theorem bd22_0 (fr : Nat) : buildO Tryz.prog fr 22 0 [] = some (.w .els fr (.cells 41 2 false [])) := by kernel_rfl
theorem i41 : (Tryz.prog.info? 41).map (fun i => (i.size, i.bytes, i.zero.map (·.cells.size))) = some (2, 40, some 2) := by kernel_rfl
theorem z41 : tyZero Tryz.prog 41 = some [.str [], .nls] := by kernel_rfl
theorem z25 : tyZero Tryz.prog 25 = some [.nls, .nls] := by kernel_rfl
theorem z45 : tyZero Tryz.prog 45 = some [.str [], .nls] := by kernel_rfl
section
variable {ρ : Operand → PV} {h : AH} {fr : Nat} {d : Option Tmp} {ty : TypeId} {ps : String} {af : Array Edge} {gu : Option (Nat × Bool)}
theorem al41 : aop Tryz.prog ρ h fr ⟨d, .alloc 41, ty, ps, af, gu⟩ = some (.w (.ptr fr 2 0) fr (.cells 41 0 false [.str [], .nls])) := by
  rw [aop_alloc, z41]
  rfl
theorem al25 : aop Tryz.prog ρ h fr ⟨d, .alloc 25, ty, ps, af, gu⟩ = some (.w (.ptr fr 2 0) fr (.cells 25 0 false [.nls, .nls])) := by
  rw [aop_alloc, z25]
  rfl
theorem al45 : aop Tryz.prog ρ h fr ⟨d, .alloc 45, ty, ps, af, gu⟩ = some (.w (.ptr fr 2 0) fr (.cells 45 0 false [.str [], .nls])) := by
  rw [aop_alloc, z45]
  rfl
end
theorem goD_eq {P : Program} {G : Glob} {md : FuncId → Md} {ops : Array Oper} {base i : Nat} {rest : List Oper} {d : Option Tmp} {f : Fr} {h : AH} {lg : List (Nat × Nat)} {Q : OX → Prop} {v : PV} {id : Nat} {ob : AO} (e : id = base + i) : goD P G md ops base i rest d f h lg Q (some (.w v id ob)) = wpD P G md ops base (i + 1) rest (putA f d v) (h.set (base + i) ob) lg Q := by
  subst e
  exact goD_new ..
theorem st25 (s : Sc) (id : Nat) : stoG id 2 0 (.agg s.pv) 2 (some (.cells 25 0 false [.nls, .nls])) = some (.w .undef id (.cells 25 0 false s.pv)) := stoG_all id 2 0 25 (.agg s.pv) [.nls, .nls] rfl rfl rfl
theorem st25a (s : Sc) (id a b c d : Nat) : stoG id 2 0 (.ow a b c d) 1 (some (.cells 25 0 false s.pv)) = some (.w .undef id (.cells 25 0 false [.ow a b c d, rowV En.pv s.es])) := rfl
theorem small_one {name : List UInt8} (hn : name.length ≤ 140737488355328) : (⟨[oneX name], []⟩ : Sc).small :=
  ⟨fun o ho => by
    rw [List.mem_singleton.1 ho]
    refine ⟨Nat.le_trans hn (by decide), fun f hf => ?_⟩
    rw [List.mem_singleton.1 hf]
    show 1 ≤ _
    decide, fun e he => by cases he⟩
theorem small_more {s : Sc} {name : List UInt8} (hm : s.small) (hn : name.length ≤ 140737488355328) : (⟨s.os ++ [oneX name], s.es⟩ : Sc).small :=
  ⟨fun o ho => by
    rcases List.mem_append.1 ho with q | q
    · exact hm.1 o q
    · exact (small_one hn).1 o q, hm.2⟩
end Go.Proofs.YtcbngkmmmfaaoaaGreatDoor
namespace Go.Proofs.YtcbngkmmmfaaoaaGreatDoor
open Go.RowKit Go.Lib Go.Ac
set_option linter.unusedSimpArgs false
set_option maxRecDepth 100000
variable {mx : Int}
structure LessS (s : Sc) (n T R : Nat) (F : Fr) (h : AH) : Prop where
  f1 : F.at 1 = .int .i64 n
  f2 : F.at 2 = .ptr 0 2 0
  f5 : F.at 5 = .ptr T 2 0
  g0 : h.get 0 = some (.cells 25 0 false s.pv)
  gT : h.get T = some (.cells 25 0 false [.ow R ((s.less n).os.length * 2) 0 (s.less n).os.length, rowV En.pv s.es])
  gR : h.get R = some (.cells 41 2 false (flat Ob.pv (s.less n).os))
end Go.Proofs.YtcbngkmmmfaaoaaGreatDoor
namespace Go.Ac
open Go.RowKit
def RowT (d A B : Nat) (h : AH) (E : TypeId) (sz : Nat) (v : PV) (L : List PV) (n : Nat) : Prop :=
  (n = 0 ∧ v = .nls ∧ L = []) ∨ (0 < n ∧ ∃ R C, v = .ow R (n * sz) 0 n ∧ A ≤ R ∧ R < B ∧ h.get R = some (.cells E sz false C) ∧ C.length = n * sz ∧ RdL (Rd (fun id => A ≤ id ∧ id < B ∧ id ≠ R) h d) C L)
theorem RowT.nil {d A B : Nat} {h : AH} {E : TypeId} {sz : Nat} : RowT d A B h E sz .nls [] 0 := .inl ⟨rfl, rfl, rfl⟩
theorem RowT.keep {d A B B' : Nat} {h h' : AH} {E : TypeId} {sz : Nat} {v : PV} {L : List PV} {n : Nat} (q : RowT d A B h E sz v L n) (hb : B ≤ B') (hk : ∀ id, A ≤ id → id < B → h'.get id = h.get id) : RowT d A B' h' E sz v L n := by
  rcases q with q | ⟨h0, R, C, rfl, a1, a2, a3, a4, a5⟩
  · exact .inl q
  · exact .inr ⟨h0, R, C, rfl, a1, by omega, by rw [hk R a1 a2]; exact a3, a4, a5.imp fun v u => Rd.imp (fun id ⟨b1, b2, b3⟩ => ⟨⟨b1, by omega, b3⟩, fun E sz fz c hc => ⟨fz, by rw [hk id b1 b2]; exact hc⟩⟩) d v u⟩
theorem RowT.rd {d A B : Nat} {h : AH} {E : TypeId} {sz : Nat} {v : PV} {L : List PV} {n : Nat} (q : RowT d A B h E sz v L n) : Rd (fun id => A ≤ id ∧ id < B) h (d + 1) v (if n = 0 then .nls else .ro L n) := by
  rcases q with ⟨rfl, rfl, rfl⟩ | ⟨h0, R, C, rfl, a1, a2, a3, a4, a5⟩
  · exact Rd.of_clean rfl
  · rw [if_neg (by omega)]
    exact Rd.row ⟨a1, a2⟩ a3 a4 (a5.imp fun v u => Rd.imp (fun id ⟨b1, b2, b3⟩ => ⟨⟨b1, b2⟩, fun E sz fz c hc => ⟨fz, hc⟩⟩) d v u)
theorem RowT.push {P : Program} {d A B B' fr X : Nat} {h : AH} {t e : TypeId} {sz b : Nat} {v : PV} {L xs ys : List PV} {n : Nat} (q : RowT d A B h e sz v L n) (hu : P.underlying t = some (.slice e)) (hi : (P.info? e).map (fun i => (i.size, i.bytes, i.zero.map (·.cells.size))) = some (sz, b, some sz)) (hsz : 0 < sz)
    (hA : A ≤ B) (hB : B ≤ fr) (hB' : fr < B') {fz : Bool} (hX : h.get X = some (.cells e sz fz xs)) (hl : xs.length = sz) (hx : RdL (Rd (fun id => B ≤ id ∧ id < fr) h d) xs ys) (hb : (n + 1) * b ≤ 2 ^ 47) (hn : n + 1 ≤ 2 ^ 47) :
    ∃ id ob, appO P h fr [v, .ow X sz 0 1] [t, t] = some (.w (.ow id ((n + 1) * sz) 0 (n + 1)) id ob) ∧ A ≤ id ∧ (id = fr ∨ id < B) ∧ RowT d A B' (h.set id ob) e sz (.ow id ((n + 1) * sz) 0 (n + 1)) (L ++ ys) (n + 1) := by
  have hc : Ac.cellsOf h sz (.ow X sz 0 1) = some (xs, 1) := by
    have := cellR_ow (sz := sz) (n := 1) hX (by rw [hl, Nat.one_mul])
    rwa [Nat.one_mul] at this
  rcases q with ⟨rfl, rfl, rfl⟩ | ⟨h0, R, C, rfl, a1, a2, a3, a4, a5⟩
  · refine ⟨fr, _, ap_new hu hi hsz (.inl rfl) hc (by decide) (by simpa using hb) (by decide), by omega, .inl rfl, .inr ⟨by omega, fr, xs, rfl, by omega, hB', by simp only [AH.get_set, if_true], by rw [hl, Nat.zero_add, Nat.one_mul], ?_⟩⟩
    rw [List.nil_append]
    exact hx.imp fun v u => Rd.imp (fun id ⟨b1, b2⟩ => ⟨⟨by omega, by omega, by omega⟩, fun E sz fz c hc => ⟨fz, by simp only [AH.get_set, show ¬ id = fr by omega, if_false]; exact hc⟩⟩) d v u
  · refine ⟨R, _, ap_more hu hi hsz a3 a4 hc (by decide) hb hn, a1, .inr a2, .inr ⟨by omega, R, C ++ xs, rfl, a1, by omega, by simp only [AH.get_set, if_true], by rw [List.length_append, a4, hl, Nat.add_mul, Nat.one_mul], ?_⟩⟩
    refine RdL.append (a5.imp fun v u => Rd.imp (fun id ⟨b1, b2, b3⟩ => ⟨⟨b1, by omega, b3⟩, fun E sz fz c hc => ⟨fz, by simp only [AH.get_set, b3, if_false]; exact hc⟩⟩) d v u) (hx.imp fun v u => Rd.imp (fun id ⟨b1, b2⟩ => ⟨⟨by omega, by omega, by omega⟩, fun E sz fz c hc => ⟨fz, by simp only [AH.get_set, show ¬ id = R by omega, if_false]; exact hc⟩⟩) d v u)
theorem goD_any {P : Program} {G : Glob} {md : FuncId → Md} {ops : Array Oper} {base i : Nat} {rest : List Oper} {d : Option Tmp} {f : Fr} {h : AH} {lg : List (Nat × Nat)} {Q : OX → Prop} {v : PV} {id : Nat} {ob : AO} (hf : (fore ops i && Ac.lone ops i) = true) : goD P G md ops base i rest d f h lg Q (some (.w v id ob)) = wpD P G md ops base (i + 1) rest (putA f d v) (h.set id ob) lg Q := by
  by_cases e : id = base + i
  · subst e
    exact goD_new ..
  · exact goD_st e hf
end Go.Ac
namespace Go.Proofs.YtcbngkmmmfaaoaaGreatDoor
open Go.RowKit Go.Lib Go.Ac
set_option linter.unusedSimpArgs false
set_option maxRecDepth 100000
variable {mx : Int}
def rowN {α : Type} (f : α → List PV) (l : List α) : PV := if l.length = 0 then .nls else rowV f l
theorem rowN_clean {α : Type} (f : α → List PV) (l : List α) : (rowN f l).clean = true := by
  unfold rowN
  split <;> rfl
theorem rowN_pos {α : Type} {f : α → List PV} {l : List α} (h : 0 < l.length) : rowN f l = rowV f l := by rw [rowN, if_neg (by omega)]
theorem rowN_row {α : Type} (f : α → List PV) (l : List α) : RowR f (rowN f l) l := by
  unfold rowN
  split
  · rename_i h
    exact .inr ⟨List.length_eq_zero_iff.1 h, .inl rfl⟩
  · exact .inl rfl
end Go.Proofs.YtcbngkmmmfaaoaaGreatDoor
namespace Go.Proofs.YtcbngkmmmfaaoaaGreatDoor
open Go.RowKit Go.Lib Go.Ac
set_option linter.unusedSimpArgs false
set_option maxRecDepth 100000
variable {mx : Int}
def bFilter : List UInt8 := [70, 105, 108, 116, 101, 114]
def bOrder : List UInt8 := [79, 114, 100, 101, 114]
def bOrderable : List UInt8 := [79, 114, 100, 101, 114, 97, 98, 108, 101]
def bInt : List UInt8 := [73, 110, 116]
def bID : List UInt8 := [73, 68]
def bFloat : List UInt8 := [70, 108, 111, 97, 116]
def bString : List UInt8 := [83, 116, 114, 105, 110, 103]
def bBoolean : List UInt8 := [66, 111, 111, 108, 101, 97, 110]
def bid : List UInt8 := [105, 100]
def manyL : List UInt8 := [33, 91, 33]
def listL : List UInt8 := [33, 91]
def argsL (t : List UInt8) : List Inp := [⟨[102, 105, 108, 116, 101, 114], t ++ bFilter, []⟩, ⟨[111, 114, 100, 101, 114], t ++ bOrder, []⟩, ⟨[102, 105, 114, 115, 116], bInt, []⟩, ⟨[111, 102, 102, 115, 101, 116], bInt, []⟩]
def cmpL (x : List UInt8) : List Inp := [⟨[101, 113], x, []⟩, ⟨[108, 116], x, []⟩, ⟨[108, 101], x, []⟩, ⟨[103, 116], x, []⟩, ⟨[103, 101], x, []⟩, ⟨[105, 110], x, listL⟩]
theorem z56 : tyZero Tryz.prog 56 = some [.str [], .str [], .str []] := by kernel_rfl
theorem z54 : tyZero Tryz.prog 54 = some [.str [], .int .i64 0, .nls, .nls, .nls] := by kernel_rfl
section
variable {ρ : Operand → PV} {h : AH} {fr : Nat} {d : Option Tmp} {ty : TypeId} {ps : String} {af : Array Edge} {gu : Option (Nat × Bool)}
theorem al56 : aop Tryz.prog ρ h fr ⟨d, .alloc 56, ty, ps, af, gu⟩ = some (.w (.ptr fr 3 0) fr (.cells 56 0 false [.str [], .str [], .str []])) := by
  rw [aop_alloc, z56]
  rfl
theorem al54 : aop Tryz.prog ρ h fr ⟨d, .alloc 54, ty, ps, af, gu⟩ = some (.w (.ptr fr 5 0) fr (.cells 54 0 false [.str [], .int .i64 0, .nls, .nls, .nls])) := by
  rw [aop_alloc, z54]
  rfl
end
theorem st56 (a b e : List UInt8) (id : Nat) (c : List PV) (hc : c.length = 3) : stoG id 3 0 (.agg [.str a, .str b, .str e]) 3 (some (.cells 56 0 false c)) = some (.w .undef id (.cells 56 0 false [.str a, .str b, .str e])) := stoG_all id 3 0 56 (.agg [.str a, .str b, .str e]) c hc rfl rfl
theorem bl56 (a b c : List UInt8) : bldO Tryz.prog 56 [(0, .str a), (1, .agg [.str b, .str c])] = some (.q (.agg [.str a, .str b, .str c])) := by kernel_rfl
theorem gin_c (a b c : List UInt8) (h : AH) (fr : Nat) : CR Tryz.prog (globM mx) md (.fn 65) [.str a, .str b, .str c] h fr (.val (.agg [.str a, .str b, .str c])) := by
  refine CR.frozen (rs := [.cell 6 56]) Tryz.func65 rfl rfl rfl rfl rfl rfl ?_ h fr
  simp -implicitDefEqProofs only [wpC_seq, rowsA, if_true, if_false, opnd, ofVal, ofVal1, layArgs, Nat.reduceAdd, reduceIte, Nat.reduceEqDiff, reduceCtorEq, rowsB, cellsG, Nat.reduceMul, al56, st56, bl56, sz56, goO_known (genRef_c b c), load_agg ag56 sz56]
  exact ⟨_, frz_clean _ rfl⟩
theorem bd52_4 (fr : Nat) (a1 a2 a3 b1 b2 b3 c1 c2 c3 d1 d2 d3 : List UInt8) : buildO Tryz.prog fr 52 4 [(0, .agg [.str a1, .str a2, .str a3]), (1, .agg [.str b1, .str b2, .str b3]), (2, .agg [.str c1, .str c2, .str c3]), (3, .agg [.str d1, .str d2, .str d3])] = some (.w (.ow fr 12 0 4) fr (.cells 56 3 false [.str a1, .str a2, .str a3, .str b1, .str b2, .str b3, .str c1, .str c2, .str c3, .str d1, .str d2, .str d3])) := by kernel_rfl
theorem frz_rowC {id n sz : Nat} {E : TypeId} {fz : Bool} {c : List PV} {h : AH} (hg : h.get id = some (.cells E sz fz c)) (hc : c.length = n * sz) (hcl : PV.cleans c = true) : ∃ h', frz 100 (.ow id (n * sz) 0 n) h = some (.ro c n, h') := by
  obtain ⟨_, h', e, _⟩ := Rd.frz (p := fun _ => True) 100 h _ _ (Rd.row (d := 99) trivial hg hc (RdL.of_clean hcl))
  exact ⟨h', e⟩
theorem Rd.done {h : AH} {v u : PV} (q : Rd (fun _ => True) h 100 v u) : ∃ h'', frz 100 v h = some (u, h'') := by
  obtain ⟨_, h', e, _⟩ := Rd.frz (p := fun _ => True) 100 _ _ _ q
  exact ⟨h', e⟩
theorem args_c (t : List UInt8) (ht : t.length ≤ 1000) (h : AH) (fr : Nat) : CR Tryz.prog (globM mx) md (.fn 68) [.str t] h fr (.val (rowV Inp.pv (argsL t))) := by
  have a1 := fun {h : AH} => bin_sadd (P := Tryz.prog) (h := h) (t := 9) (x := t) (y := [70, 105, 108, 116, 101, 114]) (by simp only [List.length_cons, List.length_nil]; omega)
  have a2 := fun {h : AH} => bin_sadd (P := Tryz.prog) (h := h) (t := 9) (x := t) (y := [79, 114, 100, 101, 114]) (by simp only [List.length_cons, List.length_nil]; omega)
  refine CR.frozen (rs := [.tmp 2]) Tryz.func68 rfl rfl rfl rfl rfl rfl ?_ h fr
  simp -implicitDefEqProofs only [wpC_seq, rowsA, if_true, if_false, opnd, ofVal, ofVal1, layArgs, Nat.reduceAdd, reduceIte, Nat.reduceEqDiff, reduceCtorEq, rowsB, cellsG, Nat.reduceMul, a1, a2, goO_known (gin_c _ _ _), bd52_4]
  obtain ⟨h', e⟩ := frz_rowC (n := 4) (sz := 3) (id := 9) (h := ((AH.empty.up 1).up 10).set 9 (.cells 56 3 false (flat Inp.pv (argsL t)))) (by simp only [AH.get_set, if_true]; rfl) (flat_len (f := Inp.pv) (fun _ => rfl) (argsL t)) (flat_clean Inp.cl (argsL t))
  exact ⟨h', e⟩
theorem bd52_6 (fr : Nat) (x : List UInt8) : buildO Tryz.prog fr 52 6 [(0, .agg [.str [101, 113], .str x, .str []]), (1, .agg [.str [108, 116], .str x, .str []]), (2, .agg [.str [108, 101], .str x, .str []]), (3, .agg [.str [103, 116], .str x, .str []]), (4, .agg [.str [103, 101], .str x, .str []]), (5, .agg [.str [105, 110], .str x, .str [33, 91]])] = some (.w (.ow fr 18 0 6) fr (.cells 56 3 false (flat Inp.pv (cmpL x)))) := by kernel_rfl
theorem i56 : (Tryz.prog.info? 56).map (fun i => (i.size, i.bytes, i.zero.map (·.cells.size))) = some (3, 48, some 3) := by kernel_rfl
theorem bl54i (a : List UInt8) (k : Int) (id x y z : Nat) : bldO Tryz.prog 54 [(0, .str a), (1, .int .i64 k), (4, .ow id x y z)] = some (.q (.agg [.str a, .int .i64 k, .nls, .nls, .ow id x y z])) := by kernel_rfl
theorem st54 (a : List UInt8) (k : Int) (u v w : PV) (id : Nat) (c : List PV) (hc : c.length = 5) : stoG id 5 0 (.agg [.str a, .int .i64 k, u, v, w]) 5 (some (.cells 54 0 false c)) = some (.w .undef id (.cells 54 0 false [.str a, .int .i64 k, u, v, w])) := stoG_all id 5 0 54 (.agg [.str a, .int .i64 k, u, v, w]) c hc rfl rfl
theorem compared_c (x : List UInt8) (hx : x.length ≤ 1000) (m : List Inp) (hm : m.length ≤ 1) (h : AH) (fr : Nat) : CR Tryz.prog (globM mx) md (.fn 69) [.str x, rowN Inp.pv m] h fr (.val (.agg [.str (x ++ bFilter), .int .i64 3, .nls, .nls, rowV Inp.pv (cmpL x ++ m)])) := by
  have a1 := fun {h : AH} => bin_sadd (P := Tryz.prog) (h := h) (t := 9) (x := x) (y := [70, 105, 108, 116, 101, 114]) (by simp only [List.length_cons, List.length_nil]; omega)
  refine CR.frozen (rs := [.cell 4 54]) Tryz.func69 rfl rfl rfl rfl rfl (by simp [PV.cleans, PV.clean, rowN_clean]) ?_ h fr
  simp -implicitDefEqProofs only [wpC_seq, rowsA, if_true, if_false, opnd, ofVal, ofVal1, layArgs, Nat.reduceAdd, reduceIte, Nat.reduceEqDiff, reduceCtorEq, rowsB, cellsG, Nat.reduceMul, al54, goO_known (gin_c _ _ _), bd52_6, a1]
  have hg : (((((AH.empty.up 1).set 0 (.cells 54 0 false [.str [], .int .i64 0, .nls, .nls, .nls])).up 14).set 13 (.cells 56 3 false (flat Inp.pv (cmpL x)))).up 7).get 13 = some (.cells 56 3 false (flat Inp.pv (cmpL x))) := by simp only [AH.get_set, AH.get_up, if_true]
  have ld54 := fun (v : PV) => load_agg (P := Tryz.prog) (c := [.str (x ++ [70, 105, 108, 116, 101, 114]), .int .i64 3, .nls, .nls, v]) ag54 sz54 (Nat.le_refl 5)
  match m, hm with
  | [], _ =>
    have e : rowN Inp.pv [] = .nls := rfl
    rw [e, ap_none (e := 56) (sz := 3) u52 i56 (by decide) (.inr (.inr ⟨13, 6, false, _, rfl, hg, flat_len (f := Inp.pv) (fun _ => rfl) _⟩)) rfl]
    simp -implicitDefEqProofs only [wpC_seq, rowsA, if_true, if_false, opnd, ofVal, ofVal1, layArgs, Nat.reduceAdd, reduceIte, Nat.reduceEqDiff, reduceCtorEq, rowsB, cellsG, Nat.reduceMul, bl54i, sz54, st54, ld54, List.append_nil]
    refine Rd.done (Rd.agg (d := 99) ⟨Rd.of_clean rfl, Rd.of_clean rfl, Rd.of_clean rfl, Rd.of_clean rfl, Rd.row (d := 98) (n := 6) (sz := 3) trivial (by simp only [AH.get_set, AH.get_up, Nat.reduceEqDiff, if_true, if_false]; rfl) (flat_len (f := Inp.pv) (fun _ => rfl) (cmpL x)) (RdL.of_clean (flat_clean Inp.cl _)), trivial⟩ rfl)
  | [b], _ =>
    have e : rowN Inp.pv [b] = rowV Inp.pv [b] := rfl
    rw [e, ap_more (e := 56) (sz := 3) (id := 13) (m := 6) (d := flat Inp.pv (cmpL x)) (x := rowV Inp.pv [b]) (xs := flat Inp.pv [b]) (n := 1) u52 i56 (by decide) hg (flat_len (f := Inp.pv) (fun _ => rfl) _) (cellR_ro rfl) (by decide) (by decide) (by decide), ← flat_app]
    simp -implicitDefEqProofs only [wpC_seq, rowsA, if_true, if_false, opnd, ofVal, ofVal1, layArgs, Nat.reduceAdd, reduceIte, Nat.reduceEqDiff, reduceCtorEq, rowsB, cellsG, Nat.reduceMul, bl54i, sz54, st54, ld54]
    refine Rd.done (Rd.agg (d := 99) ⟨Rd.of_clean rfl, Rd.of_clean rfl, Rd.of_clean rfl, Rd.of_clean rfl, Rd.row (d := 98) (n := 7) (sz := 3) trivial (by simp only [AH.get_set, AH.get_up, Nat.reduceEqDiff, if_true, if_false]; rfl) (flat_len (f := Inp.pv) (fun _ => rfl) (cmpL x ++ [b])) (RdL.of_clean (flat_clean Inp.cl _)), trivial⟩ rfl)
end Go.Proofs.YtcbngkmmmfaaoaaGreatDoor
namespace Go.Proofs.YtcbngkmmmfaaoaaGreatDoor
open Go.RowKit Go.Lib Go.Ac
set_option linter.unusedSimpArgs false
set_option maxRecDepth 100000
variable {mx : Int}
structure Ot where
  n : List UInt8
  t : List UInt8
  w : List UInt8
  args : List Inp
def Ot.pv (o : Ot) : List PV := [.str o.n, .str o.t, .str o.w, rowN Inp.pv o.args]
theorem Ot.cl (o : Ot) : PV.cleans o.pv = true := by simp [Ot.pv, PV.cleans, PV.clean, rowN_clean]
theorem z58n : tyZero Tryz.prog 58 = some [.str [], .str [], .str [], .nls] := by kernel_rfl
theorem i58 : (Tryz.prog.info? 58).map (fun i => (i.size, i.bytes, i.zero.map (·.cells.size))) = some (4, 72, some 4) := by kernel_rfl
theorem al58n {ρ : Operand → PV} {h : AH} {fr : Nat} {d : Option Tmp} {ty : TypeId} {ps : String} {af : Array Edge} {gu : Option (Nat × Bool)} : aop Tryz.prog ρ h fr ⟨d, .alloc 58, ty, ps, af, gu⟩ = some (.w (.ptr fr 4 0) fr (.cells 58 0 false [.str [], .str [], .str [], .nls])) := by
  rw [aop_alloc, z58n]
  rfl
theorem st58n (o : Ot) (id : Nat) (c : List PV) (hc : c.length = 4) : stoG id 4 0 (.agg o.pv) 4 (some (.cells 58 0 false c)) = some (.w .undef id (.cells 58 0 false o.pv)) := stoG_all id 4 0 58 (.agg o.pv) c hc rfl rfl
theorem st56n (o : Inp) (id : Nat) (c : List PV) (hc : c.length = 3) : stoG id 3 0 (.agg o.pv) 3 (some (.cells 56 0 false c)) = some (.w .undef id (.cells 56 0 false o.pv)) := stoG_all id 3 0 56 (.agg o.pv) c hc rfl rfl
theorem ld58n (o : Ot) : loadO Tryz.prog 58 (some o.pv) = some (.q (.agg o.pv)) := load_agg (c := o.pv) ag58 sz58 (Nat.le_refl 4)
theorem ld56n (o : Inp) : loadO Tryz.prog 56 (some o.pv) = some (.q (.agg o.pv)) := load_agg (c := o.pv) ag56 sz56 (Nat.le_refl 3)
theorem bd51n (fr : Nat) (o : Ot) : buildO Tryz.prog fr 51 1 [(0, .agg o.pv)] = some (.w (.ow fr 4 0 1) fr (.cells 58 4 false o.pv)) := by
  have : ∀ a b c v, buildO Tryz.prog fr 51 1 [(0, .agg [.str a, .str b, .str c, v])] = some (.w (.ow fr 4 0 1) fr (.cells 58 4 false [.str a, .str b, .str c, v])) := by
    intro a b c v
    kernel_rfl
  exact this ..
theorem bd52n (fr : Nat) (o : Inp) : buildO Tryz.prog fr 52 1 [(0, .agg o.pv)] = some (.w (.ow fr 3 0 1) fr (.cells 56 3 false o.pv)) := by
  have : ∀ a b c, buildO Tryz.prog fr 52 1 [(0, .agg [.str a, .str b, .str c])] = some (.w (.ow fr 3 0 1) fr (.cells 56 3 false [.str a, .str b, .str c])) := by
    intro a b c
    kernel_rfl
  exact this ..
theorem Ot.len (o : Ot) : o.pv.length = 4 := rfl
theorem takeM {α : Type} {l : List α} {m : Nat} {x : α} (h : l[m]? = some x) : l.take (m + 1) = l.take m ++ [x] := by rw [List.take_add_one, h]; rfl
theorem RowT.done {A B : Nat} {h : AH} {E : TypeId} {sz : Nat} {v : PV} {n d : Nat} {α : Type} {f : α → List PV} {l : List α} (q : RowT d A B h E sz v (flat f l) n) (hd : d ≤ 99) (hn : n = l.length) : ∃ h'', frz 100 v h = some (rowN f l, h'') := by
  subst hn
  have := q.rd
  exact Rd.done (Rd.le (show d + 1 ≤ 100 by omega) (Rd.imp (fun _ _ => ⟨trivial, fun E sz fz c hc => ⟨fz, hc⟩⟩) _ _ _ this))

def invM107 (l : List Fld) (fv : PV) (keep : Fld → Bool) (g : Fld → Ot) (k : Nat) (F : Fr) (h : AH) : Prop := ∃ (i : Nat) (v : PV), k + i = l.length ∧ F.at 1 = fv ∧ F.at 5 = v ∧ F.at 10 = rowV Fld.pv l ∧ F.at 11 = .int .i64 l.length ∧ F.at 12 = .int .i64 i ∧ RowT 0 0 h.next h 58 4 v (flat Ot.pv (((l.take i).filter keep).map g)) (((l.take i).filter keep).map g).length
theorem mapped107_c (l : List Fld) (hl : l.length ≤ 1000) (kf : FuncId) (cap : List PV) (hcap : PV.cleans cap = true) (keep : Fld → Bool) (g : Fld → Ot) (hp : ∀ f ∈ l, ∀ h fr, CR Tryz.prog (globM mx) md (.fn kf) (.agg f.pv :: cap) h fr (.val (.tup [.agg (g f).pv, .bool (keep f)]))) (h : AH) (fr : Nat) :
    CR Tryz.prog (globM mx) md (.fn 107) [rowV Fld.pv l, .fn (.func kf) [] cap] h fr (.val (rowN Ot.pv ((l.filter keep).map g))) := by
  refine CR.frozen (rs := [.tmp 4]) Tryz.func107 rfl rfl rfl rfl rfl (by simp [rowV, PV.cleans, PV.clean, hcap]) ?_ h fr
  simp -implicitDefEqProofs only [wpC_seq, rowsA, if_true, if_false, opnd, ofVal, ofVal1, layArgs, Nat.reduceAdd, reduceIte, Nat.reduceEqDiff, reduceCtorEq, rowsB, cellsG, Nat.reduceMul, ln39]
  refine wpC_loop (invM107 l (.fn (.func kf) [] cap) keep g) (k := l.length) ⟨0, .nls, by omega, ?_, ?_, ?_, ?_, ?_, RowT.nil⟩ ?_
  · simp only [Fr.at_set, Nat.reduceEqDiff, reduceIte, reduceCtorEq]
  · simp only [Fr.at_set, Nat.reduceEqDiff, reduceIte, reduceCtorEq]
  · simp only [Fr.at_set, Nat.reduceEqDiff, reduceIte, reduceCtorEq]
  · simp only [Fr.at_set, Nat.reduceEqDiff, reduceIte, reduceCtorEq]
  · simp only [Fr.at_set, Nat.reduceEqDiff, reduceIte, reduceCtorEq]; rfl
  rintro k F h ⟨i, v, hi, f1, f5, f10, f11, f12, hR⟩
  cases k with
  | zero =>
    have c1 : ¬ ((i : Int) < (l.length : Int)) := by omega
    rw [List.take_of_length_le (by omega)] at hR
    simp -implicitDefEqProofs only [wpC_seq, rowsA, if_true, if_false, opnd, ofVal, ofVal1, layArgs, Nat.reduceAdd, reduceIte, Nat.reduceEqDiff, reduceCtorEq, rowsB, cellsG, Nat.reduceMul, f1, f5, f10, f11, f12, c1]
    exact RowT.done (hR.keep (Nat.le_refl _) fun id h1 h2 => by simp only [AH.get_up]) (by decide) rfl
  | succ k =>
    have c1 : (i : Int) < (l.length : Int) := by omega
    obtain ⟨f, hf⟩ : ∃ f, l[i]? = some f := ⟨_, List.getElem?_eq_getElem (show i < l.length by omega)⟩
    obtain ⟨r, hr⟩ := ix39 (l := l) (i := (i : Int)) (by omega) (by rw [Int.toNat_natCast]; exact hf)
    have hpf := hp f (List.mem_of_getElem? hf)
    have w := IntWalk.i64_in ((i : Int) + 1) (by omega)
    have hlen : (((l.take i).filter keep).map g).length ≤ i := by
      rw [List.length_map]
      exact Nat.le_trans (List.length_filter_le _ _) (by rw [List.length_take]; omega)
    cases hk : keep f with
    | false =>
      rw [hk] at hpf
      have e : (l.take (i + 1)).filter keep = (l.take i).filter keep := by rw [takeM hf, List.filter_append]; simp [hk]
      simp -implicitDefEqProofs only [wpC_seq, rowsA, if_true, if_false, opnd, ofVal, ofVal1, layArgs, Nat.reduceAdd, reduceIte, Nat.reduceEqDiff, reduceCtorEq, rowsB, cellsG, Nat.reduceMul, rowsS, List.drop_drop, f1, f5, f10, f11, f12, c1, hr, al33, sz33, st33, goO_known hpf, al58n, sz58, st58n, Ot.len, ld58n, bd51n, w]
      refine ⟨k, by omega, i + 1, v, by omega, ?_, ?_, ?_, ?_, ?_, ?_⟩
      · simp only [Fr.at_set, Nat.reduceEqDiff, reduceIte, f1]
      · simp only [Fr.at_set, Nat.reduceEqDiff, reduceIte, f5]
      · simp only [Fr.at_set, Nat.reduceEqDiff, reduceIte, f10]
      · simp only [Fr.at_set, Nat.reduceEqDiff, reduceIte, f11]
      · simp only [Fr.at_set, Nat.reduceEqDiff, reduceIte]; rfl
      · rw [e]
        exact hR.keep (by simp only [AH.next_set, AH.next_up]; omega) fun id h1 h2 => by
          simp only [AH.get_set, AH.get_up]
          repeat rw [if_neg (by omega)]
    | true =>
      rw [hk] at hpf
      have e : ((l.take (i + 1)).filter keep).map g = ((l.take i).filter keep).map g ++ [g f] := by rw [takeM hf, List.filter_append, List.map_append]; simp [hk]
      simp -implicitDefEqProofs only [wpC_seq, rowsA, if_true, if_false, opnd, ofVal, ofVal1, layArgs, Nat.reduceAdd, reduceIte, Nat.reduceEqDiff, reduceCtorEq, rowsB, cellsG, Nat.reduceMul, rowsS, List.drop_drop, f1, f5, f10, f11, f12, c1, hr, al33, sz33, st33, goO_known hpf, al58n, sz58, st58n, Ot.len, ld58n, bd51n, w]
      generalize hH : AH.set _ _ _ = H
      have g1 : H.get (h.next + 1 + 4 + 9 + 1 + 2) = some (.cells 58 4 false (Ot.pv (g f))) := by rw [← hH]; simp only [AH.get_set, if_true]; try rfl
      have g2 : ∀ x, x < h.next → H.get x = h.get x := by
        intro x hx
        rw [← hH]
        simp only [AH.get_set, AH.get_up]
        repeat rw [if_neg (by omega)]
      have g3 : H.next = h.next + 1 + 4 + 9 + 1 + 5 := by rw [← hH]; simp only [AH.next_set, AH.next_up]
      have hRk := hR.keep (h' := H) (Nat.le_refl _) fun id h1 h2 => g2 id h2
      obtain ⟨id, ob, e1, e2, e3, e4⟩ := hRk.push (P := Tryz.prog) (B' := H.next) (fr := h.next + 1 + 4 + 9 + 1 + 3) (X := h.next + 1 + 4 + 9 + 1 + 2) (fz := false) (xs := Ot.pv (g f)) (ys := Ot.pv (g f)) u51 i58 (by decide) (by omega) (by omega) (by omega) g1 rfl (RdL.of_clean (Ot.cl _)) (by omega) (by omega)
      rw [e1]
      clear hH
      simp -implicitDefEqProofs only [wpC_seq, rowsA, if_true, if_false, opnd, ofVal, ofVal1, layArgs, Nat.reduceAdd, reduceIte, Nat.reduceEqDiff, reduceCtorEq, rowsB, cellsG, Nat.reduceMul, f12, w]
      refine ⟨k, by omega, i + 1, .ow id (((((l.take i).filter keep).map g).length + 1) * 4) 0 ((((l.take i).filter keep).map g).length + 1), by omega, ?_, ?_, ?_, ?_, ?_, ?_⟩
      · simp only [Fr.at_set, Nat.reduceEqDiff, reduceIte, f1]
      · simp only [Fr.at_set, Nat.reduceEqDiff, reduceIte]
      · simp only [Fr.at_set, Nat.reduceEqDiff, reduceIte, f10]
      · simp only [Fr.at_set, Nat.reduceEqDiff, reduceIte, f11]
      · simp only [Fr.at_set, Nat.reduceEqDiff, reduceIte]; rfl
      · rw [e, List.length_append, flat_app, show flat Ot.pv [g f] = Ot.pv (g f) by simp [flat]]
        exact e4.keep (by simp only [AH.next_set, AH.next_up]; omega) fun id h1 h2 => by simp only [AH.get_up]

def invM109 (l : List Fld) (fv : PV) (keep : Fld → Bool) (g : Fld → List UInt8) (k : Nat) (F : Fr) (h : AH) : Prop := ∃ (i : Nat) (v : PV), k + i = l.length ∧ F.at 1 = fv ∧ F.at 5 = v ∧ F.at 10 = rowV Fld.pv l ∧ F.at 11 = .int .i64 l.length ∧ F.at 12 = .int .i64 i ∧ RowT 0 0 h.next h 9 1 v (flat strV (((l.take i).filter keep).map g)) (((l.take i).filter keep).map g).length
theorem mapped109_c (l : List Fld) (hl : l.length ≤ 1000) (kf : FuncId) (cap : List PV) (hcap : PV.cleans cap = true) (keep : Fld → Bool) (g : Fld → List UInt8) (hp : ∀ f ∈ l, ∀ h fr, CR Tryz.prog (globM mx) md (.fn kf) (.agg f.pv :: cap) h fr (.val (.tup [.str (g f), .bool (keep f)]))) (h : AH) (fr : Nat) :
    CR Tryz.prog (globM mx) md (.fn 109) [rowV Fld.pv l, .fn (.func kf) [] cap] h fr (.val (rowN strV ((l.filter keep).map g))) := by
  refine CR.frozen (rs := [.tmp 4]) Tryz.func109 rfl rfl rfl rfl rfl (by simp [rowV, PV.cleans, PV.clean, hcap]) ?_ h fr
  simp -implicitDefEqProofs only [wpC_seq, rowsA, if_true, if_false, opnd, ofVal, ofVal1, layArgs, Nat.reduceAdd, reduceIte, Nat.reduceEqDiff, reduceCtorEq, rowsB, cellsG, Nat.reduceMul, ln39]
  refine wpC_loop (invM109 l (.fn (.func kf) [] cap) keep g) (k := l.length) ⟨0, .nls, by omega, ?_, ?_, ?_, ?_, ?_, RowT.nil⟩ ?_
  · simp only [Fr.at_set, Nat.reduceEqDiff, reduceIte, reduceCtorEq]
  · simp only [Fr.at_set, Nat.reduceEqDiff, reduceIte, reduceCtorEq]
  · simp only [Fr.at_set, Nat.reduceEqDiff, reduceIte, reduceCtorEq]
  · simp only [Fr.at_set, Nat.reduceEqDiff, reduceIte, reduceCtorEq]
  · simp only [Fr.at_set, Nat.reduceEqDiff, reduceIte, reduceCtorEq]; rfl
  rintro k F h ⟨i, v, hi, f1, f5, f10, f11, f12, hR⟩
  cases k with
  | zero =>
    have c1 : ¬ ((i : Int) < (l.length : Int)) := by omega
    rw [List.take_of_length_le (by omega)] at hR
    simp -implicitDefEqProofs only [wpC_seq, rowsA, if_true, if_false, opnd, ofVal, ofVal1, layArgs, Nat.reduceAdd, reduceIte, Nat.reduceEqDiff, reduceCtorEq, rowsB, cellsG, Nat.reduceMul, f1, f5, f10, f11, f12, c1]
    exact RowT.done (hR.keep (Nat.le_refl _) fun id h1 h2 => by simp only [AH.get_up]) (by decide) rfl
  | succ k =>
    have c1 : (i : Int) < (l.length : Int) := by omega
    obtain ⟨f, hf⟩ : ∃ f, l[i]? = some f := ⟨_, List.getElem?_eq_getElem (show i < l.length by omega)⟩
    obtain ⟨r, hr⟩ := ix39 (l := l) (i := (i : Int)) (by omega) (by rw [Int.toNat_natCast]; exact hf)
    have hpf := hp f (List.mem_of_getElem? hf)
    have w := IntWalk.i64_in ((i : Int) + 1) (by omega)
    have hlen : (((l.take i).filter keep).map g).length ≤ i := by
      rw [List.length_map]
      exact Nat.le_trans (List.length_filter_le _ _) (by rw [List.length_take]; omega)
    cases hk : keep f with
    | false =>
      rw [hk] at hpf
      have e : (l.take (i + 1)).filter keep = (l.take i).filter keep := by rw [takeM hf, List.filter_append]; simp [hk]
      simp -implicitDefEqProofs only [wpC_seq, rowsA, if_true, if_false, opnd, ofVal, ofVal1, layArgs, Nat.reduceAdd, reduceIte, Nat.reduceEqDiff, reduceCtorEq, rowsB, cellsG, Nat.reduceMul, rowsS, List.drop_drop, f1, f5, f10, f11, f12, c1, hr, al33, sz33, st33, goO_known hpf, bd43_1, w]
      refine ⟨k, by omega, i + 1, v, by omega, ?_, ?_, ?_, ?_, ?_, ?_⟩
      · simp only [Fr.at_set, Nat.reduceEqDiff, reduceIte, f1]
      · simp only [Fr.at_set, Nat.reduceEqDiff, reduceIte, f5]
      · simp only [Fr.at_set, Nat.reduceEqDiff, reduceIte, f10]
      · simp only [Fr.at_set, Nat.reduceEqDiff, reduceIte, f11]
      · simp only [Fr.at_set, Nat.reduceEqDiff, reduceIte]; rfl
      · rw [e]
        exact hR.keep (by simp only [AH.next_set, AH.next_up]; omega) fun id h1 h2 => by
          simp only [AH.get_set, AH.get_up]
          repeat rw [if_neg (by omega)]
    | true =>
      rw [hk] at hpf
      have e : ((l.take (i + 1)).filter keep).map g = ((l.take i).filter keep).map g ++ [g f] := by rw [takeM hf, List.filter_append, List.map_append]; simp [hk]
      simp -implicitDefEqProofs only [wpC_seq, rowsA, if_true, if_false, opnd, ofVal, ofVal1, layArgs, Nat.reduceAdd, reduceIte, Nat.reduceEqDiff, reduceCtorEq, rowsB, cellsG, Nat.reduceMul, rowsS, List.drop_drop, f1, f5, f10, f11, f12, c1, hr, al33, sz33, st33, goO_known hpf, bd43_1, w]
      generalize hH : AH.set _ _ _ = H
      have g1 : H.get (h.next + 1 + 4 + 8 + 1 + 2) = some (.cells 9 1 false (strV (g f))) := by rw [← hH]; simp only [AH.get_set, if_true]; try rfl
      have g2 : ∀ x, x < h.next → H.get x = h.get x := by
        intro x hx
        rw [← hH]
        simp only [AH.get_set, AH.get_up]
        repeat rw [if_neg (by omega)]
      have g3 : H.next = h.next + 1 + 4 + 8 + 1 + 5 := by rw [← hH]; simp only [AH.next_set, AH.next_up]
      have hRk := hR.keep (h' := H) (Nat.le_refl _) fun id h1 h2 => g2 id h2
      obtain ⟨id, ob, e1, e2, e3, e4⟩ := hRk.push (P := Tryz.prog) (B' := H.next) (fr := h.next + 1 + 4 + 8 + 1 + 3) (X := h.next + 1 + 4 + 8 + 1 + 2) (fz := false) (xs := strV (g f)) (ys := strV (g f)) u43 i9 (by decide) (by omega) (by omega) (by omega) g1 rfl (RdL.of_clean (rfl)) (by omega) (by omega)
      simp only [Nat.mul_one] at e1 e4
      rw [e1]
      clear hH
      simp -implicitDefEqProofs only [wpC_seq, rowsA, if_true, if_false, opnd, ofVal, ofVal1, layArgs, Nat.reduceAdd, reduceIte, Nat.reduceEqDiff, reduceCtorEq, rowsB, cellsG, Nat.reduceMul, f12, w]
      refine ⟨k, by omega, i + 1, .ow id (((((l.take i).filter keep).map g).length + 1)) 0 ((((l.take i).filter keep).map g).length + 1), by omega, ?_, ?_, ?_, ?_, ?_, ?_⟩
      · simp only [Fr.at_set, Nat.reduceEqDiff, reduceIte, f1]
      · simp only [Fr.at_set, Nat.reduceEqDiff, reduceIte]
      · simp only [Fr.at_set, Nat.reduceEqDiff, reduceIte, f10]
      · simp only [Fr.at_set, Nat.reduceEqDiff, reduceIte, f11]
      · simp only [Fr.at_set, Nat.reduceEqDiff, reduceIte]; rfl
      · rw [e, List.length_append, flat_app, show flat strV [g f] = strV (g f) by simp [flat]]
        exact e4.keep (by simp only [AH.next_set, AH.next_up]; omega) fun id h1 h2 => by simp only [AH.get_up]

def invM111 (l : List Fld) (fv : PV) (keep : Fld → Bool) (g : Fld → Inp) (k : Nat) (F : Fr) (h : AH) : Prop := ∃ (i : Nat) (v : PV), k + i = l.length ∧ F.at 1 = fv ∧ F.at 5 = v ∧ F.at 10 = rowV Fld.pv l ∧ F.at 11 = .int .i64 l.length ∧ F.at 12 = .int .i64 i ∧ RowT 0 0 h.next h 56 3 v (flat Inp.pv (((l.take i).filter keep).map g)) (((l.take i).filter keep).map g).length
theorem mapped111_c (l : List Fld) (hl : l.length ≤ 1000) (kf : FuncId) (cap : List PV) (hcap : PV.cleans cap = true) (keep : Fld → Bool) (g : Fld → Inp) (hp : ∀ f ∈ l, ∀ h fr, CR Tryz.prog (globM mx) md (.fn kf) (.agg f.pv :: cap) h fr (.val (.tup [.agg (g f).pv, .bool (keep f)]))) (h : AH) (fr : Nat) :
    CR Tryz.prog (globM mx) md (.fn 111) [rowV Fld.pv l, .fn (.func kf) [] cap] h fr (.val (rowN Inp.pv ((l.filter keep).map g))) := by
  refine CR.frozen (rs := [.tmp 4]) Tryz.func111 rfl rfl rfl rfl rfl (by simp [rowV, PV.cleans, PV.clean, hcap]) ?_ h fr
  simp -implicitDefEqProofs only [wpC_seq, rowsA, if_true, if_false, opnd, ofVal, ofVal1, layArgs, Nat.reduceAdd, reduceIte, Nat.reduceEqDiff, reduceCtorEq, rowsB, cellsG, Nat.reduceMul, ln39]
  refine wpC_loop (invM111 l (.fn (.func kf) [] cap) keep g) (k := l.length) ⟨0, .nls, by omega, ?_, ?_, ?_, ?_, ?_, RowT.nil⟩ ?_
  · simp only [Fr.at_set, Nat.reduceEqDiff, reduceIte, reduceCtorEq]
  · simp only [Fr.at_set, Nat.reduceEqDiff, reduceIte, reduceCtorEq]
  · simp only [Fr.at_set, Nat.reduceEqDiff, reduceIte, reduceCtorEq]
  · simp only [Fr.at_set, Nat.reduceEqDiff, reduceIte, reduceCtorEq]
  · simp only [Fr.at_set, Nat.reduceEqDiff, reduceIte, reduceCtorEq]; rfl
  rintro k F h ⟨i, v, hi, f1, f5, f10, f11, f12, hR⟩
  cases k with
  | zero =>
    have c1 : ¬ ((i : Int) < (l.length : Int)) := by omega
    rw [List.take_of_length_le (by omega)] at hR
    simp -implicitDefEqProofs only [wpC_seq, rowsA, if_true, if_false, opnd, ofVal, ofVal1, layArgs, Nat.reduceAdd, reduceIte, Nat.reduceEqDiff, reduceCtorEq, rowsB, cellsG, Nat.reduceMul, f1, f5, f10, f11, f12, c1]
    exact RowT.done (hR.keep (Nat.le_refl _) fun id h1 h2 => by simp only [AH.get_up]) (by decide) rfl
  | succ k =>
    have c1 : (i : Int) < (l.length : Int) := by omega
    obtain ⟨f, hf⟩ : ∃ f, l[i]? = some f := ⟨_, List.getElem?_eq_getElem (show i < l.length by omega)⟩
    obtain ⟨r, hr⟩ := ix39 (l := l) (i := (i : Int)) (by omega) (by rw [Int.toNat_natCast]; exact hf)
    have hpf := hp f (List.mem_of_getElem? hf)
    have w := IntWalk.i64_in ((i : Int) + 1) (by omega)
    have hlen : (((l.take i).filter keep).map g).length ≤ i := by
      rw [List.length_map]
      exact Nat.le_trans (List.length_filter_le _ _) (by rw [List.length_take]; omega)
    cases hk : keep f with
    | false =>
      rw [hk] at hpf
      have e : (l.take (i + 1)).filter keep = (l.take i).filter keep := by rw [takeM hf, List.filter_append]; simp [hk]
      simp -implicitDefEqProofs only [wpC_seq, rowsA, if_true, if_false, opnd, ofVal, ofVal1, layArgs, Nat.reduceAdd, reduceIte, Nat.reduceEqDiff, reduceCtorEq, rowsB, cellsG, Nat.reduceMul, rowsS, List.drop_drop, f1, f5, f10, f11, f12, c1, hr, al33, sz33, st33, goO_known hpf, al56, sz56, st56n, Inp.len, ld56n, bd52n, w]
      refine ⟨k, by omega, i + 1, v, by omega, ?_, ?_, ?_, ?_, ?_, ?_⟩
      · simp only [Fr.at_set, Nat.reduceEqDiff, reduceIte, f1]
      · simp only [Fr.at_set, Nat.reduceEqDiff, reduceIte, f5]
      · simp only [Fr.at_set, Nat.reduceEqDiff, reduceIte, f10]
      · simp only [Fr.at_set, Nat.reduceEqDiff, reduceIte, f11]
      · simp only [Fr.at_set, Nat.reduceEqDiff, reduceIte]; rfl
      · rw [e]
        exact hR.keep (by simp only [AH.next_set, AH.next_up]; omega) fun id h1 h2 => by
          simp only [AH.get_set, AH.get_up]
          repeat rw [if_neg (by omega)]
    | true =>
      rw [hk] at hpf
      have e : ((l.take (i + 1)).filter keep).map g = ((l.take i).filter keep).map g ++ [g f] := by rw [takeM hf, List.filter_append, List.map_append]; simp [hk]
      simp -implicitDefEqProofs only [wpC_seq, rowsA, if_true, if_false, opnd, ofVal, ofVal1, layArgs, Nat.reduceAdd, reduceIte, Nat.reduceEqDiff, reduceCtorEq, rowsB, cellsG, Nat.reduceMul, rowsS, List.drop_drop, f1, f5, f10, f11, f12, c1, hr, al33, sz33, st33, goO_known hpf, al56, sz56, st56n, Inp.len, ld56n, bd52n, w]
      generalize hH : AH.set _ _ _ = H
      have g1 : H.get (h.next + 1 + 4 + 9 + 1 + 2) = some (.cells 56 3 false (Inp.pv (g f))) := by rw [← hH]; simp only [AH.get_set, if_true]; try rfl
      have g2 : ∀ x, x < h.next → H.get x = h.get x := by
        intro x hx
        rw [← hH]
        simp only [AH.get_set, AH.get_up]
        repeat rw [if_neg (by omega)]
      have g3 : H.next = h.next + 1 + 4 + 9 + 1 + 5 := by rw [← hH]; simp only [AH.next_set, AH.next_up]
      have hRk := hR.keep (h' := H) (Nat.le_refl _) fun id h1 h2 => g2 id h2
      obtain ⟨id, ob, e1, e2, e3, e4⟩ := hRk.push (P := Tryz.prog) (B' := H.next) (fr := h.next + 1 + 4 + 9 + 1 + 3) (X := h.next + 1 + 4 + 9 + 1 + 2) (fz := false) (xs := Inp.pv (g f)) (ys := Inp.pv (g f)) u52 i56 (by decide) (by omega) (by omega) (by omega) g1 rfl (RdL.of_clean (Inp.cl _)) (by omega) (by omega)
      rw [e1]
      clear hH
      simp -implicitDefEqProofs only [wpC_seq, rowsA, if_true, if_false, opnd, ofVal, ofVal1, layArgs, Nat.reduceAdd, reduceIte, Nat.reduceEqDiff, reduceCtorEq, rowsB, cellsG, Nat.reduceMul, f12, w]
      refine ⟨k, by omega, i + 1, .ow id (((((l.take i).filter keep).map g).length + 1) * 3) 0 ((((l.take i).filter keep).map g).length + 1), by omega, ?_, ?_, ?_, ?_, ?_, ?_⟩
      · simp only [Fr.at_set, Nat.reduceEqDiff, reduceIte, f1]
      · simp only [Fr.at_set, Nat.reduceEqDiff, reduceIte]
      · simp only [Fr.at_set, Nat.reduceEqDiff, reduceIte, f10]
      · simp only [Fr.at_set, Nat.reduceEqDiff, reduceIte, f11]
      · simp only [Fr.at_set, Nat.reduceEqDiff, reduceIte]; rfl
      · rw [e, List.length_append, flat_app, show flat Inp.pv [g f] = Inp.pv (g f) by simp [flat]]
        exact e4.keep (by simp only [AH.next_set, AH.next_up]; omega) fun id h1 h2 => by simp only [AH.get_up]
end Go.Proofs.YtcbngkmmmfaaoaaGreatDoor
namespace Go.Proofs.YtcbngkmmmfaaoaaGreatDoor
open Go.RowKit Go.Lib Go.Ac
set_option linter.unusedSimpArgs false
set_option maxRecDepth 100000
variable {mx : Int}
theorem ag102 : tyAgg Tryz.prog 102 = some false := by kernel_rfl
theorem sz102 : tySz Tryz.prog 102 = some 1 := by kernel_rfl
def edgeB (s : Sc) (f : Fld) : Bool := decide (0 ≤ edgeOf s f)
def outG (s : Sc) (f : Fld) : Ot := ⟨f.n, f.t, f.w, if edgeB s f && decide (f.w = manyL) then argsL f.t else []⟩
def filG (f : Fld) : Inp := ⟨f.n, f.t ++ bFilter, []⟩
def inG (s : Sc) (bare : Bool) (f : Fld) : Inp := if edgeB s f && decide (f.w = manyL) then ⟨f.n, bID, listL⟩ else if edgeB s f then ⟨f.n, bID, []⟩ else if bare then ⟨f.n, f.t, []⟩ else ⟨f.n, f.t, f.w⟩
def ecV (s : Sc) : PV := .fn (.func 106) [] [.rop s.pv]
theorem edgeG_c {s : Sc} (hs : s.fits) (f : Fld) (h : AH) (fr : Nat) : CR Tryz.prog (globM mx) md (.fn 106) [.agg f.pv, .rop s.pv] h fr (.val (.bool (edgeB s f))) := by
  refine CR.plain (rs := [.tmp 3]) Tryz.func106 rfl rfl rfl rfl rfl rfl rfl ?_ h fr
  simp -implicitDefEqProofs only [wpC_seq, rowsA, if_true, if_false, opnd, ofVal, ofVal1, layArgs, Nat.reduceAdd, reduceIte, Nat.reduceEqDiff, reduceCtorEq, rowsB, cellsG, Nat.reduceMul, rowsS, List.drop_drop, goO_known (edge_c hs f)]
  rfl
theorem bl58a (a b c : List UInt8) : bldO Tryz.prog 58 [(0, .str a), (1, .agg [.str b, .str c])] = some (.q (.agg (Ot.pv ⟨a, b, c, []⟩))) := by
  have : bldO Tryz.prog 58 [(0, .str a), (1, .agg [.str b, .str c])] = some (.q (.agg [.str a, .str b, .str c, .nls])) := by kernel_rfl
  exact this
theorem st58i (a b c : List UInt8) (l : List Inp) (id : Nat) (m : List Inp) : stoG id 4 3 (rowV Inp.pv l) 1 (some (.cells 58 0 false (Ot.pv ⟨a, b, c, m⟩))) = some (.w .undef id (.cells 58 0 false [.str a, .str b, .str c, rowV Inp.pv l])) := rfl
theorem cleanT (o : Ot) {b : Bool} : PV.clean (.tup [.agg o.pv, .bool b]) = true := by simp [PV.clean, PV.cleans, Ot.cl]
theorem outG_c {s : Sc} (hs : s.fits) (f : Fld) (hf : f.t.length ≤ 1000) (h : AH) (fr : Nat) : CR Tryz.prog (globM mx) md (.fn 108) [.agg f.pv, .rop [ecV s]] h fr (.val (.tup [.agg (outG s f).pv, .bool true])) := by
  refine CR.frozen (rs := [.cell 3 58, .tmp 4]) Tryz.func108 rfl rfl rfl rfl rfl rfl ?_ h fr
  have ldp : ∀ v, loadO Tryz.prog 102 (some [v]) = some (.q v) := fun v => loadO_one ag102 sz102
  have ed := edgeG_c (mx := mx) hs f
  have hag := args_c (mx := mx) f.t hf
  cases c1 : edgeB s f with
  | false =>
    rw [c1] at ed
    simp -implicitDefEqProofs only [wpC_seq, rowsA, if_true, if_false, opnd, ofVal, ofVal1, layArgs, Nat.reduceAdd, reduceIte, Nat.reduceEqDiff, reduceCtorEq, rowsB, cellsG, Nat.reduceMul, rowsS, List.drop_drop, ecV, ldp, al58n, bl58a, sz58, st58n, Ot.len, ld58n, goO_known ed]
    have e : outG s f = ⟨f.n, f.t, f.w, []⟩ := by simp [outG, c1]
    rw [e]
    exact ⟨_, frz_clean _ (cleanT _)⟩
  | true =>
    rw [c1] at ed
    by_cases c2 : f.w = manyL
    · have c2' : f.w = [33, 91, 33] := c2
      have e : outG s f = ⟨f.n, f.t, f.w, argsL f.t⟩ := by simp [outG, c1, c2]
      have ev : ∀ (a b c : List UInt8), [PV.str a, .str b, .str c, rowV Inp.pv (argsL f.t)] = Ot.pv ⟨a, b, c, argsL f.t⟩ := fun _ _ _ => rfl
      have ew : decide (f.w = [33, 91, 33]) = true := decide_eq_true c2'
      simp -implicitDefEqProofs only [wpC_seq, rowsA, if_true, if_false, opnd, ofVal, ofVal1, layArgs, Nat.reduceAdd, reduceIte, Nat.reduceEqDiff, reduceCtorEq, rowsB, cellsG, Nat.reduceMul, rowsS, List.drop_drop, ecV, ldp, al58n, bl58a, sz58, st58n, Ot.len, ld58n, goO_known ed, ew, goO_known hag, sz52, fda_ptr o58_2, st58i, ev]
      rw [e]
      exact ⟨_, frz_clean _ (cleanT _)⟩
    · have e : outG s f = ⟨f.n, f.t, f.w, []⟩ := by simp [outG, c2]
      have ew : decide (f.w = [33, 91, 33]) = false := decide_eq_false c2
      simp -implicitDefEqProofs only [wpC_seq, rowsA, if_true, if_false, opnd, ofVal, ofVal1, layArgs, Nat.reduceAdd, reduceIte, Nat.reduceEqDiff, reduceCtorEq, rowsB, cellsG, Nat.reduceMul, rowsS, List.drop_drop, ecV, ldp, al58n, bl58a, sz58, st58n, Ot.len, ld58n, goO_known ed, ew]
      rw [e]
      exact ⟨_, frz_clean _ (cleanT _)⟩
theorem propG_c {s : Sc} (hs : s.fits) (f : Fld) (h : AH) (fr : Nat) : CR Tryz.prog (globM mx) md (.fn 110) [.agg f.pv, .rop [ecV s]] h fr (.val (.tup [.str f.n, .bool (!(edgeB s f))])) := by
  refine CR.plain (rs := [.tmp 3, .tmp 4]) Tryz.func110 rfl rfl rfl rfl rfl rfl rfl ?_ h fr
  have ldp : ∀ v, loadO Tryz.prog 102 (some [v]) = some (.q v) := fun v => loadO_one ag102 sz102
  simp -implicitDefEqProofs only [wpC_seq, rowsA, if_true, if_false, opnd, ofVal, ofVal1, layArgs, Nat.reduceAdd, reduceIte, Nat.reduceEqDiff, reduceCtorEq, rowsB, cellsG, Nat.reduceMul, rowsS, List.drop_drop, ecV, ldp, goD_known (edgeG_c (mx := mx) hs f)]
theorem filG_c {s : Sc} (hs : s.fits) (f : Fld) (hf : f.t.length ≤ 1000) (h : AH) (fr : Nat) : CR Tryz.prog (globM mx) md (.fn 112) [.agg f.pv, .rop [ecV s]] h fr (.val (.tup [.agg (filG f).pv, .bool (!(edgeB s f))])) := by
  refine CR.frozen (rs := [.cell 3 56, .tmp 4]) Tryz.func112 rfl rfl rfl rfl rfl rfl ?_ h fr
  have ldp : ∀ v, loadO Tryz.prog 102 (some [v]) = some (.q v) := fun v => loadO_one ag102 sz102
  have a1 := fun {h : AH} => bin_sadd (P := Tryz.prog) (h := h) (t := 9) (x := f.t) (y := [70, 105, 108, 116, 101, 114]) (by simp only [List.length_cons, List.length_nil]; omega)
  have ev : ∀ a b c : List UInt8, [PV.str a, .str b, .str c] = Inp.pv ⟨a, b, c⟩ := fun _ _ _ => rfl
  simp -implicitDefEqProofs only [wpC_seq, rowsA, if_true, if_false, opnd, ofVal, ofVal1, layArgs, Nat.reduceAdd, reduceIte, Nat.reduceEqDiff, reduceCtorEq, rowsB, cellsG, Nat.reduceMul, rowsS, List.drop_drop, ecV, ldp, goD_known (edgeG_c (mx := mx) hs f), goD_known (gin_c _ _ _), a1, al56, sz56]
  rw [st56 f.n (f.t ++ [70, 105, 108, 116, 101, 114]) [] 1 _ rfl, goD_st (by decide) (by kernel_rfl)]
  simp -implicitDefEqProofs only [wpC_seq, rowsA, if_true, if_false, opnd, ofVal, ofVal1, layArgs, Nat.reduceAdd, reduceIte, Nat.reduceEqDiff, reduceCtorEq, rowsB, cellsG, Nat.reduceMul, rowsS, List.drop_drop, load_agg ag56 sz56 (c := [.str f.n, .str (f.t ++ [70, 105, 108, 116, 101, 114]), .str []]) (Nat.le_refl 3)]
  exact ⟨_, frz_clean _ rfl⟩
theorem inG_c {s : Sc} (hs : s.fits) (bare : Bool) (f : Fld) (h : AH) (fr : Nat) : CR Tryz.prog (globM mx) md (.fn 114) [.agg f.pv, .rop [ecV s], .rop [.bool bare]] h fr (.val (.tup [.agg (inG s bare f).pv, .bool true])) := by
  refine CR.frozen (rs := [.cell 4 56, .tmp 5]) Tryz.func114 rfl rfl rfl rfl rfl rfl ?_ h fr
  have ldp : ∀ v, loadO Tryz.prog 102 (some [v]) = some (.q v) := fun v => loadO_one ag102 sz102
  have ld4 : ∀ v, loadO Tryz.prog 4 (some [v]) = some (.q v) := fun v => loadO_one ag4 sz4
  have ed := edgeG_c (mx := mx) hs f
  have l3 := fun a b c : List UInt8 => load_agg (P := Tryz.prog) (c := [.str a, .str b, .str c]) ag56 sz56 (Nat.le_refl 3)
  have s3 := fun (a b c : List UInt8) => st56 a b c 1 [.str [], .str [], .str []] rfl
  cases c1 : edgeB s f with
  | true =>
    rw [c1] at ed
    by_cases c2 : f.w = manyL
    · have ew : decide (f.w = [33, 91, 33]) = true := decide_eq_true c2
      have e : inG s bare f = ⟨f.n, bID, listL⟩ := by simp [inG, c1, c2]
      simp -implicitDefEqProofs only [wpC_seq, rowsA, if_true, if_false, opnd, ofVal, ofVal1, layArgs, Nat.reduceAdd, reduceIte, Nat.reduceEqDiff, reduceCtorEq, rowsB, cellsG, Nat.reduceMul, rowsS, List.drop_drop, ecV, ldp, ld4, al56, sz56, s3, l3, goO_known ed, ew, goO_known (gin_c _ _ _)]
      rw [e]
      exact ⟨_, frz_clean _ rfl⟩
    · have ew : decide (f.w = [33, 91, 33]) = false := decide_eq_false c2
      have e : inG s bare f = ⟨f.n, bID, []⟩ := by simp [inG, c1, c2]
      simp -implicitDefEqProofs only [wpC_seq, rowsA, if_true, if_false, opnd, ofVal, ofVal1, layArgs, Nat.reduceAdd, reduceIte, Nat.reduceEqDiff, reduceCtorEq, rowsB, cellsG, Nat.reduceMul, rowsS, List.drop_drop, ecV, ldp, ld4, al56, sz56, s3, l3, goO_known ed, ew, goO_known (gin_c _ _ _)]
      rw [e]
      exact ⟨_, frz_clean _ rfl⟩
  | false =>
    rw [c1] at ed
    cases bare with
    | true =>
      have e : inG s true f = ⟨f.n, f.t, []⟩ := by simp [inG, c1]
      simp -implicitDefEqProofs only [wpC_seq, rowsA, if_true, if_false, opnd, ofVal, ofVal1, layArgs, Nat.reduceAdd, reduceIte, Nat.reduceEqDiff, reduceCtorEq, rowsB, cellsG, Nat.reduceMul, rowsS, List.drop_drop, ecV, ldp, ld4, al56, sz56, s3, l3, goO_known ed, goO_known (gin_c _ _ _)]
      rw [e]
      exact ⟨_, frz_clean _ rfl⟩
    | false =>
      have e : inG s false f = ⟨f.n, f.t, f.w⟩ := by simp [inG, c1]
      simp -implicitDefEqProofs only [wpC_seq, rowsA, if_true, if_false, opnd, ofVal, ofVal1, layArgs, Nat.reduceAdd, reduceIte, Nat.reduceEqDiff, reduceCtorEq, rowsB, cellsG, Nat.reduceMul, rowsS, List.drop_drop, ecV, ldp, ld4, al56, sz56, s3, l3, goO_known ed, bl56]
      rw [e]
      exact ⟨_, frz_clean _ rfl⟩
theorem insG_c {s : Sc} (hs : s.fits) (bare : Bool) (o : Ob) (ho : o.fs.length ≤ 1000) (h : AH) (fr : Nat) : CR Tryz.prog (globM mx) md (.fn 113) [.bool bare, .rop o.pv, .rop [ecV s]] h fr (.val (rowN Inp.pv (o.fs.map (inG s bare)))) := by
  refine CR.frozen (rs := [.tmp 4]) Tryz.func113 rfl rfl rfl rfl rfl rfl ?_ h fr
  have km := mapped111_c (mx := mx) o.fs ho 114 [.rop [ecV s], .rop [.bool bare]] rfl (fun _ => true) (inG s bare) (fun f _ h fr => inG_c hs bare f h fr)
  rw [List.filter_eq_self.2 (fun _ _ => rfl)] at km
  simp -implicitDefEqProofs only [wpC_seq, rowsA, if_true, if_false, opnd, ofVal, ofVal1, layArgs, Nat.reduceAdd, reduceIte, Nat.reduceEqDiff, reduceCtorEq, rowsB, cellsG, Nat.reduceMul, rowsS, List.drop_drop]
  refine goO_val (via_rd (p := fun _ => True) (args' := [rowV Fld.pv o.fs, .fn (.func 114) [] [.rop [ecV s], .rop [.bool bare]]]) Tryz.func111 rfl rfl rfl rfl ⟨Rd.of_clean rfl, Rd.cap ⟨Rd.of_clean rfl, Rd.ptr (c := [.bool bare]) trivial (by simp only [AH.get_set, AH.get_up, if_true]; rfl) rfl (RdL.of_clean rfl), trivial⟩ rfl, trivial⟩ km) ?_
  intro v h2 hq
  generalize hG : wpO _ _ _ _ _ _ _ _ _ _ _ = G
  obtain ⟨rfl, -⟩ := hq
  subst hG
  simp -implicitDefEqProofs only [wpC_seq, rowsA, if_true, if_false, opnd, ofVal, ofVal1, layArgs, Nat.reduceAdd, reduceIte, Nat.reduceEqDiff, reduceCtorEq, rowsB, cellsG, Nat.reduceMul]
  exact ⟨_, frz_clean _ (rowN_clean ..)⟩
end Go.Proofs.YtcbngkmmmfaaoaaGreatDoor
namespace Go.Ac
open Go.RowKit
def Out (r : OR) (h : AH) (v : PV) (H : AH) : Prop := (r = .q v ∧ H = h) ∨ ∃ id ob, r = .w v id ob ∧ H = h.set id ob
section
variable {P : Program} {G : Glob} {md : FuncId → Md} {ops : Array Oper} {base i : Nat} {rest : List Oper} {d : Option Tmp} {f : Fr} {h H : AH} {lg : List (Nat × Nat)} {Q : OX → Prop} {v : PV} {r : OR} {rd : Bool}
theorem goO_out (ho : Out r h v H) : goO P G md rd ops base i rest d f h Q (some r) = wpO P G md rd ops base (i + 1) rest (putA f d v) H Q := by
  rcases ho with ⟨rfl, rfl⟩ | ⟨id, ob, rfl, rfl⟩
  · rfl
  · rfl
end
section
variable {P : Program} {h : AH} {fr : Nat} {t e : TypeId} {sz b : Nat}
theorem ap_out (hu : P.underlying t = some (.slice e)) (hi : (P.info? e).map (fun i => (i.size, i.bytes, i.zero.map (·.cells.size))) = some (sz, b, some sz)) (hsz : 0 < sz) {id m : Nat} {d : List PV} {x : PV} {xs : List PV} {n : Nat} (hg : h.get id = some (.cells e sz false d)) (hd : d.length = m * sz) (hx : Ac.cellsOf h sz x = some (xs, n)) (hxl : xs.length = n * sz) (hb : (m + n) * b ≤ 2 ^ 47) (hn : m + n ≤ 2 ^ 47) :
    ∃ r H, appO P h fr [.ow id (m * sz) 0 m, x] [t, t] = some r ∧ Out r h (.ow id ((m + n) * sz) 0 (m + n)) H ∧ H.get id = some (.cells e sz false (d ++ xs)) ∧ (∀ y, y ≠ id → H.get y = h.get y) ∧ H.next = h.next := by
  by_cases h0 : n = 0
  · subst h0
    have : xs = [] := List.length_eq_zero_iff.1 (by rw [hxl, Nat.zero_mul])
    subst this
    exact ⟨_, h, ap_none hu hi hsz (.inr (.inr ⟨id, m, false, d, rfl, hg, hd⟩)) hx, .inl ⟨rfl, rfl⟩, by rw [List.append_nil]; exact hg, fun _ _ => rfl, rfl⟩
  · exact ⟨_, _, ap_more hu hi hsz hg hd hx (by omega) hb hn, .inr ⟨_, _, rfl, rfl⟩, by simp only [AH.get_set, if_true], fun y hy => by simp only [AH.get_set, hy, if_false], AH.next_set _ _ _⟩
theorem RowT.more {d A B B' : Nat} {v x : PV} {L xs ys : List PV} {n k : Nat} (q : RowT d A B h e sz v L n) (hu : P.underlying t = some (.slice e)) (hi : (P.info? e).map (fun i => (i.size, i.bytes, i.zero.map (·.cells.size))) = some (sz, b, some sz)) (hsz : 0 < sz)
    (hA : A ≤ B) (hB : B ≤ fr) (hB' : fr < B') (hx : Ac.cellsOf h sz x = some (xs, k)) (hl : xs.length = k * sz) (hr : RdL (Rd (fun id => B ≤ id ∧ id < fr) h d) xs ys) (hb : (n + k) * b ≤ 2 ^ 47) (hn : n + k ≤ 2 ^ 47) :
    ∃ r v' H, appO P h fr [v, x] [t, t] = some r ∧ Out r h v' H ∧ RowT d A B' H e sz v' (L ++ ys) (n + k) ∧ (∀ y, y ≠ fr → (y < A ∨ B ≤ y) → H.get y = h.get y) ∧ H.next = h.next := by
  by_cases h0 : k = 0
  · subst h0
    have : xs = [] := List.length_eq_zero_iff.1 (by rw [hl, Nat.zero_mul])
    subst this
    have hy : ys = [] := List.length_eq_zero_iff.1 hr.len
    subst hy
    refine ⟨_, v, h, ap_none hu hi hsz ?_ hx, .inl ⟨rfl, rfl⟩, by rw [List.append_nil]; exact q.keep (by omega) fun _ _ _ => rfl, fun _ _ _ => rfl, rfl⟩
    rcases q with ⟨rfl, rfl, rfl⟩ | ⟨h0, R, C, rfl, a1, a2, a3, a4, a5⟩
    · exact .inl rfl
    · exact .inr (.inr ⟨R, n, false, C, rfl, a3, a4⟩)
  · rcases q with ⟨rfl, rfl, rfl⟩ | ⟨h0', R, C, rfl, a1, a2, a3, a4, a5⟩
    · refine ⟨_, .ow fr ((0 + k) * sz) 0 (0 + k), h.set fr (.cells e sz false xs), ap_new hu hi hsz (.inl rfl) hx (by omega) (by simpa using hb) (by omega), .inr ⟨fr, .cells e sz false xs, by rw [Nat.zero_add], rfl⟩, .inr ⟨by omega, fr, xs, rfl, by omega, hB', by simp only [AH.get_set, if_true], by rw [hl, Nat.zero_add], ?_⟩, fun y h1 _ => by simp only [AH.get_set, h1, if_false], AH.next_set _ _ _⟩
      rw [List.nil_append]
      exact hr.imp fun v u => Rd.imp (fun id ⟨b1, b2⟩ => ⟨⟨by omega, by omega, by omega⟩, fun E sz fz c hc => ⟨fz, by simp only [AH.get_set, show ¬ id = fr by omega, if_false]; exact hc⟩⟩) d v u
    · refine ⟨_, _, _, ap_more hu hi hsz a3 a4 hx (by omega) hb hn, .inr ⟨_, _, rfl, rfl⟩, .inr ⟨by omega, R, C ++ xs, rfl, a1, by omega, by simp only [AH.get_set, if_true], by rw [List.length_append, a4, hl, Nat.add_mul], ?_⟩, fun y _ h2 => by simp only [AH.get_set, show ¬ y = R by omega, if_false], AH.next_set _ _ _⟩
      refine RdL.append (a5.imp fun v u => Rd.imp (fun id ⟨b1, b2, b3⟩ => ⟨⟨b1, by omega, b3⟩, fun E sz fz c hc => ⟨fz, by simp only [AH.get_set, b3, if_false]; exact hc⟩⟩) d v u) (hr.imp fun v u => Rd.imp (fun id ⟨b1, b2⟩ => ⟨⟨by omega, by omega, by omega⟩, fun E sz fz c hc => ⟨fz, by simp only [AH.get_set, show ¬ id = R by omega, if_false]; exact hc⟩⟩) d v u)
end
end Go.Ac
namespace Go.Proofs.YtcbngkmmmfaaoaaGreatDoor
open Go.RowKit Go.Lib Go.Ac
theorem cells_rowN {α : Type} {f : α → List PV} {sz : Nat} (hz : ∀ x, (f x).length = sz) (l : List α) (h : AH) : Ac.cellsOf h sz (rowN f l) = some (flat f l, l.length) := by
  unfold rowN
  split
  · rename_i e
    rw [List.length_eq_zero_iff.1 e]
    rfl
  · exact cellR_ro (flat_len hz l)
theorem cells_rowV {α : Type} {f : α → List PV} {sz : Nat} (hz : ∀ x, (f x).length = sz) (l : List α) (h : AH) : Ac.cellsOf h sz (rowV f l) = some (flat f l, l.length) := cellR_ro (flat_len hz l)
structure Dn where
  n : List UInt8
  k : Int
  ws : List (List UInt8)
  outs : List Ot
  ins : List Inp
def Dn.pv (d : Dn) : List PV := [.str d.n, .int .i64 d.k, rowN strV d.ws, rowN Ot.pv d.outs, rowN Inp.pv d.ins]
theorem Dn.cl (d : Dn) : PV.cleans d.pv = true := by simp [Dn.pv, PV.cleans, PV.clean, rowN_clean]
theorem Dn.len (d : Dn) : d.pv.length = 5 := rfl
def bAdd : List UInt8 := [65, 100, 100]
def bPatch : List UInt8 := [80, 97, 116, 99, 104]
def props (s : Sc) (o : Ob) : List Fld := o.fs.filter (fun f => !(edgeB s f))
def objD (s : Sc) (o : Ob) : List Dn :=
  [⟨o.n, 2, [], ⟨bid, bID, [33], []⟩ :: o.fs.map (outG s), []⟩,
   ⟨o.n ++ bOrderable, 1, bid :: (props s o).map (·.n), [], []⟩,
   ⟨o.n ++ bOrder, 3, [], [], [⟨[97, 115, 99], o.n ++ bOrderable, []⟩, ⟨[100, 101, 115, 99], o.n ++ bOrderable, []⟩, ⟨[116, 104, 101, 110], o.n ++ bOrder, []⟩]⟩,
   ⟨o.n ++ bFilter, 3, [], [], [⟨[97, 110, 100], o.n ++ bFilter, listL⟩, ⟨[111, 114], o.n ++ bFilter, listL⟩, ⟨[110, 111, 116], o.n ++ bFilter, []⟩, ⟨bid, bID, listL⟩] ++ (props s o).map filG⟩,
   ⟨bAdd ++ o.n, 3, [], [], o.fs.map (inG s false)⟩,
   ⟨bPatch ++ o.n, 3, [], [], o.fs.map (inG s true)⟩]
end Go.Proofs.YtcbngkmmmfaaoaaGreatDoor
namespace Go.Proofs.YtcbngkmmmfaaoaaGreatDoor
open Go.RowKit Go.Lib Go.Ac
set_option linter.unusedSimpArgs false
set_option maxRecDepth 100000
variable {mx : Int}
theorem z102 : tyZero Tryz.prog 102 = some [.nfn] := by kernel_rfl
theorem al102 {ρ : Operand → PV} {h : AH} {fr : Nat} {d : Option Tmp} {ty : TypeId} {ps : String} {af : Array Edge} {gu : Option (Nat × Bool)} : aop Tryz.prog ρ h fr ⟨d, .alloc 102, ty, ps, af, gu⟩ = some (.w (.ptr fr 1 0) fr (.cells 102 0 false [.nfn])) := by
  rw [aop_alloc, z102]
  rfl
theorem st102 (k : FuncId) (l : List PV) (id : Nat) (c : PV) : stoG id 1 0 (.fn (.func k) [] l) 1 (some (.cells 102 0 false [c])) = some (.w .undef id (.cells 102 0 false [.fn (.func k) [] l])) := rfl
theorem capL {s : Sc} {H : AH} {z0 z7 : Bool} (k : FuncId) (x : PV) (hx : x.clean = true) (g0 : H.get 0 = some (.cells 25 0 z0 s.pv)) (g7 : H.get 7 = some (.cells 102 0 z7 [.fn (.func 106) [] [.ptr 0 2 0]])) :
    RdL (Rd (fun _ => True) H 100) [x, .fn (.func k) [] [.ptr 7 1 0]] [x, .fn (.func k) [] [.rop [ecV s]]] :=
  ⟨Rd.of_clean hx, Rd.cap ⟨Rd.ptr (c := [.fn (.func 106) [] [.ptr 0 2 0]]) trivial g7 rfl ⟨Rd.cap ⟨Rd.ptr trivial g0 rfl (RdL.of_clean rfl), trivial⟩ rfl, trivial⟩, trivial⟩ rfl, trivial⟩
theorem bl54o (a : List UInt8) (k : Int) (id x y z : Nat) : bldO Tryz.prog 54 [(0, .str a), (1, .int .i64 k), (3, .ow id x y z)] = some (.q (.agg [.str a, .int .i64 k, .nls, .ow id x y z, .nls])) := by kernel_rfl
theorem bl54w (a : List UInt8) (k : Int) (id x y z : Nat) : bldO Tryz.prog 54 [(0, .str a), (1, .int .i64 k), (2, .ow id x y z)] = some (.q (.agg [.str a, .int .i64 k, .ow id x y z, .nls, .nls])) := by kernel_rfl
theorem bl54r (a : List UInt8) (k : Int) (c : List PV) (n : Nat) : bldO Tryz.prog 54 [(0, .str a), (1, .int .i64 k), (4, .ro c n)] = some (.q (.agg [.str a, .int .i64 k, .nls, .nls, .ro c n])) := by kernel_rfl
theorem bd52_3 (fr : Nat) (a1 a2 a3 b1 b2 b3 c1 c2 c3 : List UInt8) : buildO Tryz.prog fr 52 3 [(0, .agg [.str a1, .str a2, .str a3]), (1, .agg [.str b1, .str b2, .str b3]), (2, .agg [.str c1, .str c2, .str c3])] = some (.w (.ow fr 9 0 3) fr (.cells 56 3 false [.str a1, .str a2, .str a3, .str b1, .str b2, .str b3, .str c1, .str c2, .str c3])) := by kernel_rfl
theorem bd47_6 (fr : Nat) (a b c d e f : List UInt8) (i j k l m n : Int) (a1 a2 a3 b1 b2 b3 c1 c2 c3 d1 d2 d3 e1 e2 e3 f1 f2 f3 : PV) : buildO Tryz.prog fr 47 6 [(0, .agg [.str a, .int .i64 i, a1, a2, a3]), (1, .agg [.str b, .int .i64 j, b1, b2, b3]), (2, .agg [.str c, .int .i64 k, c1, c2, c3]), (3, .agg [.str d, .int .i64 l, d1, d2, d3]), (4, .agg [.str e, .int .i64 m, e1, e2, e3]), (5, .agg [.str f, .int .i64 n, f1, f2, f3])] = some (.w (.ow fr 30 0 6) fr (.cells 54 5 false [.str a, .int .i64 i, a1, a2, a3, .str b, .int .i64 j, b1, b2, b3, .str c, .int .i64 k, c1, c2, c3, .str d, .int .i64 l, d1, d2, d3, .str e, .int .i64 m, e1, e2, e3, .str f, .int .i64 n, f1, f2, f3])) := by kernel_rfl
theorem bl54v (a : List UInt8) (k : Int) (l : List Inp) : bldO Tryz.prog 54 [(0, .str a), (1, .int .i64 k), (4, rowV Inp.pv l)] = some (.q (.agg [.str a, .int .i64 k, .nls, .nls, rowV Inp.pv l])) := bl54r ..
theorem rdOw {α : Type} {f : α → List PV} {sz : Nat} {l : List α} {H : AH} {d id tot n : Nat} {E : TypeId} {fz : Bool} (hz : ∀ x, (f x).length = sz) (hcl : ∀ x, PV.cleans (f x) = true) (hg : H.get id = some (.cells E sz fz (flat f l))) (hn : n = l.length) (ht : tot = n * sz) (h0 : 0 < l.length) : Rd (fun _ => True) H (d + 1) (.ow id tot 0 n) (rowN f l) := by
  rw [rowN_pos h0, ht]
  unfold rowV
  rw [← hn]
  exact Rd.row trivial hg (by rw [flat_len hz, hn]) (RdL.of_clean (flat_clean hcl l))
theorem objG_c {s : Sc} (hs : s.fits) (o : Ob) (ho : o.fs.length ≤ 1000) (hp : 0 < o.fs.length) (hn : o.n.length ≤ 1000) (ht : ∀ f ∈ o.fs, f.t.length ≤ 1000) (h : AH) (fr : Nat) : CR Tryz.prog (globM mx) md (.fn 66) [.agg s.pv, .agg o.pv] h fr (.val (rowV Dn.pv (objD s o))) := by
  refine CR.frozen (rs := [.tmp 4]) Tryz.func66 rfl rfl rfl rfl rfl rfl ?_ h fr
  have k1 := mapped107_c (mx := mx) o.fs ho 108 [.rop [ecV s]] rfl (fun _ => true) (outG s) (fun f hf h fr => outG_c hs f (ht f hf) h fr)
  have k2 := mapped109_c (mx := mx) o.fs ho 110 [.rop [ecV s]] rfl (fun f => !(edgeB s f)) (·.n) (fun f hf h fr => propG_c hs f h fr)
  have k3 := mapped111_c (mx := mx) o.fs ho 112 [.rop [ecV s]] rfl (fun f => !(edgeB s f)) filG (fun f hf h fr => filG_c hs f (ht f hf) h fr)
  rw [List.filter_eq_self.2 (fun _ _ => rfl)] at k1
  simp -implicitDefEqProofs only [wpC_seq, rowsA, if_true, if_false, opnd, ofVal, ofVal1, layArgs, Nat.reduceAdd, reduceIte, Nat.reduceEqDiff, reduceCtorEq, rowsB, cellsG, Nat.reduceMul, rowsS, List.drop_drop, al102, sz102, st102]
  have c1 := fun (k : FuncId) (H : AH) (z0 z7 : Bool) (g0 : H.get 0 = some (.cells 25 0 z0 s.pv)) (g7 : H.get 7 = some (.cells 102 0 z7 [.fn (.func 106) [] [.ptr 0 2 0]])) => capL (s := s) k (rowV Fld.pv o.fs) rfl g0 g7
  refine goO_val (via_rd Tryz.func107 rfl rfl rfl rfl (c1 108 _ false false (by simp only [AH.get_set, AH.get_up, Nat.reduceEqDiff, if_true, if_false]) (by simp only [AH.get_set, AH.get_up, Nat.reduceEqDiff, if_true, if_false])) k1) ?_
  intro v h1 hq
  generalize hG : wpO _ _ _ _ _ _ _ _ _ _ _ = G
  obtain ⟨rfl, y⟩ := hq
  have n1 : h1.next = 14 := y.next.trans (by simp only [AH.next_set, AH.next_up]; rfl)
  obtain ⟨z0, g0⟩ := y.cells (id := 0) (E := 25) (sz := 0) (fz := false) (c := s.pv) (by simp only [AH.get_set, AH.get_up, Nat.reduceEqDiff, if_true, if_false])
  obtain ⟨z1, g1⟩ := y.cells (id := 1) (E := 41) (sz := 0) (fz := false) (c := o.pv) (by simp only [AH.get_set, AH.get_up, Nat.reduceEqDiff, if_true, if_false])
  obtain ⟨z7, g7⟩ := y.cells (id := 7) (E := 102) (sz := 0) (fz := false) (c := [.fn (.func 106) [] [.ptr 0 2 0]]) (by simp only [AH.get_set, AH.get_up, Nat.reduceEqDiff, if_true, if_false])
  clear y
  subst hG
  simp -implicitDefEqProofs only [wpC_seq, rowsA, if_true, if_false, opnd, ofVal, ofVal1, layArgs, Nat.reduceAdd, reduceIte, Nat.reduceEqDiff, reduceCtorEq, rowsB, cellsG, Nat.reduceMul, rowsS, List.drop_drop, g0, g1, g7]
  refine goO_val (via_rd Tryz.func109 rfl rfl rfl rfl (c1 110 _ z0 z7 (by simp only [AH.get_up, g0]) (by simp only [AH.get_up, g7])) k2) ?_
  intro v h2 hq
  generalize hG : wpO _ _ _ _ _ _ _ _ _ _ _ = G
  obtain ⟨rfl, y⟩ := hq
  have n2 : h2.next = 19 := y.next.trans (by simp only [AH.next_set, AH.next_up, n1])
  obtain ⟨z0, g0⟩ := y.cells (id := 0) (by simp only [AH.get_up]; exact g0)
  obtain ⟨z1, g1⟩ := y.cells (id := 1) (by simp only [AH.get_up]; exact g1)
  obtain ⟨z7, g7⟩ := y.cells (id := 7) (by simp only [AH.get_up]; exact g7)
  clear y
  subst hG
  simp -implicitDefEqProofs only [wpC_seq, rowsA, if_true, if_false, opnd, ofVal, ofVal1, layArgs, Nat.reduceAdd, reduceIte, Nat.reduceEqDiff, reduceCtorEq, rowsB, cellsG, Nat.reduceMul, rowsS, List.drop_drop, g0, g1, g7]
  refine goO_val (via_rd Tryz.func111 rfl rfl rfl rfl (c1 112 _ z0 z7 (by simp only [AH.get_up, g0]) (by simp only [AH.get_up, g7])) k3) ?_
  intro v h3 hq
  generalize hG : wpO _ _ _ _ _ _ _ _ _ _ _ = G
  obtain ⟨rfl, y⟩ := hq
  have n3 : h3.next = 24 := y.next.trans (by simp only [AH.next_set, AH.next_up, n2])
  obtain ⟨z0, g0⟩ := y.cells (id := 0) (by simp only [AH.get_up]; exact g0)
  obtain ⟨z1, g1⟩ := y.cells (id := 1) (by simp only [AH.get_up]; exact g1)
  obtain ⟨z7, g7⟩ := y.cells (id := 7) (by simp only [AH.get_up]; exact g7)
  clear y
  subst hG
  have a1 := fun {h : AH} => bin_sadd (P := Tryz.prog) (h := h) (t := 9) (x := o.n) (y := [70, 105, 108, 116, 101, 114]) (by simp only [List.length_cons, List.length_nil]; omega)
  have a2 := fun {h : AH} => bin_sadd (P := Tryz.prog) (h := h) (t := 9) (x := o.n) (y := [79, 114, 100, 101, 114]) (by simp only [List.length_cons, List.length_nil]; omega)
  have a3 := fun {h : AH} => bin_sadd (P := Tryz.prog) (h := h) (t := 9) (x := o.n) (y := [79, 114, 100, 101, 114, 97, 98, 108, 101]) (by simp only [List.length_cons, List.length_nil]; omega)
  have a4 := fun {h : AH} => bin_sadd (P := Tryz.prog) (h := h) (t := 9) (x := [65, 100, 100]) (y := o.n) (by simp only [List.length_cons, List.length_nil]; omega)
  have a5 := fun {h : AH} => bin_sadd (P := Tryz.prog) (h := h) (t := 9) (x := [80, 97, 116, 99, 104]) (y := o.n) (by simp only [List.length_cons, List.length_nil]; omega)
  simp -implicitDefEqProofs only [wpC_seq, rowsA, if_true, if_false, opnd, ofVal, ofVal1, layArgs, Nat.reduceAdd, reduceIte, Nat.reduceEqDiff, reduceCtorEq, rowsB, cellsG, Nat.reduceMul, rowsS, List.drop_drop, n3, a1, a2, a3, a4, a5, goO_known (genRef_c _ _), goO_known (gin_c _ _ _), bl58a, bd51n]
  have hOutL : (o.fs.map (outG s)).length = o.fs.length := List.length_map _
  have hPrL : (props s o).length ≤ o.fs.length := List.length_filter_le _ _
  generalize hH : AH.set _ _ _ = H
  have b1 : H.get 38 = some (.cells 58 4 false (Ot.pv ⟨bid, bID, [33], []⟩)) := by rw [← hH]; simp only [AH.get_set, if_true]; rfl
  have b2 : ∀ x, x < 35 → H.get x = h3.get x := fun x hx => by rw [← hH]; simp only [AH.get_set, AH.get_up]; rw [if_neg (by omega)]
  have b3 : H.next = 80 := by rw [← hH]; simp only [AH.next_set, AH.next_up, n3]
  clear hH
  obtain ⟨r1, H1, e1, o1, q1, q2, q3⟩ := ap_out (P := Tryz.prog) (fr := 40) (id := 38) (m := 1) (x := rowN Ot.pv (o.fs.map (outG s))) u51 i58 (by decide) b1 rfl (cells_rowN (f := Ot.pv) (sz := 4) (fun _ => rfl) _ H) (flat_len (f := Ot.pv) (z := 4) (fun _ => rfl) _) (by omega) (by omega)
  simp only [Nat.reduceMul] at e1
  rw [e1, goO_out o1]
  simp -implicitDefEqProofs only [wpC_seq, rowsA, if_true, if_false, opnd, ofVal, ofVal1, layArgs, Nat.reduceAdd, reduceIte, Nat.reduceEqDiff, reduceCtorEq, rowsB, cellsG, Nat.reduceMul, bl54o, bd43_1]
  clear e1 o1
  generalize hH : AH.set _ _ _ = H'
  have d1 : H'.get 43 = some (.cells 9 1 false [.str bid]) := by rw [← hH]; simp only [AH.get_set, if_true]; rfl
  have d2 : ∀ x, x ≠ 43 → x ≠ 38 → x < 35 ∨ 35 ≤ x → H'.get x = H.get x := fun x h1 h2 _ => by rw [← hH]; simp only [AH.get_set, h1, if_false]; exact q2 x h2
  have d3 : H'.get 38 = _ := (show H'.get 38 = H1.get 38 by rw [← hH]; simp only [AH.get_set, Nat.reduceEqDiff, if_false]).trans q1
  have d4 : H'.next = 80 := by rw [← hH]; simp only [AH.next_set]; exact q3.trans b3
  clear hH q1 q2 q3
  obtain ⟨r1, H1, e1, o1, q1, q2, q3⟩ := ap_out (P := Tryz.prog) (fr := 45) (id := 43) (m := 1) (x := rowN strV ((props s o).map (·.n))) u43 i9 (by decide) d1 rfl (cells_rowN (f := strV) (sz := 1) (fun _ => rfl) _ H') (flat_len (f := strV) (z := 1) (fun _ => rfl) _) (by rw [List.length_map]; omega) (by rw [List.length_map]; omega)
  simp only [Nat.reduceMul, Nat.mul_one] at e1 o1
  rw [show (List.filter (fun f => !edgeB s f) o.fs) = props s o from rfl, e1, goO_out o1]
  simp -implicitDefEqProofs only [wpC_seq, rowsA, if_true, if_false, opnd, ofVal, ofVal1, layArgs, Nat.reduceAdd, reduceIte, Nat.reduceEqDiff, reduceCtorEq, rowsB, cellsG, Nat.reduceMul, bl54w, bl54i, goO_known (gin_c _ _ _), bd52_3, bd52_4]
  clear e1 o1
  generalize hH : AH.set _ _ _ = H2
  have keep : ∀ x, x < 35 → H2.get x = h3.get x := fun x hx => by
    rw [← hH]
    simp only [AH.get_set]
    rw [if_neg (by omega), if_neg (by omega), q2 x (by omega), d2 x (by omega) (by omega) (by omega), b2 x hx]
  have s1 : H2.get 38 = _ := (show H2.get 38 = H1.get 38 by rw [← hH]; simp only [AH.get_set, Nat.reduceEqDiff, if_false]).trans ((q2 38 (by decide)).trans d3)
  have s2 : H2.get 43 = _ := (show H2.get 43 = H1.get 43 by rw [← hH]; simp only [AH.get_set, Nat.reduceEqDiff, if_false]).trans q1
  have s3 : H2.get 54 = some (.cells 56 3 false (flat Inp.pv [⟨[97, 115, 99], o.n ++ bOrderable, []⟩, ⟨[100, 101, 115, 99], o.n ++ bOrderable, []⟩, ⟨[116, 104, 101, 110], o.n ++ bOrder, []⟩])) := by rw [← hH]; simp only [AH.get_set, Nat.reduceEqDiff, if_true, if_false]; rfl
  have s4 : H2.get 64 = some (.cells 56 3 false (flat Inp.pv [⟨[97, 110, 100], o.n ++ bFilter, listL⟩, ⟨[111, 114], o.n ++ bFilter, listL⟩, ⟨[110, 111, 116], o.n ++ bFilter, []⟩, ⟨bid, bID, listL⟩])) := by rw [← hH]; simp only [AH.get_set, if_true]; rfl
  have s5 : H2.next = 80 := by rw [← hH]; simp only [AH.next_set]; exact q3.trans d4
  have g0' := (keep 0 (by decide)).trans g0
  have g1' := (keep 1 (by decide)).trans g1
  have g7' := (keep 7 (by decide)).trans g7
  clear hH q1 q2 q3 d1 d2 d3 d4 b1 b2 b3 keep
  obtain ⟨r1, H3, e1, o1, q1, q2, q3⟩ := ap_out (P := Tryz.prog) (fr := 66) (id := 64) (m := 4) (x := rowN Inp.pv ((props s o).map filG)) u52 i56 (by decide) s4 (flat_len (f := Inp.pv) (z := 3) (fun _ => rfl) _) (cells_rowN (f := Inp.pv) (sz := 3) (fun _ => rfl) _ H2) (flat_len (f := Inp.pv) (z := 3) (fun _ => rfl) _) (by rw [List.length_map]; omega) (by rw [List.length_map]; omega)
  simp only [Nat.reduceMul] at e1
  rw [e1, goO_out o1]
  clear e1 o1
  have eN := fun b : Bool => rowN_pos (f := Inp.pv) (l := o.fs.map (inG s b)) (by rw [List.length_map]; exact hp)
  simp -implicitDefEqProofs only [wpC_seq, rowsA, if_true, if_false, opnd, ofVal, ofVal1, layArgs, Nat.reduceAdd, reduceIte, Nat.reduceEqDiff, reduceCtorEq, rowsB, cellsG, Nat.reduceMul, bl54i, a4]
  refine goO_val (via_rd (p := fun _ => True) (args' := [.bool false, .rop o.pv, .rop [ecV s]]) Tryz.func113 rfl rfl rfl rfl ⟨Rd.of_clean rfl, Rd.ptr trivial ((q2 1 (by decide)).trans g1') rfl (RdL.of_clean rfl), Rd.ptr trivial ((q2 7 (by decide)).trans g7') rfl ⟨Rd.cap ⟨Rd.ptr trivial ((q2 0 (by decide)).trans g0') rfl (RdL.of_clean rfl), trivial⟩ rfl, trivial⟩, trivial⟩ (insG_c hs false o ho)) ?_
  intro v h4 hq
  generalize hG : wpO _ _ _ _ _ _ _ _ _ _ _ = G
  obtain ⟨rfl, y⟩ := hq
  have n4 : h4.next = 80 := y.next.trans (q3.trans s5)
  obtain ⟨z0, g0⟩ := y.cells ((q2 0 (by decide)).trans g0')
  obtain ⟨z1, g1⟩ := y.cells ((q2 1 (by decide)).trans g1')
  obtain ⟨z7, g7⟩ := y.cells ((q2 7 (by decide)).trans g7')
  obtain ⟨y1, s1⟩ := y.cells ((q2 38 (by decide)).trans s1)
  obtain ⟨y2, s2⟩ := y.cells ((q2 43 (by decide)).trans s2)
  obtain ⟨y3, s3⟩ := y.cells ((q2 54 (by decide)).trans s3)
  obtain ⟨y4, s4⟩ := y.cells q1
  clear y
  subst hG
  rw [eN false]
  simp -implicitDefEqProofs only [wpC_seq, rowsA, if_true, if_false, opnd, ofVal, ofVal1, layArgs, Nat.reduceAdd, reduceIte, Nat.reduceEqDiff, reduceCtorEq, rowsB, cellsG, Nat.reduceMul, bl54v, a5]
  refine goO_val (via_rd (p := fun _ => True) (args' := [.bool true, .rop o.pv, .rop [ecV s]]) Tryz.func113 rfl rfl rfl rfl ⟨Rd.of_clean rfl, Rd.ptr trivial g1 rfl (RdL.of_clean rfl), Rd.ptr trivial g7 rfl ⟨Rd.cap ⟨Rd.ptr trivial g0 rfl (RdL.of_clean rfl), trivial⟩ rfl, trivial⟩, trivial⟩ (insG_c hs true o ho)) ?_
  intro v h5 hq
  generalize hG : wpO _ _ _ _ _ _ _ _ _ _ _ = G
  obtain ⟨rfl, y⟩ := hq
  obtain ⟨y1, s1⟩ := y.cells s1
  obtain ⟨y2, s2⟩ := y.cells s2
  obtain ⟨y3, s3⟩ := y.cells s3
  obtain ⟨y4, s4⟩ := y.cells s4
  clear y
  subst hG
  rw [eN true]
  simp -implicitDefEqProofs only [wpC_seq, rowsA, if_true, if_false, opnd, ofVal, ofVal1, layArgs, Nat.reduceAdd, reduceIte, Nat.reduceEqDiff, reduceCtorEq, rowsB, cellsG, Nat.reduceMul, bl54v, bd47_6]
  refine Rd.done ?_
  have w1 : rowN Inp.pv (o.fs.map (inG s false)) = rowV Inp.pv (o.fs.map (inG s false)) := eN false
  have w2 : rowN Inp.pv (o.fs.map (inG s true)) = rowV Inp.pv (o.fs.map (inG s true)) := eN true
  rw [← w1, ← w2]
  have oc : ∀ {v : PV} {H : AH}, v.clean = true → Rd (fun _ => True) H 99 v v := fun q => Rd.of_clean q
  have rc : ∀ l : List Inp, (rowN Inp.pv l).clean = true := fun l => rowN_clean _ l
  refine Rd.row (n := 6) (sz := 5) trivial (by simp only [AH.get_set, if_true]; rfl) rfl ?_
  refine ⟨oc rfl, oc rfl, oc rfl, rdOw (f := Ot.pv) (sz := 4) (d := 98) (fun _ => rfl) Ot.cl (l := ⟨bid, bID, [33], []⟩ :: o.fs.map (outG s)) (by simp only [AH.get_set, Nat.reduceEqDiff, if_false]; exact s1) (by rw [List.length_cons, Nat.add_comm]) rfl (Nat.succ_pos _), oc rfl, ?_⟩
  refine ⟨oc rfl, oc rfl, rdOw (f := strV) (sz := 1) (d := 98) (fun _ => rfl) (fun _ => rfl) (l := bid :: (props s o).map (·.n)) (by simp only [AH.get_set, Nat.reduceEqDiff, if_false]; exact s2) (by rw [List.length_cons, Nat.add_comm]) (Nat.mul_one _).symm (Nat.succ_pos _), oc rfl, oc rfl, ?_⟩
  refine ⟨oc rfl, oc rfl, oc rfl, oc rfl, rdOw (f := Inp.pv) (sz := 3) (d := 98) (fun _ => rfl) Inp.cl (by simp only [AH.get_set, Nat.reduceEqDiff, if_false]; exact s3) rfl rfl (Nat.succ_pos _), ?_⟩
  refine ⟨oc rfl, oc rfl, oc rfl, oc rfl, rdOw (f := Inp.pv) (sz := 3) (d := 98) (fun _ => rfl) Inp.cl (l := [⟨[97, 110, 100], o.n ++ bFilter, listL⟩, ⟨[111, 114], o.n ++ bFilter, listL⟩, ⟨[110, 111, 116], o.n ++ bFilter, []⟩, ⟨bid, bID, listL⟩] ++ (props s o).map filG) (by simp only [AH.get_set, Nat.reduceEqDiff, if_false]; rw [flat_app]; exact s4) (by rw [List.length_append]; rfl) rfl (by rw [List.length_append]; show 0 < 4 + _; omega), ?_⟩
  exact ⟨oc rfl, oc rfl, oc rfl, oc rfl, oc (rc _), oc rfl, oc rfl, oc rfl, oc rfl, oc (rc _), trivial⟩
end Go.Proofs.YtcbngkmmmfaaoaaGreatDoor
namespace Go.Ac
open Go.RowKit
def rootL : PV → List Nat
  | .ow id _ _ _ => [id]
  | _ => []
def RowP (d : Nat) (X : List Nat) (A B : Nat) (h : AH) (E : TypeId) (sz : Nat) (v : PV) (L : List PV) (n : Nat) : Prop :=
  (n = 0 ∧ v = .nls ∧ L = []) ∨ (0 < n ∧ ∃ R C, v = .ow R (n * sz) 0 n ∧ A ≤ R ∧ R < B ∧ R ∉ X ∧ h.get R = some (.cells E sz false C) ∧ C.length = n * sz ∧ RdL (Rd (fun id => A ≤ id ∧ id < B ∧ id ∉ X ∧ id ≠ R) h d) C L)
section
variable {d A B B' : Nat} {X X' : List Nat} {h h' : AH} {E : TypeId} {sz : Nat} {v : PV} {L : List PV} {n : Nat}
theorem RowP.nil : RowP d X A B h E sz .nls [] 0 := .inl ⟨rfl, rfl, rfl⟩
theorem RowP.keep (q : RowP d X A B h E sz v L n) (hb : B ≤ B') (hX : ∀ x ∈ X', x ∈ X ∨ B ≤ x) (hk : ∀ id, A ≤ id → id < B → id ∉ X → h'.get id = h.get id) : RowP d X' A B' h' E sz v L n := by
  have out : ∀ id, id < B → id ∉ X → id ∉ X' := fun id h1 h2 h3 => by
    rcases hX id h3 with q | q
    · exact h2 q
    · omega
  rcases q with q | ⟨h0, R, C, rfl, a1, a2, a6, a3, a4, a5⟩
  · exact .inl q
  · exact .inr ⟨h0, R, C, rfl, a1, by omega, out R a2 a6, by rw [hk R a1 a2 a6]; exact a3, a4, a5.imp fun v u => Rd.imp (fun id ⟨b1, b2, b3, b4⟩ => ⟨⟨b1, by omega, out id b2 b3, b4⟩, fun E sz fz c hc => ⟨fz, by rw [hk id b1 b2 b3]; exact hc⟩⟩) d v u⟩
theorem RowP.root (q : RowP d X A B h E sz v L n) : ∀ x ∈ rootL v, A ≤ x ∧ x < B ∧ x ∉ X := by
  rcases q with ⟨rfl, rfl, rfl⟩ | ⟨h0, R, C, rfl, a1, a2, a6, a3, a4, a5⟩
  · intro x hx
    cases hx
  · intro x hx
    rw [rootL, List.mem_singleton] at hx
    subst hx
    exact ⟨a1, a2, a6⟩
theorem RowP.rd (q : RowP d X A B h E sz v L n) : Rd (fun id => A ≤ id ∧ id < B ∧ id ∉ X) h (d + 1) v (if n = 0 then .nls else .ro L n) := by
  rcases q with ⟨rfl, rfl, rfl⟩ | ⟨h0, R, C, rfl, a1, a2, a6, a3, a4, a5⟩
  · exact Rd.of_clean rfl
  · rw [if_neg (by omega)]
    exact Rd.row ⟨a1, a2, a6⟩ a3 a4 (a5.imp fun v u => Rd.imp (fun id ⟨b1, b2, b3, b4⟩ => ⟨⟨b1, b2, b3⟩, fun E sz fz c hc => ⟨fz, hc⟩⟩) d v u)
theorem RowP.more {P : Program} {fr b k : Nat} {t : TypeId} {x : PV} {xs ys : List PV} (q : RowP d X A B h E sz v L n) (hu : P.underlying t = some (.slice E)) (hi : (P.info? E).map (fun i => (i.size, i.bytes, i.zero.map (·.cells.size))) = some (sz, b, some sz)) (hsz : 0 < sz)
    (hA : A ≤ fr) (hB : B ≤ fr) (hB' : fr < B') (hfX : fr ∉ X) (hx : Ac.cellsOf h sz x = some (xs, k)) (hl : xs.length = k * sz) (hk0 : 0 < k) (hr : RdL (Rd (fun id => A ≤ id ∧ id < fr ∧ id ∉ X ∧ id ∉ rootL v) h d) xs ys) (hb : (n + k) * b ≤ 2 ^ 47) (hn : n + k ≤ 2 ^ 47) :
    ∃ R ob, appO P h fr [v, x] [t, t] = some (.w (.ow R ((n + k) * sz) 0 (n + k)) R ob) ∧ (R = fr ∨ R ∈ rootL v) ∧ RowP d X A B' (h.set R ob) E sz (.ow R ((n + k) * sz) 0 (n + k)) (L ++ ys) (n + k) := by
  rcases q with ⟨rfl, rfl, rfl⟩ | ⟨h0', R, C, rfl, a1, a2, a6, a3, a4, a5⟩
  · refine ⟨fr, .cells E sz false xs, by rw [Nat.zero_add]; exact ap_new hu hi hsz (.inl rfl) hx hk0 (by simpa using hb) (by omega), .inl rfl, .inr ⟨by omega, fr, xs, rfl, hA, hB', hfX, by simp only [AH.get_set, if_true], by rw [hl, Nat.zero_add], ?_⟩⟩
    rw [List.nil_append]
    exact hr.imp fun v u => Rd.imp (fun id ⟨b1, b2, b3, b4⟩ => ⟨⟨b1, by omega, b3, by omega⟩, fun E sz fz c hc => ⟨fz, by simp only [AH.get_set, show ¬ id = fr by omega, if_false]; exact hc⟩⟩) d v u
  · refine ⟨R, _, ap_more hu hi hsz a3 a4 hx hk0 hb hn, .inr (by simp [rootL]), .inr ⟨by omega, R, C ++ xs, rfl, a1, by omega, a6, by simp only [AH.get_set, if_true], by rw [List.length_append, a4, hl, Nat.add_mul], ?_⟩⟩
    refine RdL.append (a5.imp fun v u => Rd.imp (fun id ⟨b1, b2, b3, b4⟩ => ⟨⟨b1, by omega, b3, b4⟩, fun E sz fz c hc => ⟨fz, by simp only [AH.get_set, b4, if_false]; exact hc⟩⟩) d v u) (hr.imp fun v u => Rd.imp (fun id ⟨b1, b2, b3, b4⟩ => ?_) d v u)
    have : ¬ id = R := fun e => b4 (by rw [e]; simp [rootL])
    exact ⟨⟨b1, by omega, b3, this⟩, fun E sz fz c hc => ⟨fz, by simp only [AH.get_set, this, if_false]; exact hc⟩⟩
end
end Go.Ac
namespace Go.Proofs.YtcbngkmmmfaaoaaGreatDoor
open Go.RowKit Go.Lib Go.Ac
def bQuery : List UInt8 := [81, 117, 101, 114, 121]
def bMutation : List UInt8 := [77, 117, 116, 97, 116, 105, 111, 110]
def scalD (x : List UInt8) : Dn := ⟨x, 0, [], [], []⟩
def scalL : List (List UInt8) := [bID, bInt, bFloat, bString, bBoolean]
def enmD (e : En) : Dn := ⟨e.n, 1, e.ws, [], []⟩
def enfD (e : En) : Dn := ⟨e.n ++ bFilter, 3, [], [], [⟨[101, 113], e.n, []⟩, ⟨[105, 110], e.n, listL⟩]⟩
def cmpD (x : List UInt8) (m : List Inp) : Dn := ⟨x ++ bFilter, 3, [], [], cmpL x ++ m⟩
def midD : List Dn := [cmpD bInt [], cmpD bFloat [], cmpD bString [⟨[98, 101, 103, 105, 110, 115], bString, []⟩], ⟨bBoolean ++ bFilter, 3, [], [], [⟨[101, 113], bBoolean, []⟩]⟩]
def qryO (o : Ob) : List Ot := [⟨[103, 101, 116] ++ o.n, o.n, [], [⟨bid, bID, [33]⟩]⟩, ⟨[113, 117, 101, 114, 121] ++ o.n, o.n, manyL, argsL o.n⟩]
def mutO (o : Ob) : List Ot :=
  [⟨[97, 100, 100] ++ o.n, o.n, manyL, [⟨[105, 110, 112, 117, 116], bAdd ++ o.n, manyL⟩]⟩,
   ⟨[117, 112, 100, 97, 116, 101] ++ o.n, o.n, manyL, [⟨[102, 105, 108, 116, 101, 114], o.n ++ bFilter, [33]⟩, ⟨[115, 101, 116], bPatch ++ o.n, [33]⟩]⟩,
   ⟨[100, 101, 108, 101, 116, 101] ++ o.n, bInt, [33], [⟨[102, 105, 108, 116, 101, 114], o.n ++ bFilter, [33]⟩]⟩]
def qryD (s : Sc) : Dn := ⟨bQuery, 2, [], s.os.flatMap qryO, []⟩
def mutD (s : Sc) : Dn := ⟨bMutation, 2, [], s.os.flatMap mutO, []⟩
def typesD (s : Sc) : List Dn := scalL.map scalD ++ s.es.map enmD ++ s.os.flatMap (objD s) ++ midD ++ s.es.map enfD ++ [qryD s, mutD s]
end Go.Proofs.YtcbngkmmmfaaoaaGreatDoor
namespace Go.Proofs.YtcbngkmmmfaaoaaGreatDoor
open Go.RowKit Go.Lib Go.Ac
set_option linter.unusedSimpArgs false
set_option maxRecDepth 100000
theorem i54 : (Tryz.prog.info? 54).map (fun i => (i.size, i.bytes, i.zero.map (·.cells.size))) = some (5, 96, some 5) := by kernel_rfl
structure St (a b B : Nat) (h : AH) (vl vq vm : PV) (Ll Lq Lm : List PV) (nl nq nm : Nat) : Prop where
  l : RowP 2 (a :: b :: (rootL vq ++ rootL vm)) 10 B h 54 5 vl Ll nl
  q : RowP 1 (a :: b :: (rootL vl ++ rootL vm)) 10 B h 58 4 vq Lq nq
  m : RowP 1 (a :: b :: (rootL vl ++ rootL vq)) 10 B h 58 4 vm Lm nm
  ha : 10 ≤ a ∧ a < B
  hb : 10 ≤ b ∧ b < B
section
variable {a b B B' fr : Nat} {h h' : AH} {vl vq vm x : PV} {Ll Lq Lm xs ys : List PV} {nl nq nm k : Nat}
theorem St.keep (q : St a b B h vl vq vm Ll Lq Lm nl nq nm) (hB : B ≤ B') (hk : ∀ id, 10 ≤ id → id < B → id ≠ a → id ≠ b → h'.get id = h.get id) : St a b B' h' vl vq vm Ll Lq Lm nl nq nm := by
  have hk' : ∀ (Y : List Nat) (id : Nat), 10 ≤ id → id < B → id ∉ a :: b :: Y → h'.get id = h.get id := fun Y id h1 h2 h3 => by
    simp only [List.mem_cons, not_or] at h3
    exact hk id h1 h2 h3.1 h3.2.1
  exact ⟨q.l.keep hB (fun _ hx => .inl hx) (hk' _), q.q.keep hB (fun _ hx => .inl hx) (hk' _), q.m.keep hB (fun _ hx => .inl hx) (hk' _), by have := q.ha; omega, by have := q.hb; omega⟩
theorem other {d : Nat} {v w : PV} {X X' : List Nat} {E : TypeId} {sz R n : Nat} {ob : AO} {L : List PV} (q : RowP d X 10 B h E sz w L n) (hv : ∀ y ∈ rootL v, y ∈ X) (hfr : B ≤ fr) (hB : B ≤ B') (hR : R = fr ∨ R ∈ rootL v) (hX : ∀ y ∈ X', y = R ∨ y ∈ X) : RowP d X' 10 B' (h.set R ob) E sz w L n := by
  refine q.keep hB (fun y hy => ?_) (fun id h1 h2 h3 => ?_)
  · rcases hX y hy with rfl | h1
    · rcases hR with rfl | h2
      · exact .inr hfr
      · exact .inl (hv y h2)
    · exact .inl h1
  · have : ¬ id = R := fun e => by
      subst e
      rcases hR with rfl | h4
      · omega
      · exact h3 (hv id h4)
    simp only [AH.get_set, this, if_false]
theorem inX1 {y a b R p q r : Nat} {Y Z : List Nat} (hy : y ∈ a :: b :: (rootL (.ow R p q r) ++ Y)) : y = R ∨ y ∈ a :: b :: (Z ++ Y) := by
  rw [show rootL (.ow R p q r) = [R] from rfl] at hy
  simp only [List.mem_cons, List.mem_append, List.not_mem_nil, or_false] at hy ⊢
  rcases hy with h | h | h | h <;> simp [h]
theorem inX2 {y a b R p q r : Nat} {Y Z : List Nat} (hy : y ∈ a :: b :: (Y ++ rootL (.ow R p q r))) : y = R ∨ y ∈ a :: b :: (Y ++ Z) := by
  rw [show rootL (.ow R p q r) = [R] from rfl] at hy
  simp only [List.mem_cons, List.mem_append, List.not_mem_nil, or_false] at hy ⊢
  rcases hy with h | h | h | h <;> simp [h]
theorem St.addL (q : St a b B h vl vq vm Ll Lq Lm nl nq nm) (hfr : B ≤ fr) (hB' : fr < B') (hx : Ac.cellsOf h 5 x = some (xs, k)) (hl : xs.length = k * 5) (hk0 : 0 < k) (hr : RdL (Rd (fun id => B ≤ id ∧ id < fr) h 2) xs ys) (hn : nl + k ≤ 1000000) :
    ∃ R ob, appO Tryz.prog h fr [vl, x] [47, 47] = some (.w (.ow R ((nl + k) * 5) 0 (nl + k)) R ob) ∧ 10 ≤ R ∧ R ≠ a ∧ R ≠ b ∧ (R = fr ∨ R < B) ∧ (R = fr ∨ R ∈ rootL vl) ∧ St a b B' (h.set R ob) (.ow R ((nl + k) * 5) 0 (nl + k)) vq vm (Ll ++ ys) Lq Lm (nl + k) nq nm := by
  have ha := q.ha
  have hb := q.hb
  have r0 := q.l.root
  have r1 := q.q.root
  have r2 := q.m.root
  obtain ⟨R, ob, e1, e2, e3⟩ := q.l.more (P := Tryz.prog) (fr := fr) (B' := B') (t := 47) u47 i54 (by decide) (by omega) hfr hB' (fun hm => by
    simp only [List.mem_cons, List.mem_append] at hm
    rcases hm with hm | hm | hm | hm
    · omega
    · omega
    · have := r1 _ hm; omega
    · have := r2 _ hm; omega) hx hl hk0 (hr.imp fun v u => Rd.imp (fun id ⟨c1, c2⟩ => ⟨⟨by omega, c2, fun hm => by
    simp only [List.mem_cons, List.mem_append] at hm
    rcases hm with hm | hm | hm | hm
    · omega
    · omega
    · have := r1 _ hm; omega
    · have := r2 _ hm; omega, fun hm => by have := r0 _ hm; omega⟩, fun E sz fz c hc => ⟨fz, hc⟩⟩) 2 v u) (by omega) (by omega)
  have hRR : R = fr ∨ R < B := by
    rcases e2 with q' | q'
    · exact .inl q'
    · exact .inr (r0 _ q').2.1
  have hRX : 10 ≤ R ∧ R ≠ a ∧ R ≠ b := by
    rcases e2 with q' | q'
    · omega
    · have := r0 _ q'
      simp only [List.mem_cons, not_or] at this
      exact ⟨this.1, this.2.2.1, this.2.2.2.1⟩
  exact ⟨R, ob, e1, hRX.1, hRX.2.1, hRX.2.2, hRR, e2, e3, other q.q (v := vl) (fun y hy => by simp [hy]) hfr (by omega) e2 (fun y hy => inX1 hy), other q.m (v := vl) (fun y hy => by simp [hy]) hfr (by omega) e2 (fun y hy => inX1 hy), by omega, by omega⟩
theorem St.addQ (q : St a b B h vl vq vm Ll Lq Lm nl nq nm) (hfr : B ≤ fr) (hB' : fr < B') (hx : Ac.cellsOf h 4 x = some (xs, k)) (hl : xs.length = k * 4) (hk0 : 0 < k) (hr : RdL (Rd (fun id => B ≤ id ∧ id < fr) h 1) xs ys) (hn : nq + k ≤ 1000000) :
    ∃ R ob, appO Tryz.prog h fr [vq, x] [51, 51] = some (.w (.ow R ((nq + k) * 4) 0 (nq + k)) R ob) ∧ 10 ≤ R ∧ R ≠ a ∧ R ≠ b ∧ (R = fr ∨ R < B) ∧ (R = fr ∨ R ∈ rootL vq) ∧ St a b B' (h.set R ob) vl (.ow R ((nq + k) * 4) 0 (nq + k)) vm Ll (Lq ++ ys) Lm nl (nq + k) nm := by
  have ha := q.ha
  have hb := q.hb
  have r0 := q.l.root
  have r1 := q.q.root
  have r2 := q.m.root
  obtain ⟨R, ob, e1, e2, e3⟩ := q.q.more (P := Tryz.prog) (fr := fr) (B' := B') (t := 51) u51 i58 (by decide) (by omega) hfr hB' (fun hm => by
    simp only [List.mem_cons, List.mem_append] at hm
    rcases hm with hm | hm | hm | hm
    · omega
    · omega
    · have := r0 _ hm; omega
    · have := r2 _ hm; omega) hx hl hk0 (hr.imp fun v u => Rd.imp (fun id ⟨c1, c2⟩ => ⟨⟨by omega, c2, fun hm => by
    simp only [List.mem_cons, List.mem_append] at hm
    rcases hm with hm | hm | hm | hm
    · omega
    · omega
    · have := r0 _ hm; omega
    · have := r2 _ hm; omega, fun hm => by have := r1 _ hm; omega⟩, fun E sz fz c hc => ⟨fz, hc⟩⟩) 1 v u) (by omega) (by omega)
  have hRR : R = fr ∨ R < B := by
    rcases e2 with q' | q'
    · exact .inl q'
    · exact .inr (r1 _ q').2.1
  have hRX : 10 ≤ R ∧ R ≠ a ∧ R ≠ b := by
    rcases e2 with q' | q'
    · omega
    · have := r1 _ q'
      simp only [List.mem_cons, not_or] at this
      exact ⟨this.1, this.2.2.1, this.2.2.2.1⟩
  exact ⟨R, ob, e1, hRX.1, hRX.2.1, hRX.2.2, hRR, e2, other q.l (v := vq) (fun y hy => by simp [hy]) hfr (by omega) e2 (fun y hy => inX1 hy), e3, other q.m (v := vq) (fun y hy => by simp [hy]) hfr (by omega) e2 (fun y hy => inX2 hy), by omega, by omega⟩
theorem St.addM (q : St a b B h vl vq vm Ll Lq Lm nl nq nm) (hfr : B ≤ fr) (hB' : fr < B') (hx : Ac.cellsOf h 4 x = some (xs, k)) (hl : xs.length = k * 4) (hk0 : 0 < k) (hr : RdL (Rd (fun id => B ≤ id ∧ id < fr) h 1) xs ys) (hn : nm + k ≤ 1000000) :
    ∃ R ob, appO Tryz.prog h fr [vm, x] [51, 51] = some (.w (.ow R ((nm + k) * 4) 0 (nm + k)) R ob) ∧ 10 ≤ R ∧ R ≠ a ∧ R ≠ b ∧ (R = fr ∨ R < B) ∧ (R = fr ∨ R ∈ rootL vm) ∧ St a b B' (h.set R ob) vl vq (.ow R ((nm + k) * 4) 0 (nm + k)) Ll Lq (Lm ++ ys) nl nq (nm + k) := by
  have ha := q.ha
  have hb := q.hb
  have r0 := q.l.root
  have r1 := q.q.root
  have r2 := q.m.root
  obtain ⟨R, ob, e1, e2, e3⟩ := q.m.more (P := Tryz.prog) (fr := fr) (B' := B') (t := 51) u51 i58 (by decide) (by omega) hfr hB' (fun hm => by
    simp only [List.mem_cons, List.mem_append] at hm
    rcases hm with hm | hm | hm | hm
    · omega
    · omega
    · have := r0 _ hm; omega
    · have := r1 _ hm; omega) hx hl hk0 (hr.imp fun v u => Rd.imp (fun id ⟨c1, c2⟩ => ⟨⟨by omega, c2, fun hm => by
    simp only [List.mem_cons, List.mem_append] at hm
    rcases hm with hm | hm | hm | hm
    · omega
    · omega
    · have := r0 _ hm; omega
    · have := r1 _ hm; omega, fun hm => by have := r2 _ hm; omega⟩, fun E sz fz c hc => ⟨fz, hc⟩⟩) 1 v u) (by omega) (by omega)
  have hRR : R = fr ∨ R < B := by
    rcases e2 with q' | q'
    · exact .inl q'
    · exact .inr (r2 _ q').2.1
  have hRX : 10 ≤ R ∧ R ≠ a ∧ R ≠ b := by
    rcases e2 with q' | q'
    · omega
    · have := r2 _ q'
      simp only [List.mem_cons, not_or] at this
      exact ⟨this.1, this.2.2.1, this.2.2.2.1⟩
  exact ⟨R, ob, e1, hRX.1, hRX.2.1, hRX.2.2, hRR, e2, other q.l (v := vm) (fun y hy => by simp [hy]) hfr (by omega) e2 (fun y hy => inX2 hy), other q.q (v := vm) (fun y hy => by simp [hy]) hfr (by omega) e2 (fun y hy => inX2 hy), e3, by omega, by omega⟩
end
end Go.Proofs.YtcbngkmmmfaaoaaGreatDoor
namespace Go.Ac
open Go.RowKit
theorem same_of_frzL {p : Nat → Prop} {d : Nat} (ih : ∀ (h : AH) (v u u' : PV) (h' : AH), Rd p h d v u → frz d v h = some (u', h') → ∀ id, ¬ p id → h'.get id = h.get id) : ∀ (l m m' : List PV) (h h' : AH), RdL (Rd p h d) l m → frzL (frz d) l h = some (m', h') → ∀ id, ¬ p id → h'.get id = h.get id
  | [], [], m', h, h', _, e, id, _ => by
    simp only [frzL, Option.some.injEq, Prod.mk.injEq] at e
    rw [← e.2]
  | v :: l, u :: m, m', h, h', ⟨a, b⟩, e, id, hp => by
    obtain ⟨_, h1, e1, z1⟩ := Rd.frz d h v u a
    simp only [frzL, e1] at e
    cases e2 : frzL (frz d) l h1 with
    | none => rw [e2] at e; simp at e
    | some x =>
      rw [e2] at e
      simp only [Option.some.injEq, Prod.mk.injEq] at e
      rw [← e.2, same_of_frzL ih l m x.1 h1 x.2 (b.imp fun _ _ q => q.fzn z1) e2 id hp, ih h v u u h1 a e1 id hp]
  | [], _ :: _, _, _, _, h, _, _, _ => h.elim
  | _ :: _, [], _, _, _, h, _, _, _ => h.elim
theorem same_of_frz {p : Nat → Prop} : ∀ (d : Nat) (h : AH) (v u u' : PV) (h' : AH), Rd p h d v u → frz d v h = some (u', h') → ∀ id, ¬ p id → h'.get id = h.get id
  | 0, h, v, u, u', h', ⟨q1, _⟩, e, id, _ => by
    rw [frz_clean h q1] at e
    cases e
    rfl
  | d + 1, h, v, u, u', h', q, e, id, hp => by
    rcases q with ⟨q1, _⟩ | ⟨q1, q2⟩
    · rw [frz_clean h q1] at e
      cases e
      rfl
    · have ih := same_of_frzL (p := p) (d := d) (same_of_frz d)
      cases v with
      | ow i tot off len =>
        obtain ⟨E, sz, fz, c, c', a1, a2, a3, a4, a5, rfl⟩ := q2
        rw [Ac.frz, if_neg (by rw [q1]; simp)] at e
        simp only [a2] at e
        rw [if_pos ⟨a3, a4⟩] at e
        have z := Fzn.set a2
        cases e2 : frzL (frz d) ((c.drop off).take (len * sz)) (h.set i (.cells E sz true c)) with
        | none => rw [e2] at e; simp at e
        | some x =>
          rw [e2] at e
          simp only [Option.some.injEq, Prod.mk.injEq] at e
          rw [← e.2, ih _ _ x.1 _ x.2 (a5.imp fun _ _ q => q.fzn z) e2 id hp]
          simp only [AH.get_set, show ¬ id = i from fun w => hp (w ▸ a1), if_false]
      | ptr i tot off =>
        obtain ⟨E, sz, fz, c, c', a1, a2, a3, a5, rfl⟩ := q2
        rw [Ac.frz, if_neg (by rw [q1]; simp)] at e
        simp only [a2] at e
        rw [if_pos a3] at e
        have z := Fzn.set a2
        cases e2 : frzL (frz d) (c.drop off) (h.set i (.cells E sz true c)) with
        | none => rw [e2] at e; simp at e
        | some x =>
          rw [e2] at e
          simp only [Option.some.injEq, Prod.mk.injEq] at e
          rw [← e.2, ih _ _ x.1 _ x.2 (a5.imp fun _ _ q => q.fzn z) e2 id hp]
          simp only [AH.get_set, show ¬ id = i from fun w => hp (w ▸ a1), if_false]
      | fn k a b =>
        cases k with
        | func k =>
          obtain ⟨a', b', a1, a2, rfl⟩ := q2
          obtain ⟨_, h1, e1, z1⟩ := RdL.frz (Rd.frz d) _ _ h a1
          rw [Ac.frz, if_neg (by rw [q1]; simp)] at e
          simp only [e1] at e
          cases e2 : frzL (frz d) b h1 with
          | none => rw [e2] at e; simp at e
          | some x =>
            rw [e2] at e
            simp only [Option.some.injEq, Prod.mk.injEq] at e
            rw [← e.2, ih _ _ x.1 _ x.2 (a2.imp fun _ _ q => q.fzn z1) e2 id hp, ih _ _ a' _ h1 a1 e1 id hp]
        | _ => exact q2.elim
      | agg c =>
        obtain ⟨c', a1, rfl⟩ := q2
        rw [Ac.frz, if_neg (by rw [q1]; simp)] at e
        cases e2 : frzL (frz d) c h with
        | none => simp only [e2] at e; simp at e
        | some x =>
          simp only [e2, Option.some.injEq, Prod.mk.injEq] at e
          rw [← e.2]
          exact ih _ _ x.1 _ x.2 a1 e2 id hp
      | tup c =>
        obtain ⟨c', a1, rfl⟩ := q2
        rw [Ac.frz, if_neg (by rw [q1]; simp)] at e
        cases e2 : frzL (frz d) c h with
        | none => simp only [e2] at e; simp at e
        | some x =>
          simp only [e2, Option.some.injEq, Prod.mk.injEq] at e
          rw [← e.2]
          exact ih _ _ x.1 _ x.2 a1 e2 id hp
      | _ => exact q2.elim
end Go.Ac
namespace Go.Proofs.YtcbngkmmmfaaoaaGreatDoor
open Go.RowKit Go.Lib Go.Ac
set_option linter.unusedSimpArgs false
set_option maxRecDepth 100000
theorem via_rdP {P : Program} {G : Glob} {md : FuncId → Md} {p : Nat → Prop} {k : FuncId} {fn : Func} {c : Code} {args args' : List PV} {h : AH} {v : PV} (hf : P.funcs[k]? = some fn) (hb : fn.body = some c) (hn : (fn.name == "runtime.NumGoroutine") = false) (hm : md k = .pure) (hcl : PV.cleans args = false) (hr : RdL (Rd p h 100) args args')
    (hk : ∀ h fr, CR P G md (.fn k) args' h fr (.val v)) : ∃ v' h', (∀ fr, CR P G md (.fn k) args h fr (.sh v' h')) ∧ (v' = v ∧ h'.next = h.next ∧ ∀ id, ¬ p id → h'.get id = h.get id) := by
  obtain ⟨c1, h1, e1, z1⟩ := hr.frz100
  exact ⟨v, h1, fun fr => CR.viaFrz hf hb hn hm hcl e1 c1 hk fr, rfl, z1.next, same_of_frzL (same_of_frz 100) _ _ _ _ _ hr e1⟩
theorem rdOwP {α : Type} {f : α → List PV} {sz : Nat} {l : List α} {H : AH} {p : Nat → Prop} {d id tot n : Nat} {E : TypeId} {fz : Bool} (hp : p id) (hz : ∀ x, (f x).length = sz) (hcl : ∀ x, PV.cleans (f x) = true) (hg : H.get id = some (.cells E sz fz (flat f l))) (hn : n = l.length) (ht : tot = n * sz) (h0 : 0 < l.length) : Rd p H (d + 1) (.ow id tot 0 n) (rowN f l) := by
  rw [rowN_pos h0, ht]
  unfold rowV
  rw [← hn]
  exact Rd.row hp hg (by rw [flat_len hz, hn]) (RdL.of_clean (flat_clean hcl l))
def RowD (X : List Nat) (B : Nat) (h : AH) (v : PV) (l : List Dn) : Prop := RowP 2 X 10 B h 54 5 v (flat Dn.pv l) l.length
theorem RowD.add {B B' fr : Nat} {h : AH} {v x : PV} {l m : List Dn} {xs : List PV} (q : RowD [] B h v l) (h10 : 10 ≤ B) (hfr : B ≤ fr) (hB' : fr < B') (hx : Ac.cellsOf h 5 x = some (xs, m.length)) (hk0 : 0 < m.length) (hr : RdL (Rd (fun id => B ≤ id ∧ id < fr) h 2) xs (flat Dn.pv m)) (hn : l.length + m.length ≤ 1000000) :
    ∃ R ob, appO Tryz.prog h fr [v, x] [47, 47] = some (.w (.ow R ((l ++ m).length * 5) 0 (l ++ m).length) R ob) ∧ 10 ≤ R ∧ (R = fr ∨ R < B) ∧ RowD [] B' (h.set R ob) (.ow R ((l ++ m).length * 5) 0 (l ++ m).length) (l ++ m) := by
  have r0 := RowP.root q
  have hl : xs.length = m.length * 5 := by rw [← hr.len]; exact flat_len (f := Dn.pv) (fun _ => rfl) m
  obtain ⟨R, ob, e1, e2, e3⟩ := RowP.more q (P := Tryz.prog) (fr := fr) (B' := B') (t := 47) u47 i54 (by decide) (by omega) hfr hB' (by simp) hx hl hk0 (hr.imp fun v u => Rd.imp (fun id ⟨c1, c2⟩ => ⟨⟨by omega, c2, by simp, fun hm => by have := r0 _ hm; omega⟩, fun E sz fz c hc => ⟨fz, hc⟩⟩) 2 v u) (by omega) (by omega)
  rw [← flat_app, ← List.length_append] at e3
  rw [← List.length_append] at e1
  refine ⟨R, ob, e1, ?_, ?_, e3⟩
  · rcases e2 with q' | q'
    · omega
    · exact (r0 _ q').1
  · rcases e2 with q' | q'
    · exact .inl q'
    · exact .inr (r0 _ q').2.1
def StD (a b B : Nat) (h : AH) (vl vq vm : PV) (l : List Dn) (q m : List Ot) : Prop := St a b B h vl vq vm (flat Dn.pv l) (flat Ot.pv q) (flat Ot.pv m) l.length q.length m.length
section
variable {a b B B' fr : Nat} {h : AH} {vl vq vm x : PV} {l l' : List Dn} {q q' m m' : List Ot} {xs : List PV}
theorem StD.addL (s : StD a b B h vl vq vm l q m) (hfr : B ≤ fr) (hB' : fr < B') (hx : Ac.cellsOf h 5 x = some (xs, l'.length)) (hk0 : 0 < l'.length) (hr : RdL (Rd (fun id => B ≤ id ∧ id < fr) h 2) xs (flat Dn.pv l')) (hn : l.length + l'.length ≤ 1000000) :
    ∃ R ob, appO Tryz.prog h fr [vl, x] [47, 47] = some (.w (.ow R ((l ++ l').length * 5) 0 (l ++ l').length) R ob) ∧ 10 ≤ R ∧ R ≠ a ∧ R ≠ b ∧ (R = fr ∨ R < B) ∧ (R = fr ∨ R ∈ rootL vl) ∧ StD a b B' (h.set R ob) (.ow R ((l ++ l').length * 5) 0 (l ++ l').length) vq vm (l ++ l') q m := by
  obtain ⟨R, ob, e1, e2, e3, e4, e5, e7, e6⟩ := St.addL s hfr hB' hx (by rw [← hr.len]; exact flat_len (f := Dn.pv) (fun _ => rfl) l') hk0 hr hn
  rw [← flat_app, ← List.length_append] at e6
  rw [← List.length_append] at e1
  exact ⟨R, ob, e1, e2, e3, e4, e5, e7, e6⟩
theorem StD.addQ (s : StD a b B h vl vq vm l q m) (hfr : B ≤ fr) (hB' : fr < B') (hx : Ac.cellsOf h 4 x = some (xs, q'.length)) (hk0 : 0 < q'.length) (hr : RdL (Rd (fun id => B ≤ id ∧ id < fr) h 1) xs (flat Ot.pv q')) (hn : q.length + q'.length ≤ 1000000) :
    ∃ R ob, appO Tryz.prog h fr [vq, x] [51, 51] = some (.w (.ow R ((q ++ q').length * 4) 0 (q ++ q').length) R ob) ∧ 10 ≤ R ∧ R ≠ a ∧ R ≠ b ∧ (R = fr ∨ R < B) ∧ (R = fr ∨ R ∈ rootL vq) ∧ StD a b B' (h.set R ob) vl (.ow R ((q ++ q').length * 4) 0 (q ++ q').length) vm l (q ++ q') m := by
  obtain ⟨R, ob, e1, e2, e3, e4, e5, e7, e6⟩ := St.addQ s hfr hB' hx (by rw [← hr.len]; exact flat_len (f := Ot.pv) (fun _ => rfl) q') hk0 hr hn
  rw [← flat_app, ← List.length_append] at e6
  rw [← List.length_append] at e1
  exact ⟨R, ob, e1, e2, e3, e4, e5, e7, e6⟩
theorem StD.addM (s : StD a b B h vl vq vm l q m) (hfr : B ≤ fr) (hB' : fr < B') (hx : Ac.cellsOf h 4 x = some (xs, m'.length)) (hk0 : 0 < m'.length) (hr : RdL (Rd (fun id => B ≤ id ∧ id < fr) h 1) xs (flat Ot.pv m')) (hn : m.length + m'.length ≤ 1000000) :
    ∃ R ob, appO Tryz.prog h fr [vm, x] [51, 51] = some (.w (.ow R ((m ++ m').length * 4) 0 (m ++ m').length) R ob) ∧ 10 ≤ R ∧ R ≠ a ∧ R ≠ b ∧ (R = fr ∨ R < B) ∧ (R = fr ∨ R ∈ rootL vm) ∧ StD a b B' (h.set R ob) vl vq (.ow R ((m ++ m').length * 4) 0 (m ++ m').length) l q (m ++ m') := by
  obtain ⟨R, ob, e1, e2, e3, e4, e5, e7, e6⟩ := St.addM s hfr hB' hx (by rw [← hr.len]; exact flat_len (f := Ot.pv) (fun _ => rfl) m') hk0 hr hn
  rw [← flat_app, ← List.length_append] at e6
  rw [← List.length_append] at e1
  exact ⟨R, ob, e1, e2, e3, e4, e5, e7, e6⟩
end
variable {mx : Int}
theorem own_len {x : List UInt8} (h : ownB mx x = true) : x.length ≤ 24 := by
  simp only [ownB, nmB, Bool.and_eq_true, decide_eq_true_eq] at h
  exact h.1.2.1.1.2
theorem Sc.ok.olen {s : Sc} (h : s.ok mx) {o : Ob} (ho : o ∈ s.os) : o.n.length ≤ 24 := by
  have := h.named
  simp only [namedB, Bool.and_eq_true, List.all_eq_true] at this
  exact own_len (this.1.1 o ho)
theorem Sc.ok.elen {s : Sc} (h : s.ok mx) {e : En} (he : e ∈ s.es) : e.n.length ≤ 24 := by
  have := h.named
  simp only [namedB, Bool.and_eq_true, List.all_eq_true, enmB] at this
  exact own_len (this.2 e he).1
theorem Sc.ok.tlen {s : Sc} (h : s.ok mx) {o : Ob} (ho : o ∈ s.os) {f : Fld} (hf : f ∈ o.fs) : f.t.length ≤ 24 := by
  have ht := typedB_iff.1 (h.typed o ho f hf)
  rcases ht with ⟨h1, _⟩ | ⟨_, h1, _⟩
  · rcases propB_iff.1 h1 with h2 | h2
    · simp only [scalar, Bool.or_eq_true, decide_eq_true_eq] at h2
      rcases h2 with ((h2 | h2) | h2) | h2 <;> rw [h2] <;> decide
    · obtain ⟨e, he, q⟩ := List.mem_map.1 h2
      rw [← q]
      exact h.elen he
  · obtain ⟨q, hq, e⟩ := List.mem_map.1 h1
    rw [← e]
    exact h.olen hq
end Go.Proofs.YtcbngkmmmfaaoaaGreatDoor
