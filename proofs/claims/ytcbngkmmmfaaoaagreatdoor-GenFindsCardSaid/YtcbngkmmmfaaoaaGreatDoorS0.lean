/-
  SCHEMA AND GEN, S0: the types that are met; schemas as lists; the places of things in them.
-/
import Derived.Test.YtcbngkmmmfaaoaaGreatDoorF0
import Derived.Test.YtcbngkmmmfaaoaaGreatDoorC21
import Derived.IntWalk
namespace Go.Proofs.YtcbngkmmmfaaoaaGreatDoor
open Go.RowKit Go.Lib Go.Ac
set_option linter.unusedSimpArgs false
set_option maxRecDepth 100000

theorem u3 : Tryz.prog.underlying 3 = some (.int .i64) := by kernel_rfl
theorem u4 : Tryz.prog.underlying 4 = some .bool := by kernel_rfl
theorem u9 : Tryz.prog.underlying 9 = some .string := by kernel_rfl
theorem u22 : Tryz.prog.underlying 22 = some (.slice 41) := by kernel_rfl
theorem u23 : Tryz.prog.underlying 23 = some (.slice 45) := by kernel_rfl
theorem u39 : Tryz.prog.underlying 39 = some (.slice 33) := by kernel_rfl
theorem u43 : Tryz.prog.underlying 43 = some (.slice 9) := by kernel_rfl
theorem sz3 : tySz Tryz.prog 3 = some 1 := by kernel_rfl
theorem sz4 : tySz Tryz.prog 4 = some 1 := by kernel_rfl
theorem sz9 : tySz Tryz.prog 9 = some 1 := by kernel_rfl
theorem sz22 : tySz Tryz.prog 22 = some 1 := by kernel_rfl
theorem sz23 : tySz Tryz.prog 23 = some 1 := by kernel_rfl
theorem sz25 : tySz Tryz.prog 25 = some 2 := by kernel_rfl
theorem sz31 : tySz Tryz.prog 31 = some 2 := by kernel_rfl
theorem sz33 : tySz Tryz.prog 33 = some 5 := by kernel_rfl
theorem sz39 : tySz Tryz.prog 39 = some 1 := by kernel_rfl
theorem sz41 : tySz Tryz.prog 41 = some 2 := by kernel_rfl
theorem sz43 : tySz Tryz.prog 43 = some 1 := by kernel_rfl
theorem sz45 : tySz Tryz.prog 45 = some 2 := by kernel_rfl
theorem ag3 : tyAgg Tryz.prog 3 = some false := by kernel_rfl
theorem ag4 : tyAgg Tryz.prog 4 = some false := by kernel_rfl
theorem ag9 : tyAgg Tryz.prog 9 = some false := by kernel_rfl
theorem ag22 : tyAgg Tryz.prog 22 = some false := by kernel_rfl
theorem ag23 : tyAgg Tryz.prog 23 = some false := by kernel_rfl
theorem ag25 : tyAgg Tryz.prog 25 = some true := by kernel_rfl
theorem ag31 : tyAgg Tryz.prog 31 = some true := by kernel_rfl
theorem ag33 : tyAgg Tryz.prog 33 = some true := by kernel_rfl
theorem ag39 : tyAgg Tryz.prog 39 = some false := by kernel_rfl
theorem ag41 : tyAgg Tryz.prog 41 = some true := by kernel_rfl
theorem ag43 : tyAgg Tryz.prog 43 = some false := by kernel_rfl
theorem ag45 : tyAgg Tryz.prog 45 = some true := by kernel_rfl
theorem o25_0 : offOf Tryz.prog 25 0 = some 0 := by kernel_rfl
theorem o25_1 : offOf Tryz.prog 25 1 = some 1 := by kernel_rfl
theorem o31_0 : offOf Tryz.prog 31 0 = some 0 := by kernel_rfl
theorem o31_1 : offOf Tryz.prog 31 1 = some 1 := by kernel_rfl
theorem o33_0 : offOf Tryz.prog 33 0 = some 0 := by kernel_rfl
theorem o33_1 : offOf Tryz.prog 33 1 = some 1 := by kernel_rfl
theorem o33_2 : offOf Tryz.prog 33 2 = some 3 := by kernel_rfl
theorem o33_3 : offOf Tryz.prog 33 3 = some 4 := by kernel_rfl
theorem o41_0 : offOf Tryz.prog 41 0 = some 0 := by kernel_rfl
theorem o41_1 : offOf Tryz.prog 41 1 = some 1 := by kernel_rfl
theorem o45_0 : offOf Tryz.prog 45 0 = some 0 := by kernel_rfl
theorem o45_1 : offOf Tryz.prog 45 1 = some 1 := by kernel_rfl

/-! ### Schemas -/
structure Fld where
  n : List UInt8
  t : List UInt8
  w : List UInt8
  s : Bool
  inv : List UInt8
structure Ob where
  n : List UInt8
  fs : List Fld
structure En where
  n : List UInt8
  ws : List (List UInt8)
structure Sc where
  os : List Ob
  es : List En
/-- Things' cells, one behind the other. -/
def flat {α : Type} (f : α → List PV) : List α → List PV
  | [] => []
  | x :: l => f x ++ flat f l
/-- A row of things. -/
def rowV {α : Type} (f : α → List PV) (l : List α) : PV := .ro (flat f l) l.length
def Fld.pv (f : Fld) : List PV := [.str f.n, .str f.t, .str f.w, .bool f.s, .str f.inv]
def Ob.pv (o : Ob) : List PV := [.str o.n, rowV Fld.pv o.fs]
def strV (s : List UInt8) : List PV := [.str s]
def En.pv (e : En) : List PV := [.str e.n, rowV strV e.ws]
def Sc.pv (s : Sc) : List PV := [rowV Ob.pv s.os, rowV En.pv s.es]
theorem flat_drop {α : Type} {f : α → List PV} {z : Nat} (hz : ∀ x, (f x).length = z) : ∀ (l : List α) (i : Nat) (x : α), l[i]? = some x → ∃ r, (flat f l).drop (i * z) = f x ++ r
  | [], i, x, h => by simp at h
  | y :: l, 0, x, h => by
    simp at h
    subst h
    exact ⟨flat f l, by simp [flat]⟩
  | y :: l, i + 1, x, h => by
    obtain ⟨r, hr⟩ := flat_drop hz l i x (by simpa using h)
    refine ⟨r, ?_⟩
    rw [flat, Nat.add_mul, Nat.one_mul, Nat.add_comm, ← List.drop_drop, show List.drop z (f y ++ flat f l) = flat f l by rw [← hz y]; simp]
    exact hr
theorem flat_clean {α : Type} {f : α → List PV} (h : ∀ x, PV.cleans (f x) = true) : ∀ l : List α, PV.cleans (flat f l) = true
  | [] => rfl
  | x :: l => by rw [flat, PV.cleans_append]; exact ⟨h x, flat_clean h l⟩
theorem flat_len {α : Type} {f : α → List PV} {z : Nat} (hz : ∀ x, (f x).length = z) : ∀ l : List α, (flat f l).length = l.length * z
  | [] => by simp [flat]
  | x :: l => by rw [flat, List.length_append, hz, flat_len hz l, List.length_cons, Nat.add_mul]; omega
theorem flat_app {α : Type} (f : α → List PV) (m : List α) : ∀ l : List α, flat f (l ++ m) = flat f l ++ flat f m
  | [] => rfl
  | x :: l => by rw [List.cons_append, flat, flat_app f m l, flat, List.append_assoc]
theorem flat_ones {α : Type} {f : α → List PV} (h : ∀ x, PV.ones (f x) = true) : ∀ l : List α, PV.ones (flat f l) = true
  | [] => rfl
  | x :: l => by rw [flat, PV.ones_append]; exact ⟨h x, flat_ones h l⟩
theorem Fld.cl (f : Fld) : PV.cleans f.pv = true := rfl
theorem Ob.cl (o : Ob) : PV.cleans o.pv = true := rfl
theorem En.cl (o : En) : PV.cleans o.pv = true := rfl
theorem Sc.cl (o : Sc) : PV.cleans o.pv = true := rfl

theorem ld25 (s : Sc) : loadO Tryz.prog 25 (some s.pv) = some (.q (.agg s.pv)) := load_agg (c := s.pv) ag25 sz25 (Nat.le_refl 2)
theorem ld33 (f : Fld) : loadO Tryz.prog 33 (some f.pv) = some (.q (.agg f.pv)) := load_agg (c := f.pv) ag33 sz33 (Nat.le_refl 5)
theorem ld41 (o : Ob) : loadO Tryz.prog 41 (some o.pv) = some (.q (.agg o.pv)) := load_agg (c := o.pv) ag41 sz41 (Nat.le_refl 2)
theorem ld45 (o : En) : loadO Tryz.prog 45 (some o.pv) = some (.q (.agg o.pv)) := load_agg (c := o.pv) ag45 sz45 (Nat.le_refl 2)
theorem ld33r (f : Fld) (r : List PV) : loadO Tryz.prog 33 (some (f.pv ++ r)) = some (.q (.agg f.pv)) := by
  rw [load_agg ag33 sz33 (by rw [List.length_append]; exact Nat.le_add_right 5 _), List.take_left' (show f.pv.length = 5 from rfl)]
theorem ld41r (o : Ob) (r : List PV) : loadO Tryz.prog 41 (some (o.pv ++ r)) = some (.q (.agg o.pv)) := by
  rw [load_agg ag41 sz41 (by rw [List.length_append]; exact Nat.le_add_right 2 _), List.take_left' (show o.pv.length = 2 from rfl)]
theorem ld45r (o : En) (r : List PV) : loadO Tryz.prog 45 (some (o.pv ++ r)) = some (.q (.agg o.pv)) := by
  rw [load_agg ag45 sz45 (by rw [List.length_append]; exact Nat.le_add_right 2 _), List.take_left' (show o.pv.length = 2 from rfl)]

theorem Sc.len (s : Sc) : s.pv.length = 2 := rfl
theorem Ob.len (s : Ob) : s.pv.length = 2 := rfl
theorem En.len (s : En) : s.pv.length = 2 := rfl
theorem Fld.len (s : Fld) : s.pv.length = 5 := rfl
theorem ld22 (s : Sc) : loadO Tryz.prog 22 (some s.pv) = some (.q (rowV Ob.pv s.os)) := loadO_one ag22 sz22
theorem ld23 (s : Sc) : loadO Tryz.prog 23 (some (List.drop 1 s.pv)) = some (.q (rowV En.pv s.es)) := loadO_one ag23 sz23
theorem ld9o (o : Ob) : loadO Tryz.prog 9 (some o.pv) = some (.q (.str o.n)) := loadO_one ag9 sz9
theorem ld9or (o : Ob) (r : List PV) : loadO Tryz.prog 9 (some (o.pv ++ r)) = some (.q (.str o.n)) := loadO_one ag9 sz9
theorem ld39o (o : Ob) : loadO Tryz.prog 39 (some (List.drop 1 o.pv)) = some (.q (rowV Fld.pv o.fs)) := loadO_one ag39 sz39
theorem ld39or (o : Ob) (r : List PV) : loadO Tryz.prog 39 (some (List.drop 1 (o.pv ++ r))) = some (.q (rowV Fld.pv o.fs)) := loadO_one ag39 sz39
theorem ld9e (o : En) : loadO Tryz.prog 9 (some o.pv) = some (.q (.str o.n)) := loadO_one ag9 sz9
theorem ld9er (o : En) (r : List PV) : loadO Tryz.prog 9 (some (o.pv ++ r)) = some (.q (.str o.n)) := loadO_one ag9 sz9
theorem ld43e (o : En) : loadO Tryz.prog 43 (some (List.drop 1 o.pv)) = some (.q (rowV strV o.ws)) := loadO_one ag43 sz43
theorem ld43er (o : En) (r : List PV) : loadO Tryz.prog 43 (some (List.drop 1 (o.pv ++ r))) = some (.q (rowV strV o.ws)) := loadO_one ag43 sz43
theorem ld9f0 (f : Fld) : loadO Tryz.prog 9 (some f.pv) = some (.q (.str f.n)) := loadO_one ag9 sz9
theorem ld9f0r (f : Fld) (r : List PV) : loadO Tryz.prog 9 (some (f.pv ++ r)) = some (.q (.str f.n)) := loadO_one ag9 sz9
theorem ld9f1 (f : Fld) : loadO Tryz.prog 9 (some (List.drop 1 f.pv)) = some (.q (.str f.t)) := loadO_one ag9 sz9
theorem ld9f1r (f : Fld) (r : List PV) : loadO Tryz.prog 9 (some (List.drop 1 (f.pv ++ r))) = some (.q (.str f.t)) := loadO_one ag9 sz9
theorem ld9f2 (f : Fld) : loadO Tryz.prog 9 (some (List.drop 2 f.pv)) = some (.q (.str f.w)) := loadO_one ag9 sz9
theorem ld9f2r (f : Fld) (r : List PV) : loadO Tryz.prog 9 (some (List.drop 2 (f.pv ++ r))) = some (.q (.str f.w)) := loadO_one ag9 sz9
theorem ld9f3 (f : Fld) : loadO Tryz.prog 4 (some (List.drop 3 f.pv)) = some (.q (.bool f.s)) := loadO_one ag4 sz4
theorem ld9f3r (f : Fld) (r : List PV) : loadO Tryz.prog 4 (some (List.drop 3 (f.pv ++ r))) = some (.q (.bool f.s)) := loadO_one ag4 sz4
theorem ld9f4 (f : Fld) : loadO Tryz.prog 9 (some (List.drop 4 f.pv)) = some (.q (.str f.inv)) := loadO_one ag9 sz9
theorem ld9f4r (f : Fld) (r : List PV) : loadO Tryz.prog 9 (some (List.drop 4 (f.pv ++ r))) = some (.q (.str f.inv)) := loadO_one ag9 sz9
theorem ld31f (f : Fld) : loadO Tryz.prog 31 (some (List.drop 1 f.pv)) = some (.q (.agg [.str f.t, .str f.w])) := load_agg (c := List.drop 1 f.pv) ag31 sz31 (by show 2 ≤ 4; omega)
theorem ln22 (l : List Ob) : lenO Tryz.prog [rowV Ob.pv l] [22] = some (.q (.int .i64 l.length)) := len_ro u22
theorem ln23 (l : List En) : lenO Tryz.prog [rowV En.pv l] [23] = some (.q (.int .i64 l.length)) := len_ro u23
theorem ln39 (l : List Fld) : lenO Tryz.prog [rowV Fld.pv l] [39] = some (.q (.int .i64 l.length)) := len_ro u39
theorem ln43 (l : List (List UInt8)) : lenO Tryz.prog [rowV strV l] [43] = some (.q (.int .i64 l.length)) := len_ro u43
/-- A thing's place in a row. -/
theorem ix22 {l : List Ob} {i : Int} {o : Ob} (h0 : 0 ≤ i) (ho : l[i.toNat]? = some o) : ∃ r, ∀ h, idaO Tryz.prog h 22 (rowV Ob.pv l) (.int .i64 i) = some (.q (.rop (o.pv ++ r))) := by
  obtain ⟨r, hr⟩ := flat_drop (f := Ob.pv) (z := 2) (fun _ => rfl) l i.toNat o ho
  have := (List.getElem?_eq_some_iff.1 ho).1
  exact ⟨r, fun h => by rw [← hr]; exact ida_roN u22 sz41 h0 (by omega)⟩
theorem ix23 {l : List En} {i : Int} {o : En} (h0 : 0 ≤ i) (ho : l[i.toNat]? = some o) : ∃ r, ∀ h, idaO Tryz.prog h 23 (rowV En.pv l) (.int .i64 i) = some (.q (.rop (o.pv ++ r))) := by
  obtain ⟨r, hr⟩ := flat_drop (f := En.pv) (z := 2) (fun _ => rfl) l i.toNat o ho
  have := (List.getElem?_eq_some_iff.1 ho).1
  exact ⟨r, fun h => by rw [← hr]; exact ida_roN u23 sz45 h0 (by omega)⟩
theorem ix39 {l : List Fld} {i : Int} {o : Fld} (h0 : 0 ≤ i) (ho : l[i.toNat]? = some o) : ∃ r, ∀ h, idaO Tryz.prog h 39 (rowV Fld.pv l) (.int .i64 i) = some (.q (.rop (o.pv ++ r))) := by
  obtain ⟨r, hr⟩ := flat_drop (f := Fld.pv) (z := 5) (fun _ => rfl) l i.toNat o ho
  have := (List.getElem?_eq_some_iff.1 ho).1
  exact ⟨r, fun h => by rw [← hr]; exact ida_roN u39 sz33 h0 (by omega)⟩
/-- The first place of one that is such; -1: there is none. -/
def idx {α : Type} (p : α → Bool) : List α → Nat → Int
  | [], _ => -1
  | x :: l, i => if p x then (i : Int) else idx p l (i + 1)
theorem idx_drop {α : Type} (p : α → Bool) (l : List α) : ∀ (i : Nat) (x : α), l[i]? = some x → idx p (l.drop i) i = if p x then (i : Int) else idx p (l.drop (i + 1)) (i + 1) := by
  intro i x h
  obtain ⟨hi, rfl⟩ := List.getElem?_eq_some_iff.1 h
  rw [List.drop_eq_getElem_cons hi]
  rfl
theorem idx_end {α : Type} (p : α → Bool) (l : List α) (i : Nat) (h : l.length ≤ i) : idx p (l.drop i) i = -1 := by
  rw [List.drop_eq_nil_of_le h]
  rfl

/-- A call whose arguments are made read-only. -/
theorem CR.viaFrz {P : Program} {G : Glob} {md : FuncId → Md} {k : FuncId} {fn : Func} {c : Code} {args args' : List PV} {h h1 : AH} {v : PV} (hf : P.funcs[k]? = some fn) (hb : fn.body = some c) (hn : (fn.name == "runtime.NumGoroutine") = false) (hm : md k = .pure) (hcl : PV.cleans args = false) (hz : frzL (frz 100) args h = some (args', h1)) (hcl' : PV.cleans args' = true)
    (hk : ∀ h fr, CR P G md (.fn k) args' h fr (.val v)) (fr : Nat) : CR P G md (.fn k) args h fr (.sh v h1) := by
  obtain ⟨n, he⟩ := hk AH.empty 0
  refine ⟨n, ?_⟩
  cases n with
  | zero => simp [runF] at he
  | succ n =>
    simp only [runF, callB, hf, hb, hn, hm, hcl, hz, Bool.false_eq_true, if_false]
    simp only [runF, callB, hf, hb, hn, hm, hcl', Bool.false_eq_true, if_false, if_true] at he
    cases hr : runP P G (runF P G md n) n fn c args' with
    | none => rw [hr] at he; simp at he
    | some r =>
      rw [hr] at he
      cases r with
      | val u =>
        simp only [Option.some.injEq, CRes.val.injEq] at he
        subst he
        rfl
      | pan u => simp at he
end Go.Proofs.YtcbngkmmmfaaoaaGreatDoor
