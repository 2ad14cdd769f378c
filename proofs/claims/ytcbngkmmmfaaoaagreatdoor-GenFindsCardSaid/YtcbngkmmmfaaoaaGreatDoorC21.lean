/-
  A PURE MACHINE FOR THE MODEL'S CODE, 21: calls on the caller's heap; rows that come back; texts gone through by their characters.
-/
import Derived.Test.YtcbngkmmmfaaoaaGreatDoorC20
namespace Go.Ac
open Go.RowKit
set_option linter.unusedSimpArgs false

section
variable {P : Program} {G : Glob} {md : FuncId → Md} {ρ : Operand → PV} {h : AH} {fr : Nat} {d : Option Tmp} {ty : TypeId} {ps : String} {af : Array Edge} {gu : Option (Nat × Bool)}

theorem up_set (id n : Nat) (o : AO) : (h.set id o).up n = (h.up n).set id o := rfl
theorem up_up (a b : Nat) : (h.up a).up b = h.up (a + b) := by
  unfold AH.up
  simp [Nat.add_assoc]

theorem aop_makeFunc (k : FuncId) (first cap : Array Operand) : aop P ρ h fr ⟨d, .makeFunc (.func k) first cap, ty, ps, af, gu⟩ = some (.q (.fn (.func k) (first.toList.map ρ) (cap.toList.map ρ))) := rfl
def mmO (b : Builtin) (args : List PV) : Option OR := match b, args with
  | .min, [.int k x, .int _ y] => some (.q (.int k (if y < x then y else x)))
  | .max, [.int k x, .int _ y] => some (.q (.int k (if y > x then y else x)))
  | _, _ => none
theorem aop_minO (args : Array Operand) (ts : Array TypeId) : aop P ρ h fr ⟨d, .call { callee := .builtin .min, args := args, argTypes := ts }, ty, ps, af, gu⟩ = mmO .min (args.toList.map ρ) := by
  simp only [aop, mmO]
  generalize args.toList.map ρ = l
  generalize ts.toList = m
  match l with
  | [] => rfl
  | [x] => cases x <;> rfl
  | [x, y] => cases x <;> cases y <;> rfl
  | x :: y :: _ :: _ => cases x <;> cases y <;> rfl
theorem aop_maxO (args : Array Operand) (ts : Array TypeId) : aop P ρ h fr ⟨d, .call { callee := .builtin .max, args := args, argTypes := ts }, ty, ps, af, gu⟩ = mmO .max (args.toList.map ρ) := by
  simp only [aop, mmO]
  generalize args.toList.map ρ = l
  generalize ts.toList = m
  match l with
  | [] => rfl
  | [x] => cases x <;> rfl
  | [x, y] => cases x <;> cases y <;> rfl
  | x :: y :: _ :: _ => cases x <;> cases y <;> rfl
theorem mm_min (k k' : IntKind) (x y : Int) : mmO .min [.int k x, .int k' y] = some (.q (.int k (min x y))) := by
  simp only [mmO]
  congr 3
  split <;> omega
theorem mm_max (k k' : IntKind) (x y : Int) : mmO .max [.int k x, .int k' y] = some (.q (.int k (max x y))) := by
  simp only [mmO]
  congr 3
  split <;> omega

theorem frzL_clean {dd : Nat} : ∀ (l : List PV) (h : AH), PV.cleans l = true → frzL (frz dd) l h = some (l, h)
  | [], h, _ => rfl
  | v :: r, h, e => by
    simp only [PV.cleans, Bool.and_eq_true] at e
    have : frz dd v h = some (v, h) := by cases dd <;> simp [frz, e.1]
    simp only [frzL, this, frzL_clean r h e.2]
theorem frz_clean {dd : Nat} {v : PV} (h : AH) (e : v.clean = true) : frz dd v h = some (v, h) := by cases dd <;> simp [frz, e]
theorem frz_ow {dd id m : Nat} {E : TypeId} {fz : Bool} {c : List PV} (hg : h.get id = some (.cells E 1 fz c)) (hc : c.length = m) (hcl : PV.cleans c = true) : frz (dd + 1) (.ow id m 0 m) h = some (.ro c m, h.set id (.cells E 1 true c)) := by
  rw [frz, if_neg (by simp [PV.clean])]
  simp only [hg]
  rw [if_pos ⟨hc, by omega⟩, show ((c.drop 0).take (m * 1)) = c by simp [← hc], frzL_clean c _ hcl]
/-- A pointer to clean cells, made read-only. -/
theorem frz_ptr {dd id tot off sz : Nat} {E : TypeId} {fz : Bool} {c : List PV} (hg : h.get id = some (.cells E sz fz c)) (hc : c.length = tot) (hcl : PV.cleans c = true) : frz (dd + 1) (.ptr id tot off) h = some (.rop (c.drop off), h.set id (.cells E sz true c)) := by
  rw [frz, if_neg (by simp [PV.clean])]
  simp only [hg]
  rw [if_pos hc, frzL_clean _ _ (PV.cleans_drop _ hcl)]
/-- A function that holds such a one, made read-only. -/
theorem frz_cap {dd id tot sz : Nat} {E : TypeId} {fz : Bool} {c : List PV} (k : FuncId) (hg : h.get id = some (.cells E sz fz c)) (hc : c.length = tot) (hcl : PV.cleans c = true) : frz (dd + 2) (.fn (.func k) [] [.ptr id tot 0]) h = some (.fn (.func k) [] [.rop c], h.set id (.cells E sz true c)) := by
  rw [frz, if_neg (by simp [PV.clean, PV.cleans])]
  simp only [frzL, frz_ptr (dd := dd) (off := 0) hg hc hcl, List.drop_zero]
theorem frz_cap100 {id tot sz : Nat} {E : TypeId} {fz : Bool} {c : List PV} (k : FuncId) (hg : h.get id = some (.cells E sz fz c)) (hc : c.length = tot) (hcl : PV.cleans c = true) : frz 100 (.fn (.func k) [] [.ptr id tot 0]) h = some (.fn (.func k) [] [.rop c], h.set id (.cells E sz true c)) := frz_cap (dd := 98) k hg hc hcl

/-! ### A text gone through by its characters -/
def rangeO (P : Program) (fr : Nat) (t : TypeId) (x : PV) : Option OR := match P.underlying t, x with
  | some .string, .str l => some (.w (.iter fr) fr (.siter l 0))
  | _, _ => none
theorem aop_range (t : TypeId) (x : Operand) : aop P ρ h fr ⟨d, .range t x, ty, ps, af, gu⟩ = rangeO P fr t (ρ x) := by
  simp only [aop, rangeO]
  generalize P.underlying t = u
  generalize ρ x = y
  rcases u with _ | u
  · rfl
  · cases u <;> cases y <;> rfl
theorem range_str {t : TypeId} {l : List UInt8} (hu : P.underlying t = some .string) : rangeO P fr t (.str l) = some (.w (.iter fr) fr (.siter l 0)) := by simp [rangeO, hu]
def nextO (h : AH) (x : PV) : Option OR := match x with
  | .iter id => match h.get id with
    | some (.siter s pos) =>
      if pos < s.length then
        some (.w (.tup [.bool true, .int .i64 pos, .int .i32 (Utf8.decode ⟨s.toArray⟩ pos).1]) id (.siter s (pos + (Utf8.decode ⟨s.toArray⟩ pos).2)))
      else some (.q (.tup [.bool false]))
    | _ => none
  | _ => none
theorem aop_nextS (x : Operand) : aop P ρ h fr ⟨d, .next x true, ty, ps, af, gu⟩ = nextO h (ρ x) := rfl
theorem next_more {id pos : Nat} {s : List UInt8} (hg : h.get id = some (.siter s pos)) (hp : pos < s.length) :
    nextO h (.iter id) = some (.w (.tup [.bool true, .int .i64 pos, .int .i32 (Utf8.decode ⟨s.toArray⟩ pos).1]) id (.siter s (pos + (Utf8.decode ⟨s.toArray⟩ pos).2))) := by
  simp only [nextO, hg, hp, if_true]
theorem next_end {id pos : Nat} {s : List UInt8} (hg : h.get id = some (.siter s pos)) (hp : ¬ pos < s.length) : nextO h (.iter id) = some (.q (.tup [.bool false])) := by
  simp only [nextO, hg, hp, if_false]

/-! ### Structs -/
def fldO (P : Program) (t : TypeId) (x : PV) (k : Nat) : Option OR := (fldV P t x k).map OR.q
theorem aop_field (t : TypeId) (x : Operand) (k : Nat) : aop P ρ h fr ⟨d, .field t x k, ty, ps, af, gu⟩ = fldO P t (ρ x) k := rfl
def fdaO (P : Program) (h : AH) (t : TypeId) (x : PV) (k : Nat) : Option OR := if liveB h x then (fldAddr P t x k).map OR.q else none
theorem aop_fieldAddr (t : TypeId) (x : Operand) (k : Nat) : aop P ρ h fr ⟨d, .fieldAddr t x k, ty, ps, af, gu⟩ = fdaO P h t (ρ x) k := rfl
/-- The place of a field within a struct. -/
def offOf (P : Program) (t : TypeId) (k : Nat) : Option Nat := match P.underlying t with
  | some (.struct fs) => match fs[k]? with
    | some f => match tySz P f.type with
      | some (_ + 1) => some f.offset
      | _ => none
    | none => none
  | _ => none
theorem fda_rop {t : TypeId} {k o : Nat} {c : List PV} (ho : offOf P t k = some o) : fdaO P h t (.rop c) k = some (.q (.rop (c.drop o))) := by
  unfold offOf at ho
  simp only [fdaO, liveB_rop, fldAddr, if_true]
  cases h1 : P.underlying t with
  | none => rw [h1] at ho; simp at ho
  | some u =>
    rw [h1] at ho
    cases u <;> first | (simp at ho; done) | skip
    rename_i fs
    simp only at ho ⊢
    cases h2 : fs[k]? with
    | none => rw [h2] at ho; simp at ho
    | some f =>
      rw [h2] at ho
      simp only at ho ⊢
      cases h3 : tySz P f.type with
      | none => rw [h3] at ho; simp at ho
      | some n =>
        rw [h3] at ho
        cases n with
        | zero => simp at ho
        | succ n =>
          obtain rfl := Option.some.inj ho
          rfl
theorem fda_ptr {t : TypeId} {k o id tot off : Nat} (ho : offOf P t k = some o) : fdaO P h t (.ptr id tot off) k = if liveG tot (h.get id) then some (.q (.ptr id tot (off + o))) else none := by
  unfold offOf at ho
  simp only [fdaO, liveB_ptr, fldAddr]
  cases h1 : P.underlying t with
  | none => rw [h1] at ho; simp at ho
  | some u =>
    rw [h1] at ho
    cases u <;> first | (simp at ho; done) | skip
    rename_i fs
    simp only at ho ⊢
    cases h2 : fs[k]? with
    | none => rw [h2] at ho; simp at ho
    | some f =>
      rw [h2] at ho
      simp only at ho ⊢
      cases h3 : tySz P f.type with
      | none => rw [h3] at ho; simp at ho
      | some n =>
        rw [h3] at ho
        cases n with
        | zero => simp at ho
        | succ n =>
          obtain rfl := Option.some.inj ho
          rfl
theorem load_agg {t : TypeId} {n : Nat} {c : List PV} (ha : tyAgg P t = some true) (hn : tySz P t = some n) (hl : n ≤ c.length) : loadO P t (some c) = some (.q (.agg (c.take n))) := by
  simp [loadO, readC, ha, hn, hl]
def nilO (h : AH) (x : PV) : Option OR := match x with
  | .ptr id tot off => if liveG tot (h.get id) then some (.q (.ptr id tot off)) else none
  | .rop c => some (.q (.rop c))
  | .fn (.func k) a b => some (.q (.fn (.func k) a b))
  | _ => none
theorem aop_nilCheck (x : Operand) : aop P ρ h fr ⟨d, .nilCheck x, ty, ps, af, gu⟩ = nilO h (ρ x) := by
  simp only [aop, nilO]
  generalize ρ x = y
  cases y <;> try rfl
  case fn f a b => cases f <;> rfl
  rename_i id tot off
  simp only
  generalize h.get id = o
  cases o with
  | none => rfl
  | some o => cases o <;> first | rfl | (simp [liveG])
theorem ida_roN {t e : TypeId} {c : List PV} {n sz : Nat} {k : IntKind} {i : Int} (hu : P.underlying t = some (.slice e)) (hs : tySz P e = some sz) (h0 : 0 ≤ i) (h1 : i < n) :
    idaO P h t (.ro c n) (.int k i) = some (.q (.rop (c.drop (i.toNat * sz)))) := by
  simp only [idaO, liveB_ro, idxAddr, hu, hs, if_true]
  rw [if_pos (show 0 ≤ i ∧ i < (n : Int) from ⟨h0, h1⟩)]
  rfl
theorem aop_alloc (t : TypeId) : aop P ρ h fr ⟨d, .alloc t, ty, ps, af, gu⟩ = (match tyZero P t with
  | some z => some (.w (.ptr fr z.length 0) fr (.cells t 0 false z))
  | none => none) := rfl
def bldO (P : Program) (t : TypeId) (parts : List (Nat × PV)) : Option OR := match P.underlying t, tyZero P t with
  | some (.struct fs), some z =>
    if fs.toList.all (fun fd => (tySz P fd.type).isSome) then
      (fillC (fun i => (fs[i]?).bind fun fd => (tySz P fd.type).map fun n => (fd.offset, n)) z parts).map fun c => .q (.agg c)
    else none
  | some (.array _ e), some z => match tySz P e with
    | some n => (fillC (fun i => some (i * n, n)) z parts).map fun c => .q (.agg c)
    | none => none
  | _, _ => none
theorem aop_build (t : TypeId) (parts : Array (Nat × Operand)) : aop P ρ h fr ⟨d, .build t parts, ty, ps, af, gu⟩ = bldO P t (parts.toList.map fun (i, x) => (i, ρ x)) := rfl
theorem fldAt {t : TypeId} {k : Nat} {c : List PV} {fs : Array Field} {f : Field} (hu : P.underlying t = some (.struct fs)) (hk : fs[k]? = some f) : fldO P t (.agg c) k = (readC P f.type (c.drop f.offset)).map OR.q := by
  simp [fldO, fldV, hu, hk]
end
end Go.Ac
