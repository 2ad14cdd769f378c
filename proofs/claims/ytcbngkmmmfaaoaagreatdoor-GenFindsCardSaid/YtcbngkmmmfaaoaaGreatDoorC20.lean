/-
  A PURE MACHINE FOR THE MODEL'S CODE, 20: rows of cells: the rows by which they are made, read, written, lengthened.
-/
import Derived.Test.YtcbngkmmmfaaoaaGreatDoorC19
namespace Go.Ac
open Go.RowKit
set_option linter.unusedSimpArgs false

section
variable {P : Program} {G : Glob} {md : FuncId → Md} {ρ : Operand → PV} {h : AH} {fr : Nat} {d : Option Tmp} {ty : TypeId} {ps : String} {af : Array Edge} {gu : Option (Nat × Bool)}

theorem next_empty : AH.empty.next = 0 := rfl

/-! ### What a number leads to -/
def liveG (tot : Nat) : Option AO → Bool
  | some (.cells _ _ _ c) => c.length = tot
  | _ => false
theorem liveB_ow (id tot off n : Nat) : liveB h (.ow id tot off n) = liveG tot (h.get id) := by
  simp only [liveB, liveG]
  cases h.get id with
  | none => rfl
  | some o => cases o <;> rfl
theorem liveB_ptr (id tot off : Nat) : liveB h (.ptr id tot off) = liveG tot (h.get id) := by
  simp only [liveB, liveG]
  cases h.get id with
  | none => rfl
  | some o => cases o <;> rfl
theorem liveG_cells (tot : Nat) (E : TypeId) (sz : Nat) (fz : Bool) (c : List PV) : liveG tot (some (.cells E sz fz c)) = decide (c.length = tot) := rfl
theorem liveB_ro (c : List PV) (n : Nat) : liveB h (.ro c n) = true := rfl
theorem liveB_nls : liveB h .nls = true := rfl
theorem liveB_rop (c : List PV) : liveB h (.rop c) = true := rfl
def cellsG (sz tot off n : Nat) : Option AO → Option (List PV × Nat)
  | some (.cells _ s _ c) => if c.length = tot ∧ s = sz ∧ off + n * sz ≤ tot then some ((c.drop off).take (n * sz), n) else none
  | _ => none
theorem cellsOf_ow (sz id tot off n : Nat) : cellsOf h sz (.ow id tot off n) = cellsG sz tot off n (h.get id) := by
  simp only [cellsOf, cellsG]
  cases h.get id with
  | none => rfl
  | some o => cases o <;> rfl
theorem cellsG_all {n : Nat} {E : TypeId} {fz : Bool} {c : List PV} (e : c.length = n) : cellsG 1 n 0 n (some (.cells E 1 fz c)) = some (c, n) := by
  simp only [cellsG, e, Nat.mul_one, List.drop_zero, Nat.zero_add, Nat.le_refl, and_self, if_true]
  rw [← e, List.take_length]
def stoG (id tot off : Nat) (x : PV) (n : Nat) : Option AO → Option OR
  | some (.cells E sz fz c) =>
      if fz = false ∧ c.length = tot ∧ x.goes = true ∧ x.cells.length = n ∧ off + n ≤ tot then
        some (.w .undef id (.cells E sz false (splice c off x.cells))) else none
  | _ => none
theorem storeO_ptr (id tot off : Nat) (x : PV) (n : Nat) : storeO h (.ptr id tot off) x (some n) = stoG id tot off x n (h.get id) := by
  simp only [storeO, stoG]
  cases h.get id with
  | none => rfl
  | some o => cases o <;> rfl
theorem splice_one (c : List PV) (off : Nat) (x : PV) (h : off < c.length) : splice c off [x] = c.set off x := by
  simp only [splice, List.length_singleton]
  rw [List.set_eq_take_append_cons_drop, if_pos h]
  simp
theorem stoG_int (id tot off sz : Nat) (E : TypeId) (k : IntKind) (a : Int) (c : List PV) : stoG id tot off (.int k a) 1 (some (.cells E sz false c)) = if c.length = tot ∧ off < tot then some (.w .undef id (.cells E sz false (c.set off (.int k a)))) else none := by
  simp only [stoG, PV.goes, PV.cells, List.length_singleton, true_and]
  by_cases e : c.length = tot ∧ off < tot
  · rw [if_pos e, if_pos ⟨e.1, by omega⟩, splice_one _ _ _ (by omega)]
  · rw [if_neg e, if_neg (by rintro ⟨a, b⟩; exact e ⟨a, by omega⟩)]
/-- All of a number's cells written anew. -/
theorem stoG_all (id tot sz : Nat) (E : TypeId) (x : PV) (c : List PV) (hc : c.length = tot) (hx : x.cells.length = tot) (hg : x.goes = true) : stoG id tot 0 x tot (some (.cells E sz false c)) = some (.w .undef id (.cells E sz false x.cells)) := by
  simp only [stoG, hc, hx, hg, true_and, Nat.zero_add, Nat.le_refl, and_self, if_true]
  have : splice c 0 x.cells = x.cells := by
    unfold splice
    rw [List.drop_eq_nil_of_le (by omega)]
    simp
  rw [this]

/-! ### Making -/
def buildO (P : Program) (fr : Nat) (t : TypeId) (len : Nat) (parts : List (Nat × PV)) : Option OR :=
  match P.underlying t with
    | some (.slice e) => match tySz P e, tyZero P e with
      | some n, some z =>
        if z.length = n ∧ 0 < n ∧ len * n ≤ 2 ^ 24 then
          (fillC (fun i => some (i * n, n)) (List.replicate len z).flatten parts).map fun c =>
            .w (if len = 0 then .els else .ow fr (len * n) 0 len) fr (.cells e n false c)
        else none
      | _, _ => none
    | _ => none
theorem aop_buildSlice (t : TypeId) (len : Nat) (parts : Array (Nat × Operand)) : aop P ρ h fr ⟨d, .buildSlice t len parts, ty, ps, af, gu⟩ = buildO P fr t len (parts.toList.map fun (i, x) => (i, ρ x)) := rfl
section
variable {t e : TypeId} {z : PV}
theorem build_0 (hu : P.underlying t = some (.slice e)) (hs : tySz P e = some 1) (hz : tyZero P e = some [z]) : buildO P fr t 0 [] = some (.w .els fr (.cells e 1 false [])) := by
  simp [buildO, hu, hs, hz, fillC]
/-- A row written out whole. -/
theorem build_all {n len : Nat} {zc : List PV} {parts : List (Nat × PV)} {c : List PV} (hu : P.underlying t = some (.slice e)) (hs : tySz P e = some n) (hz : tyZero P e = some zc) (hl : zc.length = n) (h0 : 0 < n) (hb : len * n ≤ 2 ^ 24) (hp : 0 < len)
    (hf : fillC (fun i => some (i * n, n)) (List.replicate len zc).flatten parts = some c) : buildO P fr t len parts = some (.w (.ow fr (len * n) 0 len) fr (.cells e n false c)) := by
  simp only [buildO, hu, hs, hz, hf, Option.map_some]
  rw [if_pos ⟨hl, h0, hb⟩, if_neg (by omega)]
end
theorem toB_int (k : IntKind) (n : Int) : toB (.int k n) = UInt8.ofNat n.toNat := rfl
def convG (_ : Nat) : Option (List PV × Nat) → Option OR
  | some (c, _) => if c.all byteC then some (.q (.str (c.map toB))) else none
  | none => none
theorem conv_bytes {s t e : TypeId} {id tot off n : Nat} (hs : P.underlying s = some (.slice e)) (he : P.underlying e = some (.int .u8)) (ht : P.underlying t = some .string) : convV P h fr s t (.ow id tot off n) = convG n (cellsOf h 1 (.ow id tot off n)) := by
  simp only [convV, hs, ht, he, convG]
  cases cellsOf h 1 (.ow id tot off n) with
  | none => rfl
  | some x =>
    obtain ⟨c, m⟩ := x
    rfl
theorem convG_some (n m : Nat) (c : List PV) : convG n (some (c, m)) = if c.all byteC then some (.q (.str (c.map toB))) else none := rfl
theorem byteC_int (a : Int) : byteC (.int .u8 a) = true := rfl

/-! ### Reading and writing a place -/
def idaO (P : Program) (h : AH) (t : TypeId) (x i : PV) : Option OR := if liveB h x then (idxAddr P t x i).map OR.q else none
theorem aop_idx (t : TypeId) (x i : Operand) : aop P ρ h fr ⟨d, .indexAddr t x i, ty, ps, af, gu⟩ = idaO P h t (ρ x) (ρ i) := rfl
theorem ida_ow {t e : TypeId} {id tot off n : Nat} {k : IntKind} {i : Int} (hu : P.underlying t = some (.slice e)) (hs : tySz P e = some 1) (h0 : 0 ≤ i) (h1 : i < n) :
    idaO P h t (.ow id tot off n) (.int k i) = if liveG tot (h.get id) then some (.q (.ptr id tot (off + i.toNat))) else none := by
  simp only [idaO, liveB_ow, idxAddr, hu, hs, Nat.mul_one]
  rw [if_pos (show 0 ≤ i ∧ i < (n : Int) from ⟨h0, h1⟩)]
  rfl
theorem ida_ro {t e : TypeId} {c : List PV} {n : Nat} {k : IntKind} {i : Int} (hu : P.underlying t = some (.slice e)) (hs : tySz P e = some 1) (h0 : 0 ≤ i) (h1 : i < n) :
    idaO P h t (.ro c n) (.int k i) = some (.q (.rop (c.drop i.toNat))) := by
  simp only [idaO, liveB_ro, idxAddr, hu, hs, Nat.mul_one, if_true]
  rw [if_pos (show 0 ≤ i ∧ i < (n : Int) from ⟨h0, h1⟩)]
  rfl
theorem behindO_cells (tot off : Nat) (E : TypeId) (sz : Nat) (fz : Bool) (c : List PV) : behindO tot off (some (.cells E sz fz c)) = if c.length = tot then some (c.drop off) else none := rfl
theorem load_drop {t : TypeId} {n i : Nat} {c : List PV} {v : PV} (ha : tyAgg P t = some false) (hn : tySz P t = some n) (hv : c[i]? = some v) : loadO P t (some (c.drop i)) = some (.q v) := by
  obtain ⟨hi, rfl⟩ := List.getElem?_eq_some_iff.1 hv
  rw [List.drop_eq_getElem_cons hi]
  exact loadO_one ha hn

/-! ### Lengthening -/
def appO (P : Program) (h : AH) (fr : Nat) (args : List PV) (ts : List TypeId) : Option OR := match args, ts with
  | [s, x], [t, u] => match P.underlying u with
      | some .string | some (.slice _) => appendV P h fr t s x
      | _ => none
  | _, _ => none
theorem aop_append (args : Array Operand) (ts : Array TypeId) : aop P ρ h fr ⟨d, .call { callee := .builtin .append, args := args, argTypes := ts }, ty, ps, af, gu⟩ = appO P h fr (args.toList.map ρ) ts.toList := by
  simp only [aop, appO]
  generalize args.toList.map ρ = l
  generalize ts.toList = m
  match l, m with
  | [], _ => rfl
  | [_], _ => rfl
  | [_, _], [] => rfl
  | [_, _], [_] => rfl
  | [_, _], [_, _] => rfl
  | [_, _], _ :: _ :: _ :: _ => rfl
  | _ :: _ :: _ :: _, _ => rfl
/-- A row of the machine's, lengthened by a row of cells. -/
theorem app_ow {t u e : TypeId} {ud : TypeDesc} {id m n b : Nat} {c xs : List PV} {z : Value} {x : PV} (hu : P.underlying t = some (.slice e)) (hu' : P.underlying u = some ud) (hud : ud = .string ∨ ∃ e, ud = .slice e)
    (hi : (P.info? e).map (fun i => (i.size, i.bytes, i.zero)) = some (1, b, some z)) (hz : z.cells.size = 1) (hg : h.get id = some (.cells e 1 false c)) (hc : c.length = m) (hx : cellsOf h 1 x = some (xs, n)) (h0 : 0 < n)
    (h1 : (m + n) * b ≤ 2 ^ 47) (h2 : m + n ≤ 2 ^ 47) : appO P h fr [.ow id m 0 m, x] [t, u] = some (.w (.ow id (m + n) 0 (m + n)) id (.cells e 1 false (c ++ xs))) := by
  cases hi' : P.info? e with
  | none => rw [hi'] at hi; simp at hi
  | some i =>
    rw [hi'] at hi
    simp only [Option.map_some, Option.some.injEq, Prod.mk.injEq] at hi
    obtain ⟨e1, e2, e3⟩ := hi
    have e : appO P h fr [.ow id m 0 m, x] [t, u] = appendV P h fr t (.ow id m 0 m) x := by
      simp only [appO, hu']
      rcases hud with rfl | ⟨e, rfl⟩ <;> rfl
    rw [e]
    simp only [appendV, hu, hi', e3, e1, hx, hz, hg, hc, e2, Nat.one_ne_zero, ne_eq, not_true_eq_false, or_self, if_false, Nat.mul_one, true_and]
    rw [if_neg (by omega), if_pos ⟨h1, h2⟩]
theorem app_ow0 {t u e : TypeId} {ud : TypeDesc} {id m b : Nat} {c xs : List PV} {z : Value} {x : PV} (hu : P.underlying t = some (.slice e)) (hu' : P.underlying u = some ud) (hud : ud = .string ∨ ∃ e, ud = .slice e)
    (hi : (P.info? e).map (fun i => (i.size, i.bytes, i.zero)) = some (1, b, some z)) (hz : z.cells.size = 1) (hg : h.get id = some (.cells e 1 false c)) (hc : c.length = m) (hx : cellsOf h 1 x = some (xs, 0)) :
    appO P h fr [.ow id m 0 m, x] [t, u] = some (.q (.ow id m 0 m)) := by
  cases hi' : P.info? e with
  | none => rw [hi'] at hi; simp at hi
  | some i =>
    rw [hi'] at hi
    simp only [Option.map_some, Option.some.injEq, Prod.mk.injEq] at hi
    obtain ⟨e1, e2, e3⟩ := hi
    have e : appO P h fr [.ow id m 0 m, x] [t, u] = appendV P h fr t (.ow id m 0 m) x := by
      simp only [appO, hu']
      rcases hud with rfl | ⟨e, rfl⟩ <;> rfl
    rw [e]
    simp only [appendV, hu, hi', e3, e1, hx, hz, hg, hc, Nat.one_ne_zero, ne_eq, not_true_eq_false, or_self, if_false, if_true]
theorem aop_makeSlice (t : TypeId) (l c : Operand) : aop P ρ h fr ⟨d, .makeSlice t l c, ty, ps, af, gu⟩ = makeSliceV P fr t (ρ l) (ρ c) := rfl
theorem make_0 {t e : TypeId} {k k' : IntKind} {c : Int} {b : Nat} {z : Value} {zc : PV} (hu : P.underlying t = some (.slice e)) (hi : (P.info? e).map (fun i => (i.size, i.bytes, i.zero)) = some (1, b, some z)) (hz : tyZero P e = some [zc])
    (h0 : 0 < c) (h1 : c ≤ 2 ^ 40) (h2 : c * b ≤ 2 ^ 40) : makeSliceV P fr t (.int k 0) (.int k' c) = some (.w (.ow fr 0 0 0) fr (.cells e 1 false [])) := by
  cases hi' : P.info? e with
  | none => rw [hi'] at hi; simp at hi
  | some i =>
    rw [hi'] at hi
    simp only [Option.map_some, Option.some.injEq, Prod.mk.injEq] at hi
    obtain ⟨e1, e2, e3⟩ := hi
    simp only [makeSliceV, hu, hi', hz, e1, e2, List.length_singleton]
    rw [if_pos (by refine ⟨by omega, by omega, h1, h2, ?_, by omega⟩; trivial), if_neg (by omega)]
    rfl

/-! ### A loop, one round -/
section
variable {nt : Option Nat}
/-- A loop, by what holds ahead of each round and falls. -/
def KI (I : Nat → Fr → AH → Prop) (k : Nat) (Q : EX → Fr → AH → Prop) : EX → Fr → AH → Prop := fun x f h => match x with
  | .normal => ∃ j, j < k ∧ I j f h
  | x => Q x f h
theorem KI_normal (I : Nat → Fr → AH → Prop) (k : Nat) (Q : EX → Fr → AH → Prop) (f : Fr) (h : AH) : KI I k Q .normal f h = ∃ j, j < k ∧ I j f h := rfl
theorem KI_ret (I : Nat → Fr → AH → Prop) (k : Nat) (Q : EX → Fr → AH → Prop) (f : Fr) (h : AH) : KI I k Q .ret f h = Q .ret f h := rfl
theorem KI_exit (I : Nat → Fr → AH → Prop) (k : Nat) (Q : EX → Fr → AH → Prop) (i : Nat) (f : Fr) (h : AH) : KI I k Q (.exit i) f h = Q (.exit i) f h := rfl
theorem KI_panic (I : Nat → Fr → AH → Prop) (k : Nat) (Q : EX → Fr → AH → Prop) (v : PV) (f : Fr) (h : AH) : KI I k Q (.panic v) f h = Q (.panic v) f h := rfl
theorem wpC_loop {c : Code} {Q : EX → Fr → AH → Prop} (I : Nat → Fr → AH → Prop) {k : Nat} {f : Fr} {h : AH} (start : I k f h) (step : ∀ k f h, I k f h → wpC P G md nt c f h (KI I k Q)) : wpC P G md nt (.loop c) f h Q :=
  Ev.loop I (fun k f h hI => (wpC_ev _ _ _ _ (step k f h hI)).mono fun x f' h' q => by cases x <;> exact q) k f h start
end
end
end Go.Ac
