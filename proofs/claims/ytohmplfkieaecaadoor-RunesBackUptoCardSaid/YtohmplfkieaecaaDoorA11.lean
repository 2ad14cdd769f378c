/-
  A PURE MACHINE FOR THE MODEL'S CODE, 11: statements, and what they come to.
-/
import Derived.Test.YtohmplfkieaecaaDoorA10
import Derived.Still
namespace Go.Ab
open Go.RowKit

/-! ### The machine -/
def yieldA (ops : Array Oper) (F : Nat → PV) (j : Nat) : Option (Option Bool) :=
  match (ops[j]?).bind (·.dst) with
  | none => some none
  | some d => match F d with
    | .bool b => some (some b)
    | .tup [] => some none
    | _ => none
def wantA (ops : Array Oper) (F : Nat → PV) (o : Oper) : Option Bool :=
  match o.guard with
  | none => some true
  | some (j, want) => match yieldA ops F j with
    | some y => some (y == some want)
    | none => none
def putA (f : Fr) (d : Option Tmp) (v : PV) : Fr :=
  match d with
  | some d => f.set d v
  | none => f
/-- A call's answer: a value, and (where it changed) the heap; the last number is a fresh one. -/
abbrev CallF := FuncId → List PV → AH → Nat → Option (PV × Option AH)

def evOps (P : Program) (G : Glob) (call : CallF) (ops : Array Oper) (base : Nat) : Nat → List Oper → Fr → AH → Option (Fr × AH)
  | _, [], f, h => some (f, h)
  | i, o :: rest, f, h =>
    match wantA ops f.at o with
    | none => none
    | some false => evOps P G call ops base (i + 1) rest (putA f o.dst (.tup [])) h
    | some true =>
      match aop P (opnd G f.at) h (base + i) o with
      | some (.q v) => evOps P G call ops base (i + 1) rest (putA f o.dst v) h
      | some (.w v h') => evOps P G call ops base (i + 1) rest (putA f o.dst v) h'
      | some (.call k args) => match call k args h (base + i) with
        | some (v, none) => evOps P G call ops base (i + 1) rest (putA f o.dst v) h
        | some (v, some h') => evOps P G call ops base (i + 1) rest (putA f o.dst v) h'
        | none => none
      | _ => none
/-- A statement whose order is open: nothing in it turns the heap. -/
def evQ (P : Program) (G : Glob) (call : CallF) (ops : Array Oper) (h : AH) : List Oper → Fr → Option Fr
  | [], f => some f
  | o :: rest, f =>
    match wantA ops f.at o with
    | none => none
    | some false => evQ P G call ops h rest (putA f o.dst (.tup []))
    | some true =>
      match aop P (opnd G f.at) h h.next o with
      | some (.q v) => evQ P G call ops h rest (putA f o.dst v)
      | some (.call k args) => match call k args h h.next with
        | some (v, none) => evQ P G call ops h rest (putA f o.dst v)
        | _ => none
      | _ => none

inductive EX where
  | normal
  | exit (id : Nat)
  | ret

def evC (P : Program) (G : Glob) (call : CallF) : Nat → Code → Fr → AH → Option (EX × Fr × AH)
  | 0, _, _, _ => none
  | n + 1, c, f, h =>
    match c with
    | .skip => some (.normal, f, h)
    | .label _ => some (.normal, f, h)
    | .ret => some (.ret, f, h)
    | .exit id => some (.exit id, f, h)
    | .seq a b => match evC P G call n a f h with
      | some (.normal, f', h') => evC P G call n b f' h'
      | r => r
    | .cond x a b => match opnd G f.at x with
      | .bool t => evC P G call n (if t then a else b) f h
      | _ => none
    | .block id c => match evC P G call n c f h with
      | some (.exit id', f', h') => if id' = id then some (.normal, f', h') else some (.exit id', f', h')
      | r => r
    | .loop c => match evC P G call n c f h with
      | some (.normal, f', h') => evC P G call n (.loop c) f' h'
      | r => r
    | .region _ ops draw =>
      if draw then (match evQ P G call ops h ops.toList f with
        | some f' => some (.normal, f', h)
        | none => none)
      else match evOps P G call ops h.next 0 ops.toList f (h.up ops.size) with
        | some (f', h') => some (.normal, f', h')
        | none => none
    | _ => none

/-- What is asked of a function's text, once. -/
def okC (n : Nat) : Code → Bool
  | .region _ ops draw => ops.all (fun o => match o.dst with | some d => decide (d < n) | none => true) && (!draw || Region.lexB .any ops)
  | .seq a b | .cond _ a b => okC n a && okC n b
  | .block _ c | .loop c => okC n c
  | _ => true

/-! ### What a statement leaves -/
structure Ext (g g' : Gh) (N n : Nat) : Prop where
  le : g.Le g'
  al : ∀ id, g'.al id → g.al id ∨ n ≤ id
  ro : ∀ b C, g'.ro b = some C → g.ro b = some C ∨ N ≤ b
theorem Ext.refl (g : Gh) (N n : Nat) : Ext g g N n := ⟨Gh.Le.refl g, fun _ h => .inl h, fun _ _ h => .inl h⟩
theorem Ext.trans {a b c : Gh} {N n m : Nat} (h : Ext a b N n) (k : Ext b c N m) (hm : n ≤ m) : Ext a c N n :=
  ⟨h.le.trans k.le, fun id hi => (k.al id hi).elim (h.al id) fun e => .inr (by omega), fun x C hx => (k.ro x C hx).elim (h.ro x C) .inr⟩

/-- What is asked of a call. -/
def CallOk (P : Program) (G : Glob) (call : CallF) : Prop :=
  ∀ k args h fresh v ho, call k args h fresh = some (v, ho) → ∀ (g : Gh) (N : Nat) (w0 w : World) (vs : Array Value), GlobOk g G → WRel g h N w0 w → Al g h.next → ¬ g.al fresh → Reps g args vs.toList →
    (callFunc k vs).run P w = .ok (.enter k vs) w ∧
    Calls P k vs w fun e w' => ∃ u g', e = .returned u ∧ g.Le g' ∧ (∀ id, g'.al id → g.al id ∨ (id = fresh ∧ ho.isSome = true) ∨ (h.next ≤ id ∧ id < (ho.getD h).next)) ∧ (∀ b C, g'.ro b = some C → g.ro b = some C ∨ N ≤ b) ∧
      WRel g' (ho.getD h) N w0 w' ∧ h.next ≤ (ho.getD h).next ∧ Rep g' v u

section
variable {P : Program} {G : Glob} {N : Nat} {w0 : World}

structure Is (G : Glob) (N : Nat) (w0 : World) (n : Nat) (g : Gh) (F : Nat → PV) (h : AH) (a : Act) (w : World) : Prop where
  glob : GlobOk g G
  fr : FRel g F a
  rel : WRel g h N w0 w
  al : Al g h.next
  df : a.defers = []
  sz : n ≤ a.tmps.size

theorem frel_put {g : Gh} {F : Nat → PV} {a : Act} {n : Nat} (hf : FRel g F a) (hs : n ≤ a.tmps.size) {d : Nat} (hd : d < n) {v : PV} {u : Value} (hr : Rep g v u) : FRel g (fun i => if i = d then v else F i) (a.put (some d) u) := by
  intro i
  simp only [Act.put]
  by_cases e : i = d
  · subst e
    rw [if_pos rfl]
    have : (a.tmps.setIfInBounds i u).getD i undef = u := by simp [Array.getD, show i < a.tmps.size by omega]
    rw [this]; exact hr
  · rw [if_neg e]
    have := hf i
    simp only [Array.getD_eq_getD_getElem?] at this ⊢
    rw [Array.getElem?_setIfInBounds_ne (by omega)]
    exact this
theorem size_put (a : Act) (d : Option Tmp) (u : Value) : (a.put d u).tmps.size = a.tmps.size := by cases d <;> simp [Act.put]
theorem defers_put (a : Act) (d : Option Tmp) (u : Value) : (a.put d u).defers = a.defers := by cases d <;> rfl
/-- A function's frame, one slot written. -/
def putF (F : Nat → PV) (d : Option Tmp) (v : PV) : Nat → PV :=
  match d with
  | some d => fun i => if i = d then v else F i
  | none => F
theorem at_putA (f : Fr) (d : Option Tmp) (v : PV) : (putA f d v).at = putF f.at d v := by
  funext i
  cases d with
  | none => rfl
  | some d => simp [putA, putF, Fr.at_set]
theorem frel_putF {g : Gh} {F : Nat → PV} {a : Act} {n : Nat} (hf : FRel g F a) (hs : n ≤ a.tmps.size) {d : Option Tmp} (hd : ∀ x, d = some x → x < n) {v : PV} {u : Value} (hr : Rep g v u) : FRel g (putF F d v) (a.put d u) := by
  cases d with
  | none => exact hf
  | some d => exact frel_put hf hs (hd d rfl) hr
theorem want_ok {g : Gh} {F : Nat → PV} {a : Act} {n : Nat} {ops : Array Oper} {o : Oper} {b : Bool} (hf : FRel g F a) (hs : n ≤ a.tmps.size) (hd : ∀ (j : Nat) (x : Oper) (d : Nat), ops[j]? = some x → x.dst = some d → d < n) (hw : wantA ops F o = some b) :
    Region.wanted o (yielded ops a.tmps) = b := by
  unfold wantA at hw
  unfold Region.wanted
  cases hg : o.guard with
  | none => rw [hg] at hw; simpa using hw
  | some jw =>
    obtain ⟨j, want⟩ := jw
    rw [hg] at hw
    simp only at hw ⊢
    split at hw
    · rename_i y hy
      obtain rfl := Option.some.inj hw
      have : yielded ops a.tmps j = y := by
        unfold yieldA at hy
        unfold yielded
        cases hj : (ops[j]?).bind (·.dst) with
        | none => rw [hj] at hy; simpa using hy
        | some d =>
          rw [hj] at hy
          simp only [Option.bind_some] at hy ⊢
          have hlt : d < a.tmps.size := by
            simp only [Option.bind_eq_some_iff] at hj
            obtain ⟨x, hx, hxd⟩ := hj
            exact Nat.lt_of_lt_of_le (hd j x d hx hxd) hs
          have hr := hf d
          rw [show a.tmps.getD d undef = a.tmps[d] by simp [Array.getD, hlt]] at hr
          rw [Array.getElem?_eq_getElem hlt]
          split at hy
          · rename_i b' hb
            rw [hb] at hr
            obtain rfl := Option.some.inj hy
            generalize a.tmps[d] = z at hr
            cases hr
            rfl
          · rename_i hb
            rw [hb] at hr
            obtain rfl := Option.some.inj hy
            generalize a.tmps[d] = z at hr
            cases hr
            rfl
          · simp at hy
      rw [this]
    · simp at hw
end
end Go.Ab
