/-
  A PURE MACHINE FOR THE MODEL'S CODE, 11: statements, and what they come to.
-/
import Derived.Test.YtcbngkmmmfaaoaaGreatDoorC10
import Derived.OrdersIn
import Derived.LoopNIn
import Derived.RangeFuncLeaves
import Derived.RecoverIn
namespace Go.Ac
open Go.RowKit

/-! ### The machine -/
def yieldA (ops : Array Oper) (F : Nat → PV) (j : Nat) : Option (Option Bool) :=
  match (ops[j]?).bind (·.dst) with
  | none => some none
  | some d => match F d with
    | .bool b => some (some b)
    | .tup [] => some none
    | _ => none
def wantA (ops : Array Oper) (F : Nat → PV) (o : Oper) : Option Bool :=
  match o.guard with
  | none => some true
  | some (j, want) => match yieldA ops F j with
    | some y => some (y == some want)
    | none => none
def putA (f : Fr) (d : Option Tmp) (v : PV) : Fr :=
  match d with
  | some d => f.set d v
  | none => f
/-- A call's answer: a value; a value that is a new number; a value on a heap that has turned; a panic. -/
inductive CRes where
  | val (v : PV)
  | new (v : PV) (o : AO)
  | sh (v : PV) (h : AH)
  | pan (v : PV) (h : AH)
abbrev CallF := Tgt → List PV → AH → Nat → Option CRes
/-- What a row of operations comes to. -/
inductive OX where
  | normal (f : Fr) (h : AH)
  | panic (v : PV) (f : Fr) (h : AH)

def evOps (P : Program) (G : Glob) (call : CallF) (rd : Bool) (ops : Array Oper) (base : Nat) : Nat → List Oper → Fr → AH → Option OX
  | _, [], f, h => some (.normal f h)
  | i, o :: rest, f, h =>
    match wantA ops f.at o with
    | none => none
    | some false => evOps P G call rd ops base (i + 1) rest (putA f o.dst (.tup [])) h
    | some true =>
      match aop P (opnd G f.at) h (base + i) o with
      | some (.q v) => evOps P G call rd ops base (i + 1) rest (putA f o.dst v) h
      | some (.w v id ob) => evOps P G call rd ops base (i + 1) rest (putA f o.dst v) (h.set id ob)
      | some (.call t args) => match call t args h (base + i) with
        | some (.val v) => evOps P G call rd ops base (i + 1) rest (putA f o.dst v) h
        | some (.new v ob) => evOps P G call rd ops base (i + 1) rest (putA f o.dst v) (h.set (base + i) ob)
        | some (.sh v h') => evOps P G call rd ops base (i + 1) rest (putA f o.dst v) h'
        | some (.pan v h') => some (.panic v f h')
        | none => none
      | some (.pan v) => some (.panic v f h)
      | some (.dfr k args) => if rd then none else evOps P G call rd ops base (i + 1) rest (putA ⟨f.t, .call k args :: f.ds⟩ o.dst .undef) h
      | none => none

/-! ### Whatever order -/
/-- Is one operation bound ahead of another one? -/
def anc (ops : Array Oper) (i j : Nat) : Bool := ((Region.before ops).getD j 0).testBit i
/-- An operation that neither reads nor turns the heap. -/
def inert (o : Oper) : Bool := match o.op with
  | .move _ | .assign _ | .pick .. | .field .. | .extract .. | .unOp .. | .makeInterface .. | .index .. | .build .. | .typeAssert .. => true
  | .binOp op .. => match op with
    | .eql | .neq => false
    | _ => true
  | .call { callee := .builtin .len, .. } => true
  | _ => false
def inertAt (ops : Array Oper) (i : Nat) : Bool := match ops[i]? with
  | some o => inert o
  | none => true
/-- Every other operation is bound ahead of this one, or behind it, or is inert. -/
def lone (ops : Array Oper) (i : Nat) : Bool := (List.range ops.size).all fun j => j == i || anc ops i j || anc ops j i || inertAt ops j
/-- Every operation ahead of it in the text is bound ahead of it, or inert. -/
def fore (ops : Array Oper) (i : Nat) : Bool := (List.range i).all fun j => anc ops j i || inertAt ops j
/-- Every operation behind it in the text is bound behind it. -/
def aft (ops : Array Oper) (i : Nat) : Bool := (List.range ops.size).all fun j => decide (j ≤ i) || anc ops i j
def footV : PV → List Nat
  | .ow id _ _ _ | .ptr id _ _ | .iter id => [id]
  | _ => []
def foot (ρ : Operand → PV) (o : Oper) : List Nat := o.op.operands.toList.flatMap fun x => footV (ρ x)
/-- Is what an operation reads not what others turn that are not bound ahead of it? -/
def chk (ops : Array Oper) (lg : List (Nat × Nat)) (i : Nat) (ids : List Nat) : Bool := lg.all fun (j, id) => anc ops j i || !ids.contains id
def wipe (l : List Oper) (f : Fr) : Fr := l.foldl (fun f o => putA f o.dst .undef) f

def evD (P : Program) (G : Glob) (call : CallF) (ops : Array Oper) (base : Nat) : Nat → List Oper → Fr → AH → List (Nat × Nat) → Option OX
  | _, [], f, h, _ => some (.normal f h)
  | i, o :: rest, f, h, lg =>
    match wantA ops f.at o with
    | none => none
    | some false => evD P G call ops base (i + 1) rest (putA f o.dst (.tup [])) h lg
    | some true =>
      if chk ops lg i (foot (opnd G f.at) o) then
        match aop P (opnd G f.at) h (base + i) o with
        | some (.q v) => evD P G call ops base (i + 1) rest (putA f o.dst v) h lg
        | some (.w v id ob) =>
          if id = base + i then evD P G call ops base (i + 1) rest (putA f o.dst v) (h.set id ob) lg
          else if fore ops i then
            (if lone ops i then evD P G call ops base (i + 1) rest (putA f o.dst v) (h.set id ob) lg
             else evD P G call ops base (i + 1) rest (putA f o.dst v) (h.set id ob) ((i, id) :: lg))
          else none
        | some (.call t args) => match call t args h (base + i) with
          | some (.val v) => evD P G call ops base (i + 1) rest (putA f o.dst v) h lg
          | some (.new v ob) => evD P G call ops base (i + 1) rest (putA f o.dst v) (h.set (base + i) ob) lg
          | some (.sh v h') => if fore ops i && lone ops i then evD P G call ops base (i + 1) rest (putA f o.dst v) h' lg else none
          | some (.pan v h') => if fore ops i && lone ops i && aft ops i then some (.panic v (wipe ops.toList f) h') else none
          | none => none
        | some (.pan v) => if fore ops i && lone ops i && aft ops i then some (.panic v (wipe ops.toList f) h) else none
        | _ => none
      else none

inductive EX where
  | normal
  | exit (id : Nat)
  | ret
  | panic (v : PV)

/-- A range over a function's end: the jump that a round has left is taken up. -/
def finR (l : Nat) (f : Fr) (h : AH) : Option (EX × Fr × AH) :=
  match h.get l with
  | some (.loop n F ps asn body st pend) =>
    if st = .busy then none else
    match pend with
    | none => some (.normal, f, h.set l (.loop n F ps asn body .exhausted pend))
    | some .ret => some (.ret, f, h.set l (.loop n F ps asn body .exhausted pend))
    | some (.exit id) => some (.exit id, f, h.set l (.loop n F ps asn body .exhausted pend))
    | _ => none
  | _ => none
def startR (n : Nat) (f : Fr) (h : AH) (ps : Array Tmp) (asn body : Code) : AH := ((h.up 3).set h.next (.loop n f.t ps asn body .ready none)).set (h.next + 1) (.defr true)
/-- Has a function a text of its own? -/
def bodyB (P : Program) (k : FuncId) : Bool := match P.funcs[k]? with
  | some fn => fn.body.isSome && !(fn.name == "runtime.NumGoroutine")
  | none => false
def oxE : Option OX → Option (EX × Fr × AH)
  | some (.normal f h) => some (.normal, f, h)
  | some (.panic v f h) => some (.panic v, f, h)
  | none => none

/-- 'nt': of how many temporaries the frame is; none: a round's. -/
def evC (P : Program) (G : Glob) (call : CallF) (nt : Option Nat) : Nat → Code → Fr → AH → Option (EX × Fr × AH)
  | 0, _, _, _ => none
  | n + 1, c, f, h =>
    match c with
    | .skip => some (.normal, f, h)
    | .label _ => some (.normal, f, h)
    | .ret => some (.ret, f, h)
    | .exit id => some (.exit id, f, h)
    | .seq a b => match evC P G call nt n a f h with
      | some (.normal, f', h') => evC P G call nt n b f' h'
      | r => r
    | .cond x a b => match opnd G f.at x with
      | .bool t => evC P G call nt n (if t then a else b) f h
      | _ => none
    | .block id c => match evC P G call nt n c f h with
      | some (.exit id', f', h') => if id' = id then some (.normal, f', h') else some (.exit id', f', h')
      | r => r
    | .loop c => match evC P G call nt n c f h with
      | some (.normal, f', h') => evC P G call nt n (.loop c) f' h'
      | r => r
    | .region _ ops draw =>
      if draw then oxE (evD P G call ops h.next 0 ops.toList f (h.up ops.size) [])
      else oxE (evOps P G call nt.isNone ops h.next 0 ops.toList f (h.up ops.size))
    | .rangeFunc x ps asn body =>
      match nt, opnd G f.at x with
      | some m, .fn (.func k) first captured =>
        if bodyB P k = false then none else
        match call (.fn k) (first ++ [.yld h.next] ++ captured) (startR m f h ps asn body) (h.next + 2) with
        | some (.val _) => finR h.next ⟨f.t, .mark (h.next + 1) :: f.ds⟩ (startR m f h ps asn body)
        | some (.new _ o) => finR h.next ⟨f.t, .mark (h.next + 1) :: f.ds⟩ ((startR m f h ps asn body).set (h.next + 2) o)
        | some (.sh _ h') => finR h.next ⟨f.t, .mark (h.next + 1) :: f.ds⟩ h'
        | some (.pan v h') => some (.panic v, ⟨f.t, .mark (h.next + 1) :: f.ds⟩, h')
        | none => none
      | _, _ => none
    | _ => none

/-! ### What a statement leaves -/
structure Ext (g g' : Gh) (N n : Nat) : Prop where
  le : g.Le g'
  al : ∀ id, g'.al id → g.al id ∨ n ≤ id
  ro : ∀ b C, g'.ro b = some C → g.ro b = some C ∨ N ≤ b
theorem Ext.refl (g : Gh) (N n : Nat) : Ext g g N n := ⟨Gh.Le.refl g, fun _ h => .inl h, fun _ _ h => .inl h⟩
theorem Ext.trans {a b c : Gh} {N n m : Nat} (h : Ext a b N n) (k : Ext b c N m) (hm : n ≤ m) : Ext a c N n :=
  ⟨h.le.trans k.le, fun id hi => (k.al id hi).elim (h.al id) fun e => .inr (by omega), fun x C hx => (k.ro x C hx).elim (h.ro x C) .inr⟩

/-- The fence of everything; within a round, or not. -/
def Wd (ro : Option Nat) : Fence := { Fence.wide with round := ro }
/-- A call's outcome: a panic or a value, and what it leaves. -/
def CPost (g : Gh) (h : AH) (N : Nat) (w0 : World) (fresh : Nat) (nw : Bool) (v : PV) (h' : AH) (u : Value) (w' : World) : Prop :=
  ∃ g', g.Le g' ∧ (∀ id, g'.al id → g.al id ∨ (id = fresh ∧ nw = true) ∨ (h.next ≤ id ∧ id < h'.next)) ∧ (∀ b C, g'.ro b = some C → g.ro b = some C ∨ N ≤ b) ∧
      WRel g' h' N w0 w' ∧ h.next ≤ h'.next ∧ Rep g' v u
def CResOk (g : Gh) (h : AH) (N : Nat) (w0 : World) (fresh : Nat) : CRes → Bool → Value → World → Prop
  | .val v, p, u, w' => p = false ∧ CPost g h N w0 fresh false v h u w'
  | .new v o, p, u, w' => p = false ∧ CPost g h N w0 fresh true v (h.set fresh o) u w'
  | .sh v h', p, u, w' => p = false ∧ CPost g h N w0 fresh true v h' u w'
  | .pan v h', p, u, w' => p = true ∧ CPost g h N w0 fresh true v h' u w'
/-- What the model does next comes to R. -/
def NextOk (P : Program) (s : Sem Next) (w : World) (R : Bool → Value → World → Prop) : Prop :=
  ∀ (ro : Option Nat) (a : Act) (o : Oper) (K : Act → World → Prop) (Q : Exit → Act → World → Prop), (∀ u w', R false u w' → K (a.put o.dst u) w') → (∀ u w', R true u w' → Q (.panic [{ v := u, recovered := false }]) a w') →
    o.uponIn (Wd ro) 0 P a K Q (s.run P w)
/-- What is asked of a call. -/
def CallOk (P : Program) (G : Glob) (call : CallF) : Prop :=
  ∀ t args h fresh r, call t args h fresh = some r → ∀ (g : Gh) (N : Nat) (w0 w : World) (vs : Array Value) (l : Nat), GlobOk g G → WRel g h N w0 w → Al g h.next → ¬ g.al fresh → Reps g args vs.toList →
    (∀ id, t = .yl id → g.al id ∧ (g.tt id = some 0 → l = g.bl id)) → NextOk P (tgtSem l vs t) w (CResOk g h N w0 fresh r)
/-- What a call on no heap tells hangs on no heap. -/
def CallInd (call : CallF) : Prop := ∀ t args h fresh, (∀ v, call t args h fresh = some (.val v) → ∀ h' fr, call t args h' fr = some (.val v)) ∧ (∀ v o, call t args h fresh = some (.new v o) → ∀ h', call t args h' fresh = some (.new v o))

section
variable {P : Program} {G : Glob} {N : Nat} {w0 : World}

structure Is (P : Program) (G : Glob) (N : Nat) (w0 : World) (n : Nat) (g : Gh) (F : Nat → PV) (ds : List Dfr) (h : AH) (a : Act) (w : World) : Prop where
  glob : GlobOk g G
  fr : FRel g F a
  rel : WRel g h N w0 w
  al : Al g h.next
  df : DsOk P g ds a.defers
  sz : n ≤ a.tmps.size

theorem frel_put {g : Gh} {F : Nat → PV} {a : Act} {n : Nat} (hf : FRel g F a) (hs : n ≤ a.tmps.size) {d : Nat} (hd : d < n) {v : PV} {u : Value} (hr : Rep g v u) : FRel g (fun i => if i = d then v else F i) (a.put (some d) u) := by
  intro i
  simp only [Act.put]
  by_cases e : i = d
  · subst e
    rw [if_pos rfl]
    have : (a.tmps.setIfInBounds i u).getD i undef = u := by simp [Array.getD, show i < a.tmps.size by omega]
    rw [this]; exact hr
  · rw [if_neg e]
    have := hf i
    simp only [Array.getD_eq_getD_getElem?] at this ⊢
    rw [Array.getElem?_setIfInBounds_ne (by omega)]
    exact this
theorem size_put (a : Act) (d : Option Tmp) (u : Value) : (a.put d u).tmps.size = a.tmps.size := by cases d <;> simp [Act.put]
theorem defers_put (a : Act) (d : Option Tmp) (u : Value) : (a.put d u).defers = a.defers := by cases d <;> rfl
/-- A function's frame, one slot written. -/
def putF (F : Nat → PV) (d : Option Tmp) (v : PV) : Nat → PV :=
  match d with
  | some d => fun i => if i = d then v else F i
  | none => F
theorem ds_putA (f : Fr) (d : Option Tmp) (v : PV) : (putA f d v).ds = f.ds := by cases d <;> rfl
theorem at_putA (f : Fr) (d : Option Tmp) (v : PV) : (putA f d v).at = putF f.at d v := by
  funext i
  cases d with
  | none => rfl
  | some d => simp [putA, putF, Fr.at_set]
theorem frel_putF {g : Gh} {F : Nat → PV} {a : Act} {n : Nat} (hf : FRel g F a) (hs : n ≤ a.tmps.size) {d : Option Tmp} (hd : ∀ x, d = some x → x < n) {v : PV} {u : Value} (hr : Rep g v u) : FRel g (putF F d v) (a.put d u) := by
  cases d with
  | none => exact hf
  | some d => exact frel_put hf hs (hd d rfl) hr
theorem want_ok {g : Gh} {F : Nat → PV} {a : Act} {n : Nat} {ops : Array Oper} {o : Oper} {b : Bool} (hf : FRel g F a) (hs : n ≤ a.tmps.size) (hd : ∀ (j : Nat) (x : Oper) (d : Nat), ops[j]? = some x → x.dst = some d → d < n) (hw : wantA ops F o = some b) :
    Region.wanted o (yielded ops a.tmps) = b := by
  unfold wantA at hw
  unfold Region.wanted
  cases hg : o.guard with
  | none => rw [hg] at hw; simpa using hw
  | some jw =>
    obtain ⟨j, want⟩ := jw
    rw [hg] at hw
    simp only at hw ⊢
    split at hw
    · rename_i y hy
      obtain rfl := Option.some.inj hw
      have : yielded ops a.tmps j = y := by
        unfold yieldA at hy
        unfold yielded
        cases hj : (ops[j]?).bind (·.dst) with
        | none => rw [hj] at hy; simpa using hy
        | some d =>
          rw [hj] at hy
          simp only [Option.bind_some] at hy ⊢
          have hlt : d < a.tmps.size := by
            simp only [Option.bind_eq_some_iff] at hj
            obtain ⟨x, hx, hxd⟩ := hj
            exact Nat.lt_of_lt_of_le (hd j x d hx hxd) hs
          have hr := hf d
          rw [show a.tmps.getD d undef = a.tmps[d] by simp [Array.getD, hlt]] at hr
          rw [Array.getElem?_eq_getElem hlt]
          split at hy
          · rename_i b' hb
            rw [hb] at hr
            obtain rfl := Option.some.inj hy
            generalize a.tmps[d] = z at hr
            cases hr
            rfl
          · rename_i hb
            rw [hb] at hr
            obtain rfl := Option.some.inj hy
            generalize a.tmps[d] = z at hr
            cases hr
            rfl
          · simp at hy
      rw [this]
    · simp at hw
end
end Go.Ac
