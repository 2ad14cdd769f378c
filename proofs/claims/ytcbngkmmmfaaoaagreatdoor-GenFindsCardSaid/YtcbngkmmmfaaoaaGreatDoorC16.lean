/-
  A PURE MACHINE FOR THE MODEL'S CODE, 16: a function's call, as the machine has it.
-/
import Derived.Test.YtcbngkmmmfaaoaaGreatDoorC15
namespace Go.Ac
open Go.RowKit

def resA (P : Program) (f : Fr) (h : AH) : List ResultVar → Option (List PV)
  | [] => some []
  | .tmp t :: r => match resA P f h r with
    | some l => some (f.at t :: l)
    | none => none
  | .cell p t :: r => match behind h (f.at p) with
    | some c => match readC P t c with
      | some v => match resA P f h r with
        | some l => some (v :: l)
        | none => none
      | none => none
    | none => none
def oneOf : List PV → PV
  | [v] => v
  | l => .tup l
def layArgs : Nat → List PV → Fr → Fr
  | _, [], f => f
  | i, v :: r, f => layArgs (i + 1) r (f.set i v)

/-! ### Calls that are put off -/
/-- How a deferred call finds the frame below: it returns; it panics; its panic has been recovered. -/
inductive Mo where
  | ret
  | pan (v : PV)
  | rcv
def Mo.settle : Mo → Mo
  | .rcv => .ret
  | m => m
def isRec (o : Oper) : Bool := match o.op with
  | .call { callee := .builtin .recover, .. } => true
  | _ => false
def evRec (P : Program) (G : Glob) (ops : Array Oper) (base : Nat) : Nat → List Oper → Fr → AH → Mo → Option (Fr × AH × Mo)
  | _, [], f, h, m => some (f, h, m)
  | i, o :: rest, f, h, m =>
    match wantA ops f.at o with
    | none => none
    | some false => evRec P G ops base (i + 1) rest (putA f o.dst (.tup [])) h m
    | some true =>
      if isRec o then
        match m with
        | .pan v => evRec P G ops base (i + 1) rest (putA f o.dst v) h .rcv
        | m => evRec P G ops base (i + 1) rest (putA f o.dst .nif) h m
      else
        match aop P (opnd G f.at) h (base + i) o with
        | some (.q v) => evRec P G ops base (i + 1) rest (putA f o.dst v) h m
        | some (.w v id ob) => evRec P G ops base (i + 1) rest (putA f o.dst v) (h.set id ob) m
        | _ => none
def evS (P : Program) (G : Glob) (call : CallF) (nt : Nat) : Nat → Code → Fr → AH → Mo → Option (EX × Fr × AH × Mo)
  | 0, _, _, _, _ => none
  | n + 1, c, f, h, m =>
    match c with
    | .seq a b => match evS P G call nt n a f h m with
      | some (.normal, f', h', m') => evS P G call nt n b f' h' m'
      | r => r
    | .cond x a b => match opnd G f.at x with
      | .bool t => evS P G call nt n (if t then a else b) f h m
      | _ => none
    | .region id ops draw =>
      if draw = false ∧ ops.toList.any isRec = true then
        match evRec P G ops h.next 0 ops.toList f (h.up ops.size) m with
        | some (f', h', m') => some (.normal, f', h', m')
        | none => none
      else match evC P G call (some nt) n (.region id ops draw) f h with
        | some (.normal, f', h') => some (.normal, f', h', m)
        | _ => none
    | c => match evC P G call (some nt) n c f h with
      | some (.normal, f', h') => some (.normal, f', h', m)
      | some (.ret, f', h') => some (.ret, f', h', m)
      | _ => none
/-- What a body comes to. -/
inductive RA where
  | val (v : PV) (h : AH)
  | pan (v : PV) (h : AH)
def runD (P : Program) (G : Glob) (call : CallF) (n : Nat) (fn : Func) (f : Fr) : List Dfr → Mo → AH → Option RA
  | [], .ret, h => match resA P f h fn.results.toList with
    | some l => some (.val (oneOf l) h)
    | none => none
  | [], .pan v, h => some (.pan v h)
  | [], .rcv, _ => none
  | .mark id :: ds, m, h => match h.get id with
    | some (.defr true) => runD P G call n fn f ds m (h.set id (.defr false))
    | _ => none
  | .call k args :: ds, m, h => match P.funcs[k]? with
    | some fk => match fk.body with
      | some c => if fk.name == "runtime.NumGoroutine" then none else
        match evS P G call fk.ntmps n c (layArgs 0 args Fr.none) h m with
        | some (.normal, f1, h1, m1) => if f1.ds.isEmpty && (resA P f1 h1 fk.results.toList).isSome then runD P G call n fn f ds m1.settle h1 else none
        | some (.ret, f1, h1, m1) => if f1.ds.isEmpty && (resA P f1 h1 fk.results.toList).isSome then runD P G call n fn f ds m1.settle h1 else none
        | _ => none
      | none => none
    | none => none

/-- A function's body, carried out. -/
def runA (P : Program) (G : Glob) (call : CallF) (n : Nat) (fn : Func) (c : Code) (args : List PV) (h : AH) : Option RA :=
  match evC P G call (some fn.ntmps) n c (layArgs 0 args Fr.none) h with
  | some (.normal, f, h') => runD P G call n fn f f.ds .ret h'
  | some (.ret, f, h') => runD P G call n fn f f.ds .ret h'
  | some (.panic v, f, h') => runD P G call n fn f f.ds (.pan v) h'
  | _ => none
/-- A round of a range over a function. -/
def layTo : List (Tmp × PV) → Fr → Fr
  | [], f => f
  | (t, v) :: r, f => layTo r (f.set t v)
def endR (l : Nat) (pend : Option Code) (h : AH) : Option CRes :=
  match h.get l with
  | some (.loop n F ps asn body _ _) => some (.sh (.bool pend.isNone) (h.set l (.loop n F ps asn body (if pend.isNone then .ready else .done) pend)))
  | _ => none
def runY (P : Program) (G : Glob) (call : CallF) (k : Nat) (l : Nat) (args : List PV) (h : AH) : Option CRes :=
  match h.get l with
  | some (.loop _ F ps asn body .ready _) =>
    if args.length = ps.size then
      match evC P G call none k asn (layTo (ps.toList.zip args) ⟨F, []⟩) h with
      | some (.normal, f1, h1) =>
        match h1.get l with
        | some (.loop n1 F1 ps1 asn1 body1 .ready pend1) =>
          match evC P G call none k body f1 (h1.set l (.loop n1 F1 ps1 asn1 body1 .busy pend1)) with
          | some (.normal, _, h2) => endR l none h2
          | some (.ret, _, h2) => endR l (some .ret) h2
          | some (.exit id, _, h2) => endR l (some (.exit id)) h2
          | _ => none
        | _ => none
      | _ => none
    else none
  | _ => none

/-- How a function is called: on a heap of its own, its answer read-only; so, its answer a row of the caller's own; on the caller's heap; as is known from elsewhere. -/
inductive Md where
  | pure
  | own
  | shared
  | lib (F : List PV → AH → Nat → Option CRes)

/-- A call on a heap of its own. -/
inductive RP where
  | val (v : PV)
  | pan (v : PV)
def runP (P : Program) (G : Glob) (call : CallF) (n : Nat) (fn : Func) (c : Code) (args : List PV) : Option RP :=
  match runA P G call n fn c args .empty with
  | some (.val v h) => match frz 100 v h with
    | some (v', _) => some (.val v')
    | none => none
  | some (.pan v h) => match frz 100 v h with
    | some (v', _) => some (.pan v')
    | none => none
  | none => none
/-- So, its answer a row that the caller owns. -/
inductive RW where
  | val (v : PV)
  | row (E : TypeId) (sz len : Nat) (c : List PV)
def runO (P : Program) (G : Glob) (call : CallF) (n : Nat) (fn : Func) (c : Code) (args : List PV) : Option RW :=
  match runA P G call n fn c args .empty with
  | some (.val (.ow id tot off len) h) => match h.get id with
    | some (.cells E sz false c) =>
      if c.length = tot ∧ off = 0 ∧ tot = len * sz then
        match frzL (frz 100) c h with
        | some (c', h2) => match h2.get id with
          | some (.cells _ s2 false c2) => if c2.length = c.length ∧ s2 = sz then some (.row E sz len c') else none
          | _ => none
        | none => none
      else none
    | _ => none
  | some (.val v h) => match frz 100 v h with
    | some (v', _) => some (.val v')
    | none => none
  | _ => none
def sharedB (P : Program) (G : Glob) (call : CallF) (n : Nat) (fn : Func) (c : Code) (args : List PV) (h : AH) : Option CRes :=
  match runA P G call n fn c args h with
  | some (.val v h') => some (.sh v h')
  | some (.pan v h') => some (.pan v h')
  | none => none

def callB (P : Program) (G : Glob) (md : FuncId → Md) (call : CallF) (n : Nat) : CallF := fun t args h fresh =>
  match t with
  | .yl l => runY P G call n l args h
  | .fn k =>
    match md k with
    | .lib F => F args h fresh
    | .shared => match P.funcs[k]? with
      | some fn => match fn.body with
        | some c => if fn.name == "runtime.NumGoroutine" then none else sharedB P G call n fn c args h
        | none => none
      | none => none
    | .pure => match P.funcs[k]? with
      | some fn => match fn.body with
        | some c =>
          if fn.name == "runtime.NumGoroutine" then none else
          if PV.cleans args then (match runP P G call n fn c args with
            | some (.val v) => some (.val v)
            | some (.pan v) => some (.pan v h)
            | none => none)
          else match frzL (frz 100) args h with
            | some (args', h1) => match runP P G call n fn c args' with
              | some (.val v) => some (.sh v h1)
              | some (.pan v) => some (.pan v h1)
              | none => none
            | none => sharedB P G call n fn c args h
        | none => none
      | none => none
    | .own => match P.funcs[k]? with
      | some fn => match fn.body with
        | some c =>
          if fn.name == "runtime.NumGoroutine" then none else
          if PV.cleans args then (match runO P G call n fn c args with
            | some (.val v) => some (.val v)
            | some (.row E sz len c') => some (.new (.ow fresh (len * sz) 0 len) (.cells E sz false c'))
            | none => none)
          else match frzL (frz 100) args h with
            | some (args', h1) => match runO P G call n fn c args' with
              | some (.val v) => some (.sh v h1)
              | some (.row E sz len c') => some (.sh (.ow fresh (len * sz) 0 len) (h1.set fresh (.cells E sz false c')))
              | none => none
            | none => none
        | none => none
      | none => none
def runF (P : Program) (G : Glob) (md : FuncId → Md) : Nat → CallF
  | 0 => fun _ _ _ _ => none
  | n + 1 => callB P G md (runF P G md n) n

/-- What is asked of the program's text. -/
def okP (P : Program) : Bool := P.follows .mixedOrders && P.funcs.toList.all fun fn => match fn.body with
  | some c => okC fn.ntmps c
  | none => true

section
variable {P : Program} {G : Glob} {md : FuncId → Md} {call : CallF} {N : Nat} {w0 w : World}

/-- A result variable's value. -/
def resF (tmps : Array Value) : ResultVar → Sem Value
  | .tmp t => pure (tmps.getD t undef)
  | .cell p t => do loadVar t (← asAddr (tmps.getD p undef))
theorem resA_ok {f : Fr} {h : AH} {g : Gh} {a : Act} (hw : WRel g h N w0 w) (hf : FRel g f.at a) : ∀ (rs : List ResultVar) (l : List PV), resA P f h rs = some l →
    ∃ vs : List Value, (rs.mapM (resF a.tmps)).run P w = .ok vs w ∧ Reps g l vs
  | [], l, he => by
    simp only [resA, Option.some.injEq] at he
    subst he
    exact ⟨[], rfl, .nil⟩
  | .tmp t :: r, l, he => by
    simp only [resA] at he
    split at he
    · rename_i l1 h1
      obtain rfl := Option.some.inj he
      obtain ⟨vs, k1, k2⟩ := resA_ok hw hf r l1 h1
      refine ⟨a.tmps.getD t undef :: vs, ?_, .cons _ _ _ _ (hf t) k2⟩
      rw [List.mapM_cons]
      simp only [resF, Sem.run_bind, Sem.run_pure, Result.andThen_ok, k1]
    · simp at he
  | .cell p t :: r, l, he => by
    simp only [resA] at he
    split at he
    · rename_i c hb
      split at he
      · rename_i v hv
        split at he
        · rename_i l1 h1
          obtain rfl := Option.some.inj he
          obtain ⟨vs, k1, k2⟩ := resA_ok hw hf r l1 h1
          obtain ⟨ad, e1, e2⟩ := behind_ok hw hb (hf p)
          obtain ⟨u, e3, e4⟩ := readC_ok (P := P) e2 hv
          refine ⟨u :: vs, ?_, .cons _ _ _ _ e4 k2⟩
          have e5 : (asAddr (a.tmps.getD p undef)).run P w = .ok ad w := by rw [e1]; rfl
          rw [List.mapM_cons]
          simp only [resF, Sem.run_bind, e5, Sem.run_pure, Result.andThen_ok, e3, k1]
        · simp at he
      · simp at he
    · simp at he
theorem results_ok {f : Fr} {h : AH} {g : Gh} {a : Act} {fn : Func} {l : List PV} (hw : WRel g h N w0 w) (hf : FRel g f.at a) (he : resA P f h fn.results.toList = some l) : ∃ v, (results fn a.tmps).run P w = .ok v w ∧ Rep g (oneOf l) v := by
  obtain ⟨vs, h1, h2⟩ := resA_ok (P := P) hw hf _ _ he
  have hA : (results fn a.tmps).run P w = .ok (if h : vs.toArray.size = 1 then vs.toArray[0] else .tuple vs.toArray) w := by
    have e : results fn a.tmps = (do let vs ← fn.results.mapM (resF a.tmps); pure (if h : vs.size = 1 then vs[0] else .tuple vs)) := rfl
    rw [e, Sem.run_bind, Array.mapM_eq_mapM_toList, Sem.run_map, h1]
    rfl
  cases h2 with
  | nil => exact ⟨_, hA, .tup _ _ .nil⟩
  | cons p ps v vs r1 r2 =>
    cases r2 with
    | nil => exact ⟨_, hA, r1⟩
    | cons q qs u us r3 r4 =>
      refine ⟨_, hA, ?_⟩
      simp only [oneOf]
      rw [dif_neg (by simp)]
      exact .tup _ _ (.cons _ _ _ _ r1 (.cons _ _ _ _ r3 r4))
theorem layArgs_at : ∀ (l : List PV) (i : Nat) (f : Fr) (j : Nat), (layArgs i l f).at j = if i ≤ j ∧ j < i + l.length then l.getD (j - i) .undef else f.at j
  | [], i, f, j => by rw [if_neg (by rw [List.length_nil]; omega)]; rfl
  | v :: r, i, f, j => by
    rw [layArgs, layArgs_at r (i + 1), List.length_cons]
    by_cases h1 : i + 1 ≤ j ∧ j < i + 1 + r.length
    · rw [if_pos h1, if_pos (by omega), show j - i = (j - (i + 1)) + 1 by omega]
      rfl
    · rw [if_neg h1, Fr.at_set]
      by_cases h2 : j = i
      · subst h2
        rw [if_pos rfl, if_pos (by omega), Nat.sub_self]
        rfl
      · rw [if_neg h2, if_neg (by omega)]
theorem layArgs_ok {g : Gh} {args : List PV} {vs : Array Value} (hr : Reps g args vs.toList) (m : Nat) : FRel g (layArgs 0 args Fr.none).at { tmps := vs ++ Array.replicate m undef, defers := [] } := by
  intro d
  rw [layArgs_at]
  have hl : args.length = vs.size := by rw [hr.length]; simp
  by_cases h1 : d < args.length
  · rw [if_pos ⟨Nat.zero_le _, by omega⟩, Nat.sub_zero]
    obtain ⟨x, u, k1, k2, k3⟩ := hr.getD h1
    have e1 : args.getD d .undef = x := by rw [List.getD_eq_getElem?_getD, k1]; rfl
    have e2 : (vs ++ Array.replicate m undef).getD d undef = u := by
      rw [Array.getD_eq_getD_getElem?, Array.getElem?_append_left (by omega)]
      rw [Array.getElem?_toList] at k2
      rw [k2]; rfl
    rw [e1, e2]; exact k3
  · rw [if_neg (by omega)]
    exact .undef _

theorem layArgs_ds : ∀ (l : List PV) (i : Nat) (f : Fr), (layArgs i l f).ds = f.ds
  | [], _, _ => rfl
  | v :: r, i, f => by rw [layArgs, layArgs_ds r]; rfl
end
end Go.Ac
