/-
  JOINED TEXTS (C15 C16 C16b C16c): a pure machine for the model's code, its soundness, and what the program's functions come to.
-/
import Derived.Test.YtcbngkmmmfaaoaaGreatDoorM2
set_option linter.unusedVariables false
set_option linter.unusedSimpArgs false
namespace Go.Ac
open Go.RowKit

def frzL (fz : PV → AH → Option (PV × AH)) : List PV → AH → Option (List PV × AH)
  | [], h => some ([], h)
  | v :: r, h => match fz v h with
    | some (v', h1) => match frzL fz r h1 with
      | some (r', h2) => some (v' :: r', h2)
      | none => none
    | none => none
def frz : Nat → PV → AH → Option (PV × AH)
  | 0, v, h => if v.clean then some (v, h) else none
  | d + 1, v, h =>
    if v.clean then some (v, h) else
    match v with
    | .ow id tot off len => match h.get id with
      | some (.cells E sz _ c) =>
        if c.length = tot ∧ off + len * sz ≤ tot then
          match frzL (frz d) ((c.drop off).take (len * sz)) (h.set id (.cells E sz true c)) with
          | some (c', h') => some (.ro c' len, h')
          | none => none
        else none
      | _ => none
    | .ptr id tot off => match h.get id with
      | some (.cells E sz _ c) =>
        if c.length = tot then
          match frzL (frz d) (c.drop off) (h.set id (.cells E sz true c)) with
          | some (c', h') => some (.rop c', h')
          | none => none
        else none
      | _ => none
    | .agg c => match frzL (frz d) c h with
      | some (c', h') => some (.agg c', h')
      | none => none
    | .tup c => match frzL (frz d) c h with
      | some (c', h') => some (.tup c', h')
      | none => none
    | .iface t x => match frz d x h with
      | some (x', h') => some (.iface t x', h')
      | none => none
    | .fn (.func k) a b => match frzL (frz d) a h with
      | some (a', h1) => match frzL (frz d) b h1 with
        | some (b', h2) => some (.fn (.func k) a' b', h2)
        | none => none
      | none => none
    | _ => none

section
variable {N : Nat} {w0 w : World}

structure Frz (g g' : Gh) (N : Nat) (h h' : AH) : Prop where
  le : g.Le g'
  al : g'.al = g.al
  ro : ∀ b C, g'.ro b = some C → g.ro b = some C ∨ N ≤ b
  nx : h'.next = h.next
theorem Frz.refl (g : Gh) (N : Nat) (h : AH) : Frz g g N h h := ⟨Gh.Le.refl g, rfl, fun _ _ q => .inl q, rfl⟩
theorem Frz.trans {a b c : Gh} {N : Nat} {x y z : AH} (h : Frz a b N x y) (k : Frz b c N y z) : Frz a c N x z :=
  ⟨h.le.trans k.le, k.al.trans h.al, fun b C q => (k.ro b C q).elim (h.ro b C) .inr, k.nx.trans h.nx⟩
def FrzOk (N : Nat) (w0 w : World) (fz : PV → AH → Option (PV × AH)) : Prop :=
  ∀ v h v' h' (g : Gh) u, fz v h = some (v', h') → WRel g h N w0 w → Rep g v u → ∃ g', Frz g g' N h h' ∧ WRel g' h' N w0 w ∧ Rep g' v' u ∧ v'.clean = true ∧ (v.one = true → v'.one = true)
theorem frzL_ok {fz : PV → AH → Option (PV × AH)} (hf : FrzOk N w0 w fz) : ∀ (l : List PV) (h : AH) (l' : List PV) (h' : AH) (g : Gh) (us : List Value), frzL fz l h = some (l', h') → WRel g h N w0 w → Reps g l us →
    ∃ g', Frz g g' N h h' ∧ WRel g' h' N w0 w ∧ Reps g' l' us ∧ PV.cleans l' = true ∧ (PV.ones l = true → PV.ones l' = true)
  | [], h, l', h', g, us, he, hw, hr => by
    simp only [frzL, Option.some.injEq, Prod.mk.injEq] at he
    obtain ⟨rfl, rfl⟩ := he
    exact ⟨g, Frz.refl _ _ _, hw, hr, rfl, fun q => q⟩
  | v :: l, h, l', h', g, us, he, hw, hr => by
    simp only [frzL] at he
    split at he
    · rename_i v1 h1 he1
      split at he
      · rename_i l1 h2 he2
        simp only [Option.some.injEq, Prod.mk.injEq] at he
        obtain ⟨rfl, rfl⟩ := he
        cases hr with
        | cons _ _ u us r1 r2 =>
          obtain ⟨g1, a1, a2, a3, a4, a5⟩ := hf v h v1 h1 g u he1 hw r1
          obtain ⟨g2, b1, b2, b3, b4, b5⟩ := frzL_ok hf l h1 l1 h2 g1 us he2 a2 (r2.mono a1.le)
          refine ⟨g2, a1.trans b1, b2, .cons _ _ _ _ (a3.mono b1.le) b3, by simp [PV.cleans, a4, b4], fun q => ?_⟩
          simp only [PV.ones, List.all_cons, Bool.and_eq_true] at q ⊢
          exact ⟨a5 q.1, b5 q.2⟩
      · simp at he
    · simp at he
theorem frz_ok : ∀ (d : Nat), FrzOk N w0 w (frz d)
  | 0 => by
    intro v h v' h' g u he hw hr
    simp only [frz] at he
    split at he
    · rename_i hc
      simp only [Option.some.injEq, Prod.mk.injEq] at he
      obtain ⟨rfl, rfl⟩ := he
      exact ⟨g, Frz.refl _ _ _, hw, hr, hc, fun q => q⟩
    · simp at he
  | d + 1 => by
    have ih := frz_ok d
    intro v h v' h' g u he hw hr
    simp only [frz] at he
    split at he
    · rename_i hc
      simp only [Option.some.injEq, Prod.mk.injEq] at he
      obtain ⟨rfl, rfl⟩ := he
      exact ⟨g, Frz.refl _ _ _, hw, hr, hc, fun q => q⟩
    · split at he
      · rename_i id tot off len _
        split at he
        · rename_i E sz fz c hg
          split at he
          · rename_i hcond
            obtain ⟨c1, c2⟩ := hcond
            split at he
            · rename_i c' h1 he1
              simp only [Option.some.injEq, Prod.mk.injEq] at he
              obtain ⟨rfl, rfl⟩ := he
              obtain ⟨g1, C0, f1, f2, f3, f4, f5, f6, f7, f8, f9, vs, f10, f11⟩ := freeze_rel hw hg
              obtain ⟨_, _, _, t1, t2, _, _, _, _, _, t3, _⟩ := hw.objs _ _ hg
              rw [c1] at t1
              cases hr with
              | ow _ _ _ _ a cap hi hle hv =>
                obtain ⟨rfl, e1, e2, e3, e4⟩ := hv t1
                obtain ⟨g2, a1, a2, a3, a4, a5⟩ := frzL_ok ih _ _ _ _ g1 ((vs.drop off).take (len * sz)) he1 f4 (((f10.drop off).take _).mono f1)
                refine ⟨g2, ⟨f1.trans a1.le, a1.al.trans f2, fun b C q => (a1.ro b C q).elim (f3 b C) .inr, a1.nx⟩, a2, .ro _ _ _ C0 _ _ a3 a4 (a5 (PV.ones_take _ (PV.ones_drop _ t3))) (a1.le.ro _ _ f9) rfl (fun i v hv => ?_) e4, by simp [PV.clean], fun _ => rfl⟩
                rw [List.getElem?_take] at hv
                split at hv
                · rw [List.getElem?_drop] at hv; exact f11 _ _ hv
                · simp at hv
            · simp at he
          · simp at he
        · simp at he
      · rename_i id tot off _
        split at he
        · rename_i E sz fz c hg
          split at he
          · rename_i c1
            split at he
            · rename_i c' h1 he1
              simp only [Option.some.injEq, Prod.mk.injEq] at he
              obtain ⟨rfl, rfl⟩ := he
              obtain ⟨g1, C0, f1, f2, f3, f4, f5, f6, f7, f8, f9, vs, f10, f11⟩ := freeze_rel hw hg
              obtain ⟨_, _, _, t1, t2, _, _, _, _, _, t3, _⟩ := hw.objs _ _ hg
              rw [c1] at t1
              cases hr with
              | ptr _ _ _ a hi hle hv =>
                obtain rfl := hv t1
                obtain ⟨g2, a1, a2, a3, a4, a5⟩ := frzL_ok ih _ _ _ _ g1 (vs.drop off) he1 f4 ((f10.drop off).mono f1)
                refine ⟨g2, ⟨f1.trans a1.le, a1.al.trans f2, fun b C q => (a1.ro b C q).elim (f3 b C) .inr, a1.nx⟩, a2, .rop _ _ C0 _ a3 a4 (a5 (PV.ones_drop _ t3)) (a1.le.ro _ _ f9) rfl (fun i v hv => ?_), by simp [PV.clean], fun _ => rfl⟩
                rw [List.getElem?_drop] at hv; exact f11 _ _ hv
            · simp at he
          · simp at he
        · simp at he
      · split at he
        · rename_i c' h1 he1
          simp only [Option.some.injEq, Prod.mk.injEq] at he
          obtain ⟨rfl, rfl⟩ := he
          cases hr with
          | agg _ vs r1 r2 =>
            obtain ⟨g2, a1, a2, a3, a4, a5⟩ := frzL_ok ih _ _ _ _ g _ he1 hw r1
            exact ⟨g2, a1, a2, .agg _ _ a3 (a5 r2), by simpa [PV.clean] using a4, fun q => by simp [PV.one] at q⟩
        · simp at he
      · split at he
        · rename_i c' h1 he1
          simp only [Option.some.injEq, Prod.mk.injEq] at he
          obtain ⟨rfl, rfl⟩ := he
          cases hr with
          | tup _ vs r1 =>
            obtain ⟨g2, a1, a2, a3, a4, a5⟩ := frzL_ok ih _ _ _ _ g _ he1 hw r1
            exact ⟨g2, a1, a2, .tup _ _ a3, by simpa [PV.clean] using a4, fun q => by simp [PV.one] at q⟩
        · simp at he
      · split at he
        · rename_i x' h1 he1
          simp only [Option.some.injEq, Prod.mk.injEq] at he
          obtain ⟨rfl, rfl⟩ := he
          cases hr with
          | iface _ _ y r1 =>
            obtain ⟨g2, a1, a2, a3, a4, a5⟩ := ih _ _ _ _ g _ he1 hw r1
            exact ⟨g2, a1, a2, .iface _ _ _ a3, by simpa [PV.clean] using a4, fun _ => rfl⟩
        · simp at he
      · split at he
        · rename_i a' h1 he1
          split at he
          · rename_i b' h2 he2
            simp only [Option.some.injEq, Prod.mk.injEq] at he
            obtain ⟨rfl, rfl⟩ := he
            cases hr with
            | fn _ _ _ vs us r1 r2 =>
              obtain ⟨g1, a1, a2, a3, a4, a5⟩ := frzL_ok ih _ _ _ _ g _ he1 hw r1
              obtain ⟨g2, b1, b2, b3, b4, b5⟩ := frzL_ok ih _ _ _ _ g1 _ he2 a2 (r2.mono a1.le)
              exact ⟨g2, a1.trans b1, b2, .fn _ _ _ _ _ (a3.mono b1.le) b3, by simp [PV.clean, a4, b4], fun _ => rfl⟩
          · simp at he
        · simp at he
      · simp at he
end
end Go.Ac
namespace Go.Ac
open Go.RowKit

def resA (P : Program) (f : Fr) (h : AH) : List ResultVar → Option (List PV)
  | [] => some []
  | .tmp t :: r => match resA P f h r with
    | some l => some (f.at t :: l)
    | none => none
  | .cell p t :: r => match behind h (f.at p) with
    | some c => match readC P t c with
      | some v => match resA P f h r with
        | some l => some (v :: l)
        | none => none
      | none => none
    | none => none
def oneOf : List PV → PV
  | [v] => v
  | l => .tup l
def layArgs : Nat → List PV → Fr → Fr
  | _, [], f => f
  | i, v :: r, f => layArgs (i + 1) r (f.set i v)

inductive Mo where
  | ret
  | pan (v : PV)
  | rcv
def Mo.settle : Mo → Mo
  | .rcv => .ret
  | m => m
def isRec (o : Oper) : Bool := match o.op with
  | .call { callee := .builtin .recover, .. } => true
  | _ => false
def evRec (P : Program) (G : Glob) (ops : Array Oper) (base : Nat) : Nat → List Oper → Fr → AH → Mo → Option (Fr × AH × Mo)
  | _, [], f, h, m => some (f, h, m)
  | i, o :: rest, f, h, m =>
    match wantA ops f.at o with
    | none => none
    | some false => evRec P G ops base (i + 1) rest (putA f o.dst (.tup [])) h m
    | some true =>
      if isRec o then
        match m with
        | .pan v => evRec P G ops base (i + 1) rest (putA f o.dst v) h .rcv
        | m => evRec P G ops base (i + 1) rest (putA f o.dst .nif) h m
      else
        match aop P (opnd G f.at) h (base + i) o with
        | some (.q v) => evRec P G ops base (i + 1) rest (putA f o.dst v) h m
        | some (.w v id ob) => evRec P G ops base (i + 1) rest (putA f o.dst v) (h.set id ob) m
        | _ => none
def evS (P : Program) (G : Glob) (call : CallF) (nt : Nat) : Nat → Code → Fr → AH → Mo → Option (EX × Fr × AH × Mo)
  | 0, _, _, _, _ => none
  | n + 1, c, f, h, m =>
    match c with
    | .seq a b => match evS P G call nt n a f h m with
      | some (.normal, f', h', m') => evS P G call nt n b f' h' m'
      | r => r
    | .cond x a b => match opnd G f.at x with
      | .bool t => evS P G call nt n (if t then a else b) f h m
      | _ => none
    | .region id ops draw =>
      if draw = false ∧ ops.toList.any isRec = true then
        match evRec P G ops h.next 0 ops.toList f (h.up ops.size) m with
        | some (f', h', m') => some (.normal, f', h', m')
        | none => none
      else match evC P G call (some nt) n (.region id ops draw) f h with
        | some (.normal, f', h') => some (.normal, f', h', m)
        | _ => none
    | c => match evC P G call (some nt) n c f h with
      | some (.normal, f', h') => some (.normal, f', h', m)
      | some (.ret, f', h') => some (.ret, f', h', m)
      | _ => none
inductive RA where
  | val (v : PV) (h : AH)
  | pan (v : PV) (h : AH)
def runD (P : Program) (G : Glob) (call : CallF) (n : Nat) (fn : Func) (f : Fr) : List Dfr → Mo → AH → Option RA
  | [], .ret, h => match resA P f h fn.results.toList with
    | some l => some (.val (oneOf l) h)
    | none => none
  | [], .pan v, h => some (.pan v h)
  | [], .rcv, _ => none
  | .mark id :: ds, m, h => match h.get id with
    | some (.defr true) => runD P G call n fn f ds m (h.set id (.defr false))
    | _ => none
  | .call k args :: ds, m, h => match P.funcs[k]? with
    | some fk => match fk.body with
      | some c => if fk.name == "runtime.NumGoroutine" then none else
        match evS P G call fk.ntmps n c (layArgs 0 args Fr.none) h m with
        | some (.normal, f1, h1, m1) => if f1.ds.isEmpty && (resA P f1 h1 fk.results.toList).isSome then runD P G call n fn f ds m1.settle h1 else none
        | some (.ret, f1, h1, m1) => if f1.ds.isEmpty && (resA P f1 h1 fk.results.toList).isSome then runD P G call n fn f ds m1.settle h1 else none
        | _ => none
      | none => none
    | none => none

def runA (P : Program) (G : Glob) (call : CallF) (n : Nat) (fn : Func) (c : Code) (args : List PV) (h : AH) : Option RA :=
  match evC P G call (some fn.ntmps) n c (layArgs 0 args Fr.none) h with
  | some (.normal, f, h') => runD P G call n fn f f.ds .ret h'
  | some (.ret, f, h') => runD P G call n fn f f.ds .ret h'
  | some (.panic v, f, h') => runD P G call n fn f f.ds (.pan v) h'
  | _ => none
def layTo : List (Tmp × PV) → Fr → Fr
  | [], f => f
  | (t, v) :: r, f => layTo r (f.set t v)
def endR (l : Nat) (pend : Option Code) (h : AH) : Option CRes :=
  match h.get l with
  | some (.loop n F ps asn body _ _) => some (.sh (.bool pend.isNone) (h.set l (.loop n F ps asn body (if pend.isNone then .ready else .done) pend)))
  | _ => none
def runY (P : Program) (G : Glob) (call : CallF) (k : Nat) (l : Nat) (args : List PV) (h : AH) : Option CRes :=
  match h.get l with
  | some (.loop _ F ps asn body .ready _) =>
    if args.length = ps.size then
      match evC P G call none k asn (layTo (ps.toList.zip args) ⟨F, []⟩) h with
      | some (.normal, f1, h1) =>
        match h1.get l with
        | some (.loop n1 F1 ps1 asn1 body1 .ready pend1) =>
          match evC P G call none k body f1 (h1.set l (.loop n1 F1 ps1 asn1 body1 .busy pend1)) with
          | some (.normal, _, h2) => endR l none h2
          | some (.ret, _, h2) => endR l (some .ret) h2
          | some (.exit id, _, h2) => endR l (some (.exit id)) h2
          | _ => none
        | _ => none
      | _ => none
    else none
  | _ => none

inductive Md where
  | pure
  | own
  | shared
  | lib (F : List PV → AH → Nat → Option CRes)

inductive RP where
  | val (v : PV)
  | pan (v : PV)
def runP (P : Program) (G : Glob) (call : CallF) (n : Nat) (fn : Func) (c : Code) (args : List PV) : Option RP :=
  match runA P G call n fn c args .empty with
  | some (.val v h) => match frz 100 v h with
    | some (v', _) => some (.val v')
    | none => none
  | some (.pan v h) => match frz 100 v h with
    | some (v', _) => some (.pan v')
    | none => none
  | none => none
inductive RW where
  | val (v : PV)
  | row (E : TypeId) (sz len : Nat) (c : List PV)
def runO (P : Program) (G : Glob) (call : CallF) (n : Nat) (fn : Func) (c : Code) (args : List PV) : Option RW :=
  match runA P G call n fn c args .empty with
  | some (.val (.ow id tot off len) h) => match h.get id with
    | some (.cells E sz false c) =>
      if c.length = tot ∧ off = 0 ∧ tot = len * sz then
        match frzL (frz 100) c h with
        | some (c', h2) => match h2.get id with
          | some (.cells _ s2 false c2) => if c2.length = c.length ∧ s2 = sz then some (.row E sz len c') else none
          | _ => none
        | none => none
      else none
    | _ => none
  | some (.val v h) => match frz 100 v h with
    | some (v', _) => some (.val v')
    | none => none
  | _ => none
def sharedB (P : Program) (G : Glob) (call : CallF) (n : Nat) (fn : Func) (c : Code) (args : List PV) (h : AH) : Option CRes :=
  match runA P G call n fn c args h with
  | some (.val v h') => some (.sh v h')
  | some (.pan v h') => some (.pan v h')
  | none => none

def callB (P : Program) (G : Glob) (md : FuncId → Md) (call : CallF) (n : Nat) : CallF := fun t args h fresh =>
  match t with
  | .yl l => runY P G call n l args h
  | .fn k =>
    match md k with
    | .lib F => F args h fresh
    | .shared => match P.funcs[k]? with
      | some fn => match fn.body with
        | some c => if fn.name == "runtime.NumGoroutine" then none else sharedB P G call n fn c args h
        | none => none
      | none => none
    | .pure => match P.funcs[k]? with
      | some fn => match fn.body with
        | some c =>
          if fn.name == "runtime.NumGoroutine" then none else
          if PV.cleans args then (match runP P G call n fn c args with
            | some (.val v) => some (.val v)
            | some (.pan v) => some (.pan v h)
            | none => none)
          else match frzL (frz 100) args h with
            | some (args', h1) => match runP P G call n fn c args' with
              | some (.val v) => some (.sh v h1)
              | some (.pan v) => some (.pan v h1)
              | none => none
            | none => sharedB P G call n fn c args h
        | none => none
      | none => none
    | .own => match P.funcs[k]? with
      | some fn => match fn.body with
        | some c =>
          if fn.name == "runtime.NumGoroutine" then none else
          if PV.cleans args then (match runO P G call n fn c args with
            | some (.val v) => some (.val v)
            | some (.row E sz len c') => some (.new (.ow fresh (len * sz) 0 len) (.cells E sz false c'))
            | none => none)
          else match frzL (frz 100) args h with
            | some (args', h1) => match runO P G call n fn c args' with
              | some (.val v) => some (.sh v h1)
              | some (.row E sz len c') => some (.sh (.ow fresh (len * sz) 0 len) (h1.set fresh (.cells E sz false c')))
              | none => none
            | none => none
        | none => none
      | none => none
def runF (P : Program) (G : Glob) (md : FuncId → Md) : Nat → CallF
  | 0 => fun _ _ _ _ => none
  | n + 1 => callB P G md (runF P G md n) n

def okP (P : Program) : Bool := P.follows .mixedOrders && P.funcs.toList.all fun fn => match fn.body with
  | some c => okC fn.ntmps c
  | none => true

section
variable {P : Program} {G : Glob} {md : FuncId → Md} {call : CallF} {N : Nat} {w0 w : World}

def resF (tmps : Array Value) : ResultVar → Sem Value
  | .tmp t => pure (tmps.getD t undef)
  | .cell p t => do loadVar t (← asAddr (tmps.getD p undef))
theorem resA_ok {f : Fr} {h : AH} {g : Gh} {a : Act} (hw : WRel g h N w0 w) (hf : FRel g f.at a) : ∀ (rs : List ResultVar) (l : List PV), resA P f h rs = some l →
    ∃ vs : List Value, (rs.mapM (resF a.tmps)).run P w = .ok vs w ∧ Reps g l vs
  | [], l, he => by
    simp only [resA, Option.some.injEq] at he
    subst he
    exact ⟨[], rfl, .nil⟩
  | .tmp t :: r, l, he => by
    simp only [resA] at he
    split at he
    · rename_i l1 h1
      obtain rfl := Option.some.inj he
      obtain ⟨vs, k1, k2⟩ := resA_ok hw hf r l1 h1
      refine ⟨a.tmps.getD t undef :: vs, ?_, .cons _ _ _ _ (hf t) k2⟩
      rw [List.mapM_cons]
      simp only [resF, Sem.run_bind, Sem.run_pure, Result.andThen_ok, k1]
    · simp at he
  | .cell p t :: r, l, he => by
    simp only [resA] at he
    split at he
    · rename_i c hb
      split at he
      · rename_i v hv
        split at he
        · rename_i l1 h1
          obtain rfl := Option.some.inj he
          obtain ⟨vs, k1, k2⟩ := resA_ok hw hf r l1 h1
          obtain ⟨ad, e1, e2⟩ := behind_ok hw hb (hf p)
          obtain ⟨u, e3, e4⟩ := readC_ok (P := P) e2 hv
          refine ⟨u :: vs, ?_, .cons _ _ _ _ e4 k2⟩
          have e5 : (asAddr (a.tmps.getD p undef)).run P w = .ok ad w := by rw [e1]; rfl
          rw [List.mapM_cons]
          simp only [resF, Sem.run_bind, e5, Sem.run_pure, Result.andThen_ok, e3, k1]
        · simp at he
      · simp at he
    · simp at he
theorem results_ok {f : Fr} {h : AH} {g : Gh} {a : Act} {fn : Func} {l : List PV} (hw : WRel g h N w0 w) (hf : FRel g f.at a) (he : resA P f h fn.results.toList = some l) : ∃ v, (results fn a.tmps).run P w = .ok v w ∧ Rep g (oneOf l) v := by
  obtain ⟨vs, h1, h2⟩ := resA_ok (P := P) hw hf _ _ he
  have hA : (results fn a.tmps).run P w = .ok (if h : vs.toArray.size = 1 then vs.toArray[0] else .tuple vs.toArray) w := by
    have e : results fn a.tmps = (do let vs ← fn.results.mapM (resF a.tmps); pure (if h : vs.size = 1 then vs[0] else .tuple vs)) := rfl
    rw [e, Sem.run_bind, Array.mapM_eq_mapM_toList, Sem.run_map, h1]
    rfl
  cases h2 with
  | nil => exact ⟨_, hA, .tup _ _ .nil⟩
  | cons p ps v vs r1 r2 =>
    cases r2 with
    | nil => exact ⟨_, hA, r1⟩
    | cons q qs u us r3 r4 =>
      refine ⟨_, hA, ?_⟩
      simp only [oneOf]
      rw [dif_neg (by simp)]
      exact .tup _ _ (.cons _ _ _ _ r1 (.cons _ _ _ _ r3 r4))
theorem layArgs_at : ∀ (l : List PV) (i : Nat) (f : Fr) (j : Nat), (layArgs i l f).at j = if i ≤ j ∧ j < i + l.length then l.getD (j - i) .undef else f.at j
  | [], i, f, j => by rw [if_neg (by rw [List.length_nil]; omega)]; rfl
  | v :: r, i, f, j => by
    rw [layArgs, layArgs_at r (i + 1), List.length_cons]
    by_cases h1 : i + 1 ≤ j ∧ j < i + 1 + r.length
    · rw [if_pos h1, if_pos (by omega), show j - i = (j - (i + 1)) + 1 by omega]
      rfl
    · rw [if_neg h1, Fr.at_set]
      by_cases h2 : j = i
      · subst h2
        rw [if_pos rfl, if_pos (by omega), Nat.sub_self]
        rfl
      · rw [if_neg h2, if_neg (by omega)]
theorem layArgs_ok {g : Gh} {args : List PV} {vs : Array Value} (hr : Reps g args vs.toList) (m : Nat) : FRel g (layArgs 0 args Fr.none).at { tmps := vs ++ Array.replicate m undef, defers := [] } := by
  intro d
  rw [layArgs_at]
  have hl : args.length = vs.size := by rw [hr.length]; simp
  by_cases h1 : d < args.length
  · rw [if_pos ⟨Nat.zero_le _, by omega⟩, Nat.sub_zero]
    obtain ⟨x, u, k1, k2, k3⟩ := hr.getD h1
    have e1 : args.getD d .undef = x := by rw [List.getD_eq_getElem?_getD, k1]; rfl
    have e2 : (vs ++ Array.replicate m undef).getD d undef = u := by
      rw [Array.getD_eq_getD_getElem?, Array.getElem?_append_left (by omega)]
      rw [Array.getElem?_toList] at k2
      rw [k2]; rfl
    rw [e1, e2]; exact k3
  · rw [if_neg (by omega)]
    exact .undef _

theorem layArgs_ds : ∀ (l : List PV) (i : Nat) (f : Fr), (layArgs i l f).ds = f.ds
  | [], _, _ => rfl
  | v :: r, i, f => by rw [layArgs, layArgs_ds r]; rfl
end
end Go.Ac
namespace Go.Ac
open Go.RowKit
set_option linter.unusedSimpArgs false
section
variable {P : Program} {G : Glob} {call : CallF} {N : Nat} {w0 : World} {n : Nat}

def MoRel (g : Gh) : Mo → FrameMode → Prop
  | .ret, u => u = .returning
  | .pan v, u => ∃ x, Rep g v x ∧ u = .panicking [{ v := x, recovered := false }]
  | .rcv, u => ∃ x, u = .panicking [{ v := x, recovered := true }]
theorem MoRel.mono {g g' : Gh} (h : g.Le g') {m : Mo} {u : FrameMode} (a : MoRel g m u) : MoRel g' m u := by
  cases m with
  | ret => exact a
  | pan v => obtain ⟨x, h1, h2⟩ := a; exact ⟨x, h1.mono h, h2⟩
  | rcv => exact a
theorem MoRel.settle {g : Gh} {m : Mo} {u : FrameMode} (a : MoRel g m u) : MoRel g m.settle (Go.settle u) := by
  cases m with
  | ret => rw [show u = .returning from a]; rfl
  | pan v => obtain ⟨x, h1, rfl⟩ := a; exact ⟨x, h1, rfl⟩
  | rcv => obtain ⟨x, rfl⟩ := a; rfl
theorem MoRel.ne_run {g : Gh} {m : Mo} {u : FrameMode} (a : MoRel g m u) : u ≠ .run := by
  cases m with
  | ret => rw [show u = .returning from a]; simp
  | pan v => obtain ⟨x, h1, rfl⟩ := a; simp
  | rcv => obtain ⟨x, rfl⟩ := a; simp
theorem isRec_sem {o : Oper} (h : isRec o = true) (ρ : Operand → Value) (w : World) : (execOp ρ o).run P w = .ok .recover w := by
  unfold isRec at h
  split at h
  · rename_i args argTypes hop
    simp [execOp, hop, resolve, invoke, builtin]
  · simp at h
def SPost (P : Program) (G : Glob) (N : Nat) (w0 : World) (n : Nat) (g : Gh) (base : Nat) (c₀ : Frame) (cs : List Frame) (Q : Exit → Act → List Frame → World → Prop) (x : EX) (f : Fr) (h : AH) (m : Mo) : Prop :=
  ∀ g' a' w' u, Is P G N w0 n g' f.at f.ds h a' w' → Ext g g' N base → base ≤ h.next → MoRel g' m u → Q x.to a' ({ c₀ with mode := u } :: cs) w'
theorem SPost.ext {g g' : Gh} {base base' : Nat} {c₀ : Frame} {cs : List Frame} {Q : Exit → Act → List Frame → World → Prop} {x : EX} {f : Fr} {h : AH} {m : Mo} (hq : SPost P G N w0 n g base c₀ cs Q x f h m) (hx : Ext g g' N base) (hb : base ≤ base') : SPost P G N w0 n g' base' c₀ cs Q x f h m :=
  fun g'' a' w' u hi hx' hle hm => hq g'' a' w' u hi (hx.trans hx' hb) (by omega) hm

theorem evRec_ok {ops : Array Oper} (hd : ∀ (j : Nat) (x : Oper) (d : Nat), ops[j]? = some x → x.dst = some d → d < n) {base : Nat} {c₀ : Frame} {cs : List Frame} {Q : Exit → Act → List Frame → World → Prop} {ff : Fr} {hf : AH} {mf : Mo} :
    ∀ (l : List Oper) (i : Nat) (f : Fr) (h : AH) (m : Mo) (g : Gh) (a : Act) (w : World) (u : FrameMode), evRec P G ops base i l f h m = some (ff, hf, mf) → (∀ j, l[j]? = ops[i + j]?) → base + i + l.length ≤ h.next → Is P G N w0 n g f.at f.ds h a w → MoRel g m u →
      (∀ j, i ≤ j → j < i + l.length → ¬ g.al (base + j)) → SPost P G N w0 n g base c₀ cs Q .normal ff hf mf → wpOpsSIn (Wd none) 0 P ops Q (List.range' i l.length) a ({ c₀ with mode := u } :: cs) w
  | [], i, f, h, m, g, a, w, u, he, _, hb, hi, hmo, _, hq => by
    simp only [evRec, Option.some.injEq, Prod.mk.injEq] at he
    obtain ⟨rfl, rfl, rfl⟩ := he
    exact hq g a w u hi (Ext.refl _ _ _) (by simp at hb; omega) hmo
  | o :: l, i, f, h, m, g, a, w, u, he, hl, hb, hi, hmo, hfr, hq => by
    have h0 : ops[i]? = some o := by simpa using (hl 0).symm
    have hl' : ∀ j, l[j]? = ops[i + 1 + j]? := fun j => by have := hl (j + 1); simpa [Nat.add_assoc, Nat.add_comm 1 j] using this
    have hdo : ∀ x, o.dst = some x → x < n := fun x hx => hd i o x h0 hx
    rw [List.length_cons] at hb
    rw [List.length_cons, List.range'_succ]
    simp only [wpOpsSIn, h0]
    refine ⟨fun _ _ => trivial, ?_⟩
    have next : ∀ v hn m' u' g' a' w', evRec P G ops base (i + 1) l (putA f o.dst v) hn m' = some (ff, hf, mf) → Is P G N w0 n g' (putF f.at o.dst v) f.ds hn a' w' → MoRel g' m' u' → g.Le g' → (∀ j, g'.al j → g.al j ∨ j = base + i) →
        (∀ b C, g'.ro b = some C → g.ro b = some C ∨ N ≤ b) → hn.next = h.next → wpOpsSIn (Wd none) 0 P ops Q (List.range' (i + 1) l.length) a' ({ c₀ with mode := u' } :: cs) w' := by
      intro v hn m' u' g' a' w' he' hi' hmo' le al ro hnx
      refine evRec_ok hd l (i + 1) _ hn m' g' a' w' u' he' hl' (by omega) (by rw [at_putA, ds_putA]; exact hi') hmo' (fun j hj1 hj2 hal => ?_) (hq.ext ⟨le, fun id hid => ?_, ro⟩ (Nat.le_refl _))
      · rcases al _ hal with q | q
        · exact hfr j (by omega) (by rw [List.length_cons]; omega) q
        · omega
      · rcases al _ hid with q | q
        · exact .inl q
        · exact .inr (by omega)
    have hfree : ¬ g.al (base + i) := hfr i (Nat.le_refl _) (by rw [List.length_cons]; omega)
    simp only [evRec] at he
    split at he
    · simp at he
    · rename_i hw
      rw [if_neg (by rw [want_ok hi.fr hi.sz hd hw]; simp)]
      exact next _ h m u g _ w he (hi.put hdo (Gh.Le.refl g) hi.rel hi.al (.tup [] #[] .nil)) hmo (Gh.Le.refl g) (fun _ q => .inl q) (fun _ _ q => .inl q) rfl
    · rename_i hw
      rw [if_pos (by rw [want_ok hi.fr hi.sz hd hw])]
      split at he
      · rename_i hrec
        rw [isRec_sem hrec]
        simp only
        have other : MoRel g m u → (∀ v, m ≠ .pan v) → recoverD ({ c₀ with mode := u } :: cs) = none := by
          intro hmr hne
          cases m with
          | ret => rw [show u = .returning from hmr]; rfl
          | pan v => exact absurd rfl (hne v)
          | rcv => obtain ⟨x, rfl⟩ := hmr; rfl
        split at he
        · rename_i v
          obtain ⟨x, hx, rfl⟩ := hmo
          simp only [recoverD]
          exact next v h .rcv _ g _ w he (hi.put hdo (Gh.Le.refl g) hi.rel hi.al hx) ⟨x, rfl⟩ (Gh.Le.refl g) (fun _ q => .inl q) (fun _ _ q => .inl q) rfl
        · rename_i hne
          rw [other hmo (fun v e => hne v e)]
          exact next .nif h m u g _ w he (hi.put hdo (Gh.Le.refl g) hi.rel hi.al .nif) hmo (Gh.Le.refl g) (fun _ q => .inl q) (fun _ _ q => .inl q) rfl
      · split at he
        · rename_i v hv
          obtain ⟨z, w', h1, h2, h3⟩ := aop_ok hi.glob hi.fr hi.rel hfree hv
          rw [h1]
          exact next v h m u g _ w' he (hi.put hdo (Gh.Le.refl g) h2 hi.al h3) hmo (Gh.Le.refl g) (fun _ q => .inl q) (fun _ _ q => .inl q) rfl
        · rename_i v id ob hv
          obtain ⟨nx, z, w', g', h1, h2, h3, h4, h5⟩ := aop_ok hi.glob hi.fr hi.rel hfree hv
          have hal : Al g' (h.set id ob).next := fun j hj => by
            rw [AH.next_set]
            rcases h3.al j hj with q | rfl
            · exact hi.al j q
            · omega
          have hK := next v (h.set id ob) m u g' _ w' he (hi.put hdo h3.le h4 hal h5) (hmo.mono h3.le) h3.le h3.al h3.ro rfl
          rw [h1]
          rcases h2 with rfl | ⟨rfl, rfl⟩
          · exact hK
          · exact hK
        · simp at he

theorem evS_ok (hm : P.follows .mixedOrders = true) (hc : CallOk P G call) (hind : CallInd call) {c₀ : Frame} {cs : List Frame} : ∀ (k : Nat) (c : Code) (f : Fr) (h : AH) (m : Mo) (x : EX) (f' : Fr) (h' : AH) (m' : Mo) (g : Gh) (a : Act) (w : World) (u : FrameMode) (Q : Exit → Act → List Frame → World → Prop),
    okC n c = true → evS P G call n k c f h m = some (x, f', h', m') → Is P G N w0 n g f.at f.ds h a w → MoRel g m u → SPost P G N w0 n g h.next c₀ cs Q x f' h' m' → c.wpSIn (Wd none) 0 P Q a ({ c₀ with mode := u } :: cs) w
  | 0, _, _, _, _, _, _, _, _, _, _, _, _, _, _, he, _, _, _ => by simp [evS] at he
  | k + 1, c, f, h, m, x, f', h', m', g, a, w, u, Q, hok, he, hi, hmo, hq => by
    have plain : ∀ (x : EX), (x = .normal ∨ x = .ret) → evC P G call (some n) k c f h = some (x, f', h') → SPost P G N w0 n g h.next c₀ cs Q x f' h' m → c.wpSIn (Wd none) 0 P Q a ({ c₀ with mode := u } :: cs) w := by
      intro x hx he' hq'
      refine wpSIn_of_wpIn rfl (evC_ok (nt := some n) (ro := none) rfl (fun m e => (Option.some.inj e).symm) hm hc hind hok he' hi ?_)
      rcases hx with rfl | rfl
      · exact fun g' a' w' hi' hx' hle => hq' g' a' w' u hi' hx' hle (hmo.mono hx'.le)
      · exact fun g' a' w' hi' hx' hle => hq' g' a' w' u hi' hx' hle (hmo.mono hx'.le)
    have rest : (match evC P G call (some n) k c f h with
      | some (.normal, f', h') => some (EX.normal, f', h', m)
      | some (.ret, f', h') => some (EX.ret, f', h', m)
      | _ => none) = some (x, f', h', m') → c.wpSIn (Wd none) 0 P Q a ({ c₀ with mode := u } :: cs) w := by
      intro he
      split at he
      · rename_i f1 h1 he1
        simp only [Option.some.injEq, Prod.mk.injEq] at he
        obtain ⟨rfl, rfl, rfl, rfl⟩ := he
        exact plain .normal (.inl rfl) he1 hq
      · rename_i f1 h1 he1
        simp only [Option.some.injEq, Prod.mk.injEq] at he
        obtain ⟨rfl, rfl, rfl, rfl⟩ := he
        exact plain .ret (.inr rfl) he1 hq
      · simp at he
    cases c with
    | seq c1 c2 =>
      simp only [okC, Bool.and_eq_true] at hok
      simp only [evS] at he
      refine wpSIn_seq ?_
      split at he
      · rename_i f1 h1 m1 he1
        refine evS_ok hm hc hind k c1 f h m _ f1 h1 m1 g a w u _ hok.1 he1 hi hmo fun g' a' w' u' hi' hx hnx hmo' => ?_
        exact evS_ok hm hc hind k c2 f1 h1 m1 x f' h' m' g' a' w' u' Q hok.2 he hi' hmo' (hq.ext hx hnx)
      · rename_i r hne
        refine evS_ok hm hc hind k c1 f h m x f' h' m' g a w u _ hok.1 he hi hmo ?_
        cases x with
        | normal => exact absurd he (hne _ _ _)
        | exit id => exact hq
        | ret => exact hq
        | panic v => exact hq
    | cond y c1 c2 =>
      simp only [okC, Bool.and_eq_true] at hok
      simp only [evS] at he
      split at he
      · rename_i t ht
        have hy := opnd_ok hi.glob hi.fr y
        rw [ht] at hy
        cases hv : a.eval y <;> rw [hv] at hy <;> cases hy
        refine wpSIn_cond hv ?_
        cases t
        · exact evS_ok hm hc hind k c2 f h m x f' h' m' g a w u Q hok.2 he hi hmo hq
        · exact evS_ok hm hc hind k c1 f h m x f' h' m' g a w u Q hok.1 he hi hmo hq
      · simp at he
    | region id ops draw =>
      simp only [evS] at he
      split at he
      · rename_i hcond
        obtain ⟨rfl, _⟩ := hcond
        split at he
        · rename_i f1 h1 m1 he1
          simp only [Option.some.injEq, Prod.mk.injEq] at he
          obtain ⟨rfl, rfl, rfl, rfl⟩ := he
          simp only [okC, Bool.and_eq_true, Array.all_eq_true] at hok
          have hd : ∀ (j : Nat) (y : Oper) (d : Nat), ops[j]? = some y → y.dst = some d → d < n := by
            intro j y d hj hy
            obtain ⟨hlt, e⟩ := Array.getElem?_eq_some_iff.1 hj
            have := hok.1 j hlt
            rw [e, hy] at this
            simpa using this
          have := evRec_ok (c₀ := c₀) (cs := cs) (Q := Q) hd (base := h.next) ops.toList 0 f (h.up ops.size) m g a w u he1 (by simp) (by rw [AH.next_up, Array.length_toList]; omega) (hi.up _) hmo (fun j _ _ q => absurd (hi.al _ q) (by omega)) hq
          rw [Array.length_toList] at this
          refine wpSIn_region ?_
          rw [List.range_eq_range']
          exact this
        · simp at he
      · split at he
        · rename_i f1 h1 he1
          simp only [Option.some.injEq, Prod.mk.injEq] at he
          obtain ⟨rfl, rfl, rfl, rfl⟩ := he
          exact plain .normal (.inl rfl) he1 hq
        · simp at he
    | _ => exact rest he

def RAPost (g : Gh) (base : Nat) (N : Nat) (w0 : World) : RA → Ending → World → Prop
  | .val v h', e, w' => ∃ u g', e = .returned u ∧ Ext g g' N base ∧ WRel g' h' N w0 w' ∧ Al g' h'.next ∧ base ≤ h'.next ∧ Rep g' v u
  | .pan v h', e, w' => ∃ u g', e = .panicked [{ v := u, recovered := false }] ∧ Ext g g' N base ∧ WRel g' h' N w0 w' ∧ Al g' h'.next ∧ base ≤ h'.next ∧ Rep g' v u
theorem RAPost.ext {g g' : Gh} {base base' : Nat} {r : RA} {e : Ending} {w : World} (hx : Ext g g' N base) (hb : base ≤ base') (h : RAPost g' base' N w0 r e w) : RAPost g base N w0 r e w := by
  cases r with
  | val v h' => obtain ⟨u, g2, h1, h2, h3, h4, h5, h6⟩ := h; exact ⟨u, g2, h1, hx.trans h2 hb, h3, h4, by omega, h6⟩
  | pan v h' => obtain ⟨u, g2, h1, h2, h3, h4, h5, h6⟩ := h; exact ⟨u, g2, h1, hx.trans h2 hb, h3, h4, by omega, h6⟩

theorem callFunc_run {k : FuncId} {fk : Func} {c : Code} (hf : P.funcs[k]? = some fk) (hb : fk.body = some c) (hn : ¬ (fk.name == "runtime.NumGoroutine") = true) (vs : Array Value) (w : World) : (callFunc k vs).run P w = .ok (.enter k vs) w := by
  unfold callFunc
  simp only [Sem.run_bind, run_program, Result.andThen_ok, hf]
  rw [if_neg hn, if_neg (by rw [hb]; simp)]
  rfl
theorem LeavesInM.mono {F : Fence} {nn : Nat} {fn : Func} {tmps : Array Value} {R R' : Ending → World → Prop} (hr : ∀ e w, R e w → R' e w) : ∀ (ds : List Deferred) (u : FrameMode) (w : World), LeavesInM F nn P fn tmps R ds u w → LeavesInM F nn P fn tmps R' ds u w
  | [], u, w, h => by
    cases u with
    | run => exact h.elim
    | returning => obtain ⟨v, h1, h2⟩ := h; exact ⟨v, h1, hr _ _ h2⟩
    | panicking ch => exact hr _ _ h
  | d :: ds, u, w, h => by
    obtain ⟨h0, h⟩ := h
    refine ⟨h0, ?_⟩
    rcases h with ⟨r, w', h1, h2, h3⟩ | ⟨h1, fv, cap, f, args, h2, h3, h4, h5⟩
    · exact .inl ⟨r, w', h1, h2, LeavesInM.mono hr ds u w' h3⟩
    · refine .inr ⟨h1, fv, cap, f, args, h2, h3, h4, h5.mono fun e u' w' q => ?_⟩
      cases e with
      | returned v => exact LeavesInM.mono hr ds _ _ q
      | panicked ch => exact LeavesInM.mono hr ds _ _ q
      | outgrown => exact hr _ _ q

theorem runD_ok (hm : P.follows .mixedOrders = true) (hc : CallOk P G call) (hind : CallInd call) (hokP : ∀ (k : FuncId) (fk : Func) (c : Code), P.funcs[k]? = some fk → fk.body = some c → okC fk.ntmps c = true) {k : Nat} {fn : Func} {f : Fr} {r : RA} {tmps : Array Value} : ∀ (ds : List Dfr) (m : Mo) (h : AH) (g : Gh) (dl : List Deferred) (u : FrameMode) (w : World),
    runD P G call k fn f ds m h = some r → GlobOk g G → (∀ d, Rep g (f.at d) (tmps.getD d undef)) → WRel g h N w0 w → Al g h.next → DsOk P g ds dl → MoRel g m u → LeavesInM (Wd none) 0 P fn tmps (RAPost g h.next N w0 r) dl u w
  | [], .ret, h, g, dl, u, w, he, hG, hf, hw, hal, hd, hmo => by
    cases hd
    simp only [runD] at he
    split at he
    · rename_i l hl
      obtain rfl := Option.some.inj he
      rw [show u = .returning from hmo]
      obtain ⟨v, h1, h2⟩ := results_ok (P := P) (fn := fn) (a := { tmps := tmps, defers := [] }) hw hf hl
      exact ⟨v, h1, v, g, rfl, Ext.refl _ _ _, hw, hal, Nat.le_refl _, h2⟩
    · simp at he
  | [], .pan v, h, g, dl, u, w, he, hG, hf, hw, hal, hd, hmo => by
    cases hd
    simp only [runD, Option.some.injEq] at he
    subst he
    obtain ⟨x, hx, rfl⟩ := hmo
    exact ⟨x, g, rfl, Ext.refl _ _ _, hw, hal, Nat.le_refl _, hx⟩
  | [], .rcv, h, g, dl, u, w, he, hG, hf, hw, hal, hd, hmo => by simp [runD] at he
  | .mark id :: ds, m, h, g, dl, u, w, he, hG, hf, hw, hal, hd, hmo => by
    simp only [runD] at he
    split at he
    · rename_i hg
      cases hd with
      | cons _ _ d dl' hd1 hd2 =>
        obtain ⟨k1, bk, rfl, k2⟩ := hd1
        obtain ⟨_, j2, j3, j4, j5, j6⟩ := hw.objs _ _ hg
        obtain rfl := k2 j4
        rw [if_pos rfl] at j6
        have hrun : (Instr.takeDeferred (g.bl id)).run P w = .ok [] { w with heap := w.heap.setIfInBounds (g.bl id) (.deferred none) } := by
          unfold Instr.takeDeferred
          simp [getObj, setObj, Sem.run, j6]
        have hrel : WRel g (h.set id (.defr false)) N w0 { w with heap := w.heap.setIfInBounds (g.bl id) (.deferred none) } :=
          other_rel hw hg ⟨rfl, rfl, rfl, by simp, fun k hk => by
            show (w.heap.setIfInBounds _ _)[k]? = _
            rw [Array.getElem?_setIfInBounds_ne (by omega)]⟩ (by simp) (fun k hk => by
            show (w.heap.setIfInBounds _ _)[k]? = _
            rw [Array.getElem?_setIfInBounds_ne (fun q => hk q.symm)]) j5 ⟨j4, j5, by
            show (w.heap.setIfInBounds _ _)[g.bl id]? = _
            rw [Array.getElem?_setIfInBounds_self_of_lt j3]; rfl⟩
        exact ⟨hmo.ne_run, .inl ⟨_, _, rfl, hrun, runD_ok hm hc hind hokP ds m (h.set id (.defr false)) g dl' u _ he hG hf hrel hal hd2 hmo⟩⟩
    · simp at he
  | .call kf args :: ds, m, h, g, dl, u, w, he, hG, hf, hw, hal, hd, hmo => by
    simp only [runD] at he
    split at he
    · rename_i fk hfk
      split at he
      · rename_i c hb
        split at he
        · simp at he
        · rename_i hname
          cases hd with
          | cons _ _ d dl' hd1 hd2 =>
            obtain ⟨⟨fv, cap, htar⟩, vs, hinv, hr⟩ := hd1
            refine ⟨hmo.ne_run, .inr ⟨fun q => by simp [Wd, Fence.wide] at q, fv, cap, kf, vs, htar, by rw [hinv, callFunc_run hfk hb hname], fun _ _ => trivial, ?_⟩⟩
            have fin : ∀ (x : EX) f1 h1 m1, (x = .normal ∨ x = .ret) → evS P G call fk.ntmps k c (layArgs 0 args Fr.none) h m = some (x, f1, h1, m1) → (if f1.ds.isEmpty && (resA P f1 h1 fk.results.toList).isSome then runD P G call k fn f ds m1.settle h1 else none) = some r →
                CallsDIn (Wd none) (0 - 1) P kf vs u w fun
                  | .returned _, u', w' => LeavesInM (Wd none) 0 P fn tmps (RAPost g h.next N w0 r) dl' (settle u') w'
                  | .panicked chain, u', w' => LeavesInM (Wd none) 0 P fn tmps (RAPost g h.next N w0 r) dl' (raised u' chain) w'
                  | .outgrown, _, w' => RAPost g h.next N w0 r .outgrown w' := by
              intro x f1 h1 m1 hx he1 he2
              split at he2
              · rename_i hcond
                simp only [Bool.and_eq_true, List.isEmpty_iff, Option.isSome_iff_exists] at hcond
                obtain ⟨hds, l, hl⟩ := hcond
                refine callsDIn_of_wpSIn hfk hb trivial fun c₀ cs hu => ?_
                have e0 : c₀ = { c₀ with mode := u } := by rw [← hu]
                rw [e0]
                have hi : Is P G N w0 fk.ntmps g (layArgs 0 args Fr.none).at (layArgs 0 args Fr.none).ds h { tmps := vs ++ Array.replicate (fk.ntmps - vs.size) undef, defers := [] } w :=
                  ⟨hG, layArgs_ok hr _, hw, hal, by rw [layArgs_ds]; exact .nil, by simp; omega⟩
                refine evS_ok hm hc hind (c₀ := { c₀ with mode := u }) k c _ h m x f1 h1 m1 g _ w u _ (hokP _ _ _ hfk hb) he1 hi hmo fun g' a' w' u' hi' hx' hle hmo' => ?_
                have hd0 : a'.defers = [] := by
                  have := hi'.df
                  rw [hds] at this
                  generalize a'.defers = z at this
                  cases this
                  rfl
                obtain ⟨v, r1, r2⟩ := results_ok (P := P) hi'.rel hi'.fr hl
                have go : LeavesInM (Wd none) 0 P fn tmps (RAPost g h.next N w0 r) dl' (settle u') w' :=
                  LeavesInM.mono (fun e w q => RAPost.ext hx' hle q) _ _ _ (runD_ok hm hc hind hokP ds m1.settle h1 g' dl' (settle u') w' he2 hi'.glob (fun d => (hf d).mono hx'.le) hi'.rel hi'.al (hd2.mono hx'.le) hmo'.settle)
                rcases hx with rfl | rfl
                · exact ⟨hd0, u', rfl, v, r1, go⟩
                · exact ⟨hd0, u', rfl, v, r1, go⟩
              · simp at he2
            split at he
            · rename_i f1 h1 m1 he1
              exact fin .normal f1 h1 m1 (.inl rfl) he1 he
            · rename_i f1 h1 m1 he1
              exact fin .ret f1 h1 m1 (.inr rfl) he1 he
            · simp at he
      · simp at he
    · simp at he

theorem runA_ok (hm : P.follows .mixedOrders = true) (hc : CallOk P G call) (hind : CallInd call) (hokP : ∀ (k : FuncId) (fk : Func) (c : Code), P.funcs[k]? = some fk → fk.body = some c → okC fk.ntmps c = true) {k : FuncId} {fn : Func} {c : Code} (hf : P.funcs[k]? = some fn) (hb : fn.body = some c) {fuel : Nat} {args : List PV} {h : AH} {r : RA}
    (he : runA P G call fuel fn c args h = some r) {g : Gh} {w : World} {vs : Array Value} (hG : GlobOk g G) (hw : WRel g h N w0 w) (hal : Al g h.next) (hr : Reps g args vs.toList) :
    CallsIn (Wd none) 0 P k vs w (RAPost g h.next N w0 r) := by
  refine callsIn_of_wp_marks hf hb trivial ?_
  have hi : Is P G N w0 fn.ntmps g (layArgs 0 args Fr.none).at (layArgs 0 args Fr.none).ds h { tmps := vs ++ Array.replicate (fn.ntmps - vs.size) undef, defers := [] } w :=
    ⟨hG, layArgs_ok hr _, hw, hal, by rw [layArgs_ds]; exact .nil, by simp; omega⟩
  have hE : ∀ x f1 h1, evC P G call (some fn.ntmps) fuel c (layArgs 0 args Fr.none) h = some (x, f1, h1) → Fin' P G N w0 fn.ntmps g h.next (bodyPostM (Wd none) 0 P fn (RAPost g h.next N w0 r)) x f1 h1 →
      c.wpIn (Wd none) 0 P (bodyPostM (Wd none) 0 P fn (RAPost g h.next N w0 r)) { tmps := vs ++ Array.replicate (fn.ntmps - vs.size) undef, defers := [] } w :=
    fun x f1 h1 he1 hq => evC_ok (nt := some fn.ntmps) (ro := none) rfl (fun m e => (Option.some.inj e).symm) hm hc hind (hokP _ _ _ hf hb) he1 hi hq
  unfold runA at he
  split at he
  · rename_i f1 h1 he1
    refine hE _ _ _ he1 fun g' a' w' hi' hx hle => ?_
    exact LeavesInM.mono (fun e w q => RAPost.ext hx hle q) _ _ _ (runD_ok hm hc hind hokP f1.ds .ret h1 g' a'.defers .returning w' he hi'.glob hi'.fr hi'.rel hi'.al hi'.df rfl)
  · rename_i f1 h1 he1
    refine hE _ _ _ he1 fun g' a' w' hi' hx hle => ?_
    exact LeavesInM.mono (fun e w q => RAPost.ext hx hle q) _ _ _ (runD_ok hm hc hind hokP f1.ds .ret h1 g' a'.defers .returning w' he hi'.glob hi'.fr hi'.rel hi'.al hi'.df rfl)
  · rename_i v f1 h1 he1
    refine hE _ _ _ he1 fun g' a' w' u hi' hx hle hru => ?_
    exact LeavesInM.mono (fun e w q => RAPost.ext hx hle q) _ _ _ (runD_ok hm hc hind hokP f1.ds (.pan v) h1 g' a'.defers _ w' he hi'.glob hi'.fr hi'.rel hi'.al hi'.df ⟨u, hru, rfl⟩)
  · simp at he
end
end Go.Ac
namespace Go.Ac
open Go.RowKit
set_option linter.unusedSimpArgs false
section
variable {P : Program} {G : Glob} {call : CallF} {N : Nat} {w0 : World} {n : Nat}

theorem layTo_ds : ∀ (l : List (Tmp × PV)) (f : Fr), (layTo l f).ds = f.ds
  | [], _ => rfl
  | (t, v) :: r, f => by rw [layTo, layTo_ds r]; rfl
theorem foldl_size (l : List (Tmp × Value)) (t : Array Value) : (l.foldl (fun tmps (x : Tmp × Value) => tmps.setIfInBounds x.1 x.2) t).size = t.size := by
  induction l generalizing t with
  | nil => rfl
  | cons x l ih => rw [List.foldl_cons, ih]; simp
theorem layTo_ok {g : Gh} : ∀ (ps : List Tmp) (args : List PV) (vs : List Value) (f : Fr) (t : Array Value), Reps g args vs → (∀ d ∈ ps, d < t.size) → TRel g f.at t →
    TRel g (layTo (ps.zip args) f).at ((ps.zip vs).foldl (fun tmps (x : Tmp × Value) => tmps.setIfInBounds x.1 x.2) t)
  | [], args, vs, f, t, hr, hp, ht => by simpa [layTo] using ht
  | p :: ps, args, vs, f, t, hr, hp, ht => by
    cases hr with
    | nil => simpa [layTo] using ht
    | cons x xs u us h1 h2 =>
      simp only [List.zip_cons_cons, layTo, List.foldl_cons]
      refine layTo_ok ps xs us _ _ h2 (fun d hd => by simpa using hp d (List.mem_cons_of_mem _ hd)) fun d => ?_
      rw [Fr.at_set]
      by_cases e : d = p
      · subst e
        rw [if_pos rfl]
        have hlt := hp d List.mem_cons_self
        rw [show (t.setIfInBounds d u).getD d undef = u by simp [Array.getD, hlt]]
        exact h1
      · rw [if_neg e]
        have := ht d
        simp only [Array.getD_eq_getD_getElem?] at this ⊢
        rw [Array.getElem?_setIfInBounds_ne (by omega)]
        exact this
theorem loop_rel {g : Gh} {h : AH} {w : World} (hw : WRel g h N w0 w) {l n1 : Nat} {F : Tr PV} {ps : Array Tmp} {asn body : Code} {st : LoopState} {pend : Option Code} (hg : h.get l = some (.loop n1 F ps asn body st pend)) :
    ∃ r : Loop, (getObj (g.bl l)).run P w = .ok (.loop r) w ∧ r.state = st ∧ r.pending = pend ∧ r.params = ps ∧ r.assign = asn ∧ r.body = body ∧ n1 ≤ r.tmps.size ∧ TRel g (fun d => (Tr.get F d).getD .undef) r.tmps ∧ g.tt l = some 0 ∧ okC n1 asn = true ∧ okC n1 body = true ∧ (∀ d ∈ ps, d < n1) ∧
      ∀ st' pend', (setObj (g.bl l) (.loop { r with state := st', pending := pend' })).run P w = .ok () { w with heap := w.heap.setIfInBounds (g.bl l) (.loop { r with state := st', pending := pend' }) } ∧
        WRel g (h.set l (.loop n1 F ps asn body st' pend')) N w0 { w with heap := w.heap.setIfInBounds (g.bl l) (.loop { r with state := st', pending := pend' }) } := by
  obtain ⟨k1, k2, k3, h1, h2, h3, h4, h5, r, h6, h7, h8, h9, h10, h11, h12, h13⟩ := hw.objs _ _ hg
  refine ⟨r, by simp [getObj, Sem.run, h6], h7, h8, h9, h10, h11, h12, h13, h1, h3, h4, h5, fun st' pend' => ⟨by simp [setObj, Sem.run, h6], ?_⟩⟩
  exact other_rel hw hg ⟨rfl, rfl, rfl, by simp, fun k hk => by
    show (w.heap.setIfInBounds _ _)[k]? = _
    rw [Array.getElem?_setIfInBounds_ne (by omega)]⟩ (by simp) (fun k hk => by
    show (w.heap.setIfInBounds _ _)[k]? = _
    rw [Array.getElem?_setIfInBounds_ne (fun q => hk q.symm)]) h2 ⟨h1, h2, h3, h4, h5, { r with state := st', pending := pend' }, by
    show (w.heap.setIfInBounds _ _)[g.bl l]? = _
    rw [Array.getElem?_setIfInBounds_self_of_lt k3], rfl, rfl, h9, h10, h11, h12, h13⟩
theorem endR_ok {g : Gh} {h : AH} {w : World} (hw : WRel g h N w0 w) {l : Nat} {pend : Option Code} {r : CRes} (he : endR l pend h = some r) : ∃ h' v w', r = .sh (.bool pend.isNone) h' ∧ (Instr.endRound (g.bl l) pend).run P w = .ok v w' ∧ WRel g h' N w0 w' ∧ h'.next = h.next ∧ Rep g (.bool pend.isNone) v := by
  unfold endR at he
  split at he
  · rename_i n1 F ps asn body st pend0 hg
    obtain rfl := Option.some.inj he
    obtain ⟨r, q1, q2, q3, q4, q5, q6, q7, q8, q9, q10, q11, q12, q13⟩ := loop_rel (P := P) hw hg
    obtain ⟨s1, s2⟩ := q13 (if pend.isNone then .ready else .done) pend
    refine ⟨_, .bool pend.isNone, _, rfl, ?_, s2, rfl, .bool _⟩
    unfold Instr.endRound Instr.getLoop
    simp only [Sem.run_bind, q1, Result.andThen_ok, s1, Sem.run_pure]
  · simp at he
theorem begin_run {b : Nat} {r : Loop} {w w' : World} (h1 : (getObj b).run P w = .ok (.loop r) w) (h2 : r.state = .ready) (h3 : (setObj b (.loop { r with state := .busy })).run P w = .ok () w') : (Instr.beginRound b).run P w = .ok () w' := by
  unfold Instr.beginRound Instr.getLoop
  simp only [Sem.run_bind, h1, Result.andThen_ok, Sem.run_pure, h3, h2]
theorem runY_ok (hm : P.follows .mixedOrders = true) (hc : CallOk P G call) (hind : CallInd call) {k l : Nat} {args : List PV} {h : AH} {r : CRes} (he : runY P G call k l args h = some r) {g : Gh} {w : World} {vs : Array Value} {fresh b : Nat} (hG : GlobOk g G) (hw : WRel g h N w0 w) (hal : Al g h.next) (hr : Reps g args vs.toList) (hb : g.al l ∧ (g.tt l = some 0 → b = g.bl l)) :
    NextOk P (Instr.yield b vs) w (CResOk g h N w0 fresh r) := by
  unfold runY at he
  split at he
  · rename_i n1 F ps asn body pend hg
    split at he
    · rename_i hlen
      split at he
      · rename_i f1 h1 he1
        split at he
        · rename_i n2 F2 ps2 asn2 body2 pend2 hg2
          obtain ⟨rl, q1, q2, q3, q4, q5, q6, q7, q8, q9, q10, q11, q12, _⟩ := loop_rel (P := P) hw hg
          obtain rfl := hb.2 q9
          have hsz : vs.size = args.length := by rw [hr.length]; simp
          intro ro a o K Q hK hQ
          have hy : (Instr.yield (g.bl l) vs).run P w = .ok (.round (g.bl l) rl.fn ((rl.params.zip vs).foldl (fun tmps (t, a) => tmps.setIfInBounds t a) rl.tmps) rl.assign rl.body) w := by
            unfold Instr.yield Instr.getLoop
            simp [q1, q4, hsz, hlen]
          rw [hy, q5, q6, q4]
          refine ⟨fun q => by simp [Wd, Fence.wide] at q, ?_⟩
          refine roundIn_of_wpIn trivial ?_
          show asn.wpIn (Wd (some (g.bl l))) (0 - 1) P _ _ w
          have hfold : (ps.zip vs).foldl (fun tmps (x : Tmp × Value) => tmps.setIfInBounds x.1 x.2) rl.tmps = (ps.toList.zip vs.toList).foldl (fun tmps (x : Tmp × Value) => tmps.setIfInBounds x.1 x.2) rl.tmps := by
            rw [← Array.foldl_toList, Array.toList_zip]
          have htr : TRel g (layTo (ps.toList.zip args) ⟨F, []⟩).at ((ps.zip vs).foldl (fun tmps (x : Tmp × Value) => tmps.setIfInBounds x.1 x.2) rl.tmps) := by
            rw [hfold]
            exact layTo_ok _ _ _ ⟨F, []⟩ _ hr (fun d hd => Nat.lt_of_lt_of_le (q12 d (by simpa using hd)) q7) q8
          have hi : Is P G N w0 n1 g (layTo (ps.toList.zip args) ⟨F, []⟩).at (layTo (ps.toList.zip args) ⟨F, []⟩).ds h { tmps := (ps.zip vs).foldl (fun tmps (x : Tmp × Value) => tmps.setIfInBounds x.1 x.2) rl.tmps, defers := [] } w :=
            ⟨hG, htr, hw, hal, by rw [layTo_ds]; exact .nil, by show n1 ≤ Array.size _; rw [hfold, foldl_size]; exact q7⟩
          refine evC_ok (nt := none) (ro := some (g.bl l)) rfl (fun m e => by cases e) hm hc hind q10 he1 hi fun g1 a1 w1 hi1 hx1 hle1 => ?_
          obtain ⟨r2, p1, p2, p3, p4, p5, p6, p7, p8, p9, p10, p11, p12, p13⟩ := loop_rel (P := P) hi1.rel hg2
          have hbl : g1.bl l = g.bl l := (hx1.le.same hb.1 (fun _ _ => Nat.zero_le _) p9).2.1
          subst p3
          obtain ⟨s1, s2⟩ := p13 .busy r2.pending
          rw [hbl] at p1 s1 s2
          refine ⟨{ w1 with heap := w1.heap.setIfInBounds (g.bl l) (.loop { r2 with state := .busy }) }, ?_, ?_⟩
          · exact begin_run p1 p2 s1
          have hal1 : Al g1 (h1.set l (.loop n2 F2 ps2 asn2 body2 .busy r2.pending)).next := hi1.al
          have hi2 : Is P G N w0 n1 g1 f1.at f1.ds (h1.set l (.loop n2 F2 ps2 asn2 body2 .busy r2.pending)) a1 { w1 with heap := w1.heap.setIfInBounds (g.bl l) (.loop { r2 with state := .busy }) } := ⟨hi1.glob, hi1.fr, s2, hal1, hi1.df, hi1.sz⟩
          have fin : ∀ (x : EX) f2 h2 pe, evC P G call none k body f1 (h1.set l (.loop n2 F2 ps2 asn2 body2 .busy r2.pending)) = some (x, f2, h2) → endR l pe h2 = some r → ((x = .normal ∧ pe = none) ∨ (x = .ret ∧ pe = some .ret) ∨ ∃ id, x = .exit id ∧ pe = some (.exit id)) →
              body.wpIn (Wd (some (g.bl l))) (0 - 1) P (roundPost P (g.bl l) fun
                | .returned v, w'' => K (a.put o.dst v) w''
                | .panicked chain, w'' => Q (.panic chain) a w''
                | .outgrown, _ => LetsOut Q) a1 { w1 with heap := w1.heap.setIfInBounds (g.bl l) (.loop { r2 with state := .busy }) } := by
            intro x f2 h2 pe he2 hend hx
            have hpost : ∀ g2 a2 w2, Is P G N w0 n1 g2 f2.at f2.ds h2 a2 w2 → Ext g1 g2 N h1.next → h1.next ≤ h2.next → ∃ v w', (Instr.endRound (g.bl l) pe).run P w2 = .ok v w' ∧ K (a.put o.dst v) w' := by
              intro g2 a2 w2 hi2' hx2 hle2
              obtain ⟨h', v, w', rfl, e1, e2, e3, e4⟩ := endR_ok (P := P) hi2'.rel hend
              have hg3 : g2.tt l = some 0 := by
                unfold endR at hend
                split at hend
                · rename_i hgg
                  exact (hi2'.rel.objs _ _ hgg).2.2.2.1
                · simp at hend
              have hbl2 : g2.bl l = g.bl l := (hx2.le.same (hx1.le.al _ hb.1) (fun _ _ => Nat.zero_le _) hg3).2.1.trans hbl
              rw [hbl2] at e1
              have hx := hx1.trans hx2 hle1
              refine ⟨v, w', e1, hK v w' ⟨rfl, g2, hx.le, fun id hid => ?_, hx.ro, e2, by omega, e4⟩⟩
              rcases hx.al id hid with q | q
              · exact .inl q
              · exact .inr (.inr ⟨q, by have := hi2'.al id hid; omega⟩)
            refine evC_ok (nt := none) (ro := some (g.bl l)) rfl (fun m e => by cases e) hm hc hind q11 he2 hi2 ?_
            rcases hx with ⟨rfl, rfl⟩ | ⟨rfl, rfl⟩ | ⟨id, rfl, rfl⟩
            · exact fun g2 a2 w2 hi2' hx2 hle2 => hpost g2 a2 w2 hi2' hx2 hle2
            · exact fun g2 a2 w2 hi2' hx2 hle2 => hpost g2 a2 w2 hi2' hx2 hle2
            · exact fun g2 a2 w2 hi2' hx2 hle2 => hpost g2 a2 w2 hi2' hx2 hle2
          split at he
          · rename_i f2 h2 he2
            exact fin _ f2 h2 none he2 he (.inl ⟨rfl, rfl⟩)
          · rename_i f2 h2 he2
            exact fin _ f2 h2 _ he2 he (.inr (.inl ⟨rfl, rfl⟩))
          · rename_i id f2 h2 he2
            exact fin _ f2 h2 _ he2 he (.inr (.inr ⟨id, rfl, rfl⟩))
          · simp at he
        · simp at he
      · simp at he
    · simp at he
  · simp at he

def Gh.bare (g : Gh) : Gh := { ro := g.ro, bl := fun _ => 0, tt := fun _ => none, sz := fun _ => 0, cp := fun _ => 0, al := fun _ => False }
theorem bare_rel {g : Gh} {h : AH} {w : World} (hw : WRel g h N w0 w) : WRel g.bare AH.empty w.heap.size w w :=
  ⟨Below.refl _ _, Nat.le_refl _, hw.ros, fun id o ho => by rw [AH.get_empty] at ho; simp at ho, fun id _ o _ ho => by rw [AH.get_empty] at ho; simp at ho, fun _ _ => rfl⟩
theorem back_rel {g g1 : Gh} {h hc : AH} {w w' : World} (hw : WRel g h N w0 w) (h1 : WRel g1 hc w.heap.size w w') (le : ∀ b C, g.ro b = some C → g1.ro b = some C) (ro : ∀ b C, g1.ro b = some C → g.ro b = some C ∨ w.heap.size ≤ b) :
    WRel { g with ro := g1.ro } h N w0 w' ∧ g.Le { g with ro := g1.ro } ∧ (∀ b C, g1.ro b = some C → g.ro b = some C ∨ N ≤ b) := by
  have hle : g.Le { g with ro := g1.ro } := ⟨le, fun _ q => q, fun i t _ ht => ⟨t, ht, Nat.le_refl _, fun _ => ⟨rfl, rfl, rfl⟩⟩⟩
  refine ⟨⟨hw.below.trans (h1.below.mono hw.n0), by have := h1.below.size; have := hw.n0; omega, h1.ros, fun id o ho => ?_, hw.inj, hw.dead⟩, hle, fun b C hb => (ro b C hb).elim .inl fun q => .inr (by have := hw.n0; omega)⟩
  obtain ⟨k1, k2, k3, k4⟩ := hw.objs id o ho
  refine ⟨k1, k2, by have := h1.below.size; show g.bl id < _; omega, k4.keep hle rfl rfl rfl rfl (h1.below.block _ k3) fun q => ?_⟩
  show g1.ro (g.bl id) = none
  cases hro : g1.ro (g.bl id) with
  | none => rfl
  | some C =>
    rcases ro _ _ hro with r | r
    · rw [q] at r; simp at r
    · omega
theorem glob_bare {g : Gh} (hG : GlobOk g G) : GlobOk g.bare G := fun k c e => Rep.clean (g := g) (g' := g.bare) (fun _ _ q => q) (hG k c e) rfl

def EndOk (R : Bool → Value → World → Prop) : Ending → World → Prop
  | .returned u, w => R false u w
  | .panicked ch, w => ∃ u, ch = [{ v := u, recovered := false }] ∧ R true u w
  | .outgrown, _ => False
theorem next_of_calls {k : FuncId} {fn : Func} {c : Code} (hf : P.funcs[k]? = some fn) (hb : fn.body = some c) (hn : ¬ (fn.name == "runtime.NumGoroutine") = true) {vs : Array Value} {w : World} {R : Bool → Value → World → Prop} (h : CallsIn (Wd none) 0 P k vs w (EndOk R)) : NextOk P (callFunc k vs) w R := by
  intro ro a o K Q hK hQ
  rw [callFunc_run hf hb hn]
  refine ⟨fun q => by simp [Wd, Fence.wide] at q, ?_⟩
  show CallsIn (Wd none) (0 - 1) P k vs w _
  refine h.mono fun e w' q => ?_
  cases e with
  | returned u => exact hK u w' q
  | panicked ch => obtain ⟨u, rfl, q⟩ := q; exact hQ u w' q
  | outgrown => exact q.elim
theorem NextOk.mono {s : Sem Next} {w : World} {R R' : Bool → Value → World → Prop} (h : NextOk P s w R) (hr : ∀ p u w', R p u w' → R' p u w') : NextOk P s w R' :=
  fun ro a o K Q hK hQ => h ro a o K Q (fun u w' q => hK u w' (hr _ _ _ q)) (fun u w' q => hQ u w' (hr _ _ _ q))
def PPost (g : Gh) (h : AH) (N : Nat) (w0 : World) (r : RP) (p : Bool) (u : Value) (w' : World) : Prop :=
  ∃ v g', ((r = .val v ∧ p = false) ∨ (r = .pan v ∧ p = true)) ∧ g.Le g' ∧ g'.al = g.al ∧ (∀ b C, g'.ro b = some C → g.ro b = some C ∨ N ≤ b) ∧ WRel g' h N w0 w' ∧ Rep g' v u
theorem runP_ok (hm : P.follows .mixedOrders = true) (hc : CallOk P G call) (hind : CallInd call) (hokP : ∀ (k : FuncId) (fk : Func) (c : Code), P.funcs[k]? = some fk → fk.body = some c → okC fk.ntmps c = true) {k : FuncId} {fn : Func} {c : Code} (hf : P.funcs[k]? = some fn) (hb : fn.body = some c) {fuel : Nat} {args : List PV} {h : AH} {r : RP}
    (he : runP P G call fuel fn c args = some r) {g : Gh} {w : World} {vs : Array Value} (hG : GlobOk g G) (hw : WRel g h N w0 w) (hr : Reps g args vs.toList) (hcl : PV.cleans args = true) :
    CallsIn (Wd none) 0 P k vs w (EndOk (PPost g h N w0 r)) := by
  unfold runP at he
  have back : ∀ v1 h1 v2 h2 u w' g1, frz 100 v1 h1 = some (v2, h2) → Ext g.bare g1 w.heap.size AH.empty.next → WRel g1 h1 w.heap.size w w' → Rep g1 v1 u → ∃ g', g.Le g' ∧ g'.al = g.al ∧ (∀ b C, g'.ro b = some C → g.ro b = some C ∨ N ≤ b) ∧ WRel g' h N w0 w' ∧ Rep g' v2 u := by
    intro v1 h1 v2 h2 u w' g1 he2 hx hw1 hr1
    obtain ⟨g2, a1, a2, a3, a4, _⟩ := frz_ok 100 v1 h1 v2 h2 g1 u he2 hw1 hr1
    obtain ⟨b1, b2, b3⟩ := back_rel hw a2 (fun b C q => a1.le.ro _ _ (hx.le.ro _ _ q)) (fun b C q => (a1.ro b C q).elim (fun q => hx.ro b C q) .inr)
    exact ⟨{ g with ro := g2.ro }, b2, rfl, b3, b1, Rep.clean (g := g2) (g' := { g with ro := g2.ro }) (fun _ _ q => q) a3 a4⟩
  split at he
  · rename_i v1 h1 he1
    split at he
    · rename_i v2 h2 he2
      obtain rfl := Option.some.inj he
      refine (runA_ok hm hc hind hokP hf hb he1 (glob_bare hG) (bare_rel hw) (fun id q => q.elim) (Reps.clean (g := g) (g' := g.bare) (fun _ _ q => q) hr hcl)).mono ?_
      rintro e w' ⟨u, g1, rfl, hx, hw1, _, _, hr1⟩
      obtain ⟨g', q1, q2, q3, q4, q5⟩ := back v1 h1 v2 h2 u w' g1 he2 hx hw1 hr1
      exact ⟨v2, g', .inl ⟨rfl, rfl⟩, q1, q2, q3, q4, q5⟩
    · simp at he
  · rename_i v1 h1 he1
    split at he
    · rename_i v2 h2 he2
      obtain rfl := Option.some.inj he
      refine (runA_ok hm hc hind hokP hf hb he1 (glob_bare hG) (bare_rel hw) (fun id q => q.elim) (Reps.clean (g := g) (g' := g.bare) (fun _ _ q => q) hr hcl)).mono ?_
      rintro e w' ⟨u, g1, rfl, hx, hw1, _, _, hr1⟩
      obtain ⟨g', q1, q2, q3, q4, q5⟩ := back v1 h1 v2 h2 u w' g1 he2 hx hw1 hr1
      exact ⟨u, rfl, v2, g', .inr ⟨rfl, rfl⟩, q1, q2, q3, q4, q5⟩
    · simp at he
  · simp at he
theorem adopt_rel {g : Gh} {h : AH} {w : World} (hw : WRel g h N w0 w) {id : Nat} (hn : ¬ g.al id) (o : AO) (b : Nat) (hb : N ≤ b) (hs : b < w.heap.size) (hu : ∀ i x, h.get i = some x → g.bl i ≠ b) (tot sz cp : Nat)
    (ho : ∀ g', g.Le g' → g'.bl id = b → g'.tt id = some tot → g'.sz id = sz → g'.cp id = cp → g'.ro = g.ro → ORel g' w id o) : WRel (g.add id b tot sz cp) (h.set id o) N w0 w := by
  have le : g.Le (g.add id b tot sz cp) := Gh.add_le hn
  refine ⟨hw.below, hw.n0, hw.ros, ?_, ?_, ?_⟩
  · intro i x hx
    rw [AH.get_set] at hx
    split at hx
    · rename_i e
      subst e
      obtain rfl := Option.some.inj hx
      refine ⟨.inr rfl, by simp [Gh.add]; exact hb, by simp [Gh.add]; exact hs, ?_⟩
      exact ho _ le (by simp [Gh.add]) (by simp [Gh.add]) (by simp [Gh.add]) (by simp [Gh.add]) rfl
    · rename_i e
      obtain ⟨k1, k2, k3, k4⟩ := hw.objs i x hx
      refine ⟨.inl k1, by simp [Gh.add, e]; exact k2, by simp only [Gh.add, if_neg e]; exact k3, ?_⟩
      exact k4.keep le (by simp [Gh.add, e]) (by simp [Gh.add, e]) (by simp [Gh.add, e]) (by simp [Gh.add, e]) rfl (fun q => q)
  · intro i j x y hx hy hb
    rw [AH.get_set] at hx hy
    by_cases ei : i = id <;> by_cases ej : j = id
    · rw [ei, ej]
    · rw [if_neg ej] at hy
      simp [Gh.add, ei, ej] at hb
      exact absurd hb.symm (hu j y hy)
    · rw [if_neg ei] at hx
      simp [Gh.add, ei, ej] at hb
      exact absurd hb (hu i x hx)
    · rw [if_neg ei] at hx
      rw [if_neg ej] at hy
      simp [Gh.add, ei, ej] at hb
      exact hw.inj i j x y hx hy hb
  · intro i hi
    rw [AH.get_set] at hi
    split at hi
    · simp at hi
    · rename_i e
      simp only [Gh.add, if_neg e]
      exact hw.dead i hi
def OPost (g : Gh) (h : AH) (N : Nat) (w0 : World) (fresh : Nat) (r : RW) (p : Bool) (u : Value) (w' : World) : Prop :=
  p = false ∧ match r with
    | .val v => ∃ g', g.Le g' ∧ g'.al = g.al ∧ (∀ b C, g'.ro b = some C → g.ro b = some C ∨ N ≤ b) ∧ WRel g' h N w0 w' ∧ Rep g' v u
    | .row E sz len c => ∃ g', g.Le g' ∧ (∀ i, g'.al i → g.al i ∨ i = fresh) ∧ (∀ b C, g'.ro b = some C → g.ro b = some C ∨ N ≤ b) ∧ WRel g' (h.set fresh (.cells E sz false c)) N w0 w' ∧ Rep g' (.ow fresh (len * sz) 0 len) u
theorem runO_ok (hm : P.follows .mixedOrders = true) (hc : CallOk P G call) (hind : CallInd call) (hokP : ∀ (k : FuncId) (fk : Func) (c : Code), P.funcs[k]? = some fk → fk.body = some c → okC fk.ntmps c = true) {k : FuncId} {fn : Func} {c : Code} (hf : P.funcs[k]? = some fn) (hb : fn.body = some c) {fuel : Nat} {args : List PV} {h : AH} {r : RW}
    (he : runO P G call fuel fn c args = some r) {g : Gh} {w : World} {vs : Array Value} {fresh : Nat} (hfr : ¬ g.al fresh) (hG : GlobOk g G) (hw : WRel g h N w0 w) (hr : Reps g args vs.toList) (hcl : PV.cleans args = true) :
    CallsIn (Wd none) 0 P k vs w (EndOk (OPost g h N w0 fresh r)) := by
  have hrc := Reps.clean (g := g) (g' := g.bare) (fun _ _ q => q) hr hcl
  have plain : ∀ v1 h1, runA P G call fuel fn c args .empty = some (.val v1 h1) → (match frz 100 v1 h1 with
      | some (v', _) => some (RW.val v')
      | none => none) = some r → CallsIn (Wd none) 0 P k vs w (EndOk (OPost g h N w0 fresh r)) := by
    intro v1 h1 he1 he
    split at he
    · rename_i v2 h2 he2
      obtain rfl := Option.some.inj he
      refine (runA_ok hm hc hind hokP hf hb he1 (glob_bare hG) (bare_rel hw) (fun id q => q.elim) hrc).mono ?_
      rintro e w' ⟨u, g1, rfl, hx, hw1, _, _, hr1⟩
      obtain ⟨g2, a1, a2, a3, a4, _⟩ := frz_ok 100 v1 h1 v2 h2 g1 u he2 hw1 hr1
      obtain ⟨b1, b2, b3⟩ := back_rel hw a2 (fun b C q => a1.le.ro _ _ (hx.le.ro _ _ q)) (fun b C q => (a1.ro b C q).elim (fun q => hx.ro b C q) .inr)
      exact ⟨rfl, { g with ro := g2.ro }, b2, rfl, b3, b1, Rep.clean (g := g2) (g' := { g with ro := g2.ro }) (fun _ _ q => q) a3 a4⟩
    · simp at he
  unfold runO at he
  split at he
  · rename_i id tot off len h1 he1
    split at he
    · rename_i E sz c0 hg1
      split at he
      · rename_i hcond
        obtain ⟨c1, rfl, c3⟩ := hcond
        split at he
        · rename_i c2 h2 he2
          split at he
          · rename_i E2 sz2 c4 hg2
            split at he
            · rename_i hcond2
              obtain ⟨d1, d2⟩ := hcond2
              subst d2
              obtain rfl := Option.some.inj he
              refine (runA_ok hm hc hind hokP hf hb he1 (glob_bare hG) (bare_rel hw) (fun id q => q.elim) hrc).mono ?_
              rintro e w' ⟨u, g1, rfl, hx, hw1, _, _, hr1⟩
              obtain ⟨k1, k2, k3, t1, t2, C, hP, t4, t5, t6, t7, t8⟩ := hw1.objs _ _ hg1
              obtain ⟨g2, a1, a2, a3, a4, a5⟩ := frzL_ok (frz_ok 100) c0 h1 c2 h2 g1 _ he2 hw1 t6
              obtain ⟨b1, b2, b3⟩ := back_rel hw a2 (fun b C q => a1.le.ro _ _ (hx.le.ro _ _ q)) (fun b C q => (a1.ro b C q).elim (fun q => hx.ro b C q) .inr)
              obtain ⟨m1, m2, m3, s1, s2, C2, _, s4, s5, s6, s7, s8⟩ := a2.objs _ _ hg2
              rw [if_neg (by simp)] at s8
              have hlen : c2.length = c0.length := by
                have e1 := a3.length
                have e2 := t6.length
                omega
              rw [d1] at s1
              obtain ⟨z1, z2, z3, z4⟩ := a1.le.same k1 (fun t ht => by rw [t1] at ht; cases ht; exact Nat.le_refl _) s1
              rw [z2] at m2 m3 s8
              have hN := hw.n0
              have hadd := adopt_rel b1 (id := fresh) hfr (.cells E sz2 false c2) (g1.bl id) (by omega) m3 (fun i x hi => by
                obtain ⟨_, _, q, _⟩ := hw.objs i x hi
                show g.bl i ≠ _
                omega) c2.length sz2 (g1.cp id) (fun g' le e1 e2 e3 e4 e5 => ⟨e2, e3, C, by rw [e1]; exact hP, by rw [e4]; exact t4, by omega, by
                  rw [hlen]
                  exact Reps.clean (g := g2) (g' := g') (fun b D q => by rw [e5]; exact q) a3 a4, a5 t7, by
                  rw [if_neg (by simp), e1, e5]
                  exact s8⟩)
              refine ⟨rfl, _, b2.trans (Gh.add_le hfr), fun i hi => hi, fun b D q => b3 b D q, hadd, ?_⟩
              rw [c1] at t1
              cases hr1 with
              | ow _ _ _ _ ad cap q1 q2 q3 =>
                obtain ⟨r1, r2, r3, r4, r5⟩ := q3 t1
                have hl2 : c2.length = len * sz2 := by omega
                refine .ow _ _ _ _ _ _ (.inr rfl) (fun t ht => ?_) fun _ => ⟨?_, ?_, ?_, ?_, r5⟩
                · simp [Gh.add] at ht
                  omega
                · simp [Gh.add]; exact r1
                · simp [Gh.add]; rw [t2] at r2; simpa using r2
                · simp [Gh.add]
                · simp [Gh.add]; rw [t2] at r4; exact r4
            · simp at he
          · simp at he
        · simp at he
      · simp at he
    · simp at he
  · rename_i v1 h1 _ he1
    exact plain v1 h1 he1 he
  · simp at he
def LibOk (P : Program) (G : Glob) (k : FuncId) (F : List PV → AH → Nat → Option CRes) : Prop :=
  (∀ args h fresh r, F args h fresh = some r → ∀ (g : Gh) (N : Nat) (w0 w : World) (vs : Array Value), GlobOk g G → WRel g h N w0 w → Al g h.next → ¬ g.al fresh → Reps g args vs.toList → NextOk P (callFunc k vs) w (CResOk g h N w0 fresh r)) ∧
  ∀ args h fresh, (∀ v, F args h fresh = some (.val v) → ∀ h' fr, F args h' fr = some (.val v)) ∧ (∀ v o, F args h fresh = some (.new v o) → ∀ h', F args h' fresh = some (.new v o))

theorem runY_sh {k l : Nat} {args : List PV} {h : AH} {r : CRes} (he : runY P G call k l args h = some r) : ∃ v h', r = .sh v h' := by
  have e : ∀ {pend h}, endR l pend h = some r → ∃ v h', r = .sh v h' := by
    intro pend h he
    unfold endR at he
    split at he
    · exact ⟨_, _, (Option.some.inj he).symm⟩
    · simp at he
  unfold runY at he
  split at he
  · split at he
    · split at he
      · split at he
        · split at he
          · exact e he
          · exact e he
          · exact e he
          · simp at he
        · simp at he
      · simp at he
    · simp at he
  · simp at he
theorem sharedB_sh {fuel : Nat} {fn : Func} {c : Code} {args : List PV} {h : AH} {r : CRes} (he : sharedB P G call fuel fn c args h = some r) : ∃ v h', r = .sh v h' ∨ r = .pan v h' := by
  unfold sharedB at he
  split at he
  · exact ⟨_, _, .inl (Option.some.inj he).symm⟩
  · exact ⟨_, _, .inr (Option.some.inj he).symm⟩
  · simp at he
theorem callB_ind {md : FuncId → Md} (hlib : ∀ k F, md k = .lib F → LibOk P G k F) (fuel : Nat) : CallInd (callB P G md call fuel) := by
  intro t args h fresh
  cases t with
  | yl l =>
    refine ⟨fun v he => ?_, fun v o he => ?_⟩
    · obtain ⟨_, _, q⟩ := runY_sh (show runY P G call fuel l args h = some _ from he); cases q
    · obtain ⟨_, _, q⟩ := runY_sh (show runY P G call fuel l args h = some _ from he); cases q
  | fn k =>
    cases hmd : md k with
    | lib F =>
      have := (hlib k F hmd).2 args h fresh
      refine ⟨fun v he h' fr => ?_, fun v o he h' => ?_⟩
      · simp only [callB, hmd] at he ⊢; exact this.1 v he h' fr
      · simp only [callB, hmd] at he ⊢; exact this.2 v o he h'
    | shared =>
      have key : ∀ r, callB P G md call fuel (.fn k) args h fresh = some r → ∃ v h', r = .sh v h' ∨ r = .pan v h' := by
        intro r he
        simp only [callB, hmd] at he
        split at he
        · split at he
          · split at he
            · simp at he
            · exact sharedB_sh he
          · simp at he
        · simp at he
      refine ⟨fun v he => ?_, fun v o he => ?_⟩
      · obtain ⟨_, _, q | q⟩ := key _ he <;> cases q
      · obtain ⟨_, _, q | q⟩ := key _ he <;> cases q
    | pure =>
      have key : ∀ r, callB P G md call fuel (.fn k) args h fresh = some r → (∃ v, r = .val v ∧ ∀ h' fr, callB P G md call fuel (.fn k) args h' fr = some (.val v)) ∨ ∃ v h', r = .sh v h' ∨ r = .pan v h' := by
        intro r he
        simp only [callB, hmd] at he ⊢
        split at he
        · split at he
          · split at he
            · simp at he
            · rename_i fn hf c hb hname
              split at he
              · rename_i hcl
                split at he
                · rename_i v hv
                  refine .inl ⟨v, (Option.some.inj he).symm, fun h' fr => ?_⟩
                  rw [if_neg hname, if_pos hcl]
                · exact .inr ⟨_, _, .inr (Option.some.inj he).symm⟩
                · simp at he
              · split at he
                · split at he
                  · exact .inr ⟨_, _, .inl (Option.some.inj he).symm⟩
                  · exact .inr ⟨_, _, .inr (Option.some.inj he).symm⟩
                  · simp at he
                · exact .inr (sharedB_sh he)
          · simp at he
        · simp at he
      refine ⟨fun v he h' fr => ?_, fun v o he => ?_⟩
      · rcases key _ he with ⟨_, q, r⟩ | ⟨_, _, q | q⟩
        · cases q; exact r h' fr
        · cases q
        · cases q
      · rcases key _ he with ⟨_, q, r⟩ | ⟨_, _, q | q⟩ <;> cases q
    | own =>
      refine ⟨fun v he h' fr => ?_, fun v o he h' => ?_⟩
      all_goals
        simp only [callB, hmd] at he ⊢
        split at he
        · split at he
          · split at he
            · simp at he
            · rename_i fn hf c hb hname
              rw [if_neg hname]
              split at he
              · rename_i hcl
                rw [if_pos hcl]
                split at he
                · cases he <;> rfl
                · cases he <;> rfl
                · simp at he
              · split at he
                · split at he
                  · cases he
                  · cases he
                  · simp at he
                · simp at he
          · simp at he
        · simp at he

theorem okP_code (hP : okP P = true) (k : FuncId) (fk : Func) (c : Code) (hf : P.funcs[k]? = some fk) (hb : fk.body = some c) : okC fk.ntmps c = true := by
  simp only [okP, Bool.and_eq_true, List.all_eq_true] at hP
  have := hP.2 fk (by rw [Array.mem_toList_iff]; exact Array.mem_of_getElem? hf)
  rw [hb] at this
  exact this
theorem callB_ok {md : FuncId → Md} (hP : okP P = true) (hlib : ∀ k F, md k = .lib F → LibOk P G k F) (hc : CallOk P G call) (hind : CallInd call) (fuel : Nat) : CallOk P G (callB P G md call fuel) := by
  have hm : P.follows .mixedOrders = true := by simp only [okP, Bool.and_eq_true] at hP; exact hP.1
  have hokP := okP_code hP
  intro t args h fresh r he g N w0 w vs l hG hw hal hn hr ht
  cases t with
  | yl id => exact runY_ok hm hc hind (show runY P G call fuel id args h = some r from he) hG hw hal hr (ht id rfl)
  | fn k =>
    show NextOk P (callFunc k vs) w _
    have shared : ∀ {fn : Func} {c : Code}, P.funcs[k]? = some fn → fn.body = some c → ¬ (fn.name == "runtime.NumGoroutine") = true → sharedB P G call fuel fn c args h = some r → NextOk P (callFunc k vs) w (CResOk g h N w0 fresh r) := by
      intro fn c hf hb hname he
      unfold sharedB at he
      split at he
      · rename_i v h' he1
        obtain rfl := Option.some.inj he
        refine next_of_calls hf hb hname ((runA_ok hm hc hind hokP hf hb he1 hG hw hal hr).mono ?_)
        rintro e w' ⟨u, g', rfl, hx, hw', hal', hnx, hr'⟩
        exact ⟨rfl, g', hx.le, fun id hid => (hx.al id hid).elim .inl fun q => .inr (.inr ⟨q, hal' id hid⟩), hx.ro, hw', hnx, hr'⟩
      · rename_i v h' he1
        obtain rfl := Option.some.inj he
        refine next_of_calls hf hb hname ((runA_ok hm hc hind hokP hf hb he1 hG hw hal hr).mono ?_)
        rintro e w' ⟨u, g', rfl, hx, hw', hal', hnx, hr'⟩
        exact ⟨u, rfl, rfl, g', hx.le, fun id hid => (hx.al id hid).elim .inl fun q => .inr (.inr ⟨q, hal' id hid⟩), hx.ro, hw', hnx, hr'⟩
      · simp at he
    cases hmd : md k with
    | lib F =>
      simp only [callB, hmd] at he
      exact (hlib k F hmd).1 args h fresh r he g N w0 w vs hG hw hal hn hr
    | shared =>
      simp only [callB, hmd] at he
      split at he
      · rename_i fn hf
        split at he
        · rename_i c hb
          split at he
          · simp at he
          · rename_i hname
            exact shared hf hb hname he
        · simp at he
      · simp at he
    | pure =>
      simp only [callB, hmd] at he
      split at he
      · rename_i fn hf
        split at he
        · rename_i c hb
          split at he
          · simp at he
          · rename_i hname
            split at he
            · rename_i hcl
              split at he
              · rename_i v he1
                obtain rfl := Option.some.inj he
                refine (next_of_calls hf hb hname (runP_ok hm hc hind hokP hf hb he1 hG hw hr hcl)).mono ?_
                rintro p u w' ⟨v', g', hv, le, al, ro, hw', hr'⟩
                rcases hv with ⟨hv, rfl⟩ | ⟨hv, _⟩
                · cases hv
                  exact ⟨rfl, g', le, fun id hid => .inl (by rw [al] at hid; exact hid), ro, hw', Nat.le_refl _, hr'⟩
                · cases hv
              · rename_i v he1
                obtain rfl := Option.some.inj he
                refine (next_of_calls hf hb hname (runP_ok hm hc hind hokP hf hb he1 hG hw hr hcl)).mono ?_
                rintro p u w' ⟨v', g', hv, le, al, ro, hw', hr'⟩
                rcases hv with ⟨hv, _⟩ | ⟨hv, rfl⟩
                · cases hv
                · cases hv
                  exact ⟨rfl, g', le, fun id hid => .inl (by rw [al] at hid; exact hid), ro, hw', Nat.le_refl _, hr'⟩
              · simp at he
            · split at he
              · rename_i args' h1 he1
                obtain ⟨g1, a1, a2, a3, a4, _⟩ := frzL_ok (frz_ok 100) _ _ _ _ g _ he1 hw hr
                split at he
                · rename_i v he2
                  obtain rfl := Option.some.inj he
                  refine (next_of_calls hf hb hname (runP_ok hm hc hind hokP hf hb he2 (hG.mono a1.le) a2 a3 a4)).mono ?_
                  rintro p u w' ⟨v', g', hv, le, al, ro, hw', hr'⟩
                  rcases hv with ⟨hv, rfl⟩ | ⟨hv, _⟩
                  · cases hv
                    exact ⟨rfl, g', a1.le.trans le, fun id hid => .inl (by rw [al, a1.al] at hid; exact hid), fun b C q => (ro b C q).elim (a1.ro b C) .inr, hw', by rw [a1.nx]; exact Nat.le_refl _, hr'⟩
                  · cases hv
                · rename_i v he2
                  obtain rfl := Option.some.inj he
                  refine (next_of_calls hf hb hname (runP_ok hm hc hind hokP hf hb he2 (hG.mono a1.le) a2 a3 a4)).mono ?_
                  rintro p u w' ⟨v', g', hv, le, al, ro, hw', hr'⟩
                  rcases hv with ⟨hv, _⟩ | ⟨hv, rfl⟩
                  · cases hv
                  · cases hv
                    exact ⟨rfl, g', a1.le.trans le, fun id hid => .inl (by rw [al, a1.al] at hid; exact hid), fun b C q => (ro b C q).elim (a1.ro b C) .inr, hw', by rw [a1.nx]; exact Nat.le_refl _, hr'⟩
                · simp at he
              · exact shared hf hb hname he
        · simp at he
      · simp at he
    | own =>
      simp only [callB, hmd] at he
      split at he
      · rename_i fn hf
        split at he
        · rename_i c hb
          split at he
          · simp at he
          · rename_i hname
            split at he
            · rename_i hcl
              split at he
              · rename_i v he1
                obtain rfl := Option.some.inj he
                refine (next_of_calls hf hb hname (runO_ok hm hc hind hokP hf hb he1 hn hG hw hr hcl)).mono ?_
                rintro p u w' ⟨rfl, g', le, al, ro, hw', hr'⟩
                exact ⟨rfl, g', le, fun id hid => .inl (by rw [al] at hid; exact hid), ro, hw', Nat.le_refl _, hr'⟩
              · rename_i E sz len c' he1
                obtain rfl := Option.some.inj he
                refine (next_of_calls hf hb hname (runO_ok hm hc hind hokP hf hb he1 hn hG hw hr hcl)).mono ?_
                rintro p u w' ⟨rfl, g', le, al, ro, hw', hr'⟩
                exact ⟨rfl, g', le, fun id hid => (al id hid).imp_right fun q => .inl ⟨q, rfl⟩, ro, hw', Nat.le_refl _, hr'⟩
              · simp at he
            · split at he
              · rename_i args' h1 he1
                obtain ⟨g1, a1, a2, a3, a4, _⟩ := frzL_ok (frz_ok 100) _ _ _ _ g _ he1 hw hr
                have hn1 : ¬ g1.al fresh := by rw [a1.al]; exact hn
                split at he
                · rename_i v he2
                  obtain rfl := Option.some.inj he
                  refine (next_of_calls hf hb hname (runO_ok hm hc hind hokP hf hb he2 hn1 (hG.mono a1.le) a2 a3 a4)).mono ?_
                  rintro p u w' ⟨rfl, g', le, al, ro, hw', hr'⟩
                  exact ⟨rfl, g', a1.le.trans le, fun id hid => .inl (by rw [al, a1.al] at hid; exact hid), fun b C q => (ro b C q).elim (a1.ro b C) .inr, hw', by rw [a1.nx]; exact Nat.le_refl _, hr'⟩
                · rename_i E sz len c' he2
                  obtain rfl := Option.some.inj he
                  refine (next_of_calls hf hb hname (runO_ok hm hc hind hokP hf hb he2 hn1 (hG.mono a1.le) a2 a3 a4)).mono ?_
                  rintro p u w' ⟨rfl, g', le, al, ro, hw', hr'⟩
                  exact ⟨rfl, g', a1.le.trans le, fun id hid => (al id hid).elim (fun q => .inl (by rw [a1.al] at q; exact q)) fun q => .inr (.inl ⟨q, rfl⟩), fun b C q => (ro b C q).elim (a1.ro b C) .inr, hw', by rw [AH.next_set, a1.nx]; exact Nat.le_refl _, hr'⟩
                · simp at he
              · simp at he
        · simp at he
      · simp at he
theorem runF_ok {md : FuncId → Md} (hP : okP P = true) (hlib : ∀ k F, md k = .lib F → LibOk P G k F) : ∀ n, CallOk P G (runF P G md n) ∧ CallInd (runF P G md n)
  | 0 => ⟨fun _ _ _ _ _ he => by simp [runF] at he, fun _ _ _ _ => ⟨fun _ he => by simp [runF] at he, fun _ _ he => by simp [runF] at he⟩⟩
  | n + 1 => ⟨callB_ok hP hlib (runF_ok hP hlib n).1 (runF_ok hP hlib n).2 n, callB_ind hlib n⟩
end
end Go.Ac
