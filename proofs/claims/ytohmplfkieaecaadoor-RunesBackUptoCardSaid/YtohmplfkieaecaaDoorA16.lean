/-
  A PURE MACHINE FOR THE MODEL'S CODE, 16: a function's call, as the machine has it.
-/
import Derived.Test.YtohmplfkieaecaaDoorA15
namespace Go.Ab
open Go.RowKit

def resA (P : Program) (f : Fr) (h : AH) : List ResultVar → Option (List PV)
  | [] => some []
  | .tmp t :: r => match resA P f h r with
    | some l => some (f.at t :: l)
    | none => none
  | .cell p t :: r => match behind h (f.at p) with
    | some c => match readC P t c with
      | some v => match resA P f h r with
        | some l => some (v :: l)
        | none => none
      | none => none
    | none => none
def oneOf : List PV → PV
  | [v] => v
  | l => .tup l
def layArgs : Nat → List PV → Fr → Fr
  | _, [], f => f
  | i, v :: r, f => layArgs (i + 1) r (f.set i v)
/-- A function's body, carried out. -/
def runA (P : Program) (G : Glob) (call : CallF) (n : Nat) (fn : Func) (c : Code) (args : List PV) (h : AH) : Option (PV × AH) :=
  match evC P G call n c (layArgs 0 args .leaf) h with
  | some (.normal, f, h') => match resA P f h' fn.results.toList with
    | some l => some (oneOf l, h')
    | none => none
  | some (.ret, f, h') => match resA P f h' fn.results.toList with
    | some l => some (oneOf l, h')
    | none => none
  | _ => none

/-- How a function is called: on a heap of its own, its answer read-only; so, its answer a row of the caller's; on the caller's heap. -/
inductive Md where
  | pure
  | own
  | shared
  | lib (F : List PV → Option PV)

/-- A call on a heap of its own. -/
def runP (P : Program) (G : Glob) (call : CallF) (n : Nat) (fn : Func) (c : Code) (args : List PV) : Option PV :=
  match runA P G call n fn c args .empty with
  | some (v, h) => match frz 100 v h with
    | some (v', _) => some v'
    | none => none
  | none => none
def runO (P : Program) (G : Glob) (call : CallF) (n : Nat) (fn : Func) (c : Code) (args : List PV) : Option (PV ⊕ (Nat × List PV × Nat)) :=
  match runA P G call n fn c args .empty with
  | some (.ow id tot off len, h) => match h.get id with
    | some (.cells sz false c) => if c.length = tot ∧ off = 0 ∧ tot = len * sz then
        match frzL (frz 100) c h with
        | some (c', _) => some (.inr (sz, c', len))
        | none => none
      else none
    | _ => none
  | some (v, h) => match frz 100 v h with
    | some (v', _) => some (.inl v')
    | none => none
  | none => none

def callB (P : Program) (G : Glob) (md : FuncId → Md) (call : CallF) (n : Nat) : CallF := fun k args h fresh =>
  match P.funcs[k]? with
  | some fn => match fn.body with
    | some c =>
      if fn.name == "runtime.NumGoroutine" then none else
      match md k with
      | .shared => match runA P G call n fn c args h with
        | some (v, h') => some (v, some h')
        | none => none
      | .pure =>
        if PV.cleans args then (match runP P G call n fn c args with
          | some v => some (v, none)
          | none => none)
        else match frzL (frz 100) args h with
          | some (args', h1) => match runP P G call n fn c args' with
            | some v => some (v, some h1)
            | none => none
          | none => match runA P G call n fn c args h with
            | some (v, h') => some (v, some h')
            | none => none
      | .lib F =>
        if PV.cleans args then (match F args with
          | some v => some (v, none)
          | none => none)
        else match frzL (frz 100) args h with
          | some (args', h1) => match F args' with
            | some v => some (v, some h1)
            | none => none
          | none => none
      | .own => match frzL (frz 100) args h with
        | some (args', h1) => match runO P G call n fn c args' with
          | some (.inl v) => some (v, some h1)
          | some (.inr (sz, c', len)) => some (.ow fresh (len * sz) 0 len, some (h1.set fresh (.cells sz false c')))
          | none => none
        | none => none
    | none => none
  | none => none
def runF (P : Program) (G : Glob) (md : FuncId → Md) : Nat → CallF
  | 0 => fun _ _ _ _ => none
  | n + 1 => callB P G md (runF P G md n) n

/-- What is asked of the program's text. -/
def okP (P : Program) : Bool := P.follows .mixedOrders && P.funcs.toList.all fun fn => match fn.body with
  | some c => okC fn.ntmps c
  | none => true

section
variable {P : Program} {G : Glob} {md : FuncId → Md} {call : CallF} {N : Nat} {w0 w : World}

/-- A result variable's value. -/
def resF (tmps : Array Value) : ResultVar → Sem Value
  | .tmp t => pure (tmps.getD t undef)
  | .cell p t => do loadVar t (← asAddr (tmps.getD p undef))
theorem resA_ok {f : Fr} {h : AH} {g : Gh} {a : Act} (hw : WRel g h N w0 w) (hf : FRel g f.at a) : ∀ (rs : List ResultVar) (l : List PV), resA P f h rs = some l →
    ∃ vs : List Value, (rs.mapM (resF a.tmps)).run P w = .ok vs w ∧ Reps g l vs
  | [], l, he => by
    simp only [resA, Option.some.injEq] at he
    subst he
    exact ⟨[], rfl, .nil⟩
  | .tmp t :: r, l, he => by
    simp only [resA] at he
    split at he
    · rename_i l1 h1
      obtain rfl := Option.some.inj he
      obtain ⟨vs, k1, k2⟩ := resA_ok hw hf r l1 h1
      refine ⟨a.tmps.getD t undef :: vs, ?_, .cons _ _ _ _ (hf t) k2⟩
      rw [List.mapM_cons]
      simp only [resF, Sem.run_bind, Sem.run_pure, Result.andThen_ok, k1]
    · simp at he
  | .cell p t :: r, l, he => by
    simp only [resA] at he
    split at he
    · rename_i c hb
      split at he
      · rename_i v hv
        split at he
        · rename_i l1 h1
          obtain rfl := Option.some.inj he
          obtain ⟨vs, k1, k2⟩ := resA_ok hw hf r l1 h1
          obtain ⟨ad, e1, e2⟩ := behind_ok hw hb (hf p)
          obtain ⟨u, e3, e4⟩ := readC_ok (P := P) e2 hv
          refine ⟨u :: vs, ?_, .cons _ _ _ _ e4 k2⟩
          have e5 : (asAddr (a.tmps.getD p undef)).run P w = .ok ad w := by rw [e1]; rfl
          rw [List.mapM_cons]
          simp only [resF, Sem.run_bind, e5, Sem.run_pure, Result.andThen_ok, e3, k1]
        · simp at he
      · simp at he
    · simp at he
theorem results_ok {f : Fr} {h : AH} {g : Gh} {a : Act} {fn : Func} {l : List PV} (hw : WRel g h N w0 w) (hf : FRel g f.at a) (he : resA P f h fn.results.toList = some l) : ∃ v, (results fn a.tmps).run P w = .ok v w ∧ Rep g (oneOf l) v := by
  obtain ⟨vs, h1, h2⟩ := resA_ok (P := P) hw hf _ _ he
  have hA : (results fn a.tmps).run P w = .ok (if h : vs.toArray.size = 1 then vs.toArray[0] else .tuple vs.toArray) w := by
    have e : results fn a.tmps = (do let vs ← fn.results.mapM (resF a.tmps); pure (if h : vs.size = 1 then vs[0] else .tuple vs)) := rfl
    rw [e, Sem.run_bind, Array.mapM_eq_mapM_toList, Sem.run_map, h1]
    rfl
  cases h2 with
  | nil => exact ⟨_, hA, .tup _ _ .nil⟩
  | cons p ps v vs r1 r2 =>
    cases r2 with
    | nil => exact ⟨_, hA, r1⟩
    | cons q qs u us r3 r4 =>
      refine ⟨_, hA, ?_⟩
      simp only [oneOf]
      rw [dif_neg (by simp)]
      exact .tup _ _ (.cons _ _ _ _ r1 (.cons _ _ _ _ r3 r4))
theorem layArgs_at : ∀ (l : List PV) (i : Nat) (f : Fr) (j : Nat), (layArgs i l f).at j = if i ≤ j ∧ j < i + l.length then l.getD (j - i) .undef else f.at j
  | [], i, f, j => by rw [if_neg (by rw [List.length_nil]; omega)]; rfl
  | v :: r, i, f, j => by
    rw [layArgs, layArgs_at r (i + 1), List.length_cons]
    by_cases h1 : i + 1 ≤ j ∧ j < i + 1 + r.length
    · rw [if_pos h1, if_pos (by omega), show j - i = (j - (i + 1)) + 1 by omega]
      rfl
    · rw [if_neg h1, Fr.at_set]
      by_cases h2 : j = i
      · subst h2
        rw [if_pos rfl, if_pos (by omega), Nat.sub_self]
        rfl
      · rw [if_neg h2, if_neg (by omega)]
theorem layArgs_ok {g : Gh} {args : List PV} {vs : Array Value} (hr : Reps g args vs.toList) (m : Nat) : FRel g (layArgs 0 args .leaf).at { tmps := vs ++ Array.replicate m undef, defers := [] } := by
  intro d
  rw [layArgs_at]
  have hl : args.length = vs.size := by rw [hr.length]; simp
  by_cases h1 : d < args.length
  · rw [if_pos ⟨Nat.zero_le _, by omega⟩, Nat.sub_zero]
    obtain ⟨x, u, k1, k2, k3⟩ := hr.getD h1
    have e1 : args.getD d .undef = x := by rw [List.getD_eq_getElem?_getD, k1]; rfl
    have e2 : (vs ++ Array.replicate m undef).getD d undef = u := by
      rw [Array.getD_eq_getD_getElem?, Array.getElem?_append_left (by omega)]
      rw [Array.getElem?_toList] at k2
      rw [k2]; rfl
    rw [e1, e2]; exact k3
  · rw [if_neg (by omega)]
    exact .undef _

/-- A body carried out on a heap is the function's call. -/
theorem runA_ok (hm : P.follows .mixedOrders = true) (hc : CallOk P G call) {k : FuncId} {fn : Func} {c : Code} (hf : P.funcs[k]? = some fn) (hb : fn.body = some c) (hok : okC fn.ntmps c = true) {n : Nat} {args : List PV} {h h' : AH} {v : PV}
    (he : runA P G call n fn c args h = some (v, h')) {g : Gh} {vs : Array Value} (hG : GlobOk g G) (hw : WRel g h N w0 w) (hal : Al g h.next) (hr : Reps g args vs.toList) :
    Calls P k vs w fun e w' => ∃ u g', e = .returned u ∧ Ext g g' N h.next ∧ WRel g' h' N w0 w' ∧ Al g' h'.next ∧ h.next ≤ h'.next ∧ Rep g' v u := by
  refine calls_of_wp hf hb ?_
  have hi : Is G N w0 fn.ntmps g (layArgs 0 args .leaf).at h { tmps := vs ++ Array.replicate (fn.ntmps - vs.size) undef, defers := [] } w :=
    ⟨hG, layArgs_ok hr _, hw, hal, rfl, by simp; omega⟩
  unfold runA at he
  have fin : ∀ (x : EX) f1 h1 l, (x = .normal ∨ x = .ret) → evC P G call n c (layArgs 0 args .leaf) h = some (x, f1, h1) → resA P f1 h1 fn.results.toList = some l → oneOf l = v → h1 = h' →
      c.wp P (bodyPost P fn fun e w' => ∃ u g', e = .returned u ∧ Ext g g' N h.next ∧ WRel g' h' N w0 w' ∧ Al g' h'.next ∧ h.next ≤ h'.next ∧ Rep g' v u) { tmps := vs ++ Array.replicate (fn.ntmps - vs.size) undef, defers := [] } w := by
    intro x f1 h1 l hx he1 hres hv hh
    subst hv hh
    refine evC_ok hm hc hok he1 hi fun g' a' w' hi' hx' hnx => ?_
    obtain ⟨u, k1, k2⟩ := results_ok (P := P) hi'.rel hi'.fr hres
    rcases hx with rfl | rfl
    · exact ⟨hi'.df, u, k1, u, g', rfl, hx', hi'.rel, hi'.al, hnx, k2⟩
    · exact ⟨hi'.df, u, k1, u, g', rfl, hx', hi'.rel, hi'.al, hnx, k2⟩
  split at he
  · rename_i f1 h1 he1
    split at he
    · rename_i l hl
      simp only [Option.some.injEq, Prod.mk.injEq] at he
      exact fin _ f1 h1 l (.inl rfl) he1 hl he.1 he.2
    · simp at he
  · rename_i f1 h1 he1
    split at he
    · rename_i l hl
      simp only [Option.some.injEq, Prod.mk.injEq] at he
      exact fin _ f1 h1 l (.inr rfl) he1 hl he.1 he.2
    · simp at he
  · simp at he

/-- The ghosts of a heap of its own. -/
def Gh.bare (g : Gh) : Gh := { ro := g.ro, bl := fun _ => 0, tt := fun _ => none, sz := fun _ => 0, cp := fun _ => 0, al := fun _ => False }
theorem bare_rel {g : Gh} {h : AH} (hw : WRel g h N w0 w) : WRel g.bare AH.empty w.heap.size w w :=
  ⟨Below.refl _ _, Nat.le_refl _, hw.ros, fun id o ho => by rw [AH.get_empty] at ho; simp at ho, fun id _ o _ ho => by rw [AH.get_empty] at ho; simp at ho, fun _ _ => rfl⟩
/-- Back from a heap of its own. -/
theorem back_rel {g g1 : Gh} {h hc : AH} {w' : World} (hw : WRel g h N w0 w) (h1 : WRel g1 hc w.heap.size w w') (le : ∀ b C, g.ro b = some C → g1.ro b = some C) (ro : ∀ b C, g1.ro b = some C → g.ro b = some C ∨ w.heap.size ≤ b) :
    WRel { g with ro := g1.ro } h N w0 w' ∧ g.Le { g with ro := g1.ro } ∧ (∀ b C, g1.ro b = some C → g.ro b = some C ∨ N ≤ b) := by
  have hle : g.Le { g with ro := g1.ro } := ⟨le, fun _ q => q, fun i t _ ht => ⟨t, ht, Nat.le_refl _, fun _ => ⟨rfl, rfl, rfl⟩⟩⟩
  refine ⟨⟨hw.below.trans (h1.below.mono hw.n0), by have := h1.below.size; have := hw.n0; omega, h1.ros, fun id o ho => ?_, hw.inj, hw.dead⟩, hle, fun b C hb => (ro b C hb).elim .inl fun q => .inr (by have := hw.n0; omega)⟩
  obtain ⟨k1, k2, k3, k4⟩ := hw.objs id o ho
  refine ⟨k1, k2, by have := h1.below.size; show g.bl id < _; omega, k4.keep hle rfl rfl rfl rfl (h1.below.block _ k3) fun q => ?_⟩
  show g1.ro (g.bl id) = none
  cases hro : g1.ro (g.bl id) with
  | none => rfl
  | some C =>
    rcases ro _ _ hro with r | r
    · rw [q] at r; simp at r
    · omega
theorem glob_bare {g : Gh} (hG : GlobOk g G) : GlobOk g.bare G := fun k c e => Rep.clean (g := g) (g' := g.bare) (fun _ _ q => q) (hG k c e) rfl

/-- A call on a heap of its own, and back. -/
theorem runP_ok (hm : P.follows .mixedOrders = true) (hc : CallOk P G call) {k : FuncId} {fn : Func} {c : Code} (hf : P.funcs[k]? = some fn) (hb : fn.body = some c) (hok : okC fn.ntmps c = true) {n : Nat} {args : List PV} {h : AH} {v : PV}
    (he : runP P G call n fn c args = some v) {g : Gh} {vs : Array Value} (hG : GlobOk g G) (hw : WRel g h N w0 w) (hr : Reps g args vs.toList) (hcl : PV.cleans args = true) :
    Calls P k vs w fun e w' => ∃ u g', e = .returned u ∧ g.Le g' ∧ g'.al = g.al ∧ (∀ b C, g'.ro b = some C → g.ro b = some C ∨ N ≤ b) ∧ WRel g' h N w0 w' ∧ Rep g' v u := by
  unfold runP at he
  split at he
  · rename_i v1 h1 he1
    split at he
    · rename_i v2 h2 he2
      obtain rfl := Option.some.inj he
      refine (runA_ok hm hc hf hb hok he1 (glob_bare hG) (bare_rel hw) (fun id q => q.elim) (Reps.clean (g := g) (g' := g.bare) (fun _ _ q => q) hr hcl)).mono ?_
      rintro e w' ⟨u, g1, rfl, hx, hw1, _, _, hr1⟩
      obtain ⟨g2, a1, a2, a3, a4, _⟩ := frz_ok 100 v1 h1 v2 h2 g1 u he2 hw1 hr1
      obtain ⟨b1, b2, b3⟩ := back_rel hw a2 (fun b C q => a1.le.ro _ _ (hx.le.ro _ _ q)) (fun b C q => (a1.ro b C q).elim (fun q => hx.ro b C q) .inr)
      exact ⟨u, { g with ro := g2.ro }, rfl, b2, rfl, b3, b1, Rep.clean (g := g2) (g' := { g with ro := g2.ro }) (fun _ _ q => q) a3 a4⟩
    · simp at he
  · simp at he
/-- What is asked of a function of the library that is met by what is proved of it elsewhere. -/
def LibOk (P : Program) (G : Glob) (k : FuncId) (F : List PV → Option PV) : Prop :=
  ∀ (g : Gh) (w : World) (args : List PV) (vs : Array Value) (v : PV), GlobOk g G → (∀ b C, g.ro b = some C → ∃ c E z, w.heap[b]? = some (.cells c E z) ∧ ∀ (i : Nat) (v : Value), C[i]? = some v → c[i]? = some v) →
    Reps g args vs.toList → PV.cleans args = true → F args = some v → Calls P k vs w fun e w' => ∃ u, e = .returned u ∧ Below w.heap.size w w' ∧ Rep g v u
theorem lib_ok {F : List PV → Option PV} {k : FuncId} (hl : LibOk P G k F) {args : List PV} {h : AH} {v : PV} (he : F args = some v) {g : Gh} {vs : Array Value} (hG : GlobOk g G) (hw : WRel g h N w0 w) (hr : Reps g args vs.toList) (hcl : PV.cleans args = true) :
    Calls P k vs w fun e w' => ∃ u g', e = .returned u ∧ g.Le g' ∧ g'.al = g.al ∧ (∀ b C, g'.ro b = some C → g.ro b = some C ∨ N ≤ b) ∧ WRel g' h N w0 w' ∧ Rep g' v u := by
  refine (hl g w args vs v hG hw.ros hr hcl he).mono ?_
  rintro e w' ⟨u, rfl, hb, hru⟩
  obtain ⟨b1, b2, b3⟩ := back_rel (g1 := g.bare) (hc := AH.empty) hw ⟨hb, hb.size, fun b C hro => by
    obtain ⟨c, E, z, k1, k2⟩ := hw.ros b C hro
    refine ⟨c, E, z, ?_, k2⟩
    rw [hb.block b (Array.getElem?_eq_some_iff.1 k1).1]
    exact k1, fun id o ho => by rw [AH.get_empty] at ho; simp at ho, fun id _ o _ ho => by rw [AH.get_empty] at ho; simp at ho, fun _ _ => rfl⟩ (fun _ _ q => q) (fun _ _ q => .inl q)
  exact ⟨u, _, rfl, b2, rfl, b3, b1, hru⟩
theorem callB_ok (hP : okP P = true) (hown : ∀ k, md k ≠ .own) (hlib : ∀ k F, md k = .lib F → LibOk P G k F) (hc : CallOk P G call) (n : Nat) : CallOk P G (callB P G md call n) := by
  have hm : P.follows .mixedOrders = true := by simp only [okP, Bool.and_eq_true] at hP; exact hP.1
  intro k args h fresh v ho he g N w0 w vs hG hw hal hn hr
  unfold callB at he
  split at he
  · rename_i fn hf
    split at he
    · rename_i c hb
      split at he
      · simp at he
      · rename_i hname
        have hok : okC fn.ntmps c = true := by
          simp only [okP, Bool.and_eq_true, List.all_eq_true] at hP
          have := hP.2 fn (by rw [Array.mem_toList_iff]; exact Array.mem_of_getElem? hf)
          rw [hb] at this
          exact this
        have hcf : (callFunc k vs).run P w = .ok (.enter k vs) w := by
          unfold callFunc
          simp only [Sem.run_bind, run_program, Result.andThen_ok, hf]
          rw [if_neg (by simpa using hname), if_neg (by simp [hb])]
          rfl
        refine ⟨hcf, ?_⟩
        have shared : ∀ v h', runA P G call n fn c args h = some (v, h') → Calls P k vs w fun e w' => ∃ u g', e = .returned u ∧ g.Le g' ∧ (∀ id, g'.al id → g.al id ∨ (id = fresh ∧ (some h' : Option AH).isSome = true) ∨ (h.next ≤ id ∧ id < ((some h' : Option AH).getD h).next)) ∧ (∀ b C, g'.ro b = some C → g.ro b = some C ∨ N ≤ b) ∧
            WRel g' ((some h' : Option AH).getD h) N w0 w' ∧ h.next ≤ ((some h' : Option AH).getD h).next ∧ Rep g' v u := by
          intro v h' he1
          refine (runA_ok hm hc hf hb hok he1 hG hw hal hr).mono ?_
          rintro e w' ⟨u, g', rfl, hx, hw', hal', hnx, hr'⟩
          exact ⟨u, g', rfl, hx.le, fun id hid => (hx.al id hid).elim .inl fun q => .inr (.inr ⟨q, hal' id hid⟩), hx.ro, hw', hnx, hr'⟩
        split at he
        · split at he
          · rename_i v' h' he1
            simp only [Option.some.injEq, Prod.mk.injEq] at he
            obtain ⟨rfl, rfl⟩ := he
            exact shared _ _ he1
          · simp at he
        · split at he
          · rename_i hcl
            split at he
            · rename_i v' he1
              simp only [Option.some.injEq, Prod.mk.injEq] at he
              obtain ⟨rfl, rfl⟩ := he
              refine (runP_ok hm hc hf hb hok he1 hG hw hr hcl).mono ?_
              rintro e w' ⟨u, g', rfl, le, al, ro, hw', hr'⟩
              exact ⟨u, g', rfl, le, fun id hid => .inl (by rw [al] at hid; exact hid), ro, hw', Nat.le_refl _, hr'⟩
            · simp at he
          · split at he
            · rename_i args' h1 he1
              obtain ⟨g1, a1, a2, a3, a4, _⟩ := frzL_ok (frz_ok 100) _ _ _ _ g _ he1 hw hr
              split at he
              · rename_i v' he2
                simp only [Option.some.injEq, Prod.mk.injEq] at he
                obtain ⟨rfl, rfl⟩ := he
                refine (runP_ok hm hc hf hb hok he2 (hG.mono a1.le) a2 a3 a4).mono ?_
                rintro e w' ⟨u, g', rfl, le, al, ro, hw', hr'⟩
                exact ⟨u, g', rfl, a1.le.trans le, fun id hid => .inl (by rw [al, a1.al] at hid; exact hid), fun b C q => (ro b C q).elim (a1.ro b C) .inr, hw', by simp [a1.nx], hr'⟩
              · simp at he
            · split at he
              · rename_i v' h' he1
                simp only [Option.some.injEq, Prod.mk.injEq] at he
                obtain ⟨rfl, rfl⟩ := he
                exact shared _ _ he1
              · simp at he
        · rename_i F hmd
          split at he
          · rename_i hcl
            split at he
            · rename_i v' he1
              simp only [Option.some.injEq, Prod.mk.injEq] at he
              obtain ⟨rfl, rfl⟩ := he
              refine (lib_ok (hlib k F hmd) he1 hG hw hr hcl).mono ?_
              rintro e w' ⟨u, g', rfl, le, al, ro, hw', hr'⟩
              exact ⟨u, g', rfl, le, fun id hid => .inl (by rw [al] at hid; exact hid), ro, hw', Nat.le_refl _, hr'⟩
            · simp at he
          · split at he
            · rename_i args' h1 he1
              obtain ⟨g1, a1, a2, a3, a4, _⟩ := frzL_ok (frz_ok 100) _ _ _ _ g _ he1 hw hr
              split at he
              · rename_i v' he2
                simp only [Option.some.injEq, Prod.mk.injEq] at he
                obtain ⟨rfl, rfl⟩ := he
                refine (lib_ok (hlib k F hmd) he2 (hG.mono a1.le) a2 a3 a4).mono ?_
                rintro e w' ⟨u, g', rfl, le, al, ro, hw', hr'⟩
                exact ⟨u, g', rfl, a1.le.trans le, fun id hid => .inl (by rw [al, a1.al] at hid; exact hid), fun b C q => (ro b C q).elim (a1.ro b C) .inr, hw', by simp [a1.nx], hr'⟩
              · simp at he
            · simp at he
        · rename_i hmd
          exact absurd hmd (hown k)
    · simp at he
  · simp at he
theorem runF_ok (hP : okP P = true) (hown : ∀ k, md k ≠ .own) (hlib : ∀ k F, md k = .lib F → LibOk P G k F) : ∀ n, CallOk P G (runF P G md n)
  | 0 => fun _ _ _ _ _ _ he => by simp [runF] at he
  | n + 1 => callB_ok hP hown hlib (runF_ok hP hown hlib n) n
end
end Go.Ab
