/-
  A PURE MACHINE FOR THE MODEL'S CODE, 21: calls on the caller's heap; rows that come back; texts gone through by their characters.
-/
import Derived.Test.YtohmplfkieaecaaDoorA20
namespace Go.Ab
open Go.RowKit
set_option linter.unusedSimpArgs false

section
variable {P : Program} {G : Glob} {md : FuncId → Md} {ρ : Operand → PV} {h : AH} {fr : Nat} {d : Option Tmp} {ty : TypeId} {ps : String} {af : Array Edge} {gu : Option (Nat × Bool)}

theorem up_set (id n : Nat) (o : AO) : (h.set id o).up n = (h.up n).set id o := rfl
theorem up_up (a b : Nat) : (h.up a).up b = h.up (a + b) := by
  unfold AH.up
  simp [Nat.add_assoc]

/-- A body's end, on the caller's heap. -/
def EndS (P : Program) (rs : List ResultVar) (Q : PV → AH → Prop) : EX → Fr → AH → Prop
  | .exit _, _, _ => False
  | _, f, h => RS Q h (resA P f h rs)
where RS (Q : PV → AH → Prop) (h : AH) : Option (List PV) → Prop
  | some l => Q (oneOf l) h
  | none => False
theorem EndS_normal (rs : List ResultVar) (Q : PV → AH → Prop) (f : Fr) (h : AH) : EndS P rs Q .normal f h = EndS.RS Q h (resA P f h rs) := propext Iff.rfl
theorem EndS_ret (rs : List ResultVar) (Q : PV → AH → Prop) (f : Fr) (h : AH) : EndS P rs Q .ret f h = EndS.RS Q h (resA P f h rs) := propext Iff.rfl
theorem RS_some (Q : PV → AH → Prop) (h : AH) (l : List PV) : EndS.RS Q h (some l) = Q (oneOf l) h := propext Iff.rfl
theorem EndS_some {rs : List ResultVar} {Q : PV → AH → Prop} {x : EX} {f : Fr} {h : AH} (q : EndS P rs Q x f h) : (x = .normal ∨ x = .ret) ∧ ∃ l, resA P f h rs = some l ∧ Q (oneOf l) h := by
  cases x with
  | exit _ => exact q.elim
  | normal =>
    rw [EndS_normal] at q
    cases hq : resA P f h rs with
    | none => rw [hq] at q; exact q.elim
    | some l => rw [hq] at q; exact ⟨.inl rfl, l, rfl, q⟩
  | ret =>
    rw [EndS_ret] at q
    cases hq : resA P f h rs with
    | none => rw [hq] at q; exact q.elim
    | some l => rw [hq] at q; exact ⟨.inr rfl, l, rfl, q⟩
/-- A call on the caller's heap. -/
theorem CR.sh {k : FuncId} {fn : Func} {c : Code} {rs : List ResultVar} {args : List PV} {Q : PV → AH → Prop} (hf : P.funcs[k]? = some fn) (hb : fn.body = some c) (hn : (fn.name == "runtime.NumGoroutine") = false) (hr : fn.results.toList = rs) (hm : md k = .shared)
    (he : wpC P G md c (layArgs 0 args .leaf) h (EndS P rs Q)) : ∃ v h', (∀ fr, CR P G md k args h fr v (some h')) ∧ Q v h' := by
  obtain ⟨n, x, f', h', he1, q⟩ := wpC_ev _ _ _ _ he
  obtain ⟨hx, l, h1, h2⟩ := EndS_some q
  refine ⟨oneOf l, h', fun fr => CR.shared hf hb hn hm ⟨n, x, f', h', he1, ?_⟩ fr, h2⟩
  rcases hx with rfl | rfl <;> exact ⟨l, by rw [hr]; exact h1, rfl, rfl⟩
/-- A call on a heap of its own, its answer made read-only. -/
theorem CR.frozen {k : FuncId} {fn : Func} {c : Code} {rs : List ResultVar} {args : List PV} {v : PV} (hf : P.funcs[k]? = some fn) (hb : fn.body = some c) (hn : (fn.name == "runtime.NumGoroutine") = false) (hr : fn.results.toList = rs) (hm : md k = .pure) (hcl : PV.cleans args = true)
    (he : wpC P G md c (layArgs 0 args .leaf) .empty (EndS P rs fun x h' => ∃ h'', frz 100 x h' = some (v, h''))) (h : AH) (fr : Nat) : CR P G md k args h fr v none := by
  refine CR.pure hf hb hn hm hcl ((wpC_ev _ _ _ _ he).mono ?_) h fr
  intro x f' h' q
  obtain ⟨hx, l, h1, h2⟩ := EndS_some q
  rcases hx with rfl | rfl <;> exact ⟨l, by rw [hr]; exact h1, h2⟩
theorem goO_shared {ops : Array Oper} {base i : Nat} {rest : List Oper} {d : Option Tmp} {f : Fr} {Q : Fr → AH → Prop} {k : FuncId} {args : List PV} {v : PV} {h' : AH} (hk : ∀ fr, CR P G md k args h fr v (some h')) :
    goO P G md ops base i rest d f h Q (some (.call k args)) = wpO P G md ops base (i + 1) rest (putA f d v) h' Q := by
  rw [goO_call]
  refine propext ⟨fun ⟨v', ho, a, b⟩ => ?_, fun a => ⟨v, some h', hk _, a⟩⟩
  obtain ⟨rfl, rfl⟩ := a.det (hk _)
  exact b

theorem CR.mix {k : FuncId} {fn : Func} {c : Code} {rs : List ResultVar} {args : List PV} {Q : PV → AH → Prop} (hf : P.funcs[k]? = some fn) (hb : fn.body = some c) (hn : (fn.name == "runtime.NumGoroutine") = false) (hr : fn.results.toList = rs) (hm : md k = .pure)
    (hcl : PV.cleans args = false) (hz : frzL (frz 100) args h = none) (he : wpC P G md c (layArgs 0 args .leaf) h (EndS P rs Q)) : ∃ v h', (∀ fr, CR P G md k args h fr v (some h')) ∧ Q v h' := by
  obtain ⟨n, x, f', h', he1, q⟩ := wpC_ev _ _ _ _ he
  obtain ⟨hx, l, h1, h2⟩ := EndS_some q
  refine ⟨oneOf l, h', fun fr => ⟨n + 1, ?_⟩, h2⟩
  have : runA P G (runF P G md n) n fn c args h = some (oneOf l, h') := by
    unfold runA
    rw [he1]
    rw [← hr] at h1
    rcases hx with rfl | rfl <;> simp only [h1]
  simp only [runF, callB, hf, hb, hn, hm, hcl, hz, this, Bool.false_eq_true, if_false]
theorem aop_makeFunc (k : FuncId) (first cap : Array Operand) : aop P ρ h fr ⟨d, .makeFunc (.func k) first cap, ty, ps, af, gu⟩ = some (.q (.fn (.func k) (first.toList.map ρ) (cap.toList.map ρ))) := rfl
def mmO (b : Builtin) (args : List PV) : Option OR := match b, args with
  | .min, [.int k x, .int _ y] => some (.q (.int k (if y < x then y else x)))
  | .max, [.int k x, .int _ y] => some (.q (.int k (if y > x then y else x)))
  | _, _ => none
theorem aop_minO (args : Array Operand) (ts : Array TypeId) : aop P ρ h fr ⟨d, .call { callee := .builtin .min, args := args, argTypes := ts }, ty, ps, af, gu⟩ = mmO .min (args.toList.map ρ) := by
  simp only [aop, mmO]
  generalize args.toList.map ρ = l
  generalize ts.toList = m
  match l with
  | [] => rfl
  | [x] => cases x <;> rfl
  | [x, y] => cases x <;> cases y <;> rfl
  | x :: y :: _ :: _ => cases x <;> cases y <;> rfl
theorem aop_maxO (args : Array Operand) (ts : Array TypeId) : aop P ρ h fr ⟨d, .call { callee := .builtin .max, args := args, argTypes := ts }, ty, ps, af, gu⟩ = mmO .max (args.toList.map ρ) := by
  simp only [aop, mmO]
  generalize args.toList.map ρ = l
  generalize ts.toList = m
  match l with
  | [] => rfl
  | [x] => cases x <;> rfl
  | [x, y] => cases x <;> cases y <;> rfl
  | x :: y :: _ :: _ => cases x <;> cases y <;> rfl
theorem mm_min (k k' : IntKind) (x y : Int) : mmO .min [.int k x, .int k' y] = some (.q (.int k (min x y))) := by
  simp only [mmO]
  congr 3
  split <;> omega
theorem mm_max (k k' : IntKind) (x y : Int) : mmO .max [.int k x, .int k' y] = some (.q (.int k (max x y))) := by
  simp only [mmO]
  congr 3
  split <;> omega

theorem frzL_clean {dd : Nat} : ∀ (l : List PV) (h : AH), PV.cleans l = true → frzL (frz dd) l h = some (l, h)
  | [], h, _ => rfl
  | v :: r, h, e => by
    simp only [PV.cleans, Bool.and_eq_true] at e
    have : frz dd v h = some (v, h) := by cases dd <;> simp [frz, e.1]
    simp only [frzL, this, frzL_clean r h e.2]
theorem frz_clean {dd : Nat} {v : PV} (h : AH) (e : v.clean = true) : frz dd v h = some (v, h) := by cases dd <;> simp [frz, e]
theorem frz_ow {dd id m : Nat} {fz : Bool} {c : List PV} (hg : h.get id = some (.cells 1 fz c)) (hc : c.length = m) (hcl : PV.cleans c = true) : frz (dd + 1) (.ow id m 0 m) h = some (.ro c m, h.set id (.cells 1 true c)) := by
  rw [frz, if_neg (by simp [PV.clean])]
  simp only [hg]
  rw [if_pos ⟨hc, by omega⟩, show ((c.drop 0).take (m * 1)) = c by simp [← hc], frzL_clean c _ hcl]
/-- A row with a bool beside it, made read-only. -/
theorem frz_rowB {dd id m : Nat} {fz b : Bool} {c : List PV} (hg : h.get id = some (.cells 1 fz c)) (hc : c.length = m) (hcl : PV.cleans c = true) : ∃ h', frz (dd + 2) (.tup [.ow id m 0 m, .bool b]) h = some (.tup [.ro c m, .bool b], h') := by
  refine ⟨h.set id (.cells 1 true c), ?_⟩
  rw [frz, if_neg (by simp [PV.clean, PV.cleans])]
  simp only [frzL, frz_ow hg hc hcl, frz_clean (h.set id (.cells 1 true c)) (show (PV.bool b).clean = true from rfl)]
theorem frz_row {id m : Nat} {fz b : Bool} {c : List PV} (hg : h.get id = some (.cells 1 fz c)) (hc : c.length = m) (hcl : PV.cleans c = true) : ∃ h', frz 100 (.tup [.ow id m 0 m, .bool b]) h = some (.tup [.ro c m, .bool b], h') := frz_rowB (dd := 98) hg hc hcl

/-! ### A text gone through by its characters -/
def rangeO (P : Program) (h : AH) (fr : Nat) (t : TypeId) (x : PV) : Option OR := match P.underlying t, x with
  | some .string, .str l => some (.w (.iter fr) (h.set fr (.siter l 0)))
  | _, _ => none
theorem aop_range (t : TypeId) (x : Operand) : aop P ρ h fr ⟨d, .range t x, ty, ps, af, gu⟩ = rangeO P h fr t (ρ x) := by
  simp only [aop, rangeO]
  generalize P.underlying t = u
  generalize ρ x = y
  rcases u with _ | u
  · rfl
  · cases u <;> cases y <;> rfl
theorem range_str {t : TypeId} {l : List UInt8} (hu : P.underlying t = some .string) : rangeO P h fr t (.str l) = some (.w (.iter fr) (h.set fr (.siter l 0))) := by simp [rangeO, hu]
def nextO (h : AH) (x : PV) : Option OR := match x with
  | .iter id => match h.get id with
    | some (.siter s pos) =>
      if pos < s.length then
        some (.w (.tup [.bool true, .int .i64 pos, .int .i32 (Utf8.decode ⟨s.toArray⟩ pos).1]) (h.set id (.siter s (pos + (Utf8.decode ⟨s.toArray⟩ pos).2))))
      else some (.q (.tup [.bool false]))
    | _ => none
  | _ => none
theorem aop_nextS (x : Operand) : aop P ρ h fr ⟨d, .next x true, ty, ps, af, gu⟩ = nextO h (ρ x) := rfl
theorem next_more {id pos : Nat} {s : List UInt8} (hg : h.get id = some (.siter s pos)) (hp : pos < s.length) :
    nextO h (.iter id) = some (.w (.tup [.bool true, .int .i64 pos, .int .i32 (Utf8.decode ⟨s.toArray⟩ pos).1]) (h.set id (.siter s (pos + (Utf8.decode ⟨s.toArray⟩ pos).2)))) := by
  simp only [nextO, hg, hp, if_true]
theorem next_end {id pos : Nat} {s : List UInt8} (hg : h.get id = some (.siter s pos)) (hp : ¬ pos < s.length) : nextO h (.iter id) = some (.q (.tup [.bool false])) := by
  simp only [nextO, hg, hp, if_false]
end
end Go.Ab
