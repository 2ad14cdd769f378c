/-
  A PURE MACHINE FOR THE MODEL'S CODE, 19: the rows by which a condition is carried out, one step each.
-/
import Derived.Test.YtcbngkmmmfaaoaaGreatDoorC18
namespace Go.Ac
open Go.RowKit
set_option linter.unusedSimpArgs false

section
variable {P : Program} {G : Glob} {md : FuncId → Md}

/-! ### What puts no call off leaves none -/
def isDfr (o : Oper) : Bool := match o.op with
  | .defer _ => true
  | _ => false
def noDf : Code → Bool
  | .region _ ops _ => ops.toList.all fun o => !isDfr o
  | .seq a b | .cond _ a b => noDf a && noDf b
  | .block _ c | .loop c => noDf c
  | .rangeFunc .. => false
  | _ => true
theorem not_dfr {ρ : Operand → PV} {h : AH} {fr : Nat} {o : Oper} (ho : isDfr o = false) : ∀ k args, aop P ρ h fr o ≠ some (.dfr k args) := by
  intro k args e
  refine aop_nodefer2 e ?_
  unfold isDfr at ho
  intro c hc
  rw [hc] at ho
  simp at ho
theorem evOps_ds {call : CallF} {rd : Bool} {ops : Array Oper} {base : Nat} : ∀ (l : List Oper) (i : Nat) (f : Fr) (h : AH) (r : OX), (∀ o ∈ l, isDfr o = false) → evOps P G call rd ops base i l f h = some r → (match r with
    | .normal f' _ => f'.ds
    | .panic _ f' _ => f'.ds) = f.ds
  | [], _, f, h, r, _, he => by
    simp only [evOps, Option.some.injEq] at he
    subst he
    rfl
  | o :: rest, i, f, h, r, hn, he => by
    have ih := fun i f' h' (e : f'.ds = f.ds) he => (evOps_ds (call := call) (rd := rd) (ops := ops) (base := base) rest i f' h' r (fun o ho => hn o (List.mem_cons_of_mem _ ho)) he).trans e
    simp only [evOps] at he
    split at he
    · simp at he
    · exact ih _ _ _ (ds_putA _ _ _) he
    · split at he
      · exact ih _ _ _ (ds_putA _ _ _) he
      · exact ih _ _ _ (ds_putA _ _ _) he
      · split at he
        · exact ih _ _ _ (ds_putA _ _ _) he
        · exact ih _ _ _ (ds_putA _ _ _) he
        · exact ih _ _ _ (ds_putA _ _ _) he
        · obtain rfl := Option.some.inj he; rfl
        · simp at he
      · obtain rfl := Option.some.inj he; rfl
      · rename_i k args ha
        exact absurd ha (not_dfr (hn o List.mem_cons_self) _ _)
      · simp at he
theorem evD_ds {call : CallF} {ops : Array Oper} {base : Nat} : ∀ (l : List Oper) (i : Nat) (f : Fr) (h : AH) (lg : List (Nat × Nat)) (r : OX), evD P G call ops base i l f h lg = some r → (match r with
    | .normal f' _ => f'.ds
    | .panic _ f' _ => f'.ds) = f.ds
  | [], _, f, h, _, r, he => by
    simp only [evD, Option.some.injEq] at he
    subst he
    rfl
  | o :: rest, i, f, h, lg, r, he => by
    have ih := fun i f' h' lg (e : f'.ds = f.ds) he => (evD_ds (call := call) (ops := ops) (base := base) rest i f' h' lg r he).trans e
    simp only [evD] at he
    split at he
    · simp at he
    · exact ih _ _ _ _ (ds_putA _ _ _) he
    · split at he
      · split at he
        · exact ih _ _ _ _ (ds_putA _ _ _) he
        · split at he
          · exact ih _ _ _ _ (ds_putA _ _ _) he
          · split at he
            · split at he
              · exact ih _ _ _ _ (ds_putA _ _ _) he
              · exact ih _ _ _ _ (ds_putA _ _ _) he
            · simp at he
        · split at he
          · exact ih _ _ _ _ (ds_putA _ _ _) he
          · exact ih _ _ _ _ (ds_putA _ _ _) he
          · split at he
            · exact ih _ _ _ _ (ds_putA _ _ _) he
            · simp at he
          · split at he
            · obtain rfl := Option.some.inj he; exact wipe_ds _ _
            · simp at he
          · simp at he
        · split at he
          · obtain rfl := Option.some.inj he; exact wipe_ds _ _
          · simp at he
        · simp at he
      · simp at he
theorem evC_ds {call : CallF} {nt : Option Nat} : ∀ (n : Nat) (c : Code) (f : Fr) (h : AH) (x : EX) (f' : Fr) (h' : AH), noDf c = true → evC P G call nt n c f h = some (x, f', h') → f'.ds = f.ds
  | 0, _, _, _, _, _, _, _, he => by simp [evC] at he
  | n + 1, c, f, h, x, f', h', hn, he => by
    have ih := fun c f h x f' h' hn he => evC_ds (call := call) (nt := nt) n c f h x f' h' hn he
    cases c with
    | skip => simp only [evC, Option.some.injEq, Prod.mk.injEq] at he; rw [he.2.1]
    | label _ => simp only [evC, Option.some.injEq, Prod.mk.injEq] at he; rw [he.2.1]
    | ret => simp only [evC, Option.some.injEq, Prod.mk.injEq] at he; rw [he.2.1]
    | exit _ => simp only [evC, Option.some.injEq, Prod.mk.injEq] at he; rw [he.2.1]
    | seq a b =>
      simp only [noDf, Bool.and_eq_true] at hn
      simp only [evC] at he
      split at he
      · rename_i f1 h1 he1
        exact (ih b f1 h1 x f' h' hn.2 he).trans (ih a f h _ f1 h1 hn.1 he1)
      · exact ih a f h x f' h' hn.1 he
    | cond y a b =>
      simp only [noDf, Bool.and_eq_true] at hn
      simp only [evC] at he
      split at he
      · split at he
        · exact ih a f h x f' h' hn.1 he
        · exact ih b f h x f' h' hn.2 he
      · simp at he
    | block id c =>
      simp only [noDf] at hn
      simp only [evC] at he
      split at he
      · rename_i f1 h1 he1
        have := ih c f h _ f1 h1 hn he1
        split at he
        · simp only [Option.some.injEq, Prod.mk.injEq] at he; rw [← he.2.1]; exact this
        · simp only [Option.some.injEq, Prod.mk.injEq] at he; rw [← he.2.1]; exact this
      · exact ih c f h x f' h' hn he
    | loop c =>
      simp only [noDf] at hn
      simp only [evC] at he
      split at he
      · rename_i f1 h1 he1
        exact (ih (.loop c) f1 h1 x f' h' hn he).trans (ih c f h _ f1 h1 hn he1)
      · exact ih c f h x f' h' hn he
    | region rid ops draw =>
      simp only [noDf, List.all_eq_true, Bool.not_eq_true'] at hn
      simp only [evC] at he
      split at he
      · obtain ⟨y, h1, h2⟩ := oxE_some he
        have := evD_ds _ _ _ _ _ _ h1
        cases y <;> (simp only [oxE, Option.some.injEq, Prod.mk.injEq] at h2; rw [← h2.2.1]; exact this)
      · obtain ⟨y, h1, h2⟩ := oxE_some he
        have := evOps_ds _ _ _ _ _ hn h1
        cases y <;> (simp only [oxE, Option.some.injEq, Prod.mk.injEq] at h2; rw [← h2.2.1]; exact this)
    | rangeFunc _ _ _ _ => simp [noDf] at hn
    | _ => simp [evC] at he

/-- What comes behind. -/
def KS (P : Program) (G : Glob) (md : FuncId → Md) (nt : Option Nat) (b : Code) (Q : EX → Fr → AH → Prop) : EX → Fr → AH → Prop := fun x f' h' => match x with
  | .normal => wpC P G md nt b f' h' Q
  | x => Q x f' h'
def KB (id : Nat) (Q : EX → Fr → AH → Prop) : EX → Fr → AH → Prop := fun x f' h' => match x with
  | .exit id' => if id' = id then Q .normal f' h' else Q (.exit id') f' h'
  | x => Q x f' h'
section
variable {nt : Option Nat}
theorem KS_normal (b : Code) (Q : EX → Fr → AH → Prop) (f : Fr) (h : AH) : KS P G md nt b Q .normal f h = wpC P G md nt b f h Q := rfl
theorem KS_ret (b : Code) (Q : EX → Fr → AH → Prop) (f : Fr) (h : AH) : KS P G md nt b Q .ret f h = Q .ret f h := rfl
theorem KS_exit (b : Code) (Q : EX → Fr → AH → Prop) (i : Nat) (f : Fr) (h : AH) : KS P G md nt b Q (.exit i) f h = Q (.exit i) f h := rfl
theorem KS_panic (b : Code) (Q : EX → Fr → AH → Prop) (v : PV) (f : Fr) (h : AH) : KS P G md nt b Q (.panic v) f h = Q (.panic v) f h := rfl
theorem KB_normal (id : Nat) (Q : EX → Fr → AH → Prop) (f : Fr) (h : AH) : KB id Q .normal f h = Q .normal f h := rfl
theorem KB_ret (id : Nat) (Q : EX → Fr → AH → Prop) (f : Fr) (h : AH) : KB id Q .ret f h = Q .ret f h := rfl
theorem KB_panic (id : Nat) (Q : EX → Fr → AH → Prop) (v : PV) (f : Fr) (h : AH) : KB id Q (.panic v) f h = Q (.panic v) f h := rfl
theorem KB_same (id : Nat) (Q : EX → Fr → AH → Prop) (f : Fr) (h : AH) : KB id Q (.exit id) f h = Q .normal f h := by simp [KB]
theorem KB_exit (id i : Nat) (Q : EX → Fr → AH → Prop) (f : Fr) (h : AH) (e : i ≠ id) : KB id Q (.exit i) f h = Q (.exit i) f h := by simp [KB, e]
theorem outX_normal (Q : EX → Fr → AH → Prop) (f : Fr) (h : AH) : outX Q (.normal f h) = Q .normal f h := rfl
theorem outX_panic (Q : EX → Fr → AH → Prop) (v : PV) (f : Fr) (h : AH) : outX Q (.panic v f h) = Q (.panic v) f h := rfl

theorem wpC_seq (a b : Code) (f : Fr) (h : AH) (Q : EX → Fr → AH → Prop) : wpC P G md nt (.seq a b) f h Q = wpC P G md nt a f h (KS P G md nt b Q) := rfl
theorem wpC_skip (f : Fr) (h : AH) (Q : EX → Fr → AH → Prop) : wpC P G md nt .skip f h Q = Q .normal f h := rfl
theorem wpC_label (l : Nat) (f : Fr) (h : AH) (Q : EX → Fr → AH → Prop) : wpC P G md nt (.label l) f h Q = Q .normal f h := rfl
theorem wpC_ret (f : Fr) (h : AH) (Q : EX → Fr → AH → Prop) : wpC P G md nt .ret f h Q = Q .ret f h := rfl
theorem wpC_exit (i : Nat) (f : Fr) (h : AH) (Q : EX → Fr → AH → Prop) : wpC P G md nt (.exit i) f h Q = Q (.exit i) f h := rfl
theorem wpC_block (i : Nat) (c : Code) (f : Fr) (h : AH) (Q : EX → Fr → AH → Prop) : wpC P G md nt (.block i c) f h Q = wpC P G md nt c f h (KB i Q) := rfl
theorem wpC_cond (x : Operand) (a b : Code) (f : Fr) (h : AH) (Q : EX → Fr → AH → Prop) : wpC P G md nt (.cond x a b) f h Q = (match opnd G f.at x with
    | .bool t => if t then wpC P G md nt a f h Q else wpC P G md nt b f h Q
    | _ => False) := rfl
theorem wpC_true {x : Operand} {a b : Code} {f : Fr} {h : AH} {Q : EX → Fr → AH → Prop} (e : opnd G f.at x = .bool true) : wpC P G md nt (.cond x a b) f h Q = wpC P G md nt a f h Q := by rw [wpC_cond, e]; rfl
theorem wpC_false {x : Operand} {a b : Code} {f : Fr} {h : AH} {Q : EX → Fr → AH → Prop} (e : opnd G f.at x = .bool false) : wpC P G md nt (.cond x a b) f h Q = wpC P G md nt b f h Q := by rw [wpC_cond, e]; rfl
theorem wpC_region (n i : Nat) (ops : Array Oper) (f : Fr) (h : AH) (Q : EX → Fr → AH → Prop) : wpC P G md (some n) (.region i ops false) f h Q = wpO P G md false ops h.next 0 ops.toList f (h.up ops.size) (outX Q) := rfl
theorem wpC_regionR (i : Nat) (ops : Array Oper) (f : Fr) (h : AH) (Q : EX → Fr → AH → Prop) : wpC P G md none (.region i ops false) f h Q = wpO P G md true ops h.next 0 ops.toList f (h.up ops.size) (outX Q) := rfl
theorem wpC_draw (i : Nat) (ops : Array Oper) (f : Fr) (h : AH) (Q : EX → Fr → AH → Prop) : wpC P G md nt (.region i ops true) f h Q = wpD P G md ops h.next 0 ops.toList f (h.up ops.size) [] (outX Q) := rfl
end
variable {rd : Bool}
theorem wpO_nil (ops : Array Oper) (base i : Nat) (f : Fr) (h : AH) (Q : OX → Prop) : wpO P G md rd ops base i [] f h Q = Q (.normal f h) := rfl
theorem wpD_nil (ops : Array Oper) (base i : Nat) (f : Fr) (h : AH) (lg : List (Nat × Nat)) (Q : OX → Prop) : wpD P G md ops base i [] f h lg Q = Q (.normal f h) := rfl

/-- One operation's outcome, laid ahead of the rest. -/
def goO (P : Program) (G : Glob) (md : FuncId → Md) (rd : Bool) (ops : Array Oper) (base i : Nat) (rest : List Oper) (d : Option Tmp) (f : Fr) (h : AH) (Q : OX → Prop) : Option OR → Prop
  | some (.q v) => wpO P G md rd ops base (i + 1) rest (putA f d v) h Q
  | some (.w v id ob) => wpO P G md rd ops base (i + 1) rest (putA f d v) (h.set id ob) Q
  | some (.call t args) => ∃ r, CR P G md t args h (base + i) r ∧ match r with
    | .val v => wpO P G md rd ops base (i + 1) rest (putA f d v) h Q
    | .new v ob => wpO P G md rd ops base (i + 1) rest (putA f d v) (h.set (base + i) ob) Q
    | .sh v h' => wpO P G md rd ops base (i + 1) rest (putA f d v) h' Q
    | .pan v h' => Q (.panic v f h')
  | some (.pan v) => Q (.panic v f h)
  | some (.dfr k args) => rd = false ∧ wpO P G md rd ops base (i + 1) rest (putA ⟨f.t, .call k args :: f.ds⟩ d .undef) h Q
  | none => False
def goD (P : Program) (G : Glob) (md : FuncId → Md) (ops : Array Oper) (base i : Nat) (rest : List Oper) (d : Option Tmp) (f : Fr) (h : AH) (lg : List (Nat × Nat)) (Q : OX → Prop) : Option OR → Prop
  | some (.q v) => wpD P G md ops base (i + 1) rest (putA f d v) h lg Q
  | some (.w v id ob) =>
    if id = base + i then wpD P G md ops base (i + 1) rest (putA f d v) (h.set id ob) lg Q
    else fore ops i = true ∧ wpD P G md ops base (i + 1) rest (putA f d v) (h.set id ob) (if lone ops i then lg else (i, id) :: lg) Q
  | some (.call t args) => ∃ r, CR P G md t args h (base + i) r ∧ match r with
    | .val v => wpD P G md ops base (i + 1) rest (putA f d v) h lg Q
    | .new v ob => wpD P G md ops base (i + 1) rest (putA f d v) (h.set (base + i) ob) lg Q
    | .sh v h' => (fore ops i && lone ops i) = true ∧ wpD P G md ops base (i + 1) rest (putA f d v) h' lg Q
    | .pan v h' => (fore ops i && lone ops i && aft ops i) = true ∧ Q (.panic v (wipe ops.toList f) h')
  | some (.pan v) => (fore ops i && lone ops i && aft ops i) = true ∧ Q (.panic v (wipe ops.toList f) h)
  | _ => False
/-- A guarded operation, by its guard. -/
def gdO (P : Program) (G : Glob) (md : FuncId → Md) (rd : Bool) (ops : Array Oper) (base i : Nat) (o : Oper) (rest : List Oper) (f : Fr) (h : AH) (Q : OX → Prop) : Option Bool → Prop
  | some true => goO P G md rd ops base i rest o.dst f h Q (aop P (opnd G f.at) h (base + i) o)
  | some false => wpO P G md rd ops base (i + 1) rest (putA f o.dst (.tup [])) h Q
  | none => False
def gdD (P : Program) (G : Glob) (md : FuncId → Md) (ops : Array Oper) (base i : Nat) (o : Oper) (rest : List Oper) (f : Fr) (h : AH) (lg : List (Nat × Nat)) (Q : OX → Prop) : Option Bool → Prop
  | some true => chk ops lg i (foot (opnd G f.at) o) = true ∧ goD P G md ops base i rest o.dst f h lg Q (aop P (opnd G f.at) h (base + i) o)
  | some false => wpD P G md ops base (i + 1) rest (putA f o.dst (.tup [])) h lg Q
  | none => False
theorem wpO_go (ops : Array Oper) (base i : Nat) (o : Oper) (rest : List Oper) (f : Fr) (h : AH) (Q : OX → Prop) :
    wpO P G md rd ops base i (o :: rest) f h Q = gdO P G md rd ops base i o rest f h Q (wantA ops f.at o) := by
  rw [wpO]
  cases wantA ops f.at o with
  | none => rfl
  | some b =>
    cases b with
    | false => rfl
    | true =>
      simp only [gdO]
      cases aop P (opnd G f.at) h (base + i) o with
      | none => rfl
      | some x => cases x <;> rfl
theorem wpD_go (ops : Array Oper) (base i : Nat) (o : Oper) (rest : List Oper) (f : Fr) (h : AH) (lg : List (Nat × Nat)) (Q : OX → Prop) :
    wpD P G md ops base i (o :: rest) f h lg Q = gdD P G md ops base i o rest f h lg Q (wantA ops f.at o) := by
  rw [wpD]
  cases wantA ops f.at o with
  | none => rfl
  | some b =>
    cases b with
    | false => rfl
    | true =>
      simp only [gdD]
      cases aop P (opnd G f.at) h (base + i) o with
      | none => rfl
      | some x => cases x <;> rfl
theorem gdO_true (ops : Array Oper) (base i : Nat) (o : Oper) (rest : List Oper) (f : Fr) (h : AH) (Q : OX → Prop) : gdO P G md rd ops base i o rest f h Q (some true) = goO P G md rd ops base i rest o.dst f h Q (aop P (opnd G f.at) h (base + i) o) := rfl
theorem gdO_false (ops : Array Oper) (base i : Nat) (o : Oper) (rest : List Oper) (f : Fr) (h : AH) (Q : OX → Prop) : gdO P G md rd ops base i o rest f h Q (some false) = wpO P G md rd ops base (i + 1) rest (putA f o.dst (.tup [])) h Q := rfl
theorem gdD_false (ops : Array Oper) (base i : Nat) (o : Oper) (rest : List Oper) (f : Fr) (h : AH) (lg : List (Nat × Nat)) (Q : OX → Prop) : gdD P G md ops base i o rest f h lg Q (some false) = wpD P G md ops base (i + 1) rest (putA f o.dst (.tup [])) h lg Q := rfl
theorem gdD_true (ops : Array Oper) (base i : Nat) (o : Oper) (rest : List Oper) (f : Fr) (h : AH) (Q : OX → Prop) : gdD P G md ops base i o rest f h [] Q (some true) = goD P G md ops base i rest o.dst f h [] Q (aop P (opnd G f.at) h (base + i) o) := by
  simp only [gdD, chk, List.all_nil, true_and]
theorem gdD_log (ops : Array Oper) (base i : Nat) (o : Oper) (rest : List Oper) (f : Fr) (h : AH) (lg : List (Nat × Nat)) (Q : OX → Prop) : gdD P G md ops base i o rest f h lg Q (some true) = (chk ops lg i (foot (opnd G f.at) o) = true ∧ goD P G md ops base i rest o.dst f h lg Q (aop P (opnd G f.at) h (base + i) o)) := rfl
theorem goO_q (ops : Array Oper) (base i : Nat) (rest : List Oper) (d : Option Tmp) (f : Fr) (h : AH) (Q : OX → Prop) (v : PV) : goO P G md rd ops base i rest d f h Q (some (.q v)) = wpO P G md rd ops base (i + 1) rest (putA f d v) h Q := rfl
theorem goO_w (ops : Array Oper) (base i : Nat) (rest : List Oper) (d : Option Tmp) (f : Fr) (h : AH) (Q : OX → Prop) (v : PV) (id : Nat) (ob : AO) : goO P G md rd ops base i rest d f h Q (some (.w v id ob)) = wpO P G md rd ops base (i + 1) rest (putA f d v) (h.set id ob) Q := rfl
theorem goO_pan (ops : Array Oper) (base i : Nat) (rest : List Oper) (d : Option Tmp) (f : Fr) (h : AH) (Q : OX → Prop) (v : PV) : goO P G md rd ops base i rest d f h Q (some (.pan v)) = Q (.panic v f h) := rfl
theorem goO_call (ops : Array Oper) (base i : Nat) (rest : List Oper) (d : Option Tmp) (f : Fr) (h : AH) (Q : OX → Prop) (t : Tgt) (args : List PV) : goO P G md rd ops base i rest d f h Q (some (.call t args)) =
    ∃ r, CR P G md t args h (base + i) r ∧ match r with
    | .val v => wpO P G md rd ops base (i + 1) rest (putA f d v) h Q
    | .new v ob => wpO P G md rd ops base (i + 1) rest (putA f d v) (h.set (base + i) ob) Q
    | .sh v h' => wpO P G md rd ops base (i + 1) rest (putA f d v) h' Q
    | .pan v h' => Q (.panic v f h') := rfl
theorem goD_q (ops : Array Oper) (base i : Nat) (rest : List Oper) (d : Option Tmp) (f : Fr) (h : AH) (lg : List (Nat × Nat)) (Q : OX → Prop) (v : PV) : goD P G md ops base i rest d f h lg Q (some (.q v)) = wpD P G md ops base (i + 1) rest (putA f d v) h lg Q := rfl
theorem goD_w (ops : Array Oper) (base i : Nat) (rest : List Oper) (d : Option Tmp) (f : Fr) (h : AH) (lg : List (Nat × Nat)) (Q : OX → Prop) (v : PV) (id : Nat) (ob : AO) : goD P G md ops base i rest d f h lg Q (some (.w v id ob)) =
    if id = base + i then wpD P G md ops base (i + 1) rest (putA f d v) (h.set id ob) lg Q
    else fore ops i = true ∧ wpD P G md ops base (i + 1) rest (putA f d v) (h.set id ob) (if lone ops i then lg else (i, id) :: lg) Q := rfl
theorem goD_new (ops : Array Oper) (base i : Nat) (rest : List Oper) (d : Option Tmp) (f : Fr) (h : AH) (lg : List (Nat × Nat)) (Q : OX → Prop) (v : PV) (ob : AO) : goD P G md ops base i rest d f h lg Q (some (.w v (base + i) ob)) = wpD P G md ops base (i + 1) rest (putA f d v) (h.set (base + i) ob) lg Q := by
  rw [goD_w, if_pos rfl]
/-- A call that is known. -/
theorem goO_known {ops : Array Oper} {base i : Nat} {rest : List Oper} {d : Option Tmp} {f : Fr} {h : AH} {Q : OX → Prop} {t : Tgt} {args : List PV} {v : PV} (hk : ∀ h fr, CR P G md t args h fr (.val v)) :
    goO P G md rd ops base i rest d f h Q (some (.call t args)) = wpO P G md rd ops base (i + 1) rest (putA f d v) h Q := by
  rw [goO_call]
  refine propext ⟨fun ⟨r, a, b⟩ => ?_, fun a => ⟨.val v, hk _ _, a⟩⟩
  obtain rfl := a.det (hk _ _)
  exact b
theorem goD_known {ops : Array Oper} {base i : Nat} {rest : List Oper} {d : Option Tmp} {f : Fr} {h : AH} {lg : List (Nat × Nat)} {Q : OX → Prop} {t : Tgt} {args : List PV} {v : PV} (hk : ∀ h fr, CR P G md t args h fr (.val v)) :
    goD P G md ops base i rest d f h lg Q (some (.call t args)) = wpD P G md ops base (i + 1) rest (putA f d v) h lg Q := by
  refine propext ⟨fun ⟨r, a, b⟩ => ?_, fun a => ⟨.val v, hk _ _, a⟩⟩
  obtain rfl := a.det (hk _ _)
  exact b
theorem goO_own {ops : Array Oper} {base i : Nat} {rest : List Oper} {d : Option Tmp} {f : Fr} {h : AH} {Q : OX → Prop} {t : Tgt} {args : List PV} {v : Nat → PV} {ob : AO} (hk : ∀ h fr, CR P G md t args h fr (.new (v fr) ob)) :
    goO P G md rd ops base i rest d f h Q (some (.call t args)) = wpO P G md rd ops base (i + 1) rest (putA f d (v (base + i))) (h.set (base + i) ob) Q := by
  rw [goO_call]
  refine propext ⟨fun ⟨r, a, b⟩ => ?_, fun a => ⟨_, hk _ _, a⟩⟩
  obtain rfl := a.det (hk _ _)
  exact b
theorem goD_own {ops : Array Oper} {base i : Nat} {rest : List Oper} {d : Option Tmp} {f : Fr} {h : AH} {lg : List (Nat × Nat)} {Q : OX → Prop} {t : Tgt} {args : List PV} {v : Nat → PV} {ob : AO} (hk : ∀ h fr, CR P G md t args h fr (.new (v fr) ob)) :
    goD P G md ops base i rest d f h lg Q (some (.call t args)) = wpD P G md ops base (i + 1) rest (putA f d (v (base + i))) (h.set (base + i) ob) lg Q := by
  refine propext ⟨fun ⟨r, a, b⟩ => ?_, fun a => ⟨_, hk _ _, a⟩⟩
  obtain rfl := a.det (hk _ _)
  exact b
theorem goO_shared {ops : Array Oper} {base i : Nat} {rest : List Oper} {d : Option Tmp} {f : Fr} {h : AH} {Q : OX → Prop} {t : Tgt} {args : List PV} {v : PV} {h' : AH} (hk : ∀ fr, CR P G md t args h fr (.sh v h')) :
    goO P G md rd ops base i rest d f h Q (some (.call t args)) = wpO P G md rd ops base (i + 1) rest (putA f d v) h' Q := by
  rw [goO_call]
  refine propext ⟨fun ⟨r, a, b⟩ => ?_, fun a => ⟨_, hk _, a⟩⟩
  obtain rfl := a.det (hk _)
  exact b
theorem goD_shared {ops : Array Oper} {base i : Nat} {rest : List Oper} {d : Option Tmp} {f : Fr} {h : AH} {lg : List (Nat × Nat)} {Q : OX → Prop} {t : Tgt} {args : List PV} {v : PV} {h' : AH} (hk : ∀ fr, CR P G md t args h fr (.sh v h')) :
    goD P G md ops base i rest d f h lg Q (some (.call t args)) = ((fore ops i && lone ops i) = true ∧ wpD P G md ops base (i + 1) rest (putA f d v) h' lg Q) := by
  refine propext ⟨fun ⟨r, a, b⟩ => ?_, fun a => ⟨_, hk _, a⟩⟩
  obtain rfl := a.det (hk _)
  exact b

/-! ### Guards and places -/
theorem wantA_none {ops : Array Oper} {F : Nat → PV} {d : Option Tmp} {op : Op} {t : TypeId} {p : String} {af : Array Edge} : wantA ops F ⟨d, op, t, p, af, none⟩ = some true := rfl
def wantY (want : Bool) : Option (Option Bool) → Option Bool
  | some y => some (y == some want)
  | none => none
theorem wantA_some {ops : Array Oper} {F : Nat → PV} {d : Option Tmp} {op : Op} {t : TypeId} {p : String} {af : Array Edge} {j : Nat} {want : Bool} : wantA ops F ⟨d, op, t, p, af, some (j, want)⟩ = wantY want (yieldA ops F j) := by
  simp only [wantA, wantY]
  cases yieldA ops F j <;> rfl
/-- A guard's value. -/
def yieldV (v : PV) : Option (Option Bool) :=
  match v with
  | .bool b => some (some b)
  | .tup [] => some none
  | _ => none
def yieldD (F : Nat → PV) (x : Option Tmp) : Option (Option Bool) :=
  match x with
  | none => some none
  | some d => yieldV (F d)
theorem yieldA_eq (ops : Array Oper) (F : Nat → PV) (j : Nat) : yieldA ops F j = yieldD F ((ops[j]?).bind (·.dst)) := by
  unfold yieldA yieldD yieldV
  cases (ops[j]?).bind (·.dst) <;> rfl
theorem wantY_bool (want b : Bool) : wantY want (yieldV (.bool b)) = some (b == want) := by cases want <;> cases b <;> rfl
theorem wantY_not (want : Bool) : wantY want (yieldV (.tup [])) = some false := rfl
theorem yieldD_some (F : Nat → PV) (d : Tmp) : yieldD F (some d) = yieldV (F d) := rfl

theorem putA_some (f : Fr) (d : Tmp) (v : PV) : putA f (some d) v = f.set d v := rfl
theorem putA_none (f : Fr) (v : PV) : putA f none v = f := rfl

/-- A body's end: its results are these. -/
def EndS (P : Program) (rs : List ResultVar) (Q : PV → AH → Prop) : EX → Fr → AH → Prop
  | .normal, f, h | .ret, f, h => RS Q h (resA P f h rs)
  | _, _, _ => False
where RS (Q : PV → AH → Prop) (h : AH) : Option (List PV) → Prop
  | some l => Q (oneOf l) h
  | none => False
theorem EndS_normal (rs : List ResultVar) (Q : PV → AH → Prop) (f : Fr) (h : AH) : EndS P rs Q .normal f h = EndS.RS Q h (resA P f h rs) := propext Iff.rfl
theorem EndS_ret (rs : List ResultVar) (Q : PV → AH → Prop) (f : Fr) (h : AH) : EndS P rs Q .ret f h = EndS.RS Q h (resA P f h rs) := propext Iff.rfl
theorem RS_some (Q : PV → AH → Prop) (h : AH) (l : List PV) : EndS.RS Q h (some l) = Q (oneOf l) h := propext Iff.rfl
/-- Its results are this one value. -/
def EndV (P : Program) (rs : List ResultVar) (v : PV) : EX → Fr → AH → Prop := EndS P rs fun u _ => u = v
theorem EndV_normal (rs : List ResultVar) (v : PV) (f : Fr) (h : AH) : EndV P rs v .normal f h = EndS.RS (fun u _ => u = v) h (resA P f h rs) := propext Iff.rfl
theorem EndV_ret (rs : List ResultVar) (v : PV) (f : Fr) (h : AH) : EndV P rs v .ret f h = EndS.RS (fun u _ => u = v) h (resA P f h rs) := propext Iff.rfl
theorem EndS_some {rs : List ResultVar} {Q : PV → AH → Prop} {x : EX} {f : Fr} {h : AH} (q : EndS P rs Q x f h) : modeX x = some .ret ∧ ∃ l, resA P f h rs = some l ∧ Q (oneOf l) h := by
  cases x with
  | exit _ => exact q.elim
  | panic _ => exact q.elim
  | normal =>
    rw [EndS_normal] at q
    cases hq : resA P f h rs with
    | none => rw [hq] at q; exact q.elim
    | some l => rw [hq] at q; exact ⟨rfl, l, rfl, q⟩
  | ret =>
    rw [EndS_ret] at q
    cases hq : resA P f h rs with
    | none => rw [hq] at q; exact q.elim
    | some l => rw [hq] at q; exact ⟨rfl, l, rfl, q⟩
def resT (t : Tmp) (f : Fr) : Option (List PV) → Option (List PV)
  | some l => some (f.at t :: l)
  | none => none
theorem resA_tmp (f : Fr) (h : AH) (t : Tmp) (r : List ResultVar) : resA P f h (.tmp t :: r) = resT t f (resA P f h r) := by
  rw [resA]
  cases resA P f h r <;> rfl
theorem resA_nil (f : Fr) (h : AH) : resA P f h [] = some [] := rfl
theorem resT_some (t : Tmp) (f : Fr) (l : List PV) : resT t f (some l) = some (f.at t :: l) := rfl
theorem oneOf_one (v : PV) : oneOf [v] = v := rfl
theorem oneOf_two (a b : PV) : oneOf [a, b] = .tup [a, b] := rfl
theorem oneOf_none : oneOf [] = .tup [] := rfl
theorem tup_two (a b a' b' : PV) : (PV.tup [a, b] = .tup [a', b']) = (a = a' ∧ b = b') := by simp
theorem int_same (k : IntKind) (a b : Int) : (PV.int k a = .int k b) = (a = b) := by simp
theorem bool_same (a b : Bool) : (PV.bool a = .bool b) = (a = b) := by simp
theorem str_same (a b : List UInt8) : (PV.str a = .str b) = (a = b) := by simp
/-- A body that puts no call off, to its end. -/
theorem ends_of {fn : Func} {c : Code} {rs : List ResultVar} {args : List PV} {h : AH} {Q : PV → AH → Prop} {R : RA → Prop} (hd : noDf c = true) (hr : fn.results.toList = rs) (hq : ∀ v h', Q v h' → R (.val v h'))
    (he : wpC P G md (some fn.ntmps) c (layArgs 0 args Fr.none) h (EndS P rs Q)) : Ev P G md (some fn.ntmps) c (layArgs 0 args Fr.none) h (Ends P G md fn R) := by
  obtain ⟨n, x, f', h', he1, q⟩ := wpC_ev _ _ _ _ he
  obtain ⟨hx, l, h1, h2⟩ := EndS_some q
  refine ⟨n, x, f', h', he1, .ret, n, .val (oneOf l) h', hx, ?_, hq _ _ h2⟩
  have hds : f'.ds = [] := by rw [evC_ds _ _ _ _ _ _ _ hd he1, layArgs_ds]; rfl
  rw [hds]
  exact runD_nil (by rw [hr]; exact h1)
/-- A function called on a heap of its own, whose answer names nothing of that heap. -/
theorem CR.plain {k : FuncId} {fn : Func} {c : Code} {rs : List ResultVar} {args : List PV} {v : PV} (hf : P.funcs[k]? = some fn) (hb : fn.body = some c) (hn : (fn.name == "runtime.NumGoroutine") = false) (hr : fn.results.toList = rs) (hm : md k = .pure) (hd : noDf c = true) (hcl : PV.cleans args = true) (hv : v.clean = true)
    (he : wpC P G md (some fn.ntmps) c (layArgs 0 args Fr.none) .empty (EndV P rs v)) (h : AH) (fr : Nat) : CR P G md (.fn k) args h fr (.val v) :=
  CR.pure hf hb hn hm hcl (ends_of hd hr (R := fun r => ∃ v' h h', r = .val v' h ∧ frz 100 v' h = some (v, h')) (fun u h' e => ⟨u, h', h', rfl, by rw [e]; simp [frz, hv]⟩) he) h fr
/-- A call on a heap of its own, its answer made read-only. -/
theorem CR.frozen {k : FuncId} {fn : Func} {c : Code} {rs : List ResultVar} {args : List PV} {v : PV} (hf : P.funcs[k]? = some fn) (hb : fn.body = some c) (hn : (fn.name == "runtime.NumGoroutine") = false) (hr : fn.results.toList = rs) (hm : md k = .pure) (hd : noDf c = true) (hcl : PV.cleans args = true)
    (he : wpC P G md (some fn.ntmps) c (layArgs 0 args Fr.none) .empty (EndS P rs fun x h' => ∃ h'', frz 100 x h' = some (v, h''))) (h : AH) (fr : Nat) : CR P G md (.fn k) args h fr (.val v) :=
  CR.pure hf hb hn hm hcl (ends_of hd hr (R := fun r => ∃ v' h h', r = .val v' h ∧ frz 100 v' h = some (v, h')) (fun u h' ⟨h'', e⟩ => ⟨u, h', h'', rfl, e⟩) he) h fr
/-- A call on the caller's heap. -/
theorem CR.sh {k : FuncId} {fn : Func} {c : Code} {rs : List ResultVar} {args : List PV} {Q : PV → AH → Prop} {h : AH} (hf : P.funcs[k]? = some fn) (hb : fn.body = some c) (hn : (fn.name == "runtime.NumGoroutine") = false) (hr : fn.results.toList = rs) (hm : md k = .shared) (hd : noDf c = true)
    (he : wpC P G md (some fn.ntmps) c (layArgs 0 args Fr.none) h (EndS P rs Q)) : ∃ v h', (∀ fr, CR P G md (.fn k) args h fr (.sh v h')) ∧ Q v h' := by
  obtain ⟨n, x, f', h', he1, q⟩ := wpC_ev _ _ _ _ he
  obtain ⟨hx, l, h1, h2⟩ := EndS_some q
  refine ⟨oneOf l, h', fun fr => CR.shared hf hb hn hm ⟨n, x, f', h', he1, .ret, n, _, hx, ?_, rfl⟩ fr, h2⟩
  have hds : f'.ds = [] := by rw [evC_ds _ _ _ _ _ _ _ hd he1, layArgs_ds]; rfl
  rw [hds]
  exact runD_nil (by rw [hr]; exact h1)

/-! ### Operations, one by one -/
section
variable {ρ : Operand → PV} {h : AH} {fr : Nat} {d : Option Tmp} {ty : TypeId} {ps : String} {af : Array Edge} {gu : Option (Nat × Bool)}
theorem aop_move (x : Operand) : aop P ρ h fr ⟨d, .move x, ty, ps, af, gu⟩ = some (.q (ρ x)) := rfl
theorem aop_assign (x : Operand) : aop P ρ h fr ⟨d, .assign x, ty, ps, af, gu⟩ = some (.q (ρ x)) := rfl
def pickO (c a b : PV) : Option OR := match c with
  | .bool c => some (.q (if c then a else b))
  | _ => none
theorem aop_pick (c a b : Operand) : aop P ρ h fr ⟨d, .pick c a b, ty, ps, af, gu⟩ = pickO (ρ c) (ρ a) (ρ b) := rfl
theorem pickO_true (a b : PV) : pickO (.bool true) a b = some (.q a) := rfl
theorem pickO_false (a b : PV) : pickO (.bool false) a b = some (.q b) := rfl
theorem pickO_bool (c a b : Bool) : pickO (.bool c) (.bool a) (.bool b) = some (.q (.bool (if c then a else b))) := by cases c <;> rfl
def boxO (fr : Nat) (t : TypeId) (x : PV) : Option OR := if x.goes then some (.w (.ptr fr x.cells.length 0) fr (.cells t 0 false x.cells)) else none
theorem aop_box (t : TypeId) (x : Operand) : aop P ρ h fr ⟨d, .box t x, ty, ps, af, gu⟩ = boxO fr t (ρ x) := rfl
theorem boxO_int (t : TypeId) (k : IntKind) (n : Int) : boxO fr t (.int k n) = some (.w (.ptr fr 1 0) fr (.cells t 0 false [.int k n])) := rfl
theorem boxO_str (t : TypeId) (l : List UInt8) : boxO fr t (.str l) = some (.w (.ptr fr 1 0) fr (.cells t 0 false [.str l])) := rfl
theorem boxO_ptr (t : TypeId) (id tot off : Nat) : boxO fr t (.ptr id tot off) = some (.w (.ptr fr 1 0) fr (.cells t 0 false [.ptr id tot off])) := rfl
theorem boxO_agg (t : TypeId) (c : List PV) : boxO fr t (.agg c) = some (.w (.ptr fr c.length 0) fr (.cells t 0 false c)) := rfl
theorem boxO_bool (t : TypeId) (b : Bool) : boxO fr t (.bool b) = some (.w (.ptr fr 1 0) fr (.cells t 0 false [.bool b])) := rfl
def loadO (P : Program) (t : TypeId) : Option (List PV) → Option OR
  | some c => (readC P t c).map OR.q
  | none => none
theorem aop_load (t : TypeId) (x : Operand) : aop P ρ h fr ⟨d, .load t x, ty, ps, af, gu⟩ = loadO P t (behind h (ρ x)) := by
  unfold loadO
  simp only [aop]
  cases behind h (ρ x) <;> rfl
theorem loadO_one {t : TypeId} {v : PV} {r : List PV} {n : Nat} (ha : tyAgg P t = some false) (hn : tySz P t = some n) : loadO P t (some (v :: r)) = some (.q v) := by
  simp [loadO, readC, ha, hn]
def resL : Option OR → Option (List PV) → Option (List PV)
  | some (.q v), some l => some (v :: l)
  | _, _ => none
theorem resA_cell (f : Fr) (h : AH) (p : Tmp) (t : TypeId) (r : List ResultVar) : resA P f h (.cell p t :: r) = resL (loadO P t (behind h (f.at p))) (resA P f h r) := by
  rw [resA]
  unfold loadO
  cases behind h (f.at p) with
  | none => rfl
  | some c =>
    simp only
    cases readC P t c with
    | none => rfl
    | some v =>
      simp only [Option.map_some]
      cases resA P f h r <;> rfl
theorem resL_some (v : PV) (l : List PV) : resL (some (.q v)) (some l) = some (v :: l) := rfl
def behindO (tot off : Nat) : Option AO → Option (List PV)
  | some (.cells _ _ _ c) => if c.length = tot then some (c.drop off) else none
  | _ => none
theorem behind_ptr (id tot off : Nat) : behind h (.ptr id tot off) = behindO tot off (h.get id) := by
  simp only [behindO, behind]
  cases h.get id with
  | none => rfl
  | some o => cases o <;> rfl
theorem behind_rop (c : List PV) : behind h (.rop c) = some c := rfl
theorem behindO_one (E : TypeId) (sz : Nat) (fz : Bool) (v : PV) : behindO 1 0 (some (.cells E sz fz [v])) = some [v] := rfl
theorem behindO_ok {E : TypeId} {sz : Nat} {fz : Bool} {c : List PV} {tot off : Nat} (e : c.length = tot) : behindO tot off (some (.cells E sz fz c)) = some (c.drop off) := by simp [behindO, e]
def storeO (h : AH) (a x : PV) (n : Option Nat) : Option OR :=
  match a, n with
  | .ptr id tot off, some n => match h.get id with
    | some (.cells E sz fz c) =>
      if fz = false ∧ c.length = tot ∧ x.goes = true ∧ x.cells.length = n ∧ off + n ≤ tot then
        some (.w .undef id (.cells E sz false (splice c off x.cells))) else none
    | _ => none
  | _, _ => none
theorem aop_store (t : TypeId) (a x : Operand) : aop P ρ h fr ⟨d, .store t a x, ty, ps, af, gu⟩ = storeO h (ρ a) (ρ x) (tySz P t) := rfl
/-- A store of one cell. -/
theorem storeO_one {id tot off sz : Nat} {E : TypeId} {c : List PV} {x : PV} (hg : h.get id = some (.cells E sz false c)) (hl : c.length = tot) (ho : off < tot) (hx : x.cells = [x]) (hgo : x.goes = true) :
    storeO h (.ptr id tot off) x (some 1) = some (.w .undef id (.cells E sz false (c.set off x))) := by
  have e : splice c off [x] = c.set off x := by
    simp only [splice, List.length_singleton]
    rw [List.set_eq_take_append_cons_drop, if_pos (by omega)]
    simp
  simp only [storeO, hg, hl, hx, hgo, List.length_singleton, true_and, e]
  rw [if_pos (by omega)]
theorem aop_indexAddr (t : TypeId) (x i : Operand) : aop P ρ h fr ⟨d, .indexAddr t x i, ty, ps, af, gu⟩ = if liveB h (ρ x) then (idxAddr P t (ρ x) (ρ i)).map OR.q else none := rfl
def idxO (P : Program) (t : TypeId) (x i : PV) : Option OR := (idxV P t x i).map OR.q
theorem aop_index (t : TypeId) (x i : Operand) : aop P ρ h fr ⟨d, .index t x i, ty, ps, af, gu⟩ = idxO P t (ρ x) (ρ i) := rfl
/-- A text's byte. -/
theorem idxO_str {t : TypeId} {l : List UInt8} {k : IntKind} {i : Int} (hu : P.underlying t = some .string) (h0 : 0 ≤ i) (h1 : i < l.length) : idxO P t (.str l) (.int k i) = some (.q (.int .u8 (l.getD i.toNat 0).toNat)) := by
  have : i.toNat < l.length := by omega
  simp [idxO, idxV, hu, h0, List.getElem?_eq_getElem this, List.getD_eq_getElem?_getD]
def extractO (i : Nat) : PV → Option OR
  | .tup vs => (vs[i]?).map OR.q
  | _ => none
theorem aop_extract (x : Operand) (i : Nat) : aop P ρ h fr ⟨d, .extract x i, ty, ps, af, gu⟩ = extractO i (ρ x) := by
  simp only [aop, extractO]
  cases ρ x <;> rfl
theorem extractO_0 (a : PV) (r : List PV) : extractO 0 (.tup (a :: r)) = some (.q a) := rfl
theorem extractO_1 (a b : PV) (r : List PV) : extractO 1 (.tup (a :: b :: r)) = some (.q b) := rfl
theorem extractO_2 (a b c : PV) (r : List PV) : extractO 2 (.tup (a :: b :: c :: r)) = some (.q c) := rfl
def binO (P : Program) (h : AH) (op : BinOp) (t : TypeId) (x y : PV) : Option OR := if liveB h x && liveB h y then (binV P op t x y).map OR.q else none
theorem aop_binOp (op : BinOp) (t u : TypeId) (x y : Operand) : aop P ρ h fr ⟨d, .binOp op t x y u, ty, ps, af, gu⟩ = binO P h op t (ρ x) (ρ y) := rfl
section
variable {t : TypeId} {k : IntKind} {a b : Int} {x y : List UInt8}
theorem bin_add : binO P h .add t (.int k a) (.int k b) = some (.q (.int k (k.wrap (a + b)))) := by simp [binO, liveB, binV, intOp]
theorem bin_sub : binO P h .sub t (.int k a) (.int k b) = some (.q (.int k (k.wrap (a - b)))) := by simp [binO, liveB, binV, intOp]
theorem bin_mul : binO P h .mul t (.int k a) (.int k b) = some (.q (.int k (k.wrap (a * b)))) := by simp [binO, liveB, binV, intOp]
theorem bin_quo (e : b ≠ 0) : binO P h .quo t (.int k a) (.int k b) = some (.q (.int k (k.wrap (a.tdiv b)))) := by simp [binO, liveB, binV, intOp, e]
theorem bin_rem (e : b ≠ 0) : binO P h .rem t (.int k a) (.int k b) = some (.q (.int k (a.tmod b))) := by simp [binO, liveB, binV, intOp, e]
theorem bin_eql : binO P h .eql t (.int k a) (.int k b) = some (.q (.bool (decide (a = b)))) := by simp [binO, liveB, binV, intOp]
theorem bin_neq : binO P h .neq t (.int k a) (.int k b) = some (.q (.bool (!decide (a = b)))) := by simp [binO, liveB, binV, intOp]
theorem bin_lss : binO P h .lss t (.int k a) (.int k b) = some (.q (.bool (decide (a < b)))) := by simp [binO, liveB, binV, intOp]
theorem bin_leq : binO P h .leq t (.int k a) (.int k b) = some (.q (.bool (decide (a ≤ b)))) := by simp [binO, liveB, binV, intOp]
theorem bin_gtr : binO P h .gtr t (.int k a) (.int k b) = some (.q (.bool (decide (b < a)))) := by simp [binO, liveB, binV, intOp]
theorem bin_geq : binO P h .geq t (.int k a) (.int k b) = some (.q (.bool (decide (b ≤ a)))) := by simp [binO, liveB, binV, intOp]
theorem bin_bneq {a b : Bool} (hu : P.underlying t = some .bool) : binO P h .neq t (.bool a) (.bool b) = some (.q (.bool (!(a == b)))) := by simp [binO, liveB, binV, sameV, hu]
theorem bin_beql {a b : Bool} (hu : P.underlying t = some .bool) : binO P h .eql t (.bool a) (.bool b) = some (.q (.bool (a == b))) := by simp [binO, liveB, binV, sameV, hu]
theorem bin_sadd (e : x.length + y.length ≤ 9223372036854775807) : binO P h .add t (.str x) (.str y) = some (.q (.str (x ++ y))) := by simp [binO, liveB, binV, strOp, e]
theorem bin_seql : binO P h .eql t (.str x) (.str y) = some (.q (.bool (decide (x = y)))) := by simp [binO, liveB, binV, strOp]
theorem bin_sneq : binO P h .neq t (.str x) (.str y) = some (.q (.bool (!decide (x = y)))) := by simp [binO, liveB, binV, strOp]
end
def unO (op : UnOp) (x : PV) : Option OR := (unV op x).map OR.q
theorem aop_unOp (op : UnOp) (t : TypeId) (x : Operand) : aop P ρ h fr ⟨d, .unOp op t x, ty, ps, af, gu⟩ = unO op (ρ x) := rfl
theorem unO_not (b : Bool) : unO .not (.bool b) = some (.q (.bool (!b))) := rfl
theorem aop_convert (s t : TypeId) (x : Operand) : aop P ρ h fr ⟨d, .convert s t x, ty, ps, af, gu⟩ = convV P h fr s t (ρ x) := rfl
theorem conv_int {s t : TypeId} {su : TypeDesc} {k k' : IntKind} {n : Int} (hs : P.underlying s = some su) (ht : P.underlying t = some (.int k)) : convV P h fr s t (.int k' n) = some (.q (.int k (k.wrap n))) := by
  simp [convV, hs, ht]
theorem conv_char {s t : TypeId} {k k' : IntKind} {n : Int} (hs : P.underlying s = some (.int k)) (ht : P.underlying t = some .string) : convV P h fr s t (.int k' n) = some (.q (.str (Utf8.encode n).data.toList)) := by
  simp [convV, hs, ht]
def lenO (P : Program) (args : List PV) (ts : List TypeId) : Option OR := match args, ts with
  | [x], [t] => (lenV P t x).map OR.q
  | _, _ => none
theorem aop_len (args : Array Operand) (ts : Array TypeId) : aop P ρ h fr ⟨d, .call { callee := .builtin .len, args := args, argTypes := ts }, ty, ps, af, gu⟩ = lenO P (args.toList.map ρ) ts.toList := by
  simp only [aop, lenO]
  generalize args.toList.map ρ = l
  generalize ts.toList = m
  cases l with
  | nil => rfl
  | cons x l => cases l with
    | nil => cases m with
      | nil => rfl
      | cons t m => cases m <;> rfl
    | cons _ _ => rfl
theorem len_str {t : TypeId} {l : List UInt8} (hu : P.underlying t = some .string) : lenO P [.str l] [t] = some (.q (.int .i64 l.length)) := by simp [lenO, lenV, hu]
theorem len_ro {t e : TypeId} {c : List PV} {n : Nat} (hu : P.underlying t = some (.slice e)) : lenO P [.ro c n] [t] = some (.q (.int .i64 n)) := by simp [lenO, lenV, hu]
theorem len_ow {t e : TypeId} {id tot off n : Nat} (hu : P.underlying t = some (.slice e)) : lenO P [.ow id tot off n] [t] = some (.q (.int .i64 n)) := by simp [lenO, lenV, hu]
theorem len_nls {t e : TypeId} (hu : P.underlying t = some (.slice e)) : lenO P [.nls] [t] = some (.q (.int .i64 0)) := by simp [lenO, lenV, hu]
def minO (args : List PV) : Option OR := match args with
  | [.int k x, .int _ y] => some (.q (.int k (if y < x then y else x)))
  | _ => none
def maxO (args : List PV) : Option OR := match args with
  | [.int k x, .int _ y] => some (.q (.int k (if y > x then y else x)))
  | _ => none
theorem aop_min (args : Array Operand) (ts : Array TypeId) {k k' : IntKind} {x y : Int} (e : args.toList.map ρ = [.int k x, .int k' y]) : aop P ρ h fr ⟨d, .call { callee := .builtin .min, args := args, argTypes := ts }, ty, ps, af, gu⟩ = some (.q (.int k (if y < x then y else x))) := by
  simp only [aop, e]
theorem aop_max (args : Array Operand) (ts : Array TypeId) {k k' : IntKind} {x y : Int} (e : args.toList.map ρ = [.int k x, .int k' y]) : aop P ρ h fr ⟨d, .call { callee := .builtin .max, args := args, argTypes := ts }, ty, ps, af, gu⟩ = some (.q (.int k (if y > x then y else x))) := by
  simp only [aop, e]
theorem aop_call (c : Operand) (args : Array Operand) (ts : Array TypeId) : aop P ρ h fr ⟨d, .call { callee := .value c, args := args, argTypes := ts }, ty, ps, af, gu⟩ = callV (args.toList.map ρ) (ρ c) := rfl
theorem callV_func (args first cap : List PV) (k : FuncId) : callV args (.fn (.func k) first cap) = some (.call (.fn k) (first ++ args ++ cap)) := rfl
theorem callV_yld (args : List PV) (id : Nat) : callV args (.yld id) = some (.call (.yl id) args) := rfl
theorem aop_slice (t : TypeId) (x : Operand) (lo hi mx : Option Operand) : aop P ρ h fr ⟨d, .slice t x lo hi mx, ty, ps, af, gu⟩ = if liveB h (ρ x) && sizeB P h t (ρ x) then (sliceV P t (ρ x) (lo.map ρ) (hi.map ρ) (mx.map ρ)).map OR.q else none := rfl
/-- A text from a place on. -/
theorem slice_from {t : TypeId} {l : List UInt8} {k : IntKind} {i : Int} (hu : P.underlying t = some .string) (h0 : 0 ≤ i) (h1 : i ≤ l.length) :
    (if liveB h (.str l) && sizeB P h t (.str l) then (sliceV P t (.str l) (some (.int k i)) none none).map OR.q else none) = some (.q (.str (l.drop i.toNat))) := by
  simp only [liveB, sizeB, Bool.and_self, if_true, sliceV, hu, boundD, bound, Option.bind_some]
  rw [if_pos ⟨h0, by omega⟩]
  simp only [Option.bind_some, Option.map_some]
  rw [List.take_of_length_le (by rw [List.length_drop]; omega)]
theorem slice_to {t : TypeId} {l : List UInt8} {k : IntKind} {i : Int} (hu : P.underlying t = some .string) (h0 : 0 ≤ i) (h1 : i ≤ l.length) :
    (if liveB h (.str l) && sizeB P h t (.str l) then (sliceV P t (.str l) none (some (.int k i)) none).map OR.q else none) = some (.q (.str (l.take i.toNat))) := by
  simp only [liveB, sizeB, Bool.and_self, if_true, sliceV, hu, boundD, bound, Option.bind_some]
  rw [if_pos ⟨h0, h1⟩]
  simp
theorem slice_both {t : TypeId} {l : List UInt8} {k k' : IntKind} {i j : Int} (hu : P.underlying t = some .string) (h0 : 0 ≤ i) (h1 : i ≤ j) (h2 : j ≤ l.length) :
    (if liveB h (.str l) && sizeB P h t (.str l) then (sliceV P t (.str l) (some (.int k i)) (some (.int k' j)) none).map OR.q else none) = some (.q (.str ((l.drop i.toNat).take (j.toNat - i.toNat)))) := by
  simp only [liveB, sizeB, Bool.and_self, if_true, sliceV, hu, boundD, bound]
  rw [if_pos ⟨by omega, h2⟩, Option.bind_some, if_pos ⟨h0, by omega⟩]
  simp
end
end
end Go.Ac
