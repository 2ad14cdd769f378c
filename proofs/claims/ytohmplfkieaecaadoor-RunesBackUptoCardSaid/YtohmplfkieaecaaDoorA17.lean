/-
  A PURE MACHINE FOR THE MODEL'S CODE, 17: more rounds tell the same; the machine's answers, asked for by conditions.
-/
import Derived.Test.YtohmplfkieaecaaDoorA16
namespace Go.Ab
open Go.RowKit
set_option linter.unusedSimpArgs false

section
variable {P : Program} {G : Glob} {md : FuncId → Md}

def CLe (c c' : CallF) : Prop := ∀ k a h fr r, c k a h fr = some r → c' k a h fr = some r
theorem CLe.refl (c : CallF) : CLe c c := fun _ _ _ _ _ h => h

theorem evOps_mono {call call' : CallF} (hc : CLe call call') {ops : Array Oper} {base : Nat} : ∀ (l : List Oper) (i : Nat) (f : Fr) (h : AH) (r : Fr × AH),
    evOps P G call ops base i l f h = some r → evOps P G call' ops base i l f h = some r
  | [], _, _, _, _, he => he
  | o :: rest, i, f, h, r, he => by
    unfold evOps at he ⊢
    cases hw : wantA ops f.at o with
    | none => rw [hw] at he; simp at he
    | some b =>
      rw [hw] at he
      cases b with
      | false => exact evOps_mono hc rest _ _ _ _ he
      | true =>
        simp only at he ⊢
        cases ha : aop P (opnd G f.at) h (base + i) o with
        | none => rw [ha] at he; simp at he
        | some x =>
          rw [ha] at he
          cases x with
          | q v => exact evOps_mono hc rest _ _ _ _ he
          | w v h' => exact evOps_mono hc rest _ _ _ _ he
          | yield id args => simp at he
          | call k args =>
            simp only at he ⊢
            cases hk : call k args h (base + i) with
            | none => rw [hk] at he; simp at he
            | some y =>
              rw [hk] at he
              rw [hc _ _ _ _ _ hk]
              obtain ⟨v, ho⟩ := y
              cases ho with
              | none => exact evOps_mono hc rest _ _ _ _ he
              | some h' => exact evOps_mono hc rest _ _ _ _ he
theorem evQ_mono {call call' : CallF} (hc : CLe call call') {ops : Array Oper} {h : AH} : ∀ (l : List Oper) (f : Fr) (r : Fr),
    evQ P G call ops h l f = some r → evQ P G call' ops h l f = some r
  | [], _, _, he => he
  | o :: rest, f, r, he => by
    unfold evQ at he ⊢
    cases hw : wantA ops f.at o with
    | none => rw [hw] at he; simp at he
    | some b =>
      rw [hw] at he
      cases b with
      | false => exact evQ_mono hc rest _ _ he
      | true =>
        simp only at he ⊢
        cases ha : aop P (opnd G f.at) h h.next o with
        | none => rw [ha] at he; simp at he
        | some x =>
          rw [ha] at he
          cases x with
          | q v => exact evQ_mono hc rest _ _ he
          | w v h' => simp at he
          | yield id args => simp at he
          | call k args =>
            simp only at he ⊢
            cases hk : call k args h h.next with
            | none => rw [hk] at he; simp at he
            | some y =>
              rw [hk] at he
              rw [hc _ _ _ _ _ hk]
              obtain ⟨v, ho⟩ := y
              cases ho with
              | none => exact evQ_mono hc rest _ _ he
              | some h' => simp at he
theorem evC_mono {call call' : CallF} (hc : CLe call call') : ∀ (n m : Nat), n ≤ m → ∀ (c : Code) (f : Fr) (h : AH) (r : EX × Fr × AH), evC P G call n c f h = some r → evC P G call' m c f h = some r
  | 0, _, _, _, _, _, _, he => by simp [evC] at he
  | n + 1, 0, hm, _, _, _, _, _ => by omega
  | n + 1, m + 1, hm, c, f, h, r, he => by
    have ih := evC_mono hc n m (by omega)
    cases c with
    | skip => simpa only [evC] using he
    | label _ => simpa only [evC] using he
    | ret => simpa only [evC] using he
    | exit _ => simpa only [evC] using he
    | seq a b =>
      simp only [evC] at he ⊢
      cases ha : evC P G call n a f h with
      | none => rw [ha] at he; simp at he
      | some x =>
        rw [ha] at he
        rw [ih _ _ _ _ ha]
        obtain ⟨x, f1, h1⟩ := x
        cases x with
        | normal => exact ih _ _ _ _ he
        | exit _ => exact he
        | ret => exact he
    | cond x a b =>
      simp only [evC] at he ⊢
      cases hx : opnd G f.at x with
      | bool t =>
        rw [hx] at he
        exact ih _ _ _ _ he
      | _ => rw [hx] at he; simp at he
    | block id c =>
      simp only [evC] at he ⊢
      cases ha : evC P G call n c f h with
      | none => rw [ha] at he; simp at he
      | some x =>
        rw [ha] at he
        rw [ih _ _ _ _ ha]
        exact he
    | loop c =>
      simp only [evC] at he ⊢
      cases ha : evC P G call n c f h with
      | none => rw [ha] at he; simp at he
      | some x =>
        rw [ha] at he
        rw [ih _ _ _ _ ha]
        obtain ⟨x, f1, h1⟩ := x
        cases x with
        | normal => exact ih _ _ _ _ he
        | exit _ => exact he
        | ret => exact he
    | region rid ops draw =>
      simp only [evC] at he ⊢
      cases draw with
      | true =>
        simp only [if_true] at he ⊢
        cases ha : evQ P G call ops h ops.toList f with
        | none => rw [ha] at he; simp at he
        | some x =>
          rw [ha] at he
          rw [evQ_mono hc _ _ _ ha]
          exact he
      | false =>
        simp only [Bool.false_eq_true, if_false] at he ⊢
        cases ha : evOps P G call ops h.next 0 ops.toList f (h.up ops.size) with
        | none => rw [ha] at he; simp at he
        | some x =>
          rw [ha] at he
          rw [evOps_mono hc _ _ _ _ _ ha]
          exact he
    | _ => simp [evC] at he
theorem runA_mono {call call' : CallF} (hc : CLe call call') {n m : Nat} (hm : n ≤ m) {fn : Func} {c : Code} {args : List PV} {h : AH} {r : PV × AH} (he : runA P G call n fn c args h = some r) : runA P G call' m fn c args h = some r := by
  unfold runA at he ⊢
  cases ha : evC P G call n c (layArgs 0 args .leaf) h with
  | none => rw [ha] at he; simp at he
  | some x =>
    rw [ha] at he
    rw [evC_mono hc n m hm _ _ _ _ ha]
    exact he
theorem runP_mono {call call' : CallF} (hc : CLe call call') {n m : Nat} (hm : n ≤ m) {fn : Func} {c : Code} {args : List PV} {r : PV} (he : runP P G call n fn c args = some r) : runP P G call' m fn c args = some r := by
  unfold runP at he ⊢
  cases ha : runA P G call n fn c args .empty with
  | none => rw [ha] at he; simp at he
  | some x =>
    rw [ha] at he
    rw [runA_mono hc hm ha]
    exact he
theorem runO_mono {call call' : CallF} (hc : CLe call call') {n m : Nat} (hm : n ≤ m) {fn : Func} {c : Code} {args : List PV} {r : PV ⊕ (Nat × List PV × Nat)} (he : runO P G call n fn c args = some r) : runO P G call' m fn c args = some r := by
  unfold runO at he ⊢
  cases ha : runA P G call n fn c args .empty with
  | none => rw [ha] at he; simp at he
  | some x =>
    rw [ha] at he
    rw [runA_mono hc hm ha]
    exact he
theorem callB_mono {call call' : CallF} (hc : CLe call call') {n m : Nat} (hm : n ≤ m) : CLe (callB P G md call n) (callB P G md call' m) := by
  intro k args h fr r he
  unfold callB at he ⊢
  split at he
  · rename_i fn hf
    split at he
    · rename_i c hb
      split at he
      · simp at he
      · rename_i hname
        rw [if_neg hname]
        split at he
        · split at he
          · rename_i v h' he1
            rw [runA_mono hc hm he1]
            exact he
          · simp at he
        · split at he
          · rename_i hcl
            rw [if_pos hcl]
            split at he
            · rename_i v he1
              rw [runP_mono hc hm he1]
              exact he
            · simp at he
          · rename_i hcl
            rw [if_neg hcl]
            split at he
            · rename_i args' h1 he1
              split at he
              · rename_i v he2
                simp only [runP_mono hc hm he2]
                exact he
              · simp at he
            · rename_i he1
              split at he
              · rename_i v h' he2
                simp only [runA_mono hc hm he2]
                exact he
              · simp at he
        · exact he
        · split at he
          · rename_i args' h1 he1
            split at he
            · rename_i v he2
              simp only [runO_mono hc hm he2]
              exact he
            · rename_i he2
              simp only [runO_mono hc hm he2]
              exact he
            · simp at he
          · simp at he
    · simp at he
  · simp at he
theorem runF_mono1 : ∀ n, CLe (runF P G md n) (runF P G md (n + 1))
  | 0 => fun _ _ _ _ _ he => by simp [runF] at he
  | n + 1 => callB_mono (runF_mono1 n) (Nat.le_succ n)
theorem runF_mono {n m : Nat} (h : n ≤ m) : CLe (runF P G md n) (runF P G md m) := by
  induction h with
  | refl => exact CLe.refl _
  | step _ ih => exact fun k a h fr r he => runF_mono1 _ _ _ _ _ _ (ih k a h fr r he)
end

section
variable (P : Program) (G : Glob) (md : FuncId → Md)

/-- A call comes to this. -/
def CR (k : FuncId) (args : List PV) (h : AH) (fr : Nat) (v : PV) (ho : Option AH) : Prop := ∃ n, runF P G md n k args h fr = some (v, ho)
/-- A statement comes to something of which Q holds. -/
def Ev (c : Code) (f : Fr) (h : AH) (Q : EX → Fr → AH → Prop) : Prop := ∃ n x f' h', evC P G (runF P G md n) n c f h = some (x, f', h') ∧ Q x f' h'

def wpO (ops : Array Oper) (base : Nat) : Nat → List Oper → Fr → AH → (Fr → AH → Prop) → Prop
  | _, [], f, h, Q => Q f h
  | i, o :: rest, f, h, Q =>
    match wantA ops f.at o with
    | none => False
    | some false => wpO ops base (i + 1) rest (putA f o.dst (.tup [])) h Q
    | some true =>
      match aop P (opnd G f.at) h (base + i) o with
      | some (.q v) => wpO ops base (i + 1) rest (putA f o.dst v) h Q
      | some (.w v h') => wpO ops base (i + 1) rest (putA f o.dst v) h' Q
      | some (.call k args) => ∃ v ho, CR P G md k args h (base + i) v ho ∧ wpO ops base (i + 1) rest (putA f o.dst v) (ho.getD h) Q
      | _ => False
def wpQ (ops : Array Oper) (h : AH) : List Oper → Fr → (Fr → Prop) → Prop
  | [], f, Q => Q f
  | o :: rest, f, Q =>
    match wantA ops f.at o with
    | none => False
    | some false => wpQ ops h rest (putA f o.dst (.tup [])) Q
    | some true =>
      match aop P (opnd G f.at) h h.next o with
      | some (.q v) => wpQ ops h rest (putA f o.dst v) Q
      | some (.call k args) => ∃ v, CR P G md k args h h.next v none ∧ wpQ ops h rest (putA f o.dst v) Q
      | _ => False
def wpC : Code → Fr → AH → (EX → Fr → AH → Prop) → Prop
  | .skip, f, h, Q => Q .normal f h
  | .label _, f, h, Q => Q .normal f h
  | .ret, f, h, Q => Q .ret f h
  | .exit id, f, h, Q => Q (.exit id) f h
  | .seq a b, f, h, Q => wpC a f h fun x f' h' => match x with
    | .normal => wpC b f' h' Q
    | x => Q x f' h'
  | .cond x a b, f, h, Q => match opnd G f.at x with
    | .bool t => if t then wpC a f h Q else wpC b f h Q
    | _ => False
  | .block id c, f, h, Q => wpC c f h fun x f' h' => match x with
    | .exit id' => if id' = id then Q .normal f' h' else Q (.exit id') f' h'
    | x => Q x f' h'
  | .loop c, f, h, Q => Ev P G md (.loop c) f h Q
  | .region _ ops draw, f, h, Q => if draw then wpQ P G md ops h ops.toList f fun f' => Q .normal f' h
    else wpO P G md ops h.next 0 ops.toList f (h.up ops.size) fun f' h' => Q .normal f' h'
  | _, _, _, _ => False

variable {P G md}
theorem CR.det {k : FuncId} {args : List PV} {h : AH} {fr : Nat} {v v' : PV} {ho ho' : Option AH} (a : CR P G md k args h fr v ho) (b : CR P G md k args h fr v' ho') : v = v' ∧ ho = ho' := by
  obtain ⟨n, hn⟩ := a
  obtain ⟨m, hm⟩ := b
  have h1 := runF_mono (Nat.le_max_left n m) _ _ _ _ _ hn
  have h2 := runF_mono (Nat.le_max_right n m) _ _ _ _ _ hm
  rw [h1] at h2
  simpa using h2
/-- A call that is known, met in a condition. -/
theorem CR.iff {k : FuncId} {args : List PV} {h : AH} {fr : Nat} {v : PV} {ho : Option AH} (a : CR P G md k args h fr v ho) (v' : PV) (ho' : Option AH) : CR P G md k args h fr v' ho' ↔ v' = v ∧ ho' = ho :=
  ⟨fun b => b.det a, fun e => by rw [e.1, e.2]; exact a⟩
theorem Ev.mono {c : Code} {f : Fr} {h : AH} {Q R : EX → Fr → AH → Prop} (a : Ev P G md c f h Q) (hq : ∀ x f' h', Q x f' h' → R x f' h') : Ev P G md c f h R := by
  obtain ⟨n, x, f', h', he, q⟩ := a
  exact ⟨n, x, f', h', he, hq _ _ _ q⟩
theorem Ev.up {c : Code} {f f' : Fr} {h h' : AH} {x : EX} {n m : Nat} (hm : n ≤ m) (he : evC P G (runF P G md n) n c f h = some (x, f', h')) : evC P G (runF P G md m) m c f h = some (x, f', h') :=
  evC_mono (runF_mono hm) _ _ hm _ _ _ _ he
theorem wpO_ev {ops : Array Oper} {base : Nat} : ∀ (l : List Oper) (i : Nat) (f : Fr) (h : AH) (Q : Fr → AH → Prop), wpO P G md ops base i l f h Q →
    ∃ n f' h', evOps P G (runF P G md n) ops base i l f h = some (f', h') ∧ Q f' h'
  | [], _, f, h, Q, hq => ⟨0, f, h, rfl, hq⟩
  | o :: rest, i, f, h, Q, hq => by
    unfold wpO at hq
    unfold evOps
    cases hw : wantA ops f.at o with
    | none => rw [hw] at hq; exact hq.elim
    | some b =>
      rw [hw] at hq
      cases b with
      | false => exact wpO_ev rest _ _ _ _ hq
      | true =>
        simp only at hq ⊢
        cases ha : aop P (opnd G f.at) h (base + i) o with
        | none => rw [ha] at hq; exact hq.elim
        | some x =>
          rw [ha] at hq
          cases x with
          | q v => exact wpO_ev rest _ _ _ _ hq
          | w v h' => exact wpO_ev rest _ _ _ _ hq
          | yield id args => exact hq.elim
          | call k args =>
            obtain ⟨v, ho, ⟨n, hn⟩, hq⟩ := hq
            obtain ⟨m, f', h', he, q⟩ := wpO_ev rest _ _ _ _ hq
            refine ⟨max n m, f', h', ?_, q⟩
            simp only [runF_mono (Nat.le_max_left n m) _ _ _ _ _ hn]
            have he' := evOps_mono (runF_mono (P := P) (G := G) (md := md) (Nat.le_max_right n m)) _ _ _ _ _ he
            cases ho <;> exact he'
theorem wpQ_ev {ops : Array Oper} {h : AH} : ∀ (l : List Oper) (f : Fr) (Q : Fr → Prop), wpQ P G md ops h l f Q →
    ∃ n f', evQ P G (runF P G md n) ops h l f = some f' ∧ Q f'
  | [], f, Q, hq => ⟨0, f, rfl, hq⟩
  | o :: rest, f, Q, hq => by
    unfold wpQ at hq
    unfold evQ
    cases hw : wantA ops f.at o with
    | none => rw [hw] at hq; exact hq.elim
    | some b =>
      rw [hw] at hq
      cases b with
      | false => exact wpQ_ev rest _ _ hq
      | true =>
        simp only at hq ⊢
        cases ha : aop P (opnd G f.at) h h.next o with
        | none => rw [ha] at hq; exact hq.elim
        | some x =>
          rw [ha] at hq
          cases x with
          | q v => exact wpQ_ev rest _ _ hq
          | w v h' => exact hq.elim
          | yield id args => exact hq.elim
          | call k args =>
            obtain ⟨v, ⟨n, hn⟩, hq⟩ := hq
            obtain ⟨m, f', he, q⟩ := wpQ_ev rest _ _ hq
            refine ⟨max n m, f', ?_, q⟩
            simp only [runF_mono (Nat.le_max_left n m) _ _ _ _ _ hn]
            exact evQ_mono (runF_mono (P := P) (G := G) (md := md) (Nat.le_max_right n m)) _ _ _ he
theorem wpC_ev : ∀ (c : Code) (f : Fr) (h : AH) (Q : EX → Fr → AH → Prop), wpC P G md c f h Q → Ev P G md c f h Q
  | .skip, f, h, Q, hq => ⟨1, _, _, _, rfl, hq⟩
  | .label _, f, h, Q, hq => ⟨1, _, _, _, rfl, hq⟩
  | .ret, f, h, Q, hq => ⟨1, _, _, _, rfl, hq⟩
  | .exit _, f, h, Q, hq => ⟨1, _, _, _, rfl, hq⟩
  | .seq a b, f, h, Q, hq => by
    simp only [wpC] at hq
    obtain ⟨n, x, f1, h1, he, q⟩ := wpC_ev a _ _ _ hq
    cases x with
    | normal =>
      obtain ⟨m, x, f2, h2, he2, q⟩ := wpC_ev b _ _ _ q
      refine ⟨max n m + 1, x, f2, h2, ?_, q⟩
      simp only [evC]
      rw [evC_mono (runF_mono (show n ≤ max n m + 1 by omega)) n (max n m) (by omega) _ _ _ _ he]
      exact evC_mono (runF_mono (show m ≤ max n m + 1 by omega)) m (max n m) (by omega) _ _ _ _ he2
    | exit i =>
      refine ⟨n + 1, _, f1, h1, ?_, q⟩
      simp only [evC]
      rw [evC_mono (runF_mono (Nat.le_succ n)) n n (Nat.le_refl n) _ _ _ _ he]
    | ret =>
      refine ⟨n + 1, _, f1, h1, ?_, q⟩
      simp only [evC]
      rw [evC_mono (runF_mono (Nat.le_succ n)) n n (Nat.le_refl n) _ _ _ _ he]
  | .cond x a b, f, h, Q, hq => by
    simp only [wpC] at hq
    cases hx : opnd G f.at x with
    | bool t =>
      rw [hx] at hq
      have : ∃ n x f' h', evC P G (runF P G md n) n (if t then a else b) f h = some (x, f', h') ∧ Q x f' h' := by
        cases t with
        | true => exact wpC_ev a _ _ _ hq
        | false => exact wpC_ev b _ _ _ hq
      obtain ⟨n, y, f1, h1, he, q⟩ := this
      refine ⟨n + 1, y, f1, h1, ?_, q⟩
      simp only [evC]
      rw [hx]
      exact evC_mono (runF_mono (Nat.le_succ n)) n n (Nat.le_refl n) _ _ _ _ he
    | _ => rw [hx] at hq; exact hq.elim
  | .block id c, f, h, Q, hq => by
    simp only [wpC] at hq
    obtain ⟨n, x, f1, h1, he, q⟩ := wpC_ev c _ _ _ hq
    have he' := evC_mono (runF_mono (P := P) (G := G) (md := md) (Nat.le_succ n)) n n (Nat.le_refl n) _ _ _ _ he
    cases x with
    | normal => exact ⟨n + 1, _, f1, h1, by simp only [evC]; rw [he'], q⟩
    | ret => exact ⟨n + 1, _, f1, h1, by simp only [evC]; rw [he'], q⟩
    | exit i =>
      simp only at q
      by_cases e : i = id
      · rw [if_pos e] at q
        exact ⟨n + 1, _, f1, h1, by simp only [evC]; rw [he']; simp only [if_pos e], q⟩
      · rw [if_neg e] at q
        exact ⟨n + 1, _, f1, h1, by simp only [evC]; rw [he']; simp only [if_neg e], q⟩
  | .loop c, f, h, Q, hq => hq
  | .region rid ops draw, f, h, Q, hq => by
    simp only [wpC] at hq
    cases draw with
    | true =>
      simp only [if_true] at hq
      obtain ⟨n, f', he, q⟩ := wpQ_ev _ _ _ hq
      refine ⟨n + 1, _, f', h, ?_, q⟩
      simp only [evC, if_true]
      rw [evQ_mono (runF_mono (Nat.le_succ n)) _ _ _ he]
    | false =>
      simp only [Bool.false_eq_true, if_false] at hq
      obtain ⟨n, f', h', he, q⟩ := wpO_ev _ _ _ _ _ hq
      refine ⟨n + 1, _, f', h', ?_, q⟩
      simp only [evC, Bool.false_eq_true, if_false]
      rw [evOps_mono (runF_mono (Nat.le_succ n)) _ _ _ _ _ he]
  | .rangeFunc .., _, _, _, hq => by simp [wpC] at hq
  | .scope _, _, _, _, hq => by simp [wpC] at hq
  | .goto _, _, _, _, hq => by simp [wpC] at hq
  | .refuse _, _, _, _, hq => by simp [wpC] at hq

/-- A loop, by what falls. -/
theorem Ev.loop {c : Code} {Q : EX → Fr → AH → Prop} (I : Nat → Fr → AH → Prop) (step : ∀ k f h, I k f h → Ev P G md c f h fun x f' h' => match x with
      | .normal => ∃ j, j < k ∧ I j f' h'
      | x => Q x f' h') : ∀ (k : Nat) (f : Fr) (h : AH), I k f h → Ev P G md (.loop c) f h Q := by
  intro k
  induction k using Nat.strongRecOn with
  | _ k ih =>
    intro f h hI
    obtain ⟨n, x, f1, h1, he, q⟩ := step k f h hI
    cases x with
    | normal =>
      obtain ⟨j, hj, hI'⟩ := q
      obtain ⟨m, y, f2, h2, he2, q2⟩ := ih j hj _ _ hI'
      refine ⟨max n m + 1, y, f2, h2, ?_, q2⟩
      simp only [evC]
      rw [evC_mono (runF_mono (show n ≤ max n m + 1 by omega)) n (max n m) (by omega) _ _ _ _ he]
      exact evC_mono (runF_mono (show m ≤ max n m + 1 by omega)) m (max n m) (by omega) _ _ _ _ he2
    | exit i =>
      refine ⟨n + 1, _, f1, h1, ?_, q⟩
      simp only [evC]
      rw [evC_mono (runF_mono (Nat.le_succ n)) n n (Nat.le_refl n) _ _ _ _ he]
    | ret =>
      refine ⟨n + 1, _, f1, h1, ?_, q⟩
      simp only [evC]
      rw [evC_mono (runF_mono (Nat.le_succ n)) n n (Nat.le_refl n) _ _ _ _ he]

/-- What a body must come to. -/
def Ends (P : Program) (fn : Func) (Q : List PV → AH → Prop) : EX → Fr → AH → Prop
  | .exit _, _, _ => False
  | _, f, h => ∃ l, resA P f h fn.results.toList = some l ∧ Q l h
theorem CR.pure {k : FuncId} {fn : Func} {c : Code} {args : List PV} {v : PV} (hf : P.funcs[k]? = some fn) (hb : fn.body = some c) (hn : (fn.name == "runtime.NumGoroutine") = false) (hm : md k = .pure) (hcl : PV.cleans args = true)
    (he : Ev P G md c (layArgs 0 args .leaf) .empty (Ends P fn fun l h => ∃ h', frz 100 (oneOf l) h = some (v, h'))) (h : AH) (fr : Nat) : CR P G md k args h fr v none := by
  obtain ⟨n, x, f1, h1, he1, q⟩ := he
  refine ⟨n + 1, ?_⟩
  have : runP P G (runF P G md n) n fn c args = some v := by
    unfold runP runA
    rw [he1]
    cases x with
    | exit _ => exact q.elim
    | normal =>
      obtain ⟨l, k1, h', k2⟩ := q
      simp only [k1, k2]
    | ret =>
      obtain ⟨l, k1, h', k2⟩ := q
      simp only [k1, k2]
  simp only [runF, callB, hf, hb, hn, hm, hcl, this, Bool.false_eq_true, if_true, if_false]
theorem CR.shared {k : FuncId} {fn : Func} {c : Code} {args : List PV} {v : PV} {h h' : AH} (hf : P.funcs[k]? = some fn) (hb : fn.body = some c) (hn : (fn.name == "runtime.NumGoroutine") = false) (hm : md k = .shared)
    (he : Ev P G md c (layArgs 0 args .leaf) h (Ends P fn fun l h1 => v = oneOf l ∧ h1 = h')) (fr : Nat) : CR P G md k args h fr v (some h') := by
  obtain ⟨n, x, f1, h1, he1, q⟩ := he
  refine ⟨n + 1, ?_⟩
  have : runA P G (runF P G md n) n fn c args h = some (v, h') := by
    unfold runA
    rw [he1]
    cases x with
    | exit _ => exact q.elim
    | normal =>
      obtain ⟨l, k1, rfl, rfl⟩ := q
      simp only [k1]
    | ret =>
      obtain ⟨l, k1, rfl, rfl⟩ := q
      simp only [k1]
  simp only [runF, callB, hf, hb, hn, hm, this, Bool.false_eq_true, if_false]
theorem CR.lib {k : FuncId} {fn : Func} {c : Code} {args : List PV} {v : PV} {F : List PV → Option PV} (hf : P.funcs[k]? = some fn) (hb : fn.body = some c) (hn : (fn.name == "runtime.NumGoroutine") = false) (hm : md k = .lib F) (hcl : PV.cleans args = true)
    (he : F args = some v) (h : AH) (fr : Nat) : CR P G md k args h fr v none :=
  ⟨1, by simp only [runF, callB, hf, hb, hn, hm, hcl, he, Bool.false_eq_true, if_true, if_false]⟩
end
end Go.Ab
