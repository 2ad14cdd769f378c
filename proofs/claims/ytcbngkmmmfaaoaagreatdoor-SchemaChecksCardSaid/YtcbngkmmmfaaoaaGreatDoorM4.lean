/-
  JOINED TEXTS (C17 C18 C19 C20 C21): a pure machine for the model's code, its soundness, and what the program's functions come to.
-/
import Derived.Test.YtcbngkmmmfaaoaaGreatDoorM3
set_option linter.unusedVariables false
set_option linter.unusedSimpArgs false
namespace Go.Ac
open Go.RowKit
set_option linter.unusedSimpArgs false

section
variable {P : Program} {G : Glob} {md : FuncId → Md}

def CLe (c c' : CallF) : Prop := ∀ k a h fr r, c k a h fr = some r → c' k a h fr = some r
theorem CLe.refl (c : CallF) : CLe c c := fun _ _ _ _ _ h => h

theorem evOps_mono {call call' : CallF} (hc : CLe call call') {rd : Bool} {ops : Array Oper} {base : Nat} : ∀ (l : List Oper) (i : Nat) (f : Fr) (h : AH) (r : OX),
    evOps P G call rd ops base i l f h = some r → evOps P G call' rd ops base i l f h = some r
  | [], _, _, _, _, he => he
  | o :: rest, i, f, h, r, he => by
    have ih := evOps_mono hc (rd := rd) (ops := ops) (base := base) rest
    unfold evOps at he ⊢
    cases hw : wantA ops f.at o with
    | none => rw [hw] at he; simp at he
    | some b =>
      rw [hw] at he
      cases b with
      | false => exact ih _ _ _ _ he
      | true =>
        simp only at he ⊢
        cases ha : aop P (opnd G f.at) h (base + i) o with
        | none => rw [ha] at he; simp at he
        | some x =>
          rw [ha] at he
          cases x with
          | q v => exact ih _ _ _ _ he
          | w v id ob => exact ih _ _ _ _ he
          | pan v => exact he
          | dfr k args =>
            simp only at he ⊢
            split at he
            · simp at he
            · rename_i hrd
              rw [if_neg hrd]
              exact ih _ _ _ _ he
          | call t args =>
            simp only at he ⊢
            cases hk : call t args h (base + i) with
            | none => rw [hk] at he; simp at he
            | some y =>
              rw [hk] at he
              rw [hc _ _ _ _ _ hk]
              cases y with
              | val v => exact ih _ _ _ _ he
              | new v ob => exact ih _ _ _ _ he
              | sh v h' => exact ih _ _ _ _ he
              | pan v h' => exact he
theorem evD_mono {call call' : CallF} (hc : CLe call call') {ops : Array Oper} {base : Nat} : ∀ (l : List Oper) (i : Nat) (f : Fr) (h : AH) (lg : List (Nat × Nat)) (r : OX),
    evD P G call ops base i l f h lg = some r → evD P G call' ops base i l f h lg = some r
  | [], _, _, _, _, _, he => he
  | o :: rest, i, f, h, lg, r, he => by
    have ih := evD_mono hc (ops := ops) (base := base) rest
    unfold evD at he ⊢
    cases hw : wantA ops f.at o with
    | none => rw [hw] at he; simp at he
    | some b =>
      rw [hw] at he
      cases b with
      | false => exact ih _ _ _ _ _ he
      | true =>
        simp only at he ⊢
        split at he
        · rename_i hck
          rw [if_pos hck]
          cases ha : aop P (opnd G f.at) h (base + i) o with
          | none => rw [ha] at he; simp at he
          | some x =>
            rw [ha] at he
            cases x with
            | q v => exact ih _ _ _ _ _ he
            | w v id ob =>
              simp only at he ⊢
              split at he
              · rename_i h1
                rw [if_pos h1]
                exact ih _ _ _ _ _ he
              · rename_i h1
                rw [if_neg h1]
                split at he
                · rename_i h2
                  rw [if_pos h2]
                  split at he
                  · rename_i h3
                    rw [if_pos h3]
                    exact ih _ _ _ _ _ he
                  · rename_i h3
                    rw [if_neg h3]
                    exact ih _ _ _ _ _ he
                · simp at he
            | pan v => exact he
            | dfr k args => simp at he
            | call t args =>
              simp only at he ⊢
              cases hk : call t args h (base + i) with
              | none => rw [hk] at he; simp at he
              | some y =>
                rw [hk] at he
                rw [hc _ _ _ _ _ hk]
                cases y with
                | val v => exact ih _ _ _ _ _ he
                | new v ob => exact ih _ _ _ _ _ he
                | sh v h' =>
                  simp only at he ⊢
                  split at he
                  · rename_i h1
                    rw [if_pos h1]
                    exact ih _ _ _ _ _ he
                  · simp at he
                | pan v h' => exact he
        · simp at he
theorem oxE_some {o : Option OX} {r : EX × Fr × AH} (h : oxE o = some r) : ∃ y, o = some y ∧ oxE (some y) = some r := by
  cases o with
  | none => simp [oxE] at h
  | some y => exact ⟨y, rfl, h⟩
theorem evC_mono {call call' : CallF} (hc : CLe call call') {nt : Option Nat} : ∀ (n m : Nat), n ≤ m → ∀ (c : Code) (f : Fr) (h : AH) (r : EX × Fr × AH), evC P G call nt n c f h = some r → evC P G call' nt m c f h = some r
  | 0, _, _, _, _, _, _, he => by simp [evC] at he
  | n + 1, 0, hm, _, _, _, _, _ => by omega
  | n + 1, m + 1, hm, c, f, h, r, he => by
    have ih := evC_mono hc (nt := nt) n m (by omega)
    cases c with
    | skip => simpa only [evC] using he
    | label _ => simpa only [evC] using he
    | ret => simpa only [evC] using he
    | exit _ => simpa only [evC] using he
    | seq a b =>
      simp only [evC] at he ⊢
      cases ha : evC P G call nt n a f h with
      | none => rw [ha] at he; simp at he
      | some x =>
        rw [ha] at he
        rw [ih _ _ _ _ ha]
        obtain ⟨x, f1, h1⟩ := x
        cases x with
        | normal => exact ih _ _ _ _ he
        | exit _ => exact he
        | ret => exact he
        | panic _ => exact he
    | cond x a b =>
      simp only [evC] at he ⊢
      cases hx : opnd G f.at x with
      | bool t =>
        rw [hx] at he
        exact ih _ _ _ _ he
      | _ => rw [hx] at he; simp at he
    | block id c =>
      simp only [evC] at he ⊢
      cases ha : evC P G call nt n c f h with
      | none => rw [ha] at he; simp at he
      | some x =>
        rw [ha] at he
        rw [ih _ _ _ _ ha]
        exact he
    | loop c =>
      simp only [evC] at he ⊢
      cases ha : evC P G call nt n c f h with
      | none => rw [ha] at he; simp at he
      | some x =>
        rw [ha] at he
        rw [ih _ _ _ _ ha]
        obtain ⟨x, f1, h1⟩ := x
        cases x with
        | normal => exact ih _ _ _ _ he
        | exit _ => exact he
        | ret => exact he
        | panic _ => exact he
    | region rid ops draw =>
      simp only [evC] at he ⊢
      cases draw with
      | true =>
        simp only [if_true] at he ⊢
        obtain ⟨y, h1, h2⟩ := oxE_some he
        rw [evD_mono hc _ _ _ _ _ _ h1]
        exact h2
      | false =>
        simp only [Bool.false_eq_true, if_false] at he ⊢
        obtain ⟨y, h1, h2⟩ := oxE_some he
        rw [evOps_mono hc _ _ _ _ _ h1]
        exact h2
    | rangeFunc x ps asn body =>
      simp only [evC] at he ⊢
      split at he
      · rename_i mm kf first captured hx
        try simp only [hx]
        split at he
        · simp at he
        · rename_i hb
          rw [if_neg hb]
          cases hk : call (.fn kf) (first ++ [.yld h.next] ++ captured) (startR mm f h ps asn body) (h.next + 2) with
          | none => rw [hk] at he; simp at he
          | some y =>
            rw [hk] at he
            rw [hc _ _ _ _ _ hk]
            exact he
      · simp at he
    | _ => simp [evC] at he
theorem evS_mono {call call' : CallF} (hc : CLe call call') {nt : Nat} : ∀ (n m : Nat), n ≤ m → ∀ (c : Code) (f : Fr) (h : AH) (mo : Mo) (r : EX × Fr × AH × Mo), evS P G call nt n c f h mo = some r → evS P G call' nt m c f h mo = some r
  | 0, _, _, _, _, _, _, _, he => by simp [evS] at he
  | n + 1, 0, hm, _, _, _, _, _, _ => by omega
  | n + 1, m + 1, hm, c, f, h, mo, r, he => by
    have ih := evS_mono hc (nt := nt) n m (by omega)
    have rest : (match evC P G call (some nt) n c f h with
      | some (.normal, f', h') => some (EX.normal, f', h', mo)
      | some (.ret, f', h') => some (EX.ret, f', h', mo)
      | _ => none) = some r → (match evC P G call' (some nt) m c f h with
      | some (.normal, f', h') => some (EX.normal, f', h', mo)
      | some (.ret, f', h') => some (EX.ret, f', h', mo)
      | _ => none) = some r := by
      intro he
      cases ha : evC P G call (some nt) n c f h with
      | none => rw [ha] at he; simp at he
      | some x =>
        rw [ha] at he
        rw [evC_mono hc n m (by omega) _ _ _ _ ha]
        exact he
    cases c with
    | seq a b =>
      simp only [evS] at he ⊢
      cases ha : evS P G call nt n a f h mo with
      | none => rw [ha] at he; simp at he
      | some x =>
        rw [ha] at he
        rw [ih _ _ _ _ _ ha]
        obtain ⟨x, f1, h1, m1⟩ := x
        cases x with
        | normal => exact ih _ _ _ _ _ he
        | exit _ => exact he
        | ret => exact he
        | panic _ => exact he
    | cond x a b =>
      simp only [evS] at he ⊢
      cases hx : opnd G f.at x with
      | bool t =>
        rw [hx] at he
        exact ih _ _ _ _ _ he
      | _ => rw [hx] at he; simp at he
    | region rid ops draw =>
      simp only [evS] at he ⊢
      split at he
      · rename_i hcond
        rw [if_pos hcond]
        exact he
      · rename_i hcond
        rw [if_neg hcond]
        cases ha : evC P G call (some nt) n (.region rid ops draw) f h with
        | none => rw [ha] at he; simp at he
        | some x =>
          rw [ha] at he
          rw [evC_mono hc n m (by omega) _ _ _ _ ha]
          exact he
    | _ => exact rest he
theorem runD_mono {call call' : CallF} (hc : CLe call call') {n m : Nat} (hm : n ≤ m) {fn : Func} {f : Fr} : ∀ (ds : List Dfr) (mo : Mo) (h : AH) (r : RA), runD P G call n fn f ds mo h = some r → runD P G call' m fn f ds mo h = some r
  | [], .ret, h, r, he => by simpa only [runD] using he
  | [], .pan v, h, r, he => by simpa only [runD] using he
  | [], .rcv, h, r, he => by simp [runD] at he
  | .mark id :: ds, mo, h, r, he => by
    simp only [runD] at he ⊢
    split at he
    · exact runD_mono hc hm ds _ _ _ he
    · simp at he
  | .call k args :: ds, mo, h, r, he => by
    simp only [runD] at he ⊢
    split at he
    · rename_i fk hf
      split at he
      · rename_i c hb
        try simp only [hf, hb]
        split at he
        · simp at he
        · rename_i hn
          rw [if_neg hn]
          cases ha : evS P G call fk.ntmps n c (layArgs 0 args Fr.none) h mo with
          | none => rw [ha] at he; simp at he
          | some x =>
            rw [ha] at he
            rw [evS_mono hc n m hm _ _ _ _ _ ha]
            obtain ⟨x, f1, h1, m1⟩ := x
            cases x with
            | normal =>
              simp only at he ⊢
              split at he
              · rename_i hcond
                rw [if_pos hcond]
                exact runD_mono hc hm ds _ _ _ he
              · simp at he
            | ret =>
              simp only at he ⊢
              split at he
              · rename_i hcond
                rw [if_pos hcond]
                exact runD_mono hc hm ds _ _ _ he
              · simp at he
            | exit _ => simp at he
            | panic _ => simp at he
      · simp at he
    · simp at he
theorem runA_mono {call call' : CallF} (hc : CLe call call') {n m : Nat} (hm : n ≤ m) {fn : Func} {c : Code} {args : List PV} {h : AH} {r : RA} (he : runA P G call n fn c args h = some r) : runA P G call' m fn c args h = some r := by
  unfold runA at he ⊢
  cases ha : evC P G call (some fn.ntmps) n c (layArgs 0 args Fr.none) h with
  | none => rw [ha] at he; simp at he
  | some x =>
    rw [ha] at he
    rw [evC_mono hc n m hm _ _ _ _ ha]
    obtain ⟨x, f1, h1⟩ := x
    cases x with
    | normal => exact runD_mono hc hm _ _ _ _ he
    | ret => exact runD_mono hc hm _ _ _ _ he
    | panic v => exact runD_mono hc hm _ _ _ _ he
    | exit _ => simp at he
theorem runP_mono {call call' : CallF} (hc : CLe call call') {n m : Nat} (hm : n ≤ m) {fn : Func} {c : Code} {args : List PV} {r : RP} (he : runP P G call n fn c args = some r) : runP P G call' m fn c args = some r := by
  unfold runP at he ⊢
  cases ha : runA P G call n fn c args .empty with
  | none => rw [ha] at he; simp at he
  | some x =>
    rw [ha] at he
    rw [runA_mono hc hm ha]
    exact he
theorem runO_mono {call call' : CallF} (hc : CLe call call') {n m : Nat} (hm : n ≤ m) {fn : Func} {c : Code} {args : List PV} {r : RW} (he : runO P G call n fn c args = some r) : runO P G call' m fn c args = some r := by
  unfold runO at he ⊢
  cases ha : runA P G call n fn c args .empty with
  | none => rw [ha] at he; simp at he
  | some x =>
    rw [ha] at he
    rw [runA_mono hc hm ha]
    exact he
theorem sharedB_mono {call call' : CallF} (hc : CLe call call') {n m : Nat} (hm : n ≤ m) {fn : Func} {c : Code} {args : List PV} {h : AH} {r : CRes} (he : sharedB P G call n fn c args h = some r) : sharedB P G call' m fn c args h = some r := by
  unfold sharedB at he ⊢
  cases ha : runA P G call n fn c args h with
  | none => rw [ha] at he; simp at he
  | some x =>
    rw [ha] at he
    rw [runA_mono hc hm ha]
    exact he
theorem runY_mono {call call' : CallF} (hc : CLe call call') {n m : Nat} (hm : n ≤ m) {l : Nat} {args : List PV} {h : AH} {r : CRes} (he : runY P G call n l args h = some r) : runY P G call' m l args h = some r := by
  unfold runY at he ⊢
  split at he
  · rename_i n1 F ps asn body pend hg
    try simp only [hg]
    split at he
    · rename_i hl
      rw [if_pos hl]
      cases ha : evC P G call none n asn (layTo (ps.toList.zip args) ⟨F, []⟩) h with
      | none => rw [ha] at he; simp at he
      | some x =>
        rw [ha] at he
        rw [evC_mono hc n m hm _ _ _ _ ha]
        obtain ⟨x, f1, h1⟩ := x
        cases x with
        | normal =>
          simp only at he ⊢
          split at he
          · rename_i n2 F2 ps2 asn2 body2 pend2 hg2
            try simp only [hg2]
            cases hb : evC P G call none n body f1 (h1.set l (.loop n2 F2 ps2 asn2 body2 .busy pend2)) with
            | none => rw [hb] at he; simp at he
            | some y =>
              rw [hb] at he
              rw [evC_mono hc n m hm _ _ _ _ hb]
              exact he
          · simp at he
        | ret => simp at he
        | panic v => simp at he
        | exit _ => simp at he
    · simp at he
  · simp at he
theorem callB_mono {call call' : CallF} (hc : CLe call call') {n m : Nat} (hm : n ≤ m) : CLe (callB P G md call n) (callB P G md call' m) := by
  intro t args h fr r he
  cases t with
  | yl l => exact runY_mono hc hm he
  | fn k =>
    simp only [callB] at he ⊢
    cases hmd : md k with
    | lib F => rw [hmd] at he; exact he
    | shared =>
      rw [hmd] at he
      simp only at he ⊢
      split at he
      · rename_i fn hf
        split at he
        · rename_i c hb
          try simp only [hf, hb]
          split at he
          · simp at he
          · rename_i hn
            rw [if_neg hn]
            exact sharedB_mono hc hm he
        · simp at he
      · simp at he
    | pure =>
      rw [hmd] at he
      simp only at he ⊢
      split at he
      · rename_i fn hf
        split at he
        · rename_i c hb
          try simp only [hf, hb]
          split at he
          · simp at he
          · rename_i hn
            rw [if_neg hn]
            split at he
            · rename_i hcl
              rw [if_pos hcl]
              cases ha : runP P G call n fn c args with
              | none => rw [ha] at he; simp at he
              | some x =>
                rw [ha] at he
                rw [runP_mono hc hm ha]
                exact he
            · rename_i hcl
              rw [if_neg hcl]
              split at he
              · rename_i args' h1 he1
                try simp only [he1]
                cases ha : runP P G call n fn c args' with
                | none => rw [ha] at he; simp at he
                | some x =>
                  rw [ha] at he
                  rw [runP_mono hc hm ha]
                  exact he
              · rename_i he1
                try simp only [he1]
                exact sharedB_mono hc hm he
        · simp at he
      · simp at he
    | own =>
      rw [hmd] at he
      simp only at he ⊢
      split at he
      · rename_i fn hf
        split at he
        · rename_i c hb
          try simp only [hf, hb]
          split at he
          · simp at he
          · rename_i hn
            rw [if_neg hn]
            split at he
            · rename_i hcl
              rw [if_pos hcl]
              cases ha : runO P G call n fn c args with
              | none => rw [ha] at he; simp at he
              | some x =>
                rw [ha] at he
                rw [runO_mono hc hm ha]
                exact he
            · rename_i hcl
              rw [if_neg hcl]
              split at he
              · rename_i args' h1 he1
                try simp only [he1]
                cases ha : runO P G call n fn c args' with
                | none => rw [ha] at he; simp at he
                | some x =>
                  rw [ha] at he
                  rw [runO_mono hc hm ha]
                  exact he
              · simp at he
        · simp at he
      · simp at he
theorem runF_mono1 : ∀ n, CLe (runF P G md n) (runF P G md (n + 1))
  | 0 => fun _ _ _ _ _ he => by simp [runF] at he
  | n + 1 => callB_mono (runF_mono1 n) (Nat.le_succ n)
theorem runF_mono {n m : Nat} (h : n ≤ m) : CLe (runF P G md n) (runF P G md m) := by
  induction h with
  | refl => exact CLe.refl _
  | step _ ih => exact fun k a h fr r he => runF_mono1 _ _ _ _ _ _ (ih k a h fr r he)
end

section
variable (P : Program) (G : Glob) (md : FuncId → Md)

def CR (t : Tgt) (args : List PV) (h : AH) (fr : Nat) (r : CRes) : Prop := ∃ n, runF P G md n t args h fr = some r
def Ev (nt : Option Nat) (c : Code) (f : Fr) (h : AH) (Q : EX → Fr → AH → Prop) : Prop := ∃ n x f' h', evC P G (runF P G md n) nt n c f h = some (x, f', h') ∧ Q x f' h'

def wpO (rd : Bool) (ops : Array Oper) (base : Nat) : Nat → List Oper → Fr → AH → (OX → Prop) → Prop
  | _, [], f, h, Q => Q (.normal f h)
  | i, o :: rest, f, h, Q =>
    match wantA ops f.at o with
    | none => False
    | some false => wpO rd ops base (i + 1) rest (putA f o.dst (.tup [])) h Q
    | some true =>
      match aop P (opnd G f.at) h (base + i) o with
      | some (.q v) => wpO rd ops base (i + 1) rest (putA f o.dst v) h Q
      | some (.w v id ob) => wpO rd ops base (i + 1) rest (putA f o.dst v) (h.set id ob) Q
      | some (.call t args) => ∃ r, CR P G md t args h (base + i) r ∧ match r with
        | .val v => wpO rd ops base (i + 1) rest (putA f o.dst v) h Q
        | .new v ob => wpO rd ops base (i + 1) rest (putA f o.dst v) (h.set (base + i) ob) Q
        | .sh v h' => wpO rd ops base (i + 1) rest (putA f o.dst v) h' Q
        | .pan v h' => Q (.panic v f h')
      | some (.pan v) => Q (.panic v f h)
      | some (.dfr k args) => rd = false ∧ wpO rd ops base (i + 1) rest (putA ⟨f.t, .call k args :: f.ds⟩ o.dst .undef) h Q
      | none => False
def wpD (ops : Array Oper) (base : Nat) : Nat → List Oper → Fr → AH → List (Nat × Nat) → (OX → Prop) → Prop
  | _, [], f, h, _, Q => Q (.normal f h)
  | i, o :: rest, f, h, lg, Q =>
    match wantA ops f.at o with
    | none => False
    | some false => wpD ops base (i + 1) rest (putA f o.dst (.tup [])) h lg Q
    | some true =>
      chk ops lg i (foot (opnd G f.at) o) = true ∧
        match aop P (opnd G f.at) h (base + i) o with
        | some (.q v) => wpD ops base (i + 1) rest (putA f o.dst v) h lg Q
        | some (.w v id ob) =>
          if id = base + i then wpD ops base (i + 1) rest (putA f o.dst v) (h.set id ob) lg Q
          else ford ops i (opnd G f.at) base id lg = true ∧ wpD ops base (i + 1) rest (putA f o.dst v) (h.set id ob) (if lone ops i then lg else (i, id) :: lg) Q
        | some (.call t args) => ∃ r, CR P G md t args h (base + i) r ∧ match r with
          | .val v => wpD ops base (i + 1) rest (putA f o.dst v) h lg Q
          | .new v ob => wpD ops base (i + 1) rest (putA f o.dst v) (h.set (base + i) ob) lg Q
          | .sh v h' => (fore ops i && lone ops i) = true ∧ wpD ops base (i + 1) rest (putA f o.dst v) h' lg Q
          | .pan v h' => (fore ops i && lone ops i && aft ops i) = true ∧ Q (.panic v (wipe ops.toList f) h')
        | some (.pan v) => (fore ops i && lone ops i && aft ops i) = true ∧ Q (.panic v (wipe ops.toList f) h)
        | _ => False
def outX (Q : EX → Fr → AH → Prop) : OX → Prop
  | .normal f h => Q .normal f h
  | .panic v f h => Q (.panic v) f h
def outR (l : Nat) (f : Fr) (h : AH) (Q : EX → Fr → AH → Prop) : CRes → Prop
  | .val _ => ∃ x f' h', finR l f h = some (x, f', h') ∧ Q x f' h'
  | .new _ o => ∃ x f' h', finR l f (h.set (l + 2) o) = some (x, f', h') ∧ Q x f' h'
  | .sh _ h1 => ∃ x f' h', finR l f h1 = some (x, f', h') ∧ Q x f' h'
  | .pan v h1 => Q (.panic v) f h1
def wpC (nt : Option Nat) : Code → Fr → AH → (EX → Fr → AH → Prop) → Prop
  | .skip, f, h, Q => Q .normal f h
  | .label _, f, h, Q => Q .normal f h
  | .ret, f, h, Q => Q .ret f h
  | .exit id, f, h, Q => Q (.exit id) f h
  | .seq a b, f, h, Q => wpC nt a f h fun x f' h' => match x with
    | .normal => wpC nt b f' h' Q
    | x => Q x f' h'
  | .cond x a b, f, h, Q => match opnd G f.at x with
    | .bool t => if t then wpC nt a f h Q else wpC nt b f h Q
    | _ => False
  | .block id c, f, h, Q => wpC nt c f h fun x f' h' => match x with
    | .exit id' => if id' = id then Q .normal f' h' else Q (.exit id') f' h'
    | x => Q x f' h'
  | .loop c, f, h, Q => Ev P G md nt (.loop c) f h Q
  | .region _ ops draw, f, h, Q => if draw then wpD P G md ops h.next 0 ops.toList f (h.up ops.size) [] (outX Q)
    else wpO P G md nt.isNone ops h.next 0 ops.toList f (h.up ops.size) (outX Q)
  | .rangeFunc x ps asn body, f, h, Q => match nt, opnd G f.at x with
    | some m, .fn (.func k) first captured => bodyB P k = true ∧ ∃ r, CR P G md (.fn k) (first ++ [.yld h.next] ++ captured) (startR m f h ps asn body) (h.next + 2) r ∧ outR h.next ⟨f.t, .mark (h.next + 1) :: f.ds⟩ (startR m f h ps asn body) Q r
    | _, _ => False
  | _, _, _, _ => False

variable {P G md}
theorem CR.det {t : Tgt} {args : List PV} {h : AH} {fr : Nat} {r r' : CRes} (a : CR P G md t args h fr r) (b : CR P G md t args h fr r') : r = r' := by
  obtain ⟨n, hn⟩ := a
  obtain ⟨m, hm⟩ := b
  have h1 := runF_mono (Nat.le_max_left n m) _ _ _ _ _ hn
  have h2 := runF_mono (Nat.le_max_right n m) _ _ _ _ _ hm
  rw [h1] at h2
  exact Option.some.inj h2
theorem Ev.mono {nt : Option Nat} {c : Code} {f : Fr} {h : AH} {Q R : EX → Fr → AH → Prop} (a : Ev P G md nt c f h Q) (hq : ∀ x f' h', Q x f' h' → R x f' h') : Ev P G md nt c f h R := by
  obtain ⟨n, x, f', h', he, q⟩ := a
  exact ⟨n, x, f', h', he, hq _ _ _ q⟩
theorem Ev.up {nt : Option Nat} {c : Code} {f f' : Fr} {h h' : AH} {x : EX} {n m : Nat} (hm : n ≤ m) (he : evC P G (runF P G md n) nt n c f h = some (x, f', h')) : evC P G (runF P G md m) nt m c f h = some (x, f', h') :=
  evC_mono (runF_mono hm) _ _ hm _ _ _ _ he
theorem wpO_ev {rd : Bool} {ops : Array Oper} {base : Nat} : ∀ (l : List Oper) (i : Nat) (f : Fr) (h : AH) (Q : OX → Prop), wpO P G md rd ops base i l f h Q →
    ∃ n r, evOps P G (runF P G md n) rd ops base i l f h = some r ∧ Q r
  | [], _, f, h, Q, hq => ⟨0, .normal f h, rfl, hq⟩
  | o :: rest, i, f, h, Q, hq => by
    have ih := wpO_ev (rd := rd) (ops := ops) (base := base) rest
    unfold wpO at hq
    unfold evOps
    cases hw : wantA ops f.at o with
    | none => rw [hw] at hq; exact hq.elim
    | some b =>
      rw [hw] at hq
      cases b with
      | false => exact ih _ _ _ _ hq
      | true =>
        simp only at hq ⊢
        cases ha : aop P (opnd G f.at) h (base + i) o with
        | none => rw [ha] at hq; exact hq.elim
        | some x =>
          rw [ha] at hq
          cases x with
          | q v => exact ih _ _ _ _ hq
          | w v id ob => exact ih _ _ _ _ hq
          | pan v => exact ⟨0, _, rfl, hq⟩
          | dfr k args =>
            obtain ⟨rfl, hq⟩ := hq
            exact ih _ _ _ _ hq
          | call t args =>
            obtain ⟨r, ⟨n, hn⟩, hq⟩ := hq
            cases r with
            | val v =>
              obtain ⟨m, r, he, q⟩ := ih _ _ _ _ hq
              refine ⟨max n m, r, ?_, q⟩
              simp only [runF_mono (Nat.le_max_left n m) _ _ _ _ _ hn]
              exact evOps_mono (runF_mono (P := P) (G := G) (md := md) (Nat.le_max_right n m)) _ _ _ _ _ he
            | new v ob =>
              obtain ⟨m, r, he, q⟩ := ih _ _ _ _ hq
              refine ⟨max n m, r, ?_, q⟩
              simp only [runF_mono (Nat.le_max_left n m) _ _ _ _ _ hn]
              exact evOps_mono (runF_mono (P := P) (G := G) (md := md) (Nat.le_max_right n m)) _ _ _ _ _ he
            | sh v h' =>
              obtain ⟨m, r, he, q⟩ := ih _ _ _ _ hq
              refine ⟨max n m, r, ?_, q⟩
              simp only [runF_mono (Nat.le_max_left n m) _ _ _ _ _ hn]
              exact evOps_mono (runF_mono (P := P) (G := G) (md := md) (Nat.le_max_right n m)) _ _ _ _ _ he
            | pan v h' => exact ⟨n, _, by simp only [hn], hq⟩
theorem wpD_ev {ops : Array Oper} {base : Nat} : ∀ (l : List Oper) (i : Nat) (f : Fr) (h : AH) (lg : List (Nat × Nat)) (Q : OX → Prop), wpD P G md ops base i l f h lg Q →
    ∃ n r, evD P G (runF P G md n) ops base i l f h lg = some r ∧ Q r
  | [], _, f, h, _, Q, hq => ⟨0, .normal f h, rfl, hq⟩
  | o :: rest, i, f, h, lg, Q, hq => by
    have ih := wpD_ev (ops := ops) (base := base) rest
    unfold wpD at hq
    unfold evD
    cases hw : wantA ops f.at o with
    | none => rw [hw] at hq; exact hq.elim
    | some b =>
      rw [hw] at hq
      cases b with
      | false => exact ih _ _ _ _ _ hq
      | true =>
        simp only at hq ⊢
        obtain ⟨hck, hq⟩ := hq
        simp only [hck, if_true]
        cases ha : aop P (opnd G f.at) h (base + i) o with
        | none => rw [ha] at hq; exact hq.elim
        | some x =>
          rw [ha] at hq
          cases x with
          | q v => exact ih _ _ _ _ _ hq
          | w v id ob =>
            simp only at hq ⊢
            split at hq
            · rename_i h1
              simp only [if_pos h1]
              exact ih _ _ _ _ _ hq
            · rename_i h1
              obtain ⟨h2, hq⟩ := hq
              simp only [if_neg h1, h2, if_true]
              by_cases h3 : lone ops i = true
              · rw [if_pos h3] at hq
                simp only [if_pos h3]
                exact ih _ _ _ _ _ hq
              · rw [if_neg h3] at hq
                simp only [if_neg h3]
                exact ih _ _ _ _ _ hq
          | pan v => exact ⟨0, _, by simp only [if_pos hq.1], hq.2⟩
          | dfr k args => exact hq.elim
          | call t args =>
            obtain ⟨r, ⟨n, hn⟩, hq⟩ := hq
            cases r with
            | val v =>
              obtain ⟨m, r, he, q⟩ := ih _ _ _ _ _ hq
              refine ⟨max n m, r, ?_, q⟩
              simp only [runF_mono (Nat.le_max_left n m) _ _ _ _ _ hn]
              exact evD_mono (runF_mono (P := P) (G := G) (md := md) (Nat.le_max_right n m)) _ _ _ _ _ _ he
            | new v ob =>
              obtain ⟨m, r, he, q⟩ := ih _ _ _ _ _ hq
              refine ⟨max n m, r, ?_, q⟩
              simp only [runF_mono (Nat.le_max_left n m) _ _ _ _ _ hn]
              exact evD_mono (runF_mono (P := P) (G := G) (md := md) (Nat.le_max_right n m)) _ _ _ _ _ _ he
            | sh v h' =>
              obtain ⟨h1, hq⟩ := hq
              obtain ⟨m, r, he, q⟩ := ih _ _ _ _ _ hq
              refine ⟨max n m, r, ?_, q⟩
              simp only [runF_mono (Nat.le_max_left n m) _ _ _ _ _ hn, if_pos h1]
              exact evD_mono (runF_mono (P := P) (G := G) (md := md) (Nat.le_max_right n m)) _ _ _ _ _ _ he
            | pan v h' => exact ⟨n, _, by simp only [hn, if_pos hq.1], hq.2⟩
theorem wpC_ev {nt : Option Nat} : ∀ (c : Code) (f : Fr) (h : AH) (Q : EX → Fr → AH → Prop), wpC P G md nt c f h Q → Ev P G md nt c f h Q
  | .skip, f, h, Q, hq => ⟨1, _, _, _, rfl, hq⟩
  | .label _, f, h, Q, hq => ⟨1, _, _, _, rfl, hq⟩
  | .ret, f, h, Q, hq => ⟨1, _, _, _, rfl, hq⟩
  | .exit _, f, h, Q, hq => ⟨1, _, _, _, rfl, hq⟩
  | .seq a b, f, h, Q, hq => by
    simp only [wpC] at hq
    obtain ⟨n, x, f1, h1, he, q⟩ := wpC_ev a _ _ _ hq
    have out : ∀ x, x ≠ .normal → Q x f1 h1 → evC P G (runF P G md n) nt n a f h = some (x, f1, h1) → Ev P G md nt (.seq a b) f h Q := by
      intro x hx q he
      refine ⟨n + 1, x, f1, h1, ?_, q⟩
      simp only [evC]
      rw [evC_mono (runF_mono (Nat.le_succ n)) n n (Nat.le_refl n) _ _ _ _ he]
      cases x <;> first | exact absurd rfl hx | rfl
    cases x with
    | normal =>
      obtain ⟨m, x, f2, h2, he2, q⟩ := wpC_ev b _ _ _ q
      refine ⟨max n m + 1, x, f2, h2, ?_, q⟩
      simp only [evC]
      rw [evC_mono (runF_mono (show n ≤ max n m + 1 by omega)) n (max n m) (by omega) _ _ _ _ he]
      exact evC_mono (runF_mono (show m ≤ max n m + 1 by omega)) m (max n m) (by omega) _ _ _ _ he2
    | exit i => exact out _ (by simp) q he
    | ret => exact out _ (by simp) q he
    | panic v => exact out _ (by simp) q he
  | .cond x a b, f, h, Q, hq => by
    simp only [wpC] at hq
    cases hx : opnd G f.at x with
    | bool t =>
      rw [hx] at hq
      have : ∃ n x f' h', evC P G (runF P G md n) nt n (if t then a else b) f h = some (x, f', h') ∧ Q x f' h' := by
        cases t with
        | true => exact wpC_ev a _ _ _ hq
        | false => exact wpC_ev b _ _ _ hq
      obtain ⟨n, y, f1, h1, he, q⟩ := this
      refine ⟨n + 1, y, f1, h1, ?_, q⟩
      simp only [evC]
      rw [hx]
      exact evC_mono (runF_mono (Nat.le_succ n)) n n (Nat.le_refl n) _ _ _ _ he
    | _ => rw [hx] at hq; exact hq.elim
  | .block id c, f, h, Q, hq => by
    simp only [wpC] at hq
    obtain ⟨n, x, f1, h1, he, q⟩ := wpC_ev c _ _ _ hq
    have he' := evC_mono (runF_mono (P := P) (G := G) (md := md) (Nat.le_succ n)) n n (Nat.le_refl n) _ _ _ _ he
    cases x with
    | normal => exact ⟨n + 1, _, f1, h1, by simp only [evC]; rw [he'], q⟩
    | ret => exact ⟨n + 1, _, f1, h1, by simp only [evC]; rw [he'], q⟩
    | panic v => exact ⟨n + 1, _, f1, h1, by simp only [evC]; rw [he'], q⟩
    | exit i =>
      simp only at q
      by_cases e : i = id
      · rw [if_pos e] at q
        exact ⟨n + 1, _, f1, h1, by simp only [evC]; rw [he']; simp only [if_pos e], q⟩
      · rw [if_neg e] at q
        exact ⟨n + 1, _, f1, h1, by simp only [evC]; rw [he']; simp only [if_neg e], q⟩
  | .loop c, f, h, Q, hq => hq
  | .region rid ops draw, f, h, Q, hq => by
    simp only [wpC] at hq
    cases draw with
    | true =>
      simp only [if_true] at hq
      obtain ⟨n, r, he, q⟩ := wpD_ev _ _ _ _ _ _ hq
      have he' := evD_mono (runF_mono (P := P) (G := G) (md := md) (Nat.le_succ n)) _ _ _ _ _ _ he
      cases r with
      | normal f' h' => exact ⟨n + 1, _, f', h', by simp only [evC, if_true]; rw [he']; rfl, q⟩
      | panic v f' h' => exact ⟨n + 1, _, f', h', by simp only [evC, if_true]; rw [he']; rfl, q⟩
    | false =>
      simp only [Bool.false_eq_true, if_false] at hq
      obtain ⟨n, r, he, q⟩ := wpO_ev _ _ _ _ _ hq
      have he' := evOps_mono (runF_mono (P := P) (G := G) (md := md) (Nat.le_succ n)) _ _ _ _ _ he
      cases r with
      | normal f' h' => exact ⟨n + 1, _, f', h', by simp only [evC, Bool.false_eq_true, if_false]; rw [he']; rfl, q⟩
      | panic v f' h' => exact ⟨n + 1, _, f', h', by simp only [evC, Bool.false_eq_true, if_false]; rw [he']; rfl, q⟩
  | .rangeFunc x ps asn body, f, h, Q, hq => by
    simp only [wpC] at hq
    split at hq
    · rename_i m k first captured hx
      obtain ⟨hb, r, ⟨n, hn⟩, hq⟩ := hq
      have hn' := runF_mono (Nat.le_succ n) _ _ _ _ _ hn
      cases r with
      | val v =>
        obtain ⟨x, f', h', hf, q⟩ := hq
        refine ⟨n + 1, x, f', h', ?_, q⟩
        simp only [evC, hx, hb, hn']
        exact hf
      | new v o =>
        obtain ⟨x, f', h', hf, q⟩ := hq
        refine ⟨n + 1, x, f', h', ?_, q⟩
        simp only [evC, hx, hb, hn']
        exact hf
      | sh v h1 =>
        obtain ⟨x, f', h', hf, q⟩ := hq
        refine ⟨n + 1, x, f', h', ?_, q⟩
        simp only [evC, hx, hb, hn']
        exact hf
      | pan v h1 =>
        refine ⟨n + 1, _, _, h1, ?_, hq⟩
        simp only [evC, hx, hb, hn']
        rfl
    · exact hq.elim
  | .scope _, _, _, _, hq => by simp [wpC] at hq
  | .goto _, _, _, _, hq => by simp [wpC] at hq
  | .refuse _, _, _, _, hq => by simp [wpC] at hq

theorem Ev.loop {nt : Option Nat} {c : Code} {Q : EX → Fr → AH → Prop} (I : Nat → Fr → AH → Prop) (step : ∀ k f h, I k f h → Ev P G md nt c f h fun x f' h' => match x with
      | .normal => ∃ j, j < k ∧ I j f' h'
      | x => Q x f' h') : ∀ (k : Nat) (f : Fr) (h : AH), I k f h → Ev P G md nt (.loop c) f h Q := by
  intro k
  induction k using Nat.strongRecOn with
  | _ k ih =>
    intro f h hI
    obtain ⟨n, x, f1, h1, he, q⟩ := step k f h hI
    have out : ∀ x, x ≠ .normal → Q x f1 h1 → evC P G (runF P G md n) nt n c f h = some (x, f1, h1) → Ev P G md nt (.loop c) f h Q := by
      intro x hx q he
      refine ⟨n + 1, x, f1, h1, ?_, q⟩
      simp only [evC]
      rw [evC_mono (runF_mono (Nat.le_succ n)) n n (Nat.le_refl n) _ _ _ _ he]
      cases x <;> first | exact absurd rfl hx | rfl
    cases x with
    | normal =>
      obtain ⟨j, hj, hI'⟩ := q
      obtain ⟨m, y, f2, h2, he2, q2⟩ := ih j hj _ _ hI'
      refine ⟨max n m + 1, y, f2, h2, ?_, q2⟩
      simp only [evC]
      rw [evC_mono (runF_mono (show n ≤ max n m + 1 by omega)) n (max n m) (by omega) _ _ _ _ he]
      exact evC_mono (runF_mono (show m ≤ max n m + 1 by omega)) m (max n m) (by omega) _ _ _ _ he2
    | exit i => exact out _ (by simp) q he
    | ret => exact out _ (by simp) q he
    | panic v => exact out _ (by simp) q he

def modeX : EX → Option Mo
  | .normal | .ret => some .ret
  | .panic v => some (.pan v)
  | .exit _ => none
def Ends (P : Program) (G : Glob) (md : FuncId → Md) (fn : Func) (Q : RA → Prop) (x : EX) (f : Fr) (h : AH) : Prop := ∃ m n r, modeX x = some m ∧ runD P G (runF P G md n) n fn f f.ds m h = some r ∧ Q r
theorem runA_of {fn : Func} {c : Code} {args : List PV} {h : AH} {Q : RA → Prop} (he : Ev P G md (some fn.ntmps) c (layArgs 0 args Fr.none) h (Ends P G md fn Q)) : ∃ n r, runA P G (runF P G md n) n fn c args h = some r ∧ Q r := by
  obtain ⟨n, x, f1, h1, he1, mo, m, r, hx, hd, q⟩ := he
  refine ⟨max n m, r, ?_, q⟩
  unfold runA
  rw [Ev.up (Nat.le_max_left n m) he1]
  have hd' := runD_mono (runF_mono (P := P) (G := G) (md := md) (Nat.le_max_right n m)) (Nat.le_max_right n m) _ _ _ _ hd
  cases x with
  | normal => cases hx; exact hd'
  | ret => cases hx; exact hd'
  | panic v => cases hx; exact hd'
  | exit i => cases hx
theorem CR.pure {k : FuncId} {fn : Func} {c : Code} {args : List PV} {v : PV} (hf : P.funcs[k]? = some fn) (hb : fn.body = some c) (hn : (fn.name == "runtime.NumGoroutine") = false) (hm : md k = .pure) (hcl : PV.cleans args = true)
    (he : Ev P G md (some fn.ntmps) c (layArgs 0 args Fr.none) .empty (Ends P G md fn fun r => ∃ v' h h', r = .val v' h ∧ frz 100 v' h = some (v, h'))) (h : AH) (fr : Nat) : CR P G md (.fn k) args h fr (.val v) := by
  obtain ⟨n, r, he1, v', h1, h', rfl, q⟩ := runA_of he
  refine ⟨n + 1, ?_⟩
  have : runP P G (runF P G md n) n fn c args = some (.val v) := by
    unfold runP
    rw [he1]
    simp only [q]
  simp only [runF, callB, hf, hb, hn, hm, hcl, this, Bool.false_eq_true, if_true, if_false]
theorem CR.own {k : FuncId} {fn : Func} {c : Code} {args : List PV} {E sz len : Nat} {c' : List PV} (hf : P.funcs[k]? = some fn) (hb : fn.body = some c) (hn : (fn.name == "runtime.NumGoroutine") = false) (hm : md k = .own) (hcl : PV.cleans args = true)
    (he : Ev P G md (some fn.ntmps) c (layArgs 0 args Fr.none) .empty (Ends P G md fn fun r => ∃ id h c0 h2 c2, r = .val (.ow id (len * sz) 0 len) h ∧ h.get id = some (.cells E sz false c0) ∧ c0.length = len * sz ∧ frzL (frz 100) c0 h = some (c', h2) ∧ (∃ E2, h2.get id = some (.cells E2 sz false c2)) ∧ c2.length = c0.length)) (h : AH) (fr : Nat) :
    CR P G md (.fn k) args h fr (.new (.ow fr (len * sz) 0 len) (.cells E sz false c')) := by
  obtain ⟨n, r, he1, id, h1, c0, h2, c2, rfl, q1, q2, q3, ⟨E2, q4⟩, q5⟩ := runA_of he
  refine ⟨n + 1, ?_⟩
  have : runO P G (runF P G md n) n fn c args = some (.row E sz len c') := by
    unfold runO
    rw [he1]
    simp only [q1, q2, q3, q4, q5, and_self, if_true]
  simp only [runF, callB, hf, hb, hn, hm, hcl, this, Bool.false_eq_true, if_true, if_false]
theorem CR.ownV {k : FuncId} {fn : Func} {c : Code} {args : List PV} {v : PV} (hf : P.funcs[k]? = some fn) (hb : fn.body = some c) (hn : (fn.name == "runtime.NumGoroutine") = false) (hm : md k = .own) (hcl : PV.cleans args = true)
    (he : Ev P G md (some fn.ntmps) c (layArgs 0 args Fr.none) .empty (Ends P G md fn fun r => ∃ v' h h', r = .val v' h ∧ (∀ id tot off len, v' ≠ .ow id tot off len) ∧ frz 100 v' h = some (v, h'))) (h : AH) (fr : Nat) : CR P G md (.fn k) args h fr (.val v) := by
  obtain ⟨n, r, he1, v', h1, h2, rfl, q1, q2⟩ := runA_of he
  refine ⟨n + 1, ?_⟩
  have : runO P G (runF P G md n) n fn c args = some (.val v) := by
    unfold runO
    rw [he1]
    cases v' <;> first | exact absurd rfl (q1 _ _ _ _) | simp only [q2]
  simp only [runF, callB, hf, hb, hn, hm, hcl, this, Bool.false_eq_true, if_true, if_false]
theorem CR.shared {k : FuncId} {fn : Func} {c : Code} {args : List PV} {v : PV} {h h' : AH} (hf : P.funcs[k]? = some fn) (hb : fn.body = some c) (hn : (fn.name == "runtime.NumGoroutine") = false) (hm : md k = .shared)
    (he : Ev P G md (some fn.ntmps) c (layArgs 0 args Fr.none) h (Ends P G md fn fun r => r = .val v h')) (fr : Nat) : CR P G md (.fn k) args h fr (.sh v h') := by
  obtain ⟨n, r, he1, rfl⟩ := runA_of he
  refine ⟨n + 1, ?_⟩
  simp only [runF, callB, hf, hb, hn, hm, sharedB, he1, Bool.false_eq_true, if_false]
theorem CR.sharedP {k : FuncId} {fn : Func} {c : Code} {args : List PV} {v : PV} {h h' : AH} (hf : P.funcs[k]? = some fn) (hb : fn.body = some c) (hn : (fn.name == "runtime.NumGoroutine") = false) (hm : md k = .shared)
    (he : Ev P G md (some fn.ntmps) c (layArgs 0 args Fr.none) h (Ends P G md fn fun r => r = .pan v h')) (fr : Nat) : CR P G md (.fn k) args h fr (.pan v h') := by
  obtain ⟨n, r, he1, rfl⟩ := runA_of he
  refine ⟨n + 1, ?_⟩
  simp only [runF, callB, hf, hb, hn, hm, sharedB, he1, Bool.false_eq_true, if_false]
theorem CR.lib {k : FuncId} {args : List PV} {r : CRes} {F : List PV → AH → Nat → Option CRes} (hm : md k = .lib F) {h : AH} {fr : Nat} (he : F args h fr = some r) : CR P G md (.fn k) args h fr r :=
  ⟨1, by simp only [runF, callB, hm, he]⟩
theorem runD_nil {call : CallF} {n : Nat} {fn : Func} {f : Fr} {h : AH} {l : List PV} (hr : resA P f h fn.results.toList = some l) : runD P G call n fn f [] .ret h = some (.val (oneOf l) h) := by
  simp only [runD, hr]
end
end Go.Ac
namespace Go.Ac
open Go.RowKit
set_option linter.unusedSimpArgs false

def Gh.start (W : World) : Gh :=
  { ro := fun b => match W.heap[b]? with
      | some (.cells c _ _) => some c.toList
      | _ => none
    bl := fun _ => 0, tt := fun _ => none, sz := fun _ => 0, cp := fun _ => 0, al := fun _ => False }
theorem start_ro {W : World} {b : Nat} {c : Array Value} {E : TypeId} {z : Nat × Nat} (h : W.heap[b]? = some (.cells c E z)) : (Gh.start W).ro b = some c.toList := by
  simp [Gh.start, h]
theorem start_rel (W : World) : WRel (Gh.start W) AH.empty W.heap.size W W := by
  refine ⟨Below.refl _ _, Nat.le_refl _, fun b C hb => ?_, fun id o ho => by rw [AH.get_empty] at ho; simp at ho, fun id _ o _ ho => by rw [AH.get_empty] at ho; simp at ho, fun _ _ => rfl⟩
  simp only [Gh.start] at hb
  split at hb
  · rename_i c E z hc
    obtain rfl := Option.some.inj hb
    exact ⟨c, E, z, hc, fun i v hv => by rw [← Array.getElem?_toList]; exact hv⟩
  · simp at hb
theorem cell_ro {W : World} {a : Addr} {v : Value} (h : W.cell? a = some v) : a.spot = none ∧ ∃ C, (Gh.start W).ro a.block = some C ∧ C[a.off]? = some v := by
  unfold World.cell? at h
  split at h
  · rename_i c E z hc
    split at h
    · simp at h
    · rename_i hs
      refine ⟨by simpa using hs, c.toList, start_ro hc, by rw [Array.getElem?_toList]; exact h⟩
  · simp at h
theorem addr_add_off (a : Addr) (i : Nat) : (a.add i).off = a.off + i ∧ (a.add i).block = a.block := by
  unfold Addr.add
  split
  · subst_vars; exact ⟨rfl, rfl⟩
  · exact ⟨rfl, rfl⟩

theorem reps_ints (g : Gh) (k : IntKind) : ∀ (zs : List Int), Reps g (zs.map (PV.int k)) (zs.map (Value.int k))
  | [] => .nil
  | z :: zs => .cons _ _ _ _ (.int k z) (reps_ints g k zs)
theorem cleans_ints (k : IntKind) (zs : List Int) : PV.cleans (zs.map (PV.int k)) = true := PV.cleans_iff.2 fun x hx => by
  obtain ⟨z, _, rfl⟩ := List.mem_map.1 hx
  rfl
theorem ones_ints (k : IntKind) (zs : List Int) : PV.ones (zs.map (PV.int k)) = true := by
  simp only [PV.ones, List.all_eq_true]
  intro x hx
  obtain ⟨z, _, rfl⟩ := List.mem_map.1 hx
  rfl
theorem rep_table {W : World} {b : Nat} {k : IntKind} {zs : List Int} (h0 : zs ≠ []) (h : ∀ (i : Nat) (z : Int), zs[i]? = some z → W.cell? ⟨b, i, none⟩ = some (.int k z)) : Rep (Gh.start W) (.rop (zs.map (PV.int k))) (.pointer (some ⟨b, 0, none⟩)) := by
  cases zs with
  | nil => exact absurd rfl h0
  | cons z0 zs =>
    obtain ⟨_, C, hC, _⟩ := cell_ro (h 0 z0 rfl)
    refine .rop _ ((z0 :: zs).map (Value.int k)) C _ (reps_ints _ _ _) (cleans_ints _ _) (ones_ints _ _) hC rfl fun i v hv => ?_
    rw [List.getElem?_map] at hv
    obtain ⟨z, hz, rfl⟩ := Option.map_eq_some_iff.1 hv
    obtain ⟨_, C', hC', hc⟩ := cell_ro (h i z hz)
    rw [show C' = C from Option.some.inj (hC'.symm.trans hC)] at hc
    simpa using hc
theorem cell_of_table {g : Gh} {w : World} {b : Nat} {k : IntKind} {zs : List Int} (hr : Rep g (.rop (zs.map (PV.int k))) (.pointer (some ⟨b, 0, none⟩)))
    (ros : ∀ b C, g.ro b = some C → ∃ c E z, w.heap[b]? = some (.cells c E z) ∧ ∀ (i : Nat) (v : Value), C[i]? = some v → c[i]? = some v) (i : Nat) (z : Int) (hz : zs[i]? = some z) : w.cell? ⟨b, i, none⟩ = some (.int k z) := by
  cases hr with
  | rop _ vs C _ h1 h2 h3 h4 h5 h6 =>
    obtain ⟨c, E, q, e1, e2⟩ := ros _ _ h4
    obtain ⟨u, e3, e4⟩ := h1.get i (.int k z) (by rw [List.getElem?_map, hz]; rfl)
    cases e4 with
    | int =>
      have := e2 _ _ (h6 i _ e3)
      unfold World.cell?
      rw [e1]
      simpa using this

section
variable {P : Program} {G : Glob} {md : FuncId → Md}
def CRes.says (v : PV) : CRes → Prop
  | .val u => u = v
  | .new u _ => u = v
  | .sh u _ => u = v
  | .pan _ _ => False
theorem CR.calls (hP : okP P = true) (hlib : ∀ k F, md k = .lib F → LibOk P G k F) {k : FuncId} {fn : Func} {c : Code} (hf : P.funcs[k]? = some fn) (hb : fn.body = some c) (hname : (fn.name == "runtime.NumGoroutine") = false) {args : List PV} {v : PV} {r : CRes} (hr : r.says v) (h : CR P G md (.fn k) args .empty 0 r)
    {W : World} {vs : Array Value} (hG : GlobOk (Gh.start W) G) (ha : Reps (Gh.start W) args vs.toList) : Calls P k vs W fun e W' => ∃ u g', e = .returned u ∧ Rep g' v u ∧ Below W.heap.size W W' := by
  obtain ⟨n, hn⟩ := h
  have hN := (runF_ok hP hlib n).1 (.fn k) args .empty 0 r hn (Gh.start W) W.heap.size W W vs 0 hG (start_rel W) (fun id q => q.elim) (fun q => q.elim) ha (fun id e => by cases e)
  have hU := hN none { tmps := #[undef], defers := [] } { dst := some 0, op := .move (.const undef), type := 0, pos := "", after := #[], guard := none }
    (fun a' w' => ∃ u g', a'.tmps = #[u] ∧ Rep g' v u ∧ Below W.heap.size W w') (fun _ _ _ => False) ?_ ?_
  · have he : (tgtSem 0 vs (.fn k)).run P W = .ok (.enter k vs) W := callFunc_run hf hb (by simp [hname]) vs W
    rw [he] at hU
    have hU2 := hU.2
    have hC : Calls P k vs W _ := callsIn_wide.1 (show CallsIn Fence.wide (0 - 1) P k vs W _ from hU2)
    refine hC.mono ?_
    intro e w' q
    cases e with
    | returned u =>
      obtain ⟨u', g', e1, e2, e3⟩ := q
      have : u' = u := by
        have e4 : (#[u] : Array Value) = #[u'] := by simpa [Act.put] using e1
        simpa using e4.symm
      subst this
      exact ⟨u', g', rfl, e2, e3⟩
    | panicked ch => exact q.elim
    | outgrown => obtain ⟨_, _, q⟩ := q; exact q.elim
  · intro u w' hR
    cases r with
    | val x =>
      obtain rfl : x = v := hr
      obtain ⟨_, g', _, _, _, hw, _, hru⟩ := hR
      exact ⟨u, g', rfl, hru, hw.below⟩
    | new x o =>
      obtain rfl : x = v := hr
      obtain ⟨_, g', _, _, _, hw, _, hru⟩ := hR
      exact ⟨u, g', rfl, hru, hw.below⟩
    | sh x o =>
      obtain rfl : x = v := hr
      obtain ⟨_, g', _, _, _, hw, _, hru⟩ := hR
      exact ⟨u, g', rfl, hru, hw.below⟩
    | pan x o => exact hr.elim
  · intro u w' hR
    cases r with
    | val x => exact absurd hR.1 (by simp)
    | new x o => exact absurd hR.1 (by simp)
    | sh x o => exact absurd hR.1 (by simp)
    | pan x o => exact hr.elim
theorem CR.calls_true (hP : okP P = true) (hlib : ∀ k F, md k = .lib F → LibOk P G k F) {k : FuncId} {fn : Func} {c : Code} (hf : P.funcs[k]? = some fn) (hb : fn.body = some c) (hname : (fn.name == "runtime.NumGoroutine") = false) {args : List PV} {r : CRes} (hr : r.says (.bool true)) (h : CR P G md (.fn k) args .empty 0 r)
    {W : World} {vs : Array Value} (hG : GlobOk (Gh.start W) G) (ha : Reps (Gh.start W) args vs.toList) : Calls P k vs W fun e W' => e = .returned (.bool true) ∧ Below W.heap.size W W' := by
  refine (CR.calls hP hlib hf hb hname hr h hG ha).mono ?_
  rintro e W' ⟨u, g', rfl, hu, hb⟩
  cases hu
  exact ⟨rfl, hb⟩
end
end Go.Ac
namespace Go.Ac
open Go.RowKit
set_option linter.unusedSimpArgs false

section
variable {P : Program} {G : Glob} {md : FuncId → Md}

def isDfr (o : Oper) : Bool := match o.op with
  | .defer _ => true
  | _ => false
def noDf : Code → Bool
  | .region _ ops _ => ops.toList.all fun o => !isDfr o
  | .seq a b | .cond _ a b => noDf a && noDf b
  | .block _ c | .loop c => noDf c
  | .rangeFunc .. => false
  | _ => true
theorem not_dfr {ρ : Operand → PV} {h : AH} {fr : Nat} {o : Oper} (ho : isDfr o = false) : ∀ k args, aop P ρ h fr o ≠ some (.dfr k args) := by
  intro k args e
  refine aop_nodefer2 e ?_
  unfold isDfr at ho
  intro c hc
  rw [hc] at ho
  simp at ho
theorem evOps_ds {call : CallF} {rd : Bool} {ops : Array Oper} {base : Nat} : ∀ (l : List Oper) (i : Nat) (f : Fr) (h : AH) (r : OX), (∀ o ∈ l, isDfr o = false) → evOps P G call rd ops base i l f h = some r → (match r with
    | .normal f' _ => f'.ds
    | .panic _ f' _ => f'.ds) = f.ds
  | [], _, f, h, r, _, he => by
    simp only [evOps, Option.some.injEq] at he
    subst he
    rfl
  | o :: rest, i, f, h, r, hn, he => by
    have ih := fun i f' h' (e : f'.ds = f.ds) he => (evOps_ds (call := call) (rd := rd) (ops := ops) (base := base) rest i f' h' r (fun o ho => hn o (List.mem_cons_of_mem _ ho)) he).trans e
    simp only [evOps] at he
    split at he
    · simp at he
    · exact ih _ _ _ (ds_putA _ _ _) he
    · split at he
      · exact ih _ _ _ (ds_putA _ _ _) he
      · exact ih _ _ _ (ds_putA _ _ _) he
      · split at he
        · exact ih _ _ _ (ds_putA _ _ _) he
        · exact ih _ _ _ (ds_putA _ _ _) he
        · exact ih _ _ _ (ds_putA _ _ _) he
        · obtain rfl := Option.some.inj he; rfl
        · simp at he
      · obtain rfl := Option.some.inj he; rfl
      · rename_i k args ha
        exact absurd ha (not_dfr (hn o List.mem_cons_self) _ _)
      · simp at he
theorem evD_ds {call : CallF} {ops : Array Oper} {base : Nat} : ∀ (l : List Oper) (i : Nat) (f : Fr) (h : AH) (lg : List (Nat × Nat)) (r : OX), evD P G call ops base i l f h lg = some r → (match r with
    | .normal f' _ => f'.ds
    | .panic _ f' _ => f'.ds) = f.ds
  | [], _, f, h, _, r, he => by
    simp only [evD, Option.some.injEq] at he
    subst he
    rfl
  | o :: rest, i, f, h, lg, r, he => by
    have ih := fun i f' h' lg (e : f'.ds = f.ds) he => (evD_ds (call := call) (ops := ops) (base := base) rest i f' h' lg r he).trans e
    simp only [evD] at he
    split at he
    · simp at he
    · exact ih _ _ _ _ (ds_putA _ _ _) he
    · split at he
      · split at he
        · exact ih _ _ _ _ (ds_putA _ _ _) he
        · split at he
          · exact ih _ _ _ _ (ds_putA _ _ _) he
          · split at he
            · split at he
              · exact ih _ _ _ _ (ds_putA _ _ _) he
              · exact ih _ _ _ _ (ds_putA _ _ _) he
            · simp at he
        · split at he
          · exact ih _ _ _ _ (ds_putA _ _ _) he
          · exact ih _ _ _ _ (ds_putA _ _ _) he
          · split at he
            · exact ih _ _ _ _ (ds_putA _ _ _) he
            · simp at he
          · split at he
            · obtain rfl := Option.some.inj he; exact wipe_ds _ _
            · simp at he
          · simp at he
        · split at he
          · obtain rfl := Option.some.inj he; exact wipe_ds _ _
          · simp at he
        · simp at he
      · simp at he
theorem evC_ds {call : CallF} {nt : Option Nat} : ∀ (n : Nat) (c : Code) (f : Fr) (h : AH) (x : EX) (f' : Fr) (h' : AH), noDf c = true → evC P G call nt n c f h = some (x, f', h') → f'.ds = f.ds
  | 0, _, _, _, _, _, _, _, he => by simp [evC] at he
  | n + 1, c, f, h, x, f', h', hn, he => by
    have ih := fun c f h x f' h' hn he => evC_ds (call := call) (nt := nt) n c f h x f' h' hn he
    cases c with
    | skip => simp only [evC, Option.some.injEq, Prod.mk.injEq] at he; rw [he.2.1]
    | label _ => simp only [evC, Option.some.injEq, Prod.mk.injEq] at he; rw [he.2.1]
    | ret => simp only [evC, Option.some.injEq, Prod.mk.injEq] at he; rw [he.2.1]
    | exit _ => simp only [evC, Option.some.injEq, Prod.mk.injEq] at he; rw [he.2.1]
    | seq a b =>
      simp only [noDf, Bool.and_eq_true] at hn
      simp only [evC] at he
      split at he
      · rename_i f1 h1 he1
        exact (ih b f1 h1 x f' h' hn.2 he).trans (ih a f h _ f1 h1 hn.1 he1)
      · exact ih a f h x f' h' hn.1 he
    | cond y a b =>
      simp only [noDf, Bool.and_eq_true] at hn
      simp only [evC] at he
      split at he
      · split at he
        · exact ih a f h x f' h' hn.1 he
        · exact ih b f h x f' h' hn.2 he
      · simp at he
    | block id c =>
      simp only [noDf] at hn
      simp only [evC] at he
      split at he
      · rename_i f1 h1 he1
        have := ih c f h _ f1 h1 hn he1
        split at he
        · simp only [Option.some.injEq, Prod.mk.injEq] at he; rw [← he.2.1]; exact this
        · simp only [Option.some.injEq, Prod.mk.injEq] at he; rw [← he.2.1]; exact this
      · exact ih c f h x f' h' hn he
    | loop c =>
      simp only [noDf] at hn
      simp only [evC] at he
      split at he
      · rename_i f1 h1 he1
        exact (ih (.loop c) f1 h1 x f' h' hn he).trans (ih c f h _ f1 h1 hn he1)
      · exact ih c f h x f' h' hn he
    | region rid ops draw =>
      simp only [noDf, List.all_eq_true, Bool.not_eq_true'] at hn
      simp only [evC] at he
      split at he
      · obtain ⟨y, h1, h2⟩ := oxE_some he
        have := evD_ds _ _ _ _ _ _ h1
        cases y <;> (simp only [oxE, Option.some.injEq, Prod.mk.injEq] at h2; rw [← h2.2.1]; exact this)
      · obtain ⟨y, h1, h2⟩ := oxE_some he
        have := evOps_ds _ _ _ _ _ hn h1
        cases y <;> (simp only [oxE, Option.some.injEq, Prod.mk.injEq] at h2; rw [← h2.2.1]; exact this)
    | rangeFunc _ _ _ _ => simp [noDf] at hn
    | _ => simp [evC] at he

def KS (P : Program) (G : Glob) (md : FuncId → Md) (nt : Option Nat) (b : Code) (Q : EX → Fr → AH → Prop) : EX → Fr → AH → Prop := fun x f' h' => match x with
  | .normal => wpC P G md nt b f' h' Q
  | x => Q x f' h'
def KB (id : Nat) (Q : EX → Fr → AH → Prop) : EX → Fr → AH → Prop := fun x f' h' => match x with
  | .exit id' => if id' = id then Q .normal f' h' else Q (.exit id') f' h'
  | x => Q x f' h'
section
variable {nt : Option Nat}
theorem KS_normal (b : Code) (Q : EX → Fr → AH → Prop) (f : Fr) (h : AH) : KS P G md nt b Q .normal f h = wpC P G md nt b f h Q := rfl
theorem KS_ret (b : Code) (Q : EX → Fr → AH → Prop) (f : Fr) (h : AH) : KS P G md nt b Q .ret f h = Q .ret f h := rfl
theorem KS_exit (b : Code) (Q : EX → Fr → AH → Prop) (i : Nat) (f : Fr) (h : AH) : KS P G md nt b Q (.exit i) f h = Q (.exit i) f h := rfl
theorem KS_panic (b : Code) (Q : EX → Fr → AH → Prop) (v : PV) (f : Fr) (h : AH) : KS P G md nt b Q (.panic v) f h = Q (.panic v) f h := rfl
theorem KB_normal (id : Nat) (Q : EX → Fr → AH → Prop) (f : Fr) (h : AH) : KB id Q .normal f h = Q .normal f h := rfl
theorem KB_ret (id : Nat) (Q : EX → Fr → AH → Prop) (f : Fr) (h : AH) : KB id Q .ret f h = Q .ret f h := rfl
theorem KB_panic (id : Nat) (Q : EX → Fr → AH → Prop) (v : PV) (f : Fr) (h : AH) : KB id Q (.panic v) f h = Q (.panic v) f h := rfl
theorem KB_same (id : Nat) (Q : EX → Fr → AH → Prop) (f : Fr) (h : AH) : KB id Q (.exit id) f h = Q .normal f h := by simp [KB]
theorem KB_exit (id i : Nat) (Q : EX → Fr → AH → Prop) (f : Fr) (h : AH) (e : i ≠ id) : KB id Q (.exit i) f h = Q (.exit i) f h := by simp [KB, e]
theorem outX_normal (Q : EX → Fr → AH → Prop) (f : Fr) (h : AH) : outX Q (.normal f h) = Q .normal f h := rfl
theorem outX_panic (Q : EX → Fr → AH → Prop) (v : PV) (f : Fr) (h : AH) : outX Q (.panic v f h) = Q (.panic v) f h := rfl

theorem wpC_seq (a b : Code) (f : Fr) (h : AH) (Q : EX → Fr → AH → Prop) : wpC P G md nt (.seq a b) f h Q = wpC P G md nt a f h (KS P G md nt b Q) := rfl
theorem wpC_skip (f : Fr) (h : AH) (Q : EX → Fr → AH → Prop) : wpC P G md nt .skip f h Q = Q .normal f h := rfl
theorem wpC_label (l : Nat) (f : Fr) (h : AH) (Q : EX → Fr → AH → Prop) : wpC P G md nt (.label l) f h Q = Q .normal f h := rfl
theorem wpC_ret (f : Fr) (h : AH) (Q : EX → Fr → AH → Prop) : wpC P G md nt .ret f h Q = Q .ret f h := rfl
theorem wpC_exit (i : Nat) (f : Fr) (h : AH) (Q : EX → Fr → AH → Prop) : wpC P G md nt (.exit i) f h Q = Q (.exit i) f h := rfl
theorem wpC_block (i : Nat) (c : Code) (f : Fr) (h : AH) (Q : EX → Fr → AH → Prop) : wpC P G md nt (.block i c) f h Q = wpC P G md nt c f h (KB i Q) := rfl
theorem wpC_cond (x : Operand) (a b : Code) (f : Fr) (h : AH) (Q : EX → Fr → AH → Prop) : wpC P G md nt (.cond x a b) f h Q = (match opnd G f.at x with
    | .bool t => if t then wpC P G md nt a f h Q else wpC P G md nt b f h Q
    | _ => False) := rfl
theorem wpC_region (n i : Nat) (ops : Array Oper) (f : Fr) (h : AH) (Q : EX → Fr → AH → Prop) : wpC P G md (some n) (.region i ops false) f h Q = wpO P G md false ops h.next 0 ops.toList f (h.up ops.size) (outX Q) := rfl
theorem wpC_regionR (i : Nat) (ops : Array Oper) (f : Fr) (h : AH) (Q : EX → Fr → AH → Prop) : wpC P G md none (.region i ops false) f h Q = wpO P G md true ops h.next 0 ops.toList f (h.up ops.size) (outX Q) := rfl
theorem wpC_draw (i : Nat) (ops : Array Oper) (f : Fr) (h : AH) (Q : EX → Fr → AH → Prop) : wpC P G md nt (.region i ops true) f h Q = wpD P G md ops h.next 0 ops.toList f (h.up ops.size) [] (outX Q) := rfl
end
variable {rd : Bool}
theorem wpO_nil (ops : Array Oper) (base i : Nat) (f : Fr) (h : AH) (Q : OX → Prop) : wpO P G md rd ops base i [] f h Q = Q (.normal f h) := rfl
theorem wpD_nil (ops : Array Oper) (base i : Nat) (f : Fr) (h : AH) (lg : List (Nat × Nat)) (Q : OX → Prop) : wpD P G md ops base i [] f h lg Q = Q (.normal f h) := rfl

def goO (P : Program) (G : Glob) (md : FuncId → Md) (rd : Bool) (ops : Array Oper) (base i : Nat) (rest : List Oper) (d : Option Tmp) (f : Fr) (h : AH) (Q : OX → Prop) : Option OR → Prop
  | some (.q v) => wpO P G md rd ops base (i + 1) rest (putA f d v) h Q
  | some (.w v id ob) => wpO P G md rd ops base (i + 1) rest (putA f d v) (h.set id ob) Q
  | some (.call t args) => ∃ r, CR P G md t args h (base + i) r ∧ match r with
    | .val v => wpO P G md rd ops base (i + 1) rest (putA f d v) h Q
    | .new v ob => wpO P G md rd ops base (i + 1) rest (putA f d v) (h.set (base + i) ob) Q
    | .sh v h' => wpO P G md rd ops base (i + 1) rest (putA f d v) h' Q
    | .pan v h' => Q (.panic v f h')
  | some (.pan v) => Q (.panic v f h)
  | some (.dfr k args) => rd = false ∧ wpO P G md rd ops base (i + 1) rest (putA ⟨f.t, .call k args :: f.ds⟩ d .undef) h Q
  | none => False
def goD (P : Program) (G : Glob) (md : FuncId → Md) (ops : Array Oper) (base i : Nat) (rest : List Oper) (d : Option Tmp) (f : Fr) (h : AH) (lg : List (Nat × Nat)) (Q : OX → Prop) : Option OR → Prop
  | some (.q v) => wpD P G md ops base (i + 1) rest (putA f d v) h lg Q
  | some (.w v id ob) =>
    if id = base + i then wpD P G md ops base (i + 1) rest (putA f d v) (h.set id ob) lg Q
    else ford ops i (opnd G f.at) base id lg = true ∧ wpD P G md ops base (i + 1) rest (putA f d v) (h.set id ob) (if lone ops i then lg else (i, id) :: lg) Q
  | some (.call t args) => ∃ r, CR P G md t args h (base + i) r ∧ match r with
    | .val v => wpD P G md ops base (i + 1) rest (putA f d v) h lg Q
    | .new v ob => wpD P G md ops base (i + 1) rest (putA f d v) (h.set (base + i) ob) lg Q
    | .sh v h' => (fore ops i && lone ops i) = true ∧ wpD P G md ops base (i + 1) rest (putA f d v) h' lg Q
    | .pan v h' => (fore ops i && lone ops i && aft ops i) = true ∧ Q (.panic v (wipe ops.toList f) h')
  | some (.pan v) => (fore ops i && lone ops i && aft ops i) = true ∧ Q (.panic v (wipe ops.toList f) h)
  | _ => False
def gdO (P : Program) (G : Glob) (md : FuncId → Md) (rd : Bool) (ops : Array Oper) (base i : Nat) (o : Oper) (rest : List Oper) (f : Fr) (h : AH) (Q : OX → Prop) : Option Bool → Prop
  | some true => goO P G md rd ops base i rest o.dst f h Q (aop P (opnd G f.at) h (base + i) o)
  | some false => wpO P G md rd ops base (i + 1) rest (putA f o.dst (.tup [])) h Q
  | none => False
def gdD (P : Program) (G : Glob) (md : FuncId → Md) (ops : Array Oper) (base i : Nat) (o : Oper) (rest : List Oper) (f : Fr) (h : AH) (lg : List (Nat × Nat)) (Q : OX → Prop) : Option Bool → Prop
  | some true => chk ops lg i (foot (opnd G f.at) o) = true ∧ goD P G md ops base i rest o.dst f h lg Q (aop P (opnd G f.at) h (base + i) o)
  | some false => wpD P G md ops base (i + 1) rest (putA f o.dst (.tup [])) h lg Q
  | none => False
theorem wpO_go (ops : Array Oper) (base i : Nat) (o : Oper) (rest : List Oper) (f : Fr) (h : AH) (Q : OX → Prop) :
    wpO P G md rd ops base i (o :: rest) f h Q = gdO P G md rd ops base i o rest f h Q (wantA ops f.at o) := by
  rw [wpO]
  cases wantA ops f.at o with
  | none => rfl
  | some b =>
    cases b with
    | false => rfl
    | true =>
      simp only [gdO]
      cases aop P (opnd G f.at) h (base + i) o with
      | none => rfl
      | some x => cases x <;> rfl
theorem wpD_go (ops : Array Oper) (base i : Nat) (o : Oper) (rest : List Oper) (f : Fr) (h : AH) (lg : List (Nat × Nat)) (Q : OX → Prop) :
    wpD P G md ops base i (o :: rest) f h lg Q = gdD P G md ops base i o rest f h lg Q (wantA ops f.at o) := by
  rw [wpD]
  cases wantA ops f.at o with
  | none => rfl
  | some b =>
    cases b with
    | false => rfl
    | true =>
      simp only [gdD]
      cases aop P (opnd G f.at) h (base + i) o with
      | none => rfl
      | some x => cases x <;> rfl
theorem gdO_true (ops : Array Oper) (base i : Nat) (o : Oper) (rest : List Oper) (f : Fr) (h : AH) (Q : OX → Prop) : gdO P G md rd ops base i o rest f h Q (some true) = goO P G md rd ops base i rest o.dst f h Q (aop P (opnd G f.at) h (base + i) o) := rfl
theorem gdO_false (ops : Array Oper) (base i : Nat) (o : Oper) (rest : List Oper) (f : Fr) (h : AH) (Q : OX → Prop) : gdO P G md rd ops base i o rest f h Q (some false) = wpO P G md rd ops base (i + 1) rest (putA f o.dst (.tup [])) h Q := rfl
theorem gdD_false (ops : Array Oper) (base i : Nat) (o : Oper) (rest : List Oper) (f : Fr) (h : AH) (lg : List (Nat × Nat)) (Q : OX → Prop) : gdD P G md ops base i o rest f h lg Q (some false) = wpD P G md ops base (i + 1) rest (putA f o.dst (.tup [])) h lg Q := rfl
theorem gdD_true (ops : Array Oper) (base i : Nat) (o : Oper) (rest : List Oper) (f : Fr) (h : AH) (Q : OX → Prop) : gdD P G md ops base i o rest f h [] Q (some true) = goD P G md ops base i rest o.dst f h [] Q (aop P (opnd G f.at) h (base + i) o) := by
  simp only [gdD, chk, List.all_nil, true_and]
theorem gdD_log (ops : Array Oper) (base i : Nat) (o : Oper) (rest : List Oper) (f : Fr) (h : AH) (lg : List (Nat × Nat)) (Q : OX → Prop) : gdD P G md ops base i o rest f h lg Q (some true) = (chk ops lg i (foot (opnd G f.at) o) = true ∧ goD P G md ops base i rest o.dst f h lg Q (aop P (opnd G f.at) h (base + i) o)) := rfl
theorem goO_q (ops : Array Oper) (base i : Nat) (rest : List Oper) (d : Option Tmp) (f : Fr) (h : AH) (Q : OX → Prop) (v : PV) : goO P G md rd ops base i rest d f h Q (some (.q v)) = wpO P G md rd ops base (i + 1) rest (putA f d v) h Q := rfl
theorem goO_w (ops : Array Oper) (base i : Nat) (rest : List Oper) (d : Option Tmp) (f : Fr) (h : AH) (Q : OX → Prop) (v : PV) (id : Nat) (ob : AO) : goO P G md rd ops base i rest d f h Q (some (.w v id ob)) = wpO P G md rd ops base (i + 1) rest (putA f d v) (h.set id ob) Q := rfl
theorem goO_pan (ops : Array Oper) (base i : Nat) (rest : List Oper) (d : Option Tmp) (f : Fr) (h : AH) (Q : OX → Prop) (v : PV) : goO P G md rd ops base i rest d f h Q (some (.pan v)) = Q (.panic v f h) := rfl
theorem goO_call (ops : Array Oper) (base i : Nat) (rest : List Oper) (d : Option Tmp) (f : Fr) (h : AH) (Q : OX → Prop) (t : Tgt) (args : List PV) : goO P G md rd ops base i rest d f h Q (some (.call t args)) =
    ∃ r, CR P G md t args h (base + i) r ∧ match r with
    | .val v => wpO P G md rd ops base (i + 1) rest (putA f d v) h Q
    | .new v ob => wpO P G md rd ops base (i + 1) rest (putA f d v) (h.set (base + i) ob) Q
    | .sh v h' => wpO P G md rd ops base (i + 1) rest (putA f d v) h' Q
    | .pan v h' => Q (.panic v f h') := rfl
theorem goD_q (ops : Array Oper) (base i : Nat) (rest : List Oper) (d : Option Tmp) (f : Fr) (h : AH) (lg : List (Nat × Nat)) (Q : OX → Prop) (v : PV) : goD P G md ops base i rest d f h lg Q (some (.q v)) = wpD P G md ops base (i + 1) rest (putA f d v) h lg Q := rfl
theorem goD_w (ops : Array Oper) (base i : Nat) (rest : List Oper) (d : Option Tmp) (f : Fr) (h : AH) (lg : List (Nat × Nat)) (Q : OX → Prop) (v : PV) (id : Nat) (ob : AO) : goD P G md ops base i rest d f h lg Q (some (.w v id ob)) =
    if id = base + i then wpD P G md ops base (i + 1) rest (putA f d v) (h.set id ob) lg Q
    else ford ops i (opnd G f.at) base id lg = true ∧ wpD P G md ops base (i + 1) rest (putA f d v) (h.set id ob) (if lone ops i then lg else (i, id) :: lg) Q := rfl
theorem goD_new (ops : Array Oper) (base i : Nat) (rest : List Oper) (d : Option Tmp) (f : Fr) (h : AH) (lg : List (Nat × Nat)) (Q : OX → Prop) (v : PV) (ob : AO) : goD P G md ops base i rest d f h lg Q (some (.w v (base + i) ob)) = wpD P G md ops base (i + 1) rest (putA f d v) (h.set (base + i) ob) lg Q := by
  rw [goD_w, if_pos rfl]
theorem goO_known {ops : Array Oper} {base i : Nat} {rest : List Oper} {d : Option Tmp} {f : Fr} {h : AH} {Q : OX → Prop} {t : Tgt} {args : List PV} {v : PV} (hk : ∀ h fr, CR P G md t args h fr (.val v)) :
    goO P G md rd ops base i rest d f h Q (some (.call t args)) = wpO P G md rd ops base (i + 1) rest (putA f d v) h Q := by
  rw [goO_call]
  refine propext ⟨fun ⟨r, a, b⟩ => ?_, fun a => ⟨.val v, hk _ _, a⟩⟩
  obtain rfl := a.det (hk _ _)
  exact b
theorem goD_known {ops : Array Oper} {base i : Nat} {rest : List Oper} {d : Option Tmp} {f : Fr} {h : AH} {lg : List (Nat × Nat)} {Q : OX → Prop} {t : Tgt} {args : List PV} {v : PV} (hk : ∀ h fr, CR P G md t args h fr (.val v)) :
    goD P G md ops base i rest d f h lg Q (some (.call t args)) = wpD P G md ops base (i + 1) rest (putA f d v) h lg Q := by
  refine propext ⟨fun ⟨r, a, b⟩ => ?_, fun a => ⟨.val v, hk _ _, a⟩⟩
  obtain rfl := a.det (hk _ _)
  exact b
theorem goO_own {ops : Array Oper} {base i : Nat} {rest : List Oper} {d : Option Tmp} {f : Fr} {h : AH} {Q : OX → Prop} {t : Tgt} {args : List PV} {v : Nat → PV} {ob : AO} (hk : ∀ h fr, CR P G md t args h fr (.new (v fr) ob)) :
    goO P G md rd ops base i rest d f h Q (some (.call t args)) = wpO P G md rd ops base (i + 1) rest (putA f d (v (base + i))) (h.set (base + i) ob) Q := by
  rw [goO_call]
  refine propext ⟨fun ⟨r, a, b⟩ => ?_, fun a => ⟨_, hk _ _, a⟩⟩
  obtain rfl := a.det (hk _ _)
  exact b
theorem goD_own {ops : Array Oper} {base i : Nat} {rest : List Oper} {d : Option Tmp} {f : Fr} {h : AH} {lg : List (Nat × Nat)} {Q : OX → Prop} {t : Tgt} {args : List PV} {v : Nat → PV} {ob : AO} (hk : ∀ h fr, CR P G md t args h fr (.new (v fr) ob)) :
    goD P G md ops base i rest d f h lg Q (some (.call t args)) = wpD P G md ops base (i + 1) rest (putA f d (v (base + i))) (h.set (base + i) ob) lg Q := by
  refine propext ⟨fun ⟨r, a, b⟩ => ?_, fun a => ⟨_, hk _ _, a⟩⟩
  obtain rfl := a.det (hk _ _)
  exact b
theorem goO_shared {ops : Array Oper} {base i : Nat} {rest : List Oper} {d : Option Tmp} {f : Fr} {h : AH} {Q : OX → Prop} {t : Tgt} {args : List PV} {v : PV} {h' : AH} (hk : ∀ fr, CR P G md t args h fr (.sh v h')) :
    goO P G md rd ops base i rest d f h Q (some (.call t args)) = wpO P G md rd ops base (i + 1) rest (putA f d v) h' Q := by
  rw [goO_call]
  refine propext ⟨fun ⟨r, a, b⟩ => ?_, fun a => ⟨_, hk _, a⟩⟩
  obtain rfl := a.det (hk _)
  exact b
theorem wantA_none {ops : Array Oper} {F : Nat → PV} {d : Option Tmp} {op : Op} {t : TypeId} {p : String} {af : Array Edge} : wantA ops F ⟨d, op, t, p, af, none⟩ = some true := rfl
def wantY (want : Bool) : Option (Option Bool) → Option Bool
  | some y => some (y == some want)
  | none => none
theorem wantA_some {ops : Array Oper} {F : Nat → PV} {d : Option Tmp} {op : Op} {t : TypeId} {p : String} {af : Array Edge} {j : Nat} {want : Bool} : wantA ops F ⟨d, op, t, p, af, some (j, want)⟩ = wantY want (yieldA ops F j) := by
  simp only [wantA, wantY]
  cases yieldA ops F j <;> rfl
def yieldV (v : PV) : Option (Option Bool) :=
  match v with
  | .bool b => some (some b)
  | .tup [] => some none
  | _ => none
def yieldD (F : Nat → PV) (x : Option Tmp) : Option (Option Bool) :=
  match x with
  | none => some none
  | some d => yieldV (F d)
theorem yieldA_eq (ops : Array Oper) (F : Nat → PV) (j : Nat) : yieldA ops F j = yieldD F ((ops[j]?).bind (·.dst)) := by
  unfold yieldA yieldD yieldV
  cases (ops[j]?).bind (·.dst) <;> rfl
theorem wantY_bool (want b : Bool) : wantY want (yieldV (.bool b)) = some (b == want) := by cases want <;> cases b <;> rfl
theorem wantY_not (want : Bool) : wantY want (yieldV (.tup [])) = some false := rfl
theorem yieldD_some (F : Nat → PV) (d : Tmp) : yieldD F (some d) = yieldV (F d) := rfl

theorem putA_some (f : Fr) (d : Tmp) (v : PV) : putA f (some d) v = f.set d v := rfl
theorem putA_none (f : Fr) (v : PV) : putA f none v = f := rfl

def EndS (P : Program) (rs : List ResultVar) (Q : PV → AH → Prop) : EX → Fr → AH → Prop
  | .normal, f, h | .ret, f, h => RS Q h (resA P f h rs)
  | _, _, _ => False
where RS (Q : PV → AH → Prop) (h : AH) : Option (List PV) → Prop
  | some l => Q (oneOf l) h
  | none => False
theorem EndS_normal (rs : List ResultVar) (Q : PV → AH → Prop) (f : Fr) (h : AH) : EndS P rs Q .normal f h = EndS.RS Q h (resA P f h rs) := propext Iff.rfl
theorem EndS_ret (rs : List ResultVar) (Q : PV → AH → Prop) (f : Fr) (h : AH) : EndS P rs Q .ret f h = EndS.RS Q h (resA P f h rs) := propext Iff.rfl
theorem RS_some (Q : PV → AH → Prop) (h : AH) (l : List PV) : EndS.RS Q h (some l) = Q (oneOf l) h := propext Iff.rfl
def EndV (P : Program) (rs : List ResultVar) (v : PV) : EX → Fr → AH → Prop := EndS P rs fun u _ => u = v
theorem EndV_normal (rs : List ResultVar) (v : PV) (f : Fr) (h : AH) : EndV P rs v .normal f h = EndS.RS (fun u _ => u = v) h (resA P f h rs) := propext Iff.rfl
theorem EndV_ret (rs : List ResultVar) (v : PV) (f : Fr) (h : AH) : EndV P rs v .ret f h = EndS.RS (fun u _ => u = v) h (resA P f h rs) := propext Iff.rfl
theorem EndS_some {rs : List ResultVar} {Q : PV → AH → Prop} {x : EX} {f : Fr} {h : AH} (q : EndS P rs Q x f h) : modeX x = some .ret ∧ ∃ l, resA P f h rs = some l ∧ Q (oneOf l) h := by
  cases x with
  | exit _ => exact q.elim
  | panic _ => exact q.elim
  | normal =>
    rw [EndS_normal] at q
    cases hq : resA P f h rs with
    | none => rw [hq] at q; exact q.elim
    | some l => rw [hq] at q; exact ⟨rfl, l, rfl, q⟩
  | ret =>
    rw [EndS_ret] at q
    cases hq : resA P f h rs with
    | none => rw [hq] at q; exact q.elim
    | some l => rw [hq] at q; exact ⟨rfl, l, rfl, q⟩
def resT (t : Tmp) (f : Fr) : Option (List PV) → Option (List PV)
  | some l => some (f.at t :: l)
  | none => none
theorem resA_tmp (f : Fr) (h : AH) (t : Tmp) (r : List ResultVar) : resA P f h (.tmp t :: r) = resT t f (resA P f h r) := by
  rw [resA]
  cases resA P f h r <;> rfl
theorem resA_nil (f : Fr) (h : AH) : resA P f h [] = some [] := rfl
theorem resT_some (t : Tmp) (f : Fr) (l : List PV) : resT t f (some l) = some (f.at t :: l) := rfl
theorem oneOf_one (v : PV) : oneOf [v] = v := rfl
theorem oneOf_two (a b : PV) : oneOf [a, b] = .tup [a, b] := rfl
theorem oneOf_none : oneOf [] = .tup [] := rfl
theorem tup_two (a b a' b' : PV) : (PV.tup [a, b] = .tup [a', b']) = (a = a' ∧ b = b') := by simp
theorem int_same (k : IntKind) (a b : Int) : (PV.int k a = .int k b) = (a = b) := by simp
theorem bool_same (a b : Bool) : (PV.bool a = .bool b) = (a = b) := by simp
theorem str_same (a b : List UInt8) : (PV.str a = .str b) = (a = b) := by simp
theorem ends_of {fn : Func} {c : Code} {rs : List ResultVar} {args : List PV} {h : AH} {Q : PV → AH → Prop} {R : RA → Prop} (hd : noDf c = true) (hr : fn.results.toList = rs) (hq : ∀ v h', Q v h' → R (.val v h'))
    (he : wpC P G md (some fn.ntmps) c (layArgs 0 args Fr.none) h (EndS P rs Q)) : Ev P G md (some fn.ntmps) c (layArgs 0 args Fr.none) h (Ends P G md fn R) := by
  obtain ⟨n, x, f', h', he1, q⟩ := wpC_ev _ _ _ _ he
  obtain ⟨hx, l, h1, h2⟩ := EndS_some q
  refine ⟨n, x, f', h', he1, .ret, n, .val (oneOf l) h', hx, ?_, hq _ _ h2⟩
  have hds : f'.ds = [] := by rw [evC_ds _ _ _ _ _ _ _ hd he1, layArgs_ds]; rfl
  rw [hds]
  exact runD_nil (by rw [hr]; exact h1)
theorem CR.plain {k : FuncId} {fn : Func} {c : Code} {rs : List ResultVar} {args : List PV} {v : PV} (hf : P.funcs[k]? = some fn) (hb : fn.body = some c) (hn : (fn.name == "runtime.NumGoroutine") = false) (hr : fn.results.toList = rs) (hm : md k = .pure) (hd : noDf c = true) (hcl : PV.cleans args = true) (hv : v.clean = true)
    (he : wpC P G md (some fn.ntmps) c (layArgs 0 args Fr.none) .empty (EndV P rs v)) (h : AH) (fr : Nat) : CR P G md (.fn k) args h fr (.val v) :=
  CR.pure hf hb hn hm hcl (ends_of hd hr (R := fun r => ∃ v' h h', r = .val v' h ∧ frz 100 v' h = some (v, h')) (fun u h' e => ⟨u, h', h', rfl, by rw [e]; simp [frz, hv]⟩) he) h fr
theorem CR.frozen {k : FuncId} {fn : Func} {c : Code} {rs : List ResultVar} {args : List PV} {v : PV} (hf : P.funcs[k]? = some fn) (hb : fn.body = some c) (hn : (fn.name == "runtime.NumGoroutine") = false) (hr : fn.results.toList = rs) (hm : md k = .pure) (hd : noDf c = true) (hcl : PV.cleans args = true)
    (he : wpC P G md (some fn.ntmps) c (layArgs 0 args Fr.none) .empty (EndS P rs fun x h' => ∃ h'', frz 100 x h' = some (v, h''))) (h : AH) (fr : Nat) : CR P G md (.fn k) args h fr (.val v) :=
  CR.pure hf hb hn hm hcl (ends_of hd hr (R := fun r => ∃ v' h h', r = .val v' h ∧ frz 100 v' h = some (v, h')) (fun u h' ⟨h'', e⟩ => ⟨u, h', h'', rfl, e⟩) he) h fr
theorem CR.sh {k : FuncId} {fn : Func} {c : Code} {rs : List ResultVar} {args : List PV} {Q : PV → AH → Prop} {h : AH} (hf : P.funcs[k]? = some fn) (hb : fn.body = some c) (hn : (fn.name == "runtime.NumGoroutine") = false) (hr : fn.results.toList = rs) (hm : md k = .shared) (hd : noDf c = true)
    (he : wpC P G md (some fn.ntmps) c (layArgs 0 args Fr.none) h (EndS P rs Q)) : ∃ v h', (∀ fr, CR P G md (.fn k) args h fr (.sh v h')) ∧ Q v h' := by
  obtain ⟨n, x, f', h', he1, q⟩ := wpC_ev _ _ _ _ he
  obtain ⟨hx, l, h1, h2⟩ := EndS_some q
  refine ⟨oneOf l, h', fun fr => CR.shared hf hb hn hm ⟨n, x, f', h', he1, .ret, n, _, hx, ?_, rfl⟩ fr, h2⟩
  have hds : f'.ds = [] := by rw [evC_ds _ _ _ _ _ _ _ hd he1, layArgs_ds]; rfl
  rw [hds]
  exact runD_nil (by rw [hr]; exact h1)

section
variable {ρ : Operand → PV} {h : AH} {fr : Nat} {d : Option Tmp} {ty : TypeId} {ps : String} {af : Array Edge} {gu : Option (Nat × Bool)}
theorem aop_move (x : Operand) : aop P ρ h fr ⟨d, .move x, ty, ps, af, gu⟩ = some (.q (ρ x)) := rfl
theorem aop_assign (x : Operand) : aop P ρ h fr ⟨d, .assign x, ty, ps, af, gu⟩ = some (.q (ρ x)) := rfl
def pickO (c a b : PV) : Option OR := match c with
  | .bool c => some (.q (if c then a else b))
  | _ => none
theorem aop_pick (c a b : Operand) : aop P ρ h fr ⟨d, .pick c a b, ty, ps, af, gu⟩ = pickO (ρ c) (ρ a) (ρ b) := rfl
theorem pickO_true (a b : PV) : pickO (.bool true) a b = some (.q a) := rfl
theorem pickO_false (a b : PV) : pickO (.bool false) a b = some (.q b) := rfl
theorem pickO_bool (c a b : Bool) : pickO (.bool c) (.bool a) (.bool b) = some (.q (.bool (if c then a else b))) := by cases c <;> rfl
def boxO (fr : Nat) (t : TypeId) (x : PV) : Option OR := if x.goes then some (.w (.ptr fr x.cells.length 0) fr (.cells t 0 false x.cells)) else none
theorem aop_box (t : TypeId) (x : Operand) : aop P ρ h fr ⟨d, .box t x, ty, ps, af, gu⟩ = boxO fr t (ρ x) := rfl
theorem boxO_int (t : TypeId) (k : IntKind) (n : Int) : boxO fr t (.int k n) = some (.w (.ptr fr 1 0) fr (.cells t 0 false [.int k n])) := rfl
theorem boxO_str (t : TypeId) (l : List UInt8) : boxO fr t (.str l) = some (.w (.ptr fr 1 0) fr (.cells t 0 false [.str l])) := rfl
theorem boxO_ptr (t : TypeId) (id tot off : Nat) : boxO fr t (.ptr id tot off) = some (.w (.ptr fr 1 0) fr (.cells t 0 false [.ptr id tot off])) := rfl
theorem boxO_agg (t : TypeId) (c : List PV) : boxO fr t (.agg c) = some (.w (.ptr fr c.length 0) fr (.cells t 0 false c)) := rfl
theorem boxO_bool (t : TypeId) (b : Bool) : boxO fr t (.bool b) = some (.w (.ptr fr 1 0) fr (.cells t 0 false [.bool b])) := rfl
def loadO (P : Program) (t : TypeId) : Option (List PV) → Option OR
  | some c => (readC P t c).map OR.q
  | none => none
theorem aop_load (t : TypeId) (x : Operand) : aop P ρ h fr ⟨d, .load t x, ty, ps, af, gu⟩ = loadO P t (behind h (ρ x)) := by
  unfold loadO
  simp only [aop]
  cases behind h (ρ x) <;> rfl
theorem loadO_one {t : TypeId} {v : PV} {r : List PV} {n : Nat} (ha : tyAgg P t = some false) (hn : tySz P t = some n) : loadO P t (some (v :: r)) = some (.q v) := by
  simp [loadO, readC, ha, hn]
def resL : Option OR → Option (List PV) → Option (List PV)
  | some (.q v), some l => some (v :: l)
  | _, _ => none
theorem resA_cell (f : Fr) (h : AH) (p : Tmp) (t : TypeId) (r : List ResultVar) : resA P f h (.cell p t :: r) = resL (loadO P t (behind h (f.at p))) (resA P f h r) := by
  rw [resA]
  unfold loadO
  cases behind h (f.at p) with
  | none => rfl
  | some c =>
    simp only
    cases readC P t c with
    | none => rfl
    | some v =>
      simp only [Option.map_some]
      cases resA P f h r <;> rfl
theorem resL_some (v : PV) (l : List PV) : resL (some (.q v)) (some l) = some (v :: l) := rfl
def behindO (tot off : Nat) : Option AO → Option (List PV)
  | some (.cells _ _ _ c) => if c.length = tot then some (c.drop off) else none
  | _ => none
theorem behind_ptr (id tot off : Nat) : behind h (.ptr id tot off) = behindO tot off (h.get id) := by
  simp only [behindO, behind]
  cases h.get id with
  | none => rfl
  | some o => cases o <;> rfl
theorem behind_rop (c : List PV) : behind h (.rop c) = some c := rfl
theorem behindO_one (E : TypeId) (sz : Nat) (fz : Bool) (v : PV) : behindO 1 0 (some (.cells E sz fz [v])) = some [v] := rfl
def storeO (h : AH) (a x : PV) (n : Option Nat) : Option OR :=
  match a, n with
  | .ptr id tot off, some n => match h.get id with
    | some (.cells E sz fz c) =>
      if fz = false ∧ c.length = tot ∧ x.goes = true ∧ x.cells.length = n ∧ off + n ≤ tot then
        some (.w .undef id (.cells E sz false (splice c off x.cells))) else none
    | _ => none
  | _, _ => none
theorem aop_store (t : TypeId) (a x : Operand) : aop P ρ h fr ⟨d, .store t a x, ty, ps, af, gu⟩ = storeO h (ρ a) (ρ x) (tySz P t) := rfl
def idxO (P : Program) (t : TypeId) (x i : PV) : Option OR := (idxV P t x i).map OR.q
theorem aop_index (t : TypeId) (x i : Operand) : aop P ρ h fr ⟨d, .index t x i, ty, ps, af, gu⟩ = idxO P t (ρ x) (ρ i) := rfl
theorem idxO_str {t : TypeId} {l : List UInt8} {k : IntKind} {i : Int} (hu : P.underlying t = some .string) (h0 : 0 ≤ i) (h1 : i < l.length) : idxO P t (.str l) (.int k i) = some (.q (.int .u8 (l.getD i.toNat 0).toNat)) := by
  have : i.toNat < l.length := by omega
  simp [idxO, idxV, hu, h0, List.getElem?_eq_getElem this, List.getD_eq_getElem?_getD]
def extractO (i : Nat) : PV → Option OR
  | .tup vs => (vs[i]?).map OR.q
  | _ => none
theorem aop_extract (x : Operand) (i : Nat) : aop P ρ h fr ⟨d, .extract x i, ty, ps, af, gu⟩ = extractO i (ρ x) := by
  simp only [aop, extractO]
  cases ρ x <;> rfl
theorem extractO_0 (a : PV) (r : List PV) : extractO 0 (.tup (a :: r)) = some (.q a) := rfl
theorem extractO_1 (a b : PV) (r : List PV) : extractO 1 (.tup (a :: b :: r)) = some (.q b) := rfl
theorem extractO_2 (a b c : PV) (r : List PV) : extractO 2 (.tup (a :: b :: c :: r)) = some (.q c) := rfl
def binO (P : Program) (h : AH) (op : BinOp) (t : TypeId) (x y : PV) : Option OR := if liveB h x && liveB h y then (binV P op t x y).map OR.q else none
def binN : Option PV → Option OR → Option OR
  | some v, _ => some (.q v)
  | none, r => r
theorem binN_none (r : Option OR) : binN none r = r := rfl
theorem binN_some (v : PV) (r : Option OR) : binN (some v) r = some (.q v) := rfl
theorem aop_binOp (op : BinOp) (t u : TypeId) (x y : Operand) : aop P ρ h fr ⟨d, .binOp op t x y u, ty, ps, af, gu⟩ = binN (nilN P op t (ρ x) y) (binO P h op t (ρ x) (ρ y)) := by
  simp only [aop, binN, binO]
  cases nilN P op t (ρ x) y <;> rfl
section
variable {t : TypeId} {a : PV} {y : Operand}
theorem nilN_add : nilN P .add t a y = none := rfl
theorem nilN_sub : nilN P .sub t a y = none := rfl
theorem nilN_mul : nilN P .mul t a y = none := rfl
theorem nilN_quo : nilN P .quo t a y = none := rfl
theorem nilN_rem : nilN P .rem t a y = none := rfl
theorem nilN_and : nilN P .and t a y = none := rfl
theorem nilN_or : nilN P .or t a y = none := rfl
theorem nilN_xor : nilN P .xor t a y = none := rfl
theorem nilN_andNot : nilN P .andNot t a y = none := rfl
theorem nilN_shl : nilN P .shl t a y = none := rfl
theorem nilN_shr : nilN P .shr t a y = none := rfl
theorem nilN_lss : nilN P .lss t a y = none := rfl
theorem nilN_leq : nilN P .leq t a y = none := rfl
theorem nilN_gtr : nilN P .gtr t a y = none := rfl
theorem nilN_geq : nilN P .geq t a y = none := rfl
theorem nilN_eql_tmp (z : Tmp) : nilN P .eql t a (.tmp z) = none := by cases a <;> rfl
theorem nilN_eql_int (k : IntKind) (z : Int) : nilN P .eql t a (.const (.int k z)) = none := by cases a <;> rfl
theorem nilN_eql_str (z : ByteArray) : nilN P .eql t a (.const (.string z)) = none := by cases a <;> rfl
theorem nilN_eql_bool (z : Bool) : nilN P .eql t a (.const (.bool z)) = none := by cases a <;> rfl
theorem nilN_eql_ptr (z : Option Addr) : nilN P .eql t a (.const (.pointer z)) = none := by cases a <;> rfl
theorem nilN_eql_sl (z : Option Addr) (l c : Nat) : nilN P .eql t a (.const (.slice z l c)) = none := by cases a <;> rfl
theorem nilN_eql_fn  : nilN P .eql t a (.const .nilFunc) = none := by cases a <;> rfl
theorem nilN_eql_flt (k : FloatKind) (z : Nat) : nilN P .eql t a (.const (.float k z)) = none := by cases a <;> rfl
theorem nilN_neq_tmp (z : Tmp) : nilN P .neq t a (.tmp z) = none := by cases a <;> rfl
theorem nilN_neq_int (k : IntKind) (z : Int) : nilN P .neq t a (.const (.int k z)) = none := by cases a <;> rfl
theorem nilN_neq_str (z : ByteArray) : nilN P .neq t a (.const (.string z)) = none := by cases a <;> rfl
theorem nilN_neq_bool (z : Bool) : nilN P .neq t a (.const (.bool z)) = none := by cases a <;> rfl
theorem nilN_neq_ptr (z : Option Addr) : nilN P .neq t a (.const (.pointer z)) = none := by cases a <;> rfl
theorem nilN_neq_sl (z : Option Addr) (l c : Nat) : nilN P .neq t a (.const (.slice z l c)) = none := by cases a <;> rfl
theorem nilN_neq_fn  : nilN P .neq t a (.const .nilFunc) = none := by cases a <;> rfl
theorem nilN_neq_flt (k : FloatKind) (z : Nat) : nilN P .neq t a (.const (.float k z)) = none := by cases a <;> rfl
theorem nilN_eql_iface (u : TypeId) (z : PV) : nilN P .eql t (.iface u z) y = none := rfl
theorem nilN_neq_iface (u : TypeId) (z : PV) : nilN P .neq t (.iface u z) y = none := rfl
theorem nilN_neq_nif {ms : Array (String × TypeId)} (hu : P.underlying t = some (.interface ms)) : nilN P .neq t .nif (.const .nilIface) = some (.bool false) := by simp [nilN, hu]
end
section
variable {t : TypeId} {k : IntKind} {a b : Int} {x y : List UInt8}
theorem bin_add : binO P h .add t (.int k a) (.int k b) = some (.q (.int k (k.wrap (a + b)))) := by simp [binO, liveB, binV, intOp]
theorem bin_sub : binO P h .sub t (.int k a) (.int k b) = some (.q (.int k (k.wrap (a - b)))) := by simp [binO, liveB, binV, intOp]
theorem bin_mul : binO P h .mul t (.int k a) (.int k b) = some (.q (.int k (k.wrap (a * b)))) := by simp [binO, liveB, binV, intOp]
theorem bin_quo (e : b ≠ 0) : binO P h .quo t (.int k a) (.int k b) = some (.q (.int k (k.wrap (a.tdiv b)))) := by simp [binO, liveB, binV, intOp, e]
theorem bin_rem (e : b ≠ 0) : binO P h .rem t (.int k a) (.int k b) = some (.q (.int k (a.tmod b))) := by simp [binO, liveB, binV, intOp, e]
theorem bin_eql : binO P h .eql t (.int k a) (.int k b) = some (.q (.bool (decide (a = b)))) := by simp [binO, liveB, binV, intOp]
theorem bin_neq : binO P h .neq t (.int k a) (.int k b) = some (.q (.bool (!decide (a = b)))) := by simp [binO, liveB, binV, intOp]
theorem bin_lss : binO P h .lss t (.int k a) (.int k b) = some (.q (.bool (decide (a < b)))) := by simp [binO, liveB, binV, intOp]
theorem bin_leq : binO P h .leq t (.int k a) (.int k b) = some (.q (.bool (decide (a ≤ b)))) := by simp [binO, liveB, binV, intOp]
theorem bin_gtr : binO P h .gtr t (.int k a) (.int k b) = some (.q (.bool (decide (b < a)))) := by simp [binO, liveB, binV, intOp]
theorem bin_geq : binO P h .geq t (.int k a) (.int k b) = some (.q (.bool (decide (b ≤ a)))) := by simp [binO, liveB, binV, intOp]
theorem bin_seql : binO P h .eql t (.str x) (.str y) = some (.q (.bool (decide (x = y)))) := by simp [binO, liveB, binV, strOp]
theorem bin_sneq : binO P h .neq t (.str x) (.str y) = some (.q (.bool (!decide (x = y)))) := by simp [binO, liveB, binV, strOp]
end
def unO (op : UnOp) (x : PV) : Option OR := (unV op x).map OR.q
theorem aop_unOp (op : UnOp) (t : TypeId) (x : Operand) : aop P ρ h fr ⟨d, .unOp op t x, ty, ps, af, gu⟩ = unO op (ρ x) := rfl
theorem unO_not (b : Bool) : unO .not (.bool b) = some (.q (.bool (!b))) := rfl
theorem aop_convert (s t : TypeId) (x : Operand) : aop P ρ h fr ⟨d, .convert s t x, ty, ps, af, gu⟩ = convV P h fr s t (ρ x) := rfl
theorem conv_int {s t : TypeId} {su : TypeDesc} {k k' : IntKind} {n : Int} (hs : P.underlying s = some su) (ht : P.underlying t = some (.int k)) : convV P h fr s t (.int k' n) = some (.q (.int k (k.wrap n))) := by
  simp [convV, hs, ht]
theorem conv_char {s t : TypeId} {k k' : IntKind} {n : Int} (hs : P.underlying s = some (.int k)) (ht : P.underlying t = some .string) : convV P h fr s t (.int k' n) = some (.q (.str (Utf8.encode n).data.toList)) := by
  simp [convV, hs, ht]
def lenO (P : Program) (args : List PV) (ts : List TypeId) : Option OR := match args, ts with
  | [x], [t] => (lenV P t x).map OR.q
  | _, _ => none
theorem aop_len (args : Array Operand) (ts : Array TypeId) : aop P ρ h fr ⟨d, .call { callee := .builtin .len, args := args, argTypes := ts }, ty, ps, af, gu⟩ = lenO P (args.toList.map ρ) ts.toList := by
  simp only [aop, lenO]
  generalize args.toList.map ρ = l
  generalize ts.toList = m
  cases l with
  | nil => rfl
  | cons x l => cases l with
    | nil => cases m with
      | nil => rfl
      | cons t m => cases m <;> rfl
    | cons _ _ => rfl
theorem len_str {t : TypeId} {l : List UInt8} (hu : P.underlying t = some .string) : lenO P [.str l] [t] = some (.q (.int .i64 l.length)) := by simp [lenO, lenV, hu]
theorem len_ro {t e : TypeId} {c : List PV} {n : Nat} (hu : P.underlying t = some (.slice e)) : lenO P [.ro c n] [t] = some (.q (.int .i64 n)) := by simp [lenO, lenV, hu]
theorem len_ow {t e : TypeId} {id tot off n : Nat} (hu : P.underlying t = some (.slice e)) : lenO P [.ow id tot off n] [t] = some (.q (.int .i64 n)) := by simp [lenO, lenV, hu]
theorem len_nls {t e : TypeId} (hu : P.underlying t = some (.slice e)) : lenO P [.nls] [t] = some (.q (.int .i64 0)) := by simp [lenO, lenV, hu]
theorem aop_call (c : Operand) (args : Array Operand) (ts : Array TypeId) : aop P ρ h fr ⟨d, .call { callee := .value c, args := args, argTypes := ts }, ty, ps, af, gu⟩ = callV (args.toList.map ρ) (ρ c) := rfl
theorem callV_func (args first cap : List PV) (k : FuncId) : callV args (.fn (.func k) first cap) = some (.call (.fn k) (first ++ args ++ cap)) := rfl
theorem callV_yld (args : List PV) (id : Nat) : callV args (.yld id) = some (.call (.yl id) args) := rfl
theorem aop_slice (t : TypeId) (x : Operand) (lo hi mx : Option Operand) : aop P ρ h fr ⟨d, .slice t x lo hi mx, ty, ps, af, gu⟩ = if liveB h (ρ x) && sizeB P h t (ρ x) then (sliceV P t (ρ x) (lo.map ρ) (hi.map ρ) (mx.map ρ)).map OR.q else none := rfl
theorem slice_from {t : TypeId} {l : List UInt8} {k : IntKind} {i : Int} (hu : P.underlying t = some .string) (h0 : 0 ≤ i) (h1 : i ≤ l.length) :
    (if liveB h (.str l) && sizeB P h t (.str l) then (sliceV P t (.str l) (some (.int k i)) none none).map OR.q else none) = some (.q (.str (l.drop i.toNat))) := by
  simp only [liveB, sizeB, Bool.and_self, if_true, sliceV, hu, boundD, bound, Option.bind_some]
  rw [if_pos ⟨h0, by omega⟩]
  simp only [Option.bind_some, Option.map_some]
  rw [List.take_of_length_le (by rw [List.length_drop]; omega)]
theorem slice_to {t : TypeId} {l : List UInt8} {k : IntKind} {i : Int} (hu : P.underlying t = some .string) (h0 : 0 ≤ i) (h1 : i ≤ l.length) :
    (if liveB h (.str l) && sizeB P h t (.str l) then (sliceV P t (.str l) none (some (.int k i)) none).map OR.q else none) = some (.q (.str (l.take i.toNat))) := by
  simp only [liveB, sizeB, Bool.and_self, if_true, sliceV, hu, boundD, bound, Option.bind_some]
  rw [if_pos ⟨h0, h1⟩]
  simp
theorem slice_both {t : TypeId} {l : List UInt8} {k k' : IntKind} {i j : Int} (hu : P.underlying t = some .string) (h0 : 0 ≤ i) (h1 : i ≤ j) (h2 : j ≤ l.length) :
    (if liveB h (.str l) && sizeB P h t (.str l) then (sliceV P t (.str l) (some (.int k i)) (some (.int k' j)) none).map OR.q else none) = some (.q (.str ((l.drop i.toNat).take (j.toNat - i.toNat)))) := by
  simp only [liveB, sizeB, Bool.and_self, if_true, sliceV, hu, boundD, bound]
  rw [if_pos ⟨by omega, h2⟩, Option.bind_some, if_pos ⟨h0, by omega⟩]
  simp
end
end
end Go.Ac
namespace Go.Ac
open Go.RowKit
set_option linter.unusedSimpArgs false

section
variable {P : Program} {G : Glob} {md : FuncId → Md} {ρ : Operand → PV} {h : AH} {fr : Nat} {d : Option Tmp} {ty : TypeId} {ps : String} {af : Array Edge} {gu : Option (Nat × Bool)}

theorem next_empty : AH.empty.next = 0 := rfl

def liveG (tot : Nat) : Option AO → Bool
  | some (.cells _ _ _ c) => c.length = tot
  | _ => false
theorem liveB_ow (id tot off n : Nat) : liveB h (.ow id tot off n) = liveG tot (h.get id) := by
  simp only [liveB, liveG]
  cases h.get id with
  | none => rfl
  | some o => cases o <;> rfl
theorem liveB_ptr (id tot off : Nat) : liveB h (.ptr id tot off) = liveG tot (h.get id) := by
  simp only [liveB, liveG]
  cases h.get id with
  | none => rfl
  | some o => cases o <;> rfl
theorem liveG_cells (tot : Nat) (E : TypeId) (sz : Nat) (fz : Bool) (c : List PV) : liveG tot (some (.cells E sz fz c)) = decide (c.length = tot) := rfl
theorem liveB_ro (c : List PV) (n : Nat) : liveB h (.ro c n) = true := rfl
theorem liveB_rop (c : List PV) : liveB h (.rop c) = true := rfl
def cellsG (sz tot off n : Nat) : Option AO → Option (List PV × Nat)
  | some (.cells _ s _ c) => if c.length = tot ∧ s = sz ∧ off + n * sz ≤ tot then some ((c.drop off).take (n * sz), n) else none
  | _ => none
theorem cellsOf_ow (sz id tot off n : Nat) : cellsOf h sz (.ow id tot off n) = cellsG sz tot off n (h.get id) := by
  simp only [cellsOf, cellsG]
  cases h.get id with
  | none => rfl
  | some o => cases o <;> rfl
theorem cellsG_all {n : Nat} {E : TypeId} {fz : Bool} {c : List PV} (e : c.length = n) : cellsG 1 n 0 n (some (.cells E 1 fz c)) = some (c, n) := by
  simp only [cellsG, e, Nat.mul_one, List.drop_zero, Nat.zero_add, Nat.le_refl, and_self, if_true]
  rw [← e, List.take_length]
def stoG (id tot off : Nat) (x : PV) (n : Nat) : Option AO → Option OR
  | some (.cells E sz fz c) =>
      if fz = false ∧ c.length = tot ∧ x.goes = true ∧ x.cells.length = n ∧ off + n ≤ tot then
        some (.w .undef id (.cells E sz false (splice c off x.cells))) else none
  | _ => none
theorem storeO_ptr (id tot off : Nat) (x : PV) (n : Nat) : storeO h (.ptr id tot off) x (some n) = stoG id tot off x n (h.get id) := by
  simp only [storeO, stoG]
  all_goals
    cases h.get id with
    | none => rfl
    | some o => cases o <;> rfl
theorem splice_one (c : List PV) (off : Nat) (x : PV) (h : off < c.length) : splice c off [x] = c.set off x := by
  simp only [splice, List.length_singleton]
  rw [List.set_eq_take_append_cons_drop, if_pos h]
  simp
theorem stoG_int (id tot off sz : Nat) (E : TypeId) (k : IntKind) (a : Int) (c : List PV) : stoG id tot off (.int k a) 1 (some (.cells E sz false c)) = if c.length = tot ∧ off < tot then some (.w .undef id (.cells E sz false (c.set off (.int k a)))) else none := by
  simp only [stoG, PV.goes, PV.cells, List.length_singleton, true_and]
  by_cases e : c.length = tot ∧ off < tot
  · rw [if_pos e, if_pos ⟨e.1, by omega⟩, splice_one _ _ _ (by omega)]
  · rw [if_neg e, if_neg (by rintro ⟨a, b⟩; exact e ⟨a, by omega⟩)]
theorem stoG_all (id tot sz : Nat) (E : TypeId) (x : PV) (c : List PV) (hc : c.length = tot) (hx : x.cells.length = tot) (hg : x.goes = true) : stoG id tot 0 x tot (some (.cells E sz false c)) = some (.w .undef id (.cells E sz false x.cells)) := by
  simp only [stoG, hc, hx, hg, true_and, Nat.zero_add, Nat.le_refl, and_self, if_true]
  have : splice c 0 x.cells = x.cells := by
    unfold splice
    rw [List.drop_eq_nil_of_le (by omega)]
    simp
  rw [this]

def buildO (P : Program) (fr : Nat) (t : TypeId) (len : Nat) (parts : List (Nat × PV)) : Option OR :=
  match P.underlying t with
    | some (.slice e) => match tySz P e, tyZero P e with
      | some n, some z =>
        if z.length = n ∧ 0 < n ∧ len * n ≤ 2 ^ 24 then
          (fillC (fun i => some (i * n, n)) (List.replicate len z).flatten parts).map fun c =>
            .w (if len = 0 then .els else .ow fr (len * n) 0 len) fr (.cells e n false c)
        else none
      | _, _ => none
    | _ => none
theorem aop_buildSlice (t : TypeId) (len : Nat) (parts : Array (Nat × Operand)) : aop P ρ h fr ⟨d, .buildSlice t len parts, ty, ps, af, gu⟩ = buildO P fr t len (parts.toList.map fun (i, x) => (i, ρ x)) := rfl
section
variable {t e : TypeId} {z : PV}
theorem build_0 (hu : P.underlying t = some (.slice e)) (hs : tySz P e = some 1) (hz : tyZero P e = some [z]) : buildO P fr t 0 [] = some (.w .els fr (.cells e 1 false [])) := by
  simp [buildO, hu, hs, hz, fillC]
theorem build_all {n len : Nat} {zc : List PV} {parts : List (Nat × PV)} {c : List PV} (hu : P.underlying t = some (.slice e)) (hs : tySz P e = some n) (hz : tyZero P e = some zc) (hl : zc.length = n) (h0 : 0 < n) (hb : len * n ≤ 2 ^ 24) (hp : 0 < len)
    (hf : fillC (fun i => some (i * n, n)) (List.replicate len zc).flatten parts = some c) : buildO P fr t len parts = some (.w (.ow fr (len * n) 0 len) fr (.cells e n false c)) := by
  simp only [buildO, hu, hs, hz, hf, Option.map_some]
  rw [if_pos ⟨hl, h0, hb⟩, if_neg (by omega)]
end
theorem toB_int (k : IntKind) (n : Int) : toB (.int k n) = UInt8.ofNat n.toNat := rfl
def convG (_ : Nat) : Option (List PV × Nat) → Option OR
  | some (c, _) => if c.all byteC then some (.q (.str (c.map toB))) else none
  | none => none
theorem conv_bytes {s t e : TypeId} {id tot off n : Nat} (hs : P.underlying s = some (.slice e)) (he : P.underlying e = some (.int .u8)) (ht : P.underlying t = some .string) : convV P h fr s t (.ow id tot off n) = convG n (cellsOf h 1 (.ow id tot off n)) := by
  simp only [convV, hs, ht, he, convG]
  cases cellsOf h 1 (.ow id tot off n) with
  | none => rfl
  | some x =>
    obtain ⟨c, m⟩ := x
    rfl
theorem convG_some (n m : Nat) (c : List PV) : convG n (some (c, m)) = if c.all byteC then some (.q (.str (c.map toB))) else none := rfl
theorem byteC_int (a : Int) : byteC (.int .u8 a) = true := rfl

def idaO (P : Program) (h : AH) (t : TypeId) (x i : PV) : Option OR := if liveB h x then (idxAddr P t x i).map OR.q else none
theorem aop_idx (t : TypeId) (x i : Operand) : aop P ρ h fr ⟨d, .indexAddr t x i, ty, ps, af, gu⟩ = idaO P h t (ρ x) (ρ i) := rfl
theorem ida_ow {t e : TypeId} {id tot off n : Nat} {k : IntKind} {i : Int} (hu : P.underlying t = some (.slice e)) (hs : tySz P e = some 1) (h0 : 0 ≤ i) (h1 : i < n) :
    idaO P h t (.ow id tot off n) (.int k i) = if liveG tot (h.get id) then some (.q (.ptr id tot (off + i.toNat))) else none := by
  simp only [idaO, liveB_ow, idxAddr, hu, hs, Nat.mul_one]
  rw [if_pos (show 0 ≤ i ∧ i < (n : Int) from ⟨h0, h1⟩)]
  rfl
theorem behindO_cells (tot off : Nat) (E : TypeId) (sz : Nat) (fz : Bool) (c : List PV) : behindO tot off (some (.cells E sz fz c)) = if c.length = tot then some (c.drop off) else none := rfl
theorem load_drop {t : TypeId} {n i : Nat} {c : List PV} {v : PV} (ha : tyAgg P t = some false) (hn : tySz P t = some n) (hv : c[i]? = some v) : loadO P t (some (c.drop i)) = some (.q v) := by
  obtain ⟨hi, rfl⟩ := List.getElem?_eq_some_iff.1 hv
  rw [List.drop_eq_getElem_cons hi]
  exact loadO_one ha hn

def appO (P : Program) (h : AH) (fr : Nat) (args : List PV) (ts : List TypeId) : Option OR := match args, ts with
  | [s, x], [t, u] => match P.underlying u with
      | some .string | some (.slice _) => appendV P h fr t s x
      | _ => none
  | _, _ => none
theorem aop_append (args : Array Operand) (ts : Array TypeId) : aop P ρ h fr ⟨d, .call { callee := .builtin .append, args := args, argTypes := ts }, ty, ps, af, gu⟩ = appO P h fr (args.toList.map ρ) ts.toList := by
  simp only [aop, appO]
  generalize args.toList.map ρ = l
  generalize ts.toList = m
  match l, m with
  | [], _ => rfl
  | [_], _ => rfl
  | [_, _], [] => rfl
  | [_, _], [_] => rfl
  | [_, _], [_, _] => rfl
  | [_, _], _ :: _ :: _ :: _ => rfl
  | _ :: _ :: _ :: _, _ => rfl
theorem app_ow {t u e : TypeId} {ud : TypeDesc} {id m n b : Nat} {c xs : List PV} {z : Value} {x : PV} (hu : P.underlying t = some (.slice e)) (hu' : P.underlying u = some ud) (hud : ud = .string ∨ ∃ e, ud = .slice e)
    (hi : (P.info? e).map (fun i => (i.size, i.bytes, i.zero)) = some (1, b, some z)) (hz : z.cells.size = 1) (hg : h.get id = some (.cells e 1 false c)) (hc : c.length = m) (hx : cellsOf h 1 x = some (xs, n)) (h0 : 0 < n)
    (h1 : (m + n) * b ≤ 2 ^ 47) (h2 : m + n ≤ 2 ^ 47) : appO P h fr [.ow id m 0 m, x] [t, u] = some (.w (.ow id (m + n) 0 (m + n)) id (.cells e 1 false (c ++ xs))) := by
  cases hi' : P.info? e with
  | none => rw [hi'] at hi; simp at hi
  | some i =>
    rw [hi'] at hi
    simp only [Option.map_some, Option.some.injEq, Prod.mk.injEq] at hi
    obtain ⟨e1, e2, e3⟩ := hi
    have e : appO P h fr [.ow id m 0 m, x] [t, u] = appendV P h fr t (.ow id m 0 m) x := by
      simp only [appO, hu']
      rcases hud with rfl | ⟨e, rfl⟩ <;> rfl
    rw [e]
    simp only [appendV, hu, hi', e3, e1, hx, hz, hg, hc, e2, Nat.one_ne_zero, ne_eq, not_true_eq_false, or_self, if_false, Nat.mul_one, true_and]
    rw [if_neg (by omega), if_pos ⟨h1, h2⟩]
theorem app_ow0 {t u e : TypeId} {ud : TypeDesc} {id m b : Nat} {c xs : List PV} {z : Value} {x : PV} (hu : P.underlying t = some (.slice e)) (hu' : P.underlying u = some ud) (hud : ud = .string ∨ ∃ e, ud = .slice e)
    (hi : (P.info? e).map (fun i => (i.size, i.bytes, i.zero)) = some (1, b, some z)) (hz : z.cells.size = 1) (hg : h.get id = some (.cells e 1 false c)) (hc : c.length = m) (hx : cellsOf h 1 x = some (xs, 0)) :
    appO P h fr [.ow id m 0 m, x] [t, u] = some (.q (.ow id m 0 m)) := by
  cases hi' : P.info? e with
  | none => rw [hi'] at hi; simp at hi
  | some i =>
    rw [hi'] at hi
    simp only [Option.map_some, Option.some.injEq, Prod.mk.injEq] at hi
    obtain ⟨e1, e2, e3⟩ := hi
    have e : appO P h fr [.ow id m 0 m, x] [t, u] = appendV P h fr t (.ow id m 0 m) x := by
      simp only [appO, hu']
      rcases hud with rfl | ⟨e, rfl⟩ <;> rfl
    rw [e]
    simp only [appendV, hu, hi', e3, e1, hx, hz, hg, hc, Nat.one_ne_zero, ne_eq, not_true_eq_false, or_self, if_false, if_true]
theorem aop_makeSlice (t : TypeId) (l c : Operand) : aop P ρ h fr ⟨d, .makeSlice t l c, ty, ps, af, gu⟩ = makeSliceV P fr t (ρ l) (ρ c) := rfl
section
variable {nt : Option Nat}
def KI (I : Nat → Fr → AH → Prop) (k : Nat) (Q : EX → Fr → AH → Prop) : EX → Fr → AH → Prop := fun x f h => match x with
  | .normal => ∃ j, j < k ∧ I j f h
  | x => Q x f h
theorem KI_normal (I : Nat → Fr → AH → Prop) (k : Nat) (Q : EX → Fr → AH → Prop) (f : Fr) (h : AH) : KI I k Q .normal f h = ∃ j, j < k ∧ I j f h := rfl
theorem KI_ret (I : Nat → Fr → AH → Prop) (k : Nat) (Q : EX → Fr → AH → Prop) (f : Fr) (h : AH) : KI I k Q .ret f h = Q .ret f h := rfl
theorem KI_exit (I : Nat → Fr → AH → Prop) (k : Nat) (Q : EX → Fr → AH → Prop) (i : Nat) (f : Fr) (h : AH) : KI I k Q (.exit i) f h = Q (.exit i) f h := rfl
theorem KI_panic (I : Nat → Fr → AH → Prop) (k : Nat) (Q : EX → Fr → AH → Prop) (v : PV) (f : Fr) (h : AH) : KI I k Q (.panic v) f h = Q (.panic v) f h := rfl
theorem wpC_loop {c : Code} {Q : EX → Fr → AH → Prop} (I : Nat → Fr → AH → Prop) {k : Nat} {f : Fr} {h : AH} (start : I k f h) (step : ∀ k f h, I k f h → wpC P G md nt c f h (KI I k Q)) : wpC P G md nt (.loop c) f h Q :=
  Ev.loop I (fun k f h hI => (wpC_ev _ _ _ _ (step k f h hI)).mono fun x f' h' q => by cases x <;> exact q) k f h start
end
end
end Go.Ac
namespace Go.Ac
open Go.RowKit
set_option linter.unusedSimpArgs false

section
variable {P : Program} {G : Glob} {md : FuncId → Md} {ρ : Operand → PV} {h : AH} {fr : Nat} {d : Option Tmp} {ty : TypeId} {ps : String} {af : Array Edge} {gu : Option (Nat × Bool)}

theorem up_set (id n : Nat) (o : AO) : (h.set id o).up n = (h.up n).set id o := rfl
theorem up_up (a b : Nat) : (h.up a).up b = h.up (a + b) := by
  unfold AH.up
  simp [Nat.add_assoc]

theorem aop_makeFunc (k : FuncId) (first cap : Array Operand) : aop P ρ h fr ⟨d, .makeFunc (.func k) first cap, ty, ps, af, gu⟩ = some (.q (.fn (.func k) (first.toList.map ρ) (cap.toList.map ρ))) := rfl
def mmO (b : Builtin) (args : List PV) : Option OR := match b, args with
  | .min, [.int k x, .int _ y] => some (.q (.int k (if y < x then y else x)))
  | .max, [.int k x, .int _ y] => some (.q (.int k (if y > x then y else x)))
  | _, _ => none
theorem aop_minO (args : Array Operand) (ts : Array TypeId) : aop P ρ h fr ⟨d, .call { callee := .builtin .min, args := args, argTypes := ts }, ty, ps, af, gu⟩ = mmO .min (args.toList.map ρ) := by
  simp only [aop, mmO]
  generalize args.toList.map ρ = l
  generalize ts.toList = m
  match l with
  | [] => rfl
  | [x] => cases x <;> rfl
  | [x, y] => cases x <;> cases y <;> rfl
  | x :: y :: _ :: _ => cases x <;> cases y <;> rfl
theorem mm_min (k k' : IntKind) (x y : Int) : mmO .min [.int k x, .int k' y] = some (.q (.int k (min x y))) := by
  simp only [mmO]
  congr 3
  split <;> omega
theorem frzL_clean {dd : Nat} : ∀ (l : List PV) (h : AH), PV.cleans l = true → frzL (frz dd) l h = some (l, h)
  | [], h, _ => rfl
  | v :: r, h, e => by
    simp only [PV.cleans, Bool.and_eq_true] at e
    have : frz dd v h = some (v, h) := by cases dd <;> simp [frz, e.1]
    simp only [frzL, this, frzL_clean r h e.2]
theorem frz_clean {dd : Nat} {v : PV} (h : AH) (e : v.clean = true) : frz dd v h = some (v, h) := by cases dd <;> simp [frz, e]
theorem frz_ow {dd id m : Nat} {E : TypeId} {fz : Bool} {c : List PV} (hg : h.get id = some (.cells E 1 fz c)) (hc : c.length = m) (hcl : PV.cleans c = true) : frz (dd + 1) (.ow id m 0 m) h = some (.ro c m, h.set id (.cells E 1 true c)) := by
  rw [frz, if_neg (by simp [PV.clean])]
  simp only [hg]
  rw [if_pos ⟨hc, by omega⟩, show ((c.drop 0).take (m * 1)) = c by simp [← hc], frzL_clean c _ hcl]
theorem frz_ptr {dd id tot off sz : Nat} {E : TypeId} {fz : Bool} {c : List PV} (hg : h.get id = some (.cells E sz fz c)) (hc : c.length = tot) (hcl : PV.cleans c = true) : frz (dd + 1) (.ptr id tot off) h = some (.rop (c.drop off), h.set id (.cells E sz true c)) := by
  rw [frz, if_neg (by simp [PV.clean])]
  simp only [hg]
  rw [if_pos hc, frzL_clean _ _ (PV.cleans_drop _ hcl)]
theorem frz_cap {dd id tot sz : Nat} {E : TypeId} {fz : Bool} {c : List PV} (k : FuncId) (hg : h.get id = some (.cells E sz fz c)) (hc : c.length = tot) (hcl : PV.cleans c = true) : frz (dd + 2) (.fn (.func k) [] [.ptr id tot 0]) h = some (.fn (.func k) [] [.rop c], h.set id (.cells E sz true c)) := by
  rw [frz, if_neg (by simp [PV.clean, PV.cleans])]
  simp only [frzL, frz_ptr (dd := dd) (off := 0) hg hc hcl, List.drop_zero]
theorem frz_cap100 {id tot sz : Nat} {E : TypeId} {fz : Bool} {c : List PV} (k : FuncId) (hg : h.get id = some (.cells E sz fz c)) (hc : c.length = tot) (hcl : PV.cleans c = true) : frz 100 (.fn (.func k) [] [.ptr id tot 0]) h = some (.fn (.func k) [] [.rop c], h.set id (.cells E sz true c)) := frz_cap (dd := 98) k hg hc hcl

def fldO (P : Program) (t : TypeId) (x : PV) (k : Nat) : Option OR := (fldV P t x k).map OR.q
theorem aop_field (t : TypeId) (x : Operand) (k : Nat) : aop P ρ h fr ⟨d, .field t x k, ty, ps, af, gu⟩ = fldO P t (ρ x) k := rfl
def fdaO (P : Program) (h : AH) (t : TypeId) (x : PV) (k : Nat) : Option OR := if liveB h x then (fldAddr P t x k).map OR.q else none
theorem aop_fieldAddr (t : TypeId) (x : Operand) (k : Nat) : aop P ρ h fr ⟨d, .fieldAddr t x k, ty, ps, af, gu⟩ = fdaO P h t (ρ x) k := rfl
def offOf (P : Program) (t : TypeId) (k : Nat) : Option Nat := match P.underlying t with
  | some (.struct fs) => match fs[k]? with
    | some f => match tySz P f.type with
      | some (_ + 1) => some f.offset
      | _ => none
    | none => none
  | _ => none
theorem fda_rop {t : TypeId} {k o : Nat} {c : List PV} (ho : offOf P t k = some o) : fdaO P h t (.rop c) k = some (.q (.rop (c.drop o))) := by
  unfold offOf at ho
  simp only [fdaO, liveB_rop, fldAddr, if_true]
  cases h1 : P.underlying t with
  | none => rw [h1] at ho; simp at ho
  | some u =>
    rw [h1] at ho
    cases u <;> first | (simp at ho; done) | skip
    rename_i fs
    simp only at ho ⊢
    cases h2 : fs[k]? with
    | none => rw [h2] at ho; simp at ho
    | some f =>
      rw [h2] at ho
      simp only at ho ⊢
      cases h3 : tySz P f.type with
      | none => rw [h3] at ho; simp at ho
      | some n =>
        rw [h3] at ho
        cases n with
        | zero => simp at ho
        | succ n =>
          obtain rfl := Option.some.inj ho
          rfl
theorem fda_ptr {t : TypeId} {k o id tot off : Nat} (ho : offOf P t k = some o) : fdaO P h t (.ptr id tot off) k = if liveG tot (h.get id) then some (.q (.ptr id tot (off + o))) else none := by
  unfold offOf at ho
  simp only [fdaO, liveB_ptr, fldAddr]
  cases h1 : P.underlying t with
  | none => rw [h1] at ho; simp at ho
  | some u =>
    rw [h1] at ho
    cases u <;> first | (simp at ho; done) | skip
    rename_i fs
    simp only at ho ⊢
    cases h2 : fs[k]? with
    | none => rw [h2] at ho; simp at ho
    | some f =>
      rw [h2] at ho
      simp only at ho ⊢
      cases h3 : tySz P f.type with
      | none => rw [h3] at ho; simp at ho
      | some n =>
        rw [h3] at ho
        cases n with
        | zero => simp at ho
        | succ n =>
          obtain rfl := Option.some.inj ho
          rfl
theorem load_agg {t : TypeId} {n : Nat} {c : List PV} (ha : tyAgg P t = some true) (hn : tySz P t = some n) (hl : n ≤ c.length) : loadO P t (some c) = some (.q (.agg (c.take n))) := by
  simp [loadO, readC, ha, hn, hl]
def nilO (h : AH) (x : PV) : Option OR := match x with
  | .ptr id tot off => if liveG tot (h.get id) then some (.q (.ptr id tot off)) else none
  | .rop c => some (.q (.rop c))
  | .fn (.func k) a b => some (.q (.fn (.func k) a b))
  | _ => none
theorem aop_nilCheck (x : Operand) : aop P ρ h fr ⟨d, .nilCheck x, ty, ps, af, gu⟩ = nilO h (ρ x) := by
  simp only [aop, nilO]
  generalize ρ x = y
  cases y <;> try rfl
  case fn f a b => cases f <;> rfl
  rename_i id tot off
  simp only
  generalize h.get id = o
  cases o with
  | none => rfl
  | some o => cases o <;> first | rfl | (simp [liveG])
theorem ida_roN {t e : TypeId} {c : List PV} {n sz : Nat} {k : IntKind} {i : Int} (hu : P.underlying t = some (.slice e)) (hs : tySz P e = some sz) (h0 : 0 ≤ i) (h1 : i < n) :
    idaO P h t (.ro c n) (.int k i) = some (.q (.rop (c.drop (i.toNat * sz)))) := by
  simp only [idaO, liveB_ro, idxAddr, hu, hs, if_true]
  rw [if_pos (show 0 ≤ i ∧ i < (n : Int) from ⟨h0, h1⟩)]
  rfl
theorem aop_alloc (t : TypeId) : aop P ρ h fr ⟨d, .alloc t, ty, ps, af, gu⟩ = (match tyZero P t with
  | some z => some (.w (.ptr fr z.length 0) fr (.cells t 0 false z))
  | none => none) := rfl
def bldO (P : Program) (t : TypeId) (parts : List (Nat × PV)) : Option OR := match P.underlying t, tyZero P t with
  | some (.struct fs), some z =>
    if fs.toList.all (fun fd => (tySz P fd.type).isSome) then
      (fillC (fun i => (fs[i]?).bind fun fd => (tySz P fd.type).map fun n => (fd.offset, n)) z parts).map fun c => .q (.agg c)
    else none
  | some (.array _ e), some z => match tySz P e with
    | some n => (fillC (fun i => some (i * n, n)) z parts).map fun c => .q (.agg c)
    | none => none
  | _, _ => none
theorem aop_build (t : TypeId) (parts : Array (Nat × Operand)) : aop P ρ h fr ⟨d, .build t parts, ty, ps, af, gu⟩ = bldO P t (parts.toList.map fun (i, x) => (i, ρ x)) := rfl
end
end Go.Ac
